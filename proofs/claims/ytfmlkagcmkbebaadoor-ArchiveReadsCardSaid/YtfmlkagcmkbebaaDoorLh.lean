/- Slices of slices, lists of byte strings that the call owns. -/
import Derived.Test.YtfmlkagcmkbebaaDoorLd
namespace Go.Proofs.YtfmlkagcmkbebaaDoor
open Go.RowKit

theorem size_u8 (W : World) : (sizeOf (Tryd.prog.elem 22)).run Tryd.prog W = .ok 1 W := by kernel_rfl
theorem elem_u8 : Tryd.prog.elem 22 = 5 := by kernel_rfl
/-- 's[lo:hi]' of bytes. -/
theorem slice_lh {w : World} {A : Option Addr} {n c : Nat} {xs : List UInt8} (h : Bs w (.slice A n c) xs) (lo hi : Nat) (h1 : lo ≤ hi) (h2 : hi ≤ xs.length) :
    ∃ A' c', (∀ W, (Instr.slice 22 (.slice A n c) (some (.int .i64 (lo : Int))) (some (.int .i64 (hi : Int))) none).run Tryd.prog W = .ok (.slice A' (hi - lo) c') W) ∧ Bs w (.slice A' (hi - lo) c') ((xs.drop lo).take (hi - lo)) := by
  obtain ⟨hn, hcap, hcm⟩ := h.len
  subst hn
  obtain ⟨A0, c0, e, hl, _, _, hr⟩ := h
  injection e with e1 e2 e3
  subst e1; subst e3
  have hlen : ((xs.drop lo).take (hi - lo)).length = hi - lo := by rw [List.length_take, List.length_drop]; omega
  refine ⟨if c = lo then A else A.map (·.add (lo * 1)), c - lo, fun W => ?_, ?_⟩
  · have := run_slice_lh (P := Tryd.prog) (w := W) 22 A xs.length c (by rw [elem_u8]; exact Tryd.underlying22) .i64 .i64 (lo : Int) (hi : Int) (by omega) (by omega) (by omega)
    rw [this, size_u8]
    simp only [Result.andThen, sliced, Int.toNat_natCast]
  · refine ⟨_, _, by rw [hlen], by rw [bys_length]; omega, by omega, by omega, fun j u hj => ?_⟩
    have hj' : j < hi - lo := by
      have := (List.getElem?_eq_some_iff.1 hj).1
      rw [bys_length, hlen] at this; exact this
    have hu : (bys xs)[lo + j]? = some u := by
      rw [← hj]
      simp only [bys, List.getElem?_map, List.getElem?_take, List.getElem?_drop, hj', if_true]
    obtain ⟨b, o, e, hc⟩ := hr (lo + j) u hu
    subst e
    rw [if_neg (by omega)]
    exact ⟨b, o + lo, by simp only [Option.map_some]; rw [Nat.mul_one, add_plain], by rw [Nat.add_assoc]; exact hc⟩

theorem Ob.litn (W : World) (cs : Array Value) (xs : List UInt8) (n b B : Nat) (h : cs.toList = bys xs) (hn : n = xs.length) (hm : n ≤ 9223372036854775807) (hb : b = W.heap.size) (hB : B ≤ W.heap.size) :
    Ob (W.alloc (.cells cs 5)) B (.slice (some ⟨b, 0, none⟩) n n) xs := by
  subst hn; subst hb
  refine ⟨by simp [bys], .inr ⟨W.heap.size, xs.length, cs, rfl, hB, heap_alloc_new W _, Nat.le_refl _, by unfold maxLen; omega, ?_, ?_⟩⟩
  · have := congrArg List.length h; simpa [bys] using this
  · rw [h, List.take_of_length_le]; simp [bys]

theorem own_type_ne {w : World} {b b' : Nat} {e e' : TypeId} {s s' n n' : Nat} {v v' : Value} {xs xs' : List Value} (h : w.ownsRow b e s v n xs) (h' : w.ownsRow b' e' s' v' n' xs') (hne : e ≠ e') : ∀ k, v.ownBlock = some k → v'.ownBlock = some k → False := by
  intro k h1 h2
  rcases h.2 with ⟨rfl, _⟩ | ⟨g, cap, cur, rfl, _, hh, _⟩
  · simp [Value.ownBlock] at h1
  · rcases h'.2 with ⟨rfl, _⟩ | ⟨g', cap', cur', rfl, _, hh', _⟩
    · simp [Value.ownBlock] at h2
    · simp only [Value.ownBlock] at h1 h2
      injection h1 with h1; injection h2 with h2
      subst h1; subst h2
      rw [hh] at hh'; injection hh' with hh'; injection hh' with _ ht
      exact hne ht

/-- A slice, of the call's own, of byte strings of the call's own. -/
def Obs (w : World) (B : Nat) (v : Value) (xss : List (List UInt8)) : Prop :=
  ∃ vs, w.ownsRow B 22 1 v xss.length vs ∧ vs.length = xss.length ∧ ∀ (i : Nat) (u : Value) (xs : List UInt8), vs[i]? = some u → xss[i]? = some xs → Ob w B u xs
theorem Obs.nil (w : World) (B : Nat) : Obs w B (.slice none 0 0) [] := ⟨[], World.ownsRow_nil _ _ _ _, rfl, fun i u xs a => by simp at a⟩
theorem Obs.below {w w1 : World} {B : Nat} {v : Value} {xss : List (List UInt8)} (h : Obs w B v xss) (hb : Below w.heap.size w w1) : Obs w1 B v xss := by
  obtain ⟨vs, h1, h2, h3⟩ := h
  exact ⟨vs, own_below h1 hb, h2, fun i u xs a b => (h3 i u xs a b).below hb⟩
theorem Obs.bss {w : World} {B : Nat} {v : Value} {xss : List (List UInt8)} (h : Obs w B v xss) : Bss w v xss := by
  obtain ⟨vs, h1, h2, h3⟩ := h
  exact ⟨vs, Rd.of_own h1, h2, fun i u xs a b => (h3 i u xs a b).bs⟩
theorem Obs.slice {w : World} {B : Nat} {v : Value} {xss : List (List UInt8)} (h : Obs w B v xss) : ∃ A c, v = .slice A xss.length c := by
  obtain ⟨vs, h1, _⟩ := h
  obtain ⟨A, c, e, _⟩ := Rd.of_own h1; exact ⟨A, c, e⟩

theorem info_bs : (Tryd.prog.info? 22).map (fun i => (i.zero, i.size, i.bytes)) = some (some (.slice none 0 0), 1, 24) := by kernel_rfl

theorem Obs.after {W w1 : World} {B : Nat} {v u v1 : Value} {xss : List (List UInt8)} {xs : List UInt8} {vs : List Value} (h1 : W.ownsRow B 22 1 v xss.length vs) (h2 : vs.length = xss.length)
    (h3 : ∀ (i : Nat) (u : Value) (xs : List UInt8), vs[i]? = some u → xss[i]? = some xs → Ob W B u xs) (hu : Ob W B u xs) (g1 : w1.ownsRow B 22 1 v1 (xss.length + 1) (vs ++ [u])) (g2 : W.grownBy w1 v.ownBlock) : Obs w1 B v1 (xss ++ [xs]) := by
  have keep : ∀ u xs, Ob W B u xs → Ob w1 B u xs := fun u xs ho => own_kp ho (Kp.of_grown g2) (fun k hk e => own_type_ne ho h1 (by decide) k hk e.symm)
  refine ⟨vs ++ [u], by rw [List.length_append]; exact g1, by simp [h2], fun i u' xs' a b => ?_⟩
  by_cases hi : i < vs.length
  · rw [List.getElem?_append_left hi] at a
    rw [List.getElem?_append_left (by omega)] at b
    exact keep _ _ (h3 i u' xs' a b)
  · rw [List.getElem?_append_right (by omega)] at a
    rw [List.getElem?_append_right (by omega)] at b
    rw [h2] at a
    match hk : i - xss.length with
    | 0 => rw [hk] at a b; simp at a b; subst a; subst b; exact keep _ _ hu
    | n + 1 => rw [hk] at a; simp at a

/-- 'append(out, x)', x a byte string of the call's own. -/
theorem appO {ops : Array Oper} {rest : List Oper} {o : Oper} {a : Act} {Q : Exit → Act → World → Prop} {W w0 : World} (B : Nat) (hgd : o.guard = none) (s x : Operand)
    (ho : o.op = .call { callee := .builtin .append, args := #[s, x], argTypes := #[24, 24] })
    (v u : Value) (xss : List (List UInt8)) (xs : List UInt8) (hs : a.eval s = v) (hx : a.eval x = .slice (some ⟨W.heap.size, 0, none⟩) 1 1)
    (HO : Obs W B v xss) (HU : Ob W B u xs) (hl : xss.length ≤ 1073741824) (HB : Below B w0 W) (hB : B ≤ W.heap.size)
    (h : ∀ v1 w1, Obs w1 B v1 (xss ++ [xs]) → Below B w0 w1 → W.grownBy w1 v.ownBlock → (v1.ownBlock = v.ownBlock ∨ ∃ b, v1.ownBlock = some b ∧ W.heap.size ≤ b) → wpList Tryd.prog ops Q rest (a.put o.dst v1) w1) :
    wpList Tryd.prog ops Q (o :: rest) a (W.alloc (.cells #[u] 22)) := by
  obtain ⟨vs, h1, h2, h3⟩ := HO
  obtain ⟨A, c, rfl⟩ := HU.slice
  have hal := (Below.refl W.heap.size W).alloc (Nat.le_refl _) (.cells #[.slice A xs.length c] 22)
  have hR : Rd (W.alloc (.cells #[.slice A xs.length c] 22)) 1 (.slice (some ⟨W.heap.size, 0, none⟩) 1 1) 1 [.slice A xs.length c] := by
    refine ⟨_, _, rfl, rfl, Nat.le_refl _, by unfold maxLen; omega, fun j u hj => ⟨W.heap.size, 0, rfl, ?_⟩⟩
    rw [cell_of_row (W.alloc (.cells #[.slice A xs.length c] 22)) W.heap.size (0 + j) #[.slice A xs.length c] 22 (0, 0) (heap_alloc_new W _), Nat.zero_add]
    simpa using hj
  refine wpList_app B hgd s x 24 22 (.slice none 0 0) 1 24 ho Tryd.underlying24 info_bs rfl (by decide) v xss.length vs _ 1 [.slice A xs.length c] hs hx
    (own_below h1 hal) hR (fun u hu => by rw [List.mem_singleton] at hu; subst hu; rfl) (by unfold maxLen; omega) (by omega) (by simp; omega) ?_
  intro v1 w1 g1 g2 g3 _ _
  have g2' : W.grownBy w1 v.ownBlock := (World.grownBy_alloc W _ _).trans g2
  refine h v1 w1 (Obs.after h1 h2 h3 HU g1 g2') (HB.grown g2' hB (own_base h1)) g2' (g3.imp id (fun ⟨b, e, hb⟩ => ⟨b, e, by simp at hb; omega⟩))
end Go.Proofs.YtfmlkagcmkbebaaDoor
