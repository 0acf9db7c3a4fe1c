/- The base of this seat's proofs: how slices are read, how they grow, what a call leaves alone. -/
import Derived.Test.YtfmlkagcmkbebaaDoorChecked
import Derived.WalkKit
import Derived.WalkLawsBesides
import Derived.WalkSpells
import Derived.Maps.AppendAt
import Derived.Lib.Hide
import Derived.Deep.Draws
import Derived.Deep.QuietTactic
import Derived.BigQuiet
namespace Go.Proofs.YtfmlkagcmkbebaaDoor
open Go.RowKit

/-- A byte as a value. -/
def byt (x : UInt8) : Value := .int .u8 (x.toNat : Int)
def bys (xs : List UInt8) : List Value := xs.map byt
theorem byt_ofNat (m : Nat) : byt (UInt8.ofNat m) = .int .u8 ((m % 256 : Nat) : Int) := by
  show Value.int .u8 ((UInt8.ofNat m).toNat : Int) = _
  rw [show (UInt8.ofNat m).toNat = m % 256 by simp]
theorem byt_of {x : Int} {k : Nat} (h : x = (k : Int)) (hk : k < 256) : byt (UInt8.ofNat k) = .int .u8 x := by rw [byt_ofNat, h, Nat.mod_eq_of_lt hk]
/-- A literal of one byte. -/
theorem lit1 {x : Int} {k : Nat} (h : x = (k : Int)) (hk : k < 256) : (#[.int .u8 x] : Array Value).toList = bys [UInt8.ofNat k] := by simp [bys, byt_of h hk]
theorem bys_length (xs : List UInt8) : (bys xs).length = xs.length := by simp [bys]
theorem bys_append (xs ys : List UInt8) : bys (xs ++ ys) = bys xs ++ bys ys := by simp [bys]
theorem bys_one (xs : List UInt8) : ∀ u ∈ bys xs, u.oneCell' = true := by
  intro u hu; obtain ⟨x, _, rfl⟩ := List.mem_map.1 hu; rfl

/-- v is a slice of n elements of sz cells each, whose cells read cs in w. -/
def Rd (w : World) (sz : Nat) (v : Value) (n : Nat) (cs : List Value) : Prop :=
  ∃ A c, v = .slice A n c ∧ cs.length = n * sz ∧ n ≤ c ∧ c ≤ maxLen ∧ ∀ j u, cs[j]? = some u → ∃ b o, A = some ⟨b, o, none⟩ ∧ w.cell? ⟨b, o + j, none⟩ = some u

theorem add_plain (g o j : Nat) : (⟨g, o, none⟩ : Addr).add j = ⟨g, o + j, none⟩ := by unfold Addr.add; split <;> simp_all

theorem Rd.below {w w' : World} {sz n : Nat} {v : Value} {cs : List Value} (h : Rd w sz v n cs) (hb : Below w.heap.size w w') : Rd w' sz v n cs := by
  obtain ⟨A, c, e, hl, hn, hc, hr⟩ := h
  refine ⟨A, c, e, hl, hn, hc, fun j u hj => ?_⟩
  obtain ⟨b, o, e, h⟩ := hr j u hj
  exact ⟨b, o, e, (hb.cell (World.block_lt_of_cell? w _ h)).trans h⟩

/-- What changed is elsewhere. -/
theorem Rd.grown {w w' : World} {sz n : Nat} {v : Value} {cs : List Value} {row : Option Nat} (h : Rd w sz v n cs) (hg : w.grownBy w' row)
    (hne : ∀ k, v.ownBlock = some k → row = some k → False) : Rd w' sz v n cs := by
  obtain ⟨A, c, rfl, hl, hn, hc, hr⟩ := h
  refine ⟨A, c, rfl, hl, hn, hc, fun j u hj => ?_⟩
  obtain ⟨b, o, rfl, h⟩ := hr j u hj
  exact ⟨b, o, rfl, hg.cell h (fun e => hne b rfl e.symm)⟩

theorem Rd.nil (w : World) (sz : Nat) : Rd w sz (.slice none 0 0) 0 [] := ⟨none, 0, rfl, by simp, Nat.le_refl _, by simp [maxLen], fun j u hj => by simp at hj⟩

theorem Rd.of_own {w : World} {base : Nat} {e : TypeId} {sz n : Nat} {v : Value} {cs : List Value} (h : w.ownsRow base e sz v n cs) : Rd w sz v n cs := by
  have h0 := h
  rcases h.2 with ⟨rfl, rfl⟩ | ⟨g, cap, cur, rfl, hb, hh, h1, h2, h3, h4⟩
  · have : cs = [] := List.eq_nil_of_length_eq_zero (by simpa using h.1)
    subst this; exact Rd.nil w sz
  · refine ⟨_, _, rfl, h.1, h1, h2, fun j u hj => ⟨g, 0, rfl, ?_⟩⟩
    have := h0.cells (g := g) rfl j u hj
    rwa [add_plain] at this

/-- A slice of bytes. -/
def Bs (w : World) (v : Value) (xs : List UInt8) : Prop := Rd w 1 v xs.length (bys xs)
theorem Bs.below {w w' : World} {v : Value} {xs : List UInt8} (h : Bs w v xs) (hb : Below w.heap.size w w') : Bs w' v xs := Rd.below h hb
theorem Bs.form {w : World} {v : Value} {xs : List UInt8} (h : Bs w v xs) : ∃ A c, v = .slice A xs.length c ∧ xs.length ≤ c ∧ c ≤ maxLen ∧
    ∀ j (hj : j < xs.length), ∃ b o, A = some ⟨b, o, none⟩ ∧ w.cell? ⟨b, o + j, none⟩ = some (byt xs[j]) := by
  obtain ⟨A, c, rfl, hl, hn, hc, hr⟩ := h
  exact ⟨A, c, rfl, hn, hc, fun j hj => hr j (byt xs[j]) (by simp [bys, hj])⟩

theorem Bs.addr {w : World} {A : Option Addr} {n c : Nat} {xs : List UInt8} (h : Bs w (.slice A n c) xs) (h0 : 0 < xs.length) : ∃ b o, A = some ⟨b, o, none⟩ := by
  obtain ⟨A', c', e, _, _, h⟩ := h.form
  injection e with e1 e2 e3
  obtain ⟨b, o, e, _⟩ := h 0 h0
  exact ⟨b, o, e1.trans e⟩
theorem Bs.len {w : World} {A : Option Addr} {n c : Nat} {xs : List UInt8} (h : Bs w (.slice A n c) xs) : n = xs.length ∧ n ≤ c ∧ c ≤ maxLen := by
  obtain ⟨A', c', e, h1, h2, _⟩ := h.form
  injection e with e1 e2 e3
  subst e1; subst e2; subst e3; exact ⟨rfl, h1, h2⟩
theorem Bs.take {w : World} {A : Option Addr} {n c m : Nat} {xs : List UInt8} (h : Bs w (.slice A n c) xs) (hm : m ≤ xs.length) : Bs w (.slice A m c) (xs.take m) := by
  obtain ⟨A', c', e, hl, hn, hc, hr⟩ := h
  injection e with e1 e2 e3
  subst e1; subst e2; subst e3
  have hl2 : (xs.take m).length = m := by rw [List.length_take]; omega
  refine ⟨A, c, by rw [hl2], by rw [bys_length, hl2]; simp, by omega, hc, fun j u hj => hr j u ?_⟩
  simp only [bys, List.getElem?_map, List.getElem?_take] at hj ⊢
  split at hj
  · exact hj
  · simp at hj

/-- Owned bytes: a slice of the call's own. -/
def Ob (w : World) (base : Nat) (v : Value) (xs : List UInt8) : Prop := w.ownsRow base 5 1 v xs.length (bys xs)
theorem Ob.bs {w : World} {base : Nat} {v : Value} {xs : List UInt8} (h : Ob w base v xs) : Bs w v xs := Rd.of_own h
theorem Ob.nil (w : World) (base : Nat) : Ob w base (.slice none 0 0) [] := World.ownsRow_nil _ _ _ _

theorem Ob.slice {w : World} {base : Nat} {v : Value} {xs : List UInt8} (h : Ob w base v xs) : ∃ A c, v = .slice A xs.length c := by
  obtain ⟨A, c, e, _⟩ := h.bs.form; exact ⟨A, c, e⟩
theorem Ob.form {w : World} {base : Nat} {v : Value} {xs : List UInt8} (h : Ob w base v xs) (h0 : 0 < xs.length) : ∃ g cap, v = .slice (some ⟨g, 0, none⟩) xs.length cap ∧ base ≤ g ∧ g < w.heap.size ∧ xs.length ≤ cap := by
  rcases h.2 with ⟨_, h2⟩ | ⟨g, cap, cur, rfl, hb, hh, h1, _⟩
  · omega
  · exact ⟨g, cap, rfl, hb, (Array.getElem?_eq_some_iff.1 hh).1, h1⟩
theorem own_base {w : World} {base : Nat} {e : TypeId} {size n : Nat} {v : Value} {xs : List Value} (h : w.ownsRow base e size v n xs) (k : Nat) (hk : v.ownBlock = some k) : base ≤ k := (h.lt k hk).1
theorem grown_of_below {w w1 : World} (h : Below w.heap.size w w1) (row : Option Nat) : w.grownBy w1 row := ⟨h.os, h.tape, h.output, h.size, fun i hi _ => h.block i hi⟩
theorem own_below {w w1 : World} {base : Nat} {e : TypeId} {size n : Nat} {v : Value} {xs : List Value} (h : w.ownsRow base e size v n xs) (hb : Below w.heap.size w w1) : w1.ownsRow base e size v n xs :=
  h.kept (grown_of_below hb none) (by cases v.ownBlock <;> simp)
theorem own_mono {w : World} {base base' : Nat} {e : TypeId} {size n : Nat} {v : Value} {xs : List Value} (h : w.ownsRow base e size v n xs) (hb : base' ≤ base) : w.ownsRow base' e size v n xs := by
  refine ⟨h.1, ?_⟩
  rcases h.2 with h2 | ⟨g, cap, cur, r1, r2, r⟩
  · exact .inl h2
  · exact .inr ⟨g, cap, cur, r1, by omega, r⟩
theorem Ob.below {w w1 : World} {base : Nat} {v : Value} {xs : List UInt8} (h : Ob w base v xs) (hb : Below w.heap.size w w1) : Ob w1 base v xs := own_below h hb

/-- The cells below B as two rules for the walk. -/
theorem bcell {W w1 : World} {B : Nat} (hb : Below B W w1) : (∀ b o, b < B → w1.cell? ⟨b, o, none⟩ = W.cell? ⟨b, o, none⟩) ∧ (∀ b o, b < B → w1.frozen? ⟨b, o, none⟩ = W.frozen? ⟨b, o, none⟩) :=
  ⟨fun b o h => hb.cell (p := ⟨b, o, none⟩) h, fun b o h => hb.frozen (p := ⟨b, o, none⟩) h⟩

/-! append -/
section
variable {P : Program}
theorem run_app_nothing (w : World) (t ty e : TypeId) (i : TypeInfo) (ht : P.underlying t = some (.slice e)) (hi : P.info? e = some i)
    (base : Option Addr) (n cap : Nat) (hle : n ≤ cap) (c : Nat) :
    (Builtin.append_ #[t, t] ty #[.slice base n cap, .slice none 0 c]).run P w = .ok (.slice base n cap) w := by
  cases base <;> simp [Builtin.append_, run_underlying ht, sizeOf, typeInfo, hi, Builtin.lenOf, hle, Builtin.firstCells, storeCells]

/-- Cells stand, or hold one of ys now. -/
def Tch (W W' : World) (ys : List Value) : Prop := ∀ a u, W.cell? a = some u → W'.cell? a = some u ∨ ∃ y, y ∈ ys ∧ W'.cell? a = some y
theorem Tch.refl (W : World) (ys : List Value) : Tch W W ys := fun _ _ h => .inl h
theorem Tch.of_below {W W' : World} (h : Below W.heap.size W W') (ys : List Value) : Tch W W' ys := fun a _ hu => .inl ((h.cell (World.block_lt_of_cell? W a hu)).trans hu)
theorem Tch.trans {a b c : World} {ys : List Value} (h : Tch a b ys) (k : Tch b c ys) : Tch a c ys := by
  intro ad u hu
  rcases h ad u hu with h1 | ⟨y, hy, h1⟩
  · exact k ad u h1
  · rcases k ad y h1 with h2 | h2
    · exact .inr ⟨y, hy, h2⟩
    · exact .inr h2
theorem setRow_tch (W : World) (g k : Nat) (cur : Array Value) (e : TypeId) (fr : Nat × Nat) (hg : W.heap[g]? = some (.cells cur e fr)) (news : List Value) :
    Tch W (W.setRow g (cur.toList.take k ++ news ++ cur.toList.drop (k + news.length)).toArray) news := by
  intro a u hu
  by_cases hb : a.block = g
  · have hn := setRow_heap W g cur (cur.toList.take k ++ news ++ cur.toList.drop (k + news.length)).toArray e fr hg
    simp only [World.cell?, hb, hg] at hu
    simp only [World.cell?, hb, hn]
    split at hu
    · cases hu
    · rename_i hs
      rw [if_neg hs]
      have hu' : cur.toList[a.off]? = some u := by rw [Array.getElem?_toList]; exact hu
      have hlt : a.off < cur.toList.length := (List.getElem?_eq_some_iff.1 hu').1
      rw [List.getElem?_toArray]
      by_cases h1 : a.off < k
      · left
        rw [List.append_assoc, List.getElem?_append_left (by rw [List.length_take]; omega), List.getElem?_take, if_pos h1]; exact hu'
      · by_cases h2 : a.off < k + news.length
        · right
          have hlen : (cur.toList.take k).length = k := by rw [List.length_take]; omega
          refine ⟨news[a.off - k], List.getElem_mem (by omega), ?_⟩
          rw [List.append_assoc, List.getElem?_append_right (by omega), hlen, List.getElem?_append_left (by omega)]
          exact List.getElem?_eq_getElem (by omega)
        · left
          have hlen : (cur.toList.take k ++ news).length = k + news.length := by rw [List.length_append, List.length_take]; omega
          rw [List.getElem?_append_right (by omega), hlen, List.getElem?_drop, show k + news.length + (a.off - (k + news.length)) = a.off by omega]; exact hu'
  · left
    simp only [World.cell?, setRow_other W g a.block _ hb] at hu ⊢
    exact hu

theorem run_app1 (w : World) (base : Nat) (t ty e : TypeId) (i : TypeInfo) (z : Value) (size bytes : Nat) (ht : P.underlying t = some (.slice e)) (hi : P.info? e = some i) (hz : i.zero = some z)
    (hsize : i.size = size) (hby : i.bytes = bytes) (hzs : z.cells.size = size)
    (v : Value) (n : Nat) (xs : List Value) (hown : w.ownsRow base e size v n xs)
    (a : Addr) (m c : Nat) (news : List Value) (hl : news.length = m * size) (hnews : ∀ j u, news[j]? = some u → w.cell? (a.add j) = some u) (h1 : ∀ u ∈ news, u.oneCell' = true)
    (h63 : n + m ≤ maxLen) (hbytes : (n + m) * bytes ≤ 140737488355328) (hbase : base ≤ w.heap.size) :
    ∃ v' w', (Builtin.append_ #[t, t] ty #[v, .slice (some a) m c]).run P w = .ok v' w' ∧ w'.ownsRow base e size v' (n + m) (xs ++ news) ∧ w.grownBy w' v.ownBlock ∧
      (v'.ownBlock = v.ownBlock ∨ ∃ b, v'.ownBlock = some b ∧ w.heap.size ≤ b) ∧ Tch w w' news ∧ w'.ownsRow base e size v n xs := by
  subst hsize
  subst hby
  have hsmall : n + m ≤ 9223372036854775807 := by simp only [maxLen] at h63; omega
  have hlen : (xs ++ news).length = (n + m) * i.size := by rw [List.length_append, hown.1, hl, Nat.add_mul]
  have grown : ∀ (old : Nat), old < n + m → ∀ (row : Option Nat),
      (w.drew.alloc (.cells (xs.toArray ++ news.toArray ++ Builtin.zeroCells z.cells (grownCap w (n + m) old e - (n + m))) e)).ownsRow base e i.size
        (.slice (some ⟨w.heap.size, 0, none⟩) (n + m) (grownCap w (n + m) old e)) (n + m) (xs ++ news) ∧
      w.grownBy (w.drew.alloc (.cells (xs.toArray ++ news.toArray ++ Builtin.zeroCells z.cells (grownCap w (n + m) old e - (n + m))) e)) row ∧
      Tch w (w.drew.alloc (.cells (xs.toArray ++ news.toArray ++ Builtin.zeroCells z.cells (grownCap w (n + m) old e - (n + m))) e)) news := by
    intro old ho row
    have hge := grownCap_ge w (n + m) old e
    have hcm : grownCap w (n + m) old e ≤ maxLen := grownCap_le_maxLen w (n + m) old e h63
    refine ⟨⟨hlen, .inr ⟨w.heap.size, _, _, rfl, hbase, heap_alloc_new w.drew _, hge, hcm, ?_, ?_⟩⟩, ⟨rfl, rfl, rfl, by simp, fun k hk _ => Below.heap_alloc w.drew _ k hk⟩, ?_⟩
    · simp only [Array.size_append, List.size_toArray, size_zeroCells, hzs, hown.1, hl, ← Nat.add_mul]
      congr 1
      omega
    · simp only [Array.toList_append, List.append_assoc]
      rw [← List.append_assoc, ← hlen]
      exact List.take_left
    · exact Tch.of_below ((Below.refl w.heap.size w).drew.alloc (Nat.le_refl _) _) _
  rcases hown.2 with ⟨rfl, rfl⟩ | ⟨g, cap, cur, rfl, hbg, hg, hnc, hcm, hcs, htake⟩
  · have hx : xs = [] := List.eq_nil_of_length_eq_zero (by simpa using hown.1)
    subst hx
    by_cases hm : m = 0
    · subst hm
      have hn : news = [] := List.eq_nil_of_length_eq_zero (by simpa using hl)
      subst hn
      refine ⟨.slice none 0 0, w, ?_, World.ownsRow_nil w base e i.size, ⟨rfl, rfl, rfl, Nat.le_refl _, fun _ _ _ => rfl⟩, .inl rfl, Tch.refl _ _, World.ownsRow_nil w base e i.size⟩
      simp [Builtin.append_, run_underlying ht, sizeOf, typeInfo, hi, Builtin.lenOf, Builtin.firstCells, loadCells, loadCellsFrom]
    · have hr := run_append_nil (P := P) w t ty e i z ht hi hz a m c news hl hnews (by omega) (by omega) (by have hb := hbytes; simp only [Nat.zero_add] at hb; omega)
      have hgr := grown 0 (by omega) (Value.ownBlock (.slice none 0 0))
      simp only [Nat.zero_add, List.nil_append, Array.empty_append] at hgr ⊢
      exact ⟨_, _, hr, hgr.1, hgr.2.1, .inr ⟨_, rfl, Nat.le_refl _⟩, hgr.2.2, World.ownsRow_nil _ base e i.size⟩
  · by_cases hroom : n + m ≤ cap
    · have hfit : n * i.size + news.length ≤ cur.size := by rw [hl, hcs, ← Nat.add_mul]; exact Nat.mul_le_mul_right _ hroom
      have hr := run_append_room (P := P) w t ty e i ht hi g n cap cur hg a m c news hl hnews h1 hroom hfit
      refine ⟨_, _, hr, ⟨hlen, .inr ⟨g, cap, _, rfl, hbg, setRow_heap w g cur _ e _ hg, hroom, hcm, ?_, ?_⟩⟩, ⟨rfl, rfl, rfl, by simp, fun k _ hk => setRow_other w g k _ (fun e => hk (by simp [Value.ownBlock, e]))⟩, .inl rfl, setRow_tch w g _ cur e _ hg news, ⟨hown.1, .inr ⟨g, cap, _, rfl, hbg, setRow_heap w g cur _ e _ hg, hnc, hcm, ?_, ?_⟩⟩⟩
      · simp only [List.size_toArray, List.length_append, List.length_take, List.length_drop, Array.length_toList]
        omega
      · rw [htake, ← hlen]
        exact List.take_left
      · simp only [List.size_toArray, List.length_append, List.length_take, List.length_drop, Array.length_toList]
        omega
      · rw [htake, List.append_assoc]
        exact List.take_left' hown.1
    · have holds : ∀ j u, xs[j]? = some u → w.cell? ((⟨g, 0, none⟩ : Addr).add j) = some u := hown.cells (g := g) rfl
      have hr := run_append_grow (P := P) w t ty e i z ht hi hz ⟨g, 0, none⟩ n cap xs hown.1 holds a m c news hl hnews (by omega) (by omega) (growslice_fits (by omega) hbytes)
      have hgr := grown cap (by omega) (Value.ownBlock (.slice (some ⟨g, 0, none⟩) n cap))
      exact ⟨_, _, hr, hgr.1, hgr.2.1, .inr ⟨_, rfl, Nat.le_refl _⟩, hgr.2.2, hown.kept (grown cap (by omega) none).2.1 (.inr (by simp [Value.ownBlock]))⟩

theorem run_app (W : World) (base : Nat) (t ty e : TypeId) (z : Value) (sz bytes : Nat) (ht : P.underlying t = some (.slice e))
    (hinfo : (P.info? e).map (fun i => (i.zero, i.size, i.bytes)) = some (some z, sz, bytes)) (hz : z.cells.size = sz) (hsz : 0 < sz)
    (v : Value) (n : Nat) (xs : List Value) (HO : W.ownsRow base e sz v n xs) (x : Value) (m : Nat) (ys : List Value) (hx : Rd W sz x m ys) (h1 : ∀ u ∈ ys, u.oneCell' = true)
    (h63 : n + m ≤ maxLen) (hl : (n + m) * bytes ≤ 140737488355328) (hbase : base ≤ W.heap.size) :
    ∃ v1 w1, (Builtin.append_ #[t, t] ty #[v, x]).run P W = .ok v1 w1 ∧ w1.ownsRow base e sz v1 (n + m) (xs ++ ys) ∧ W.grownBy w1 v.ownBlock ∧
      (v1.ownBlock = v.ownBlock ∨ ∃ b, v1.ownBlock = some b ∧ W.heap.size ≤ b) ∧ Tch W w1 ys ∧ w1.ownsRow base e sz v n xs := by
  obtain ⟨i0, hi, hz0, hz1, hz2⟩ := info_parts hinfo
  obtain ⟨A, c, rfl, hl', hn, hc, hr⟩ := hx
  rcases Nat.eq_zero_or_pos m with rfl | hm
  · have hy : ys = [] := List.eq_nil_of_length_eq_zero (by simpa using hl')
    subst hy
    cases A with
    | none =>
      have hf : ∃ b0 cp, v = .slice b0 n cp ∧ n ≤ cp := by
        rcases HO.2 with ⟨rfl, rfl⟩ | ⟨g, cap, cur, rfl, _, _, h, _⟩
        · exact ⟨_, _, rfl, Nat.le_refl _⟩
        · exact ⟨_, _, rfl, h⟩
      obtain ⟨b0, cp, rfl, hle⟩ := hf
      exact ⟨_, W, run_app_nothing W t ty e i0 ht hi b0 n cp hle c, by simpa using HO, ⟨rfl, rfl, rfl, Nat.le_refl _, fun _ _ _ => rfl⟩, .inl rfl, Tch.refl _ _, HO⟩
    | some ad =>
      exact run_app1 (P := P) W base t ty e i0 z sz bytes ht hi hz0 hz1 hz2 hz v n xs HO ad 0 c [] (by simp) (by simp) (by simp) (by omega) hl hbase
  · have hp : 0 < ys.length := by rw [hl']; exact Nat.mul_pos hm hsz
    obtain ⟨b, o, rfl, _⟩ := hr 0 ys[0] (by simp [hp])
    exact run_app1 (P := P) W base t ty e i0 z sz bytes ht hi hz0 hz1 hz2 hz v n xs HO ⟨b, o, none⟩ m c ys hl'
      (fun j u hj => by
        obtain ⟨b', o', e, h⟩ := hr j u hj
        injection e with e; injection e with e1 e2 _; subst e1; subst e2; rwa [add_plain]) h1 h63 hl hbase

/-- For the walk. -/
theorem wpList_app {ops : Array Oper} {rest : List Oper} {o : Oper} {a : Act} {Q : Exit → Act → World → Prop} {W : World} (base : Nat) (hgd : o.guard = none) (s x : Operand) (t e : TypeId) (z : Value) (sz bytes : Nat)
    (ho : o.op = .call { callee := .builtin .append, args := #[s, x], argTypes := #[t, t] }) (ht : P.underlying t = some (.slice e))
    (hinfo : (P.info? e).map (fun i => (i.zero, i.size, i.bytes)) = some (some z, sz, bytes)) (hz : z.cells.size = sz) (hsz : 0 < sz)
    (v : Value) (n : Nat) (xs : List Value) (y : Value) (m : Nat) (ys : List Value) (hs : a.eval s = v) (hx : a.eval x = y)
    (HO : W.ownsRow base e sz v n xs) (hR : Rd W sz y m ys) (h1 : ∀ u ∈ ys, u.oneCell' = true)
    (h63 : n + m ≤ maxLen) (hl : (n + m) * bytes ≤ 140737488355328) (hbase : base ≤ W.heap.size)
    (h : ∀ v1 w1, w1.ownsRow base e sz v1 (n + m) (xs ++ ys) → W.grownBy w1 v.ownBlock → (v1.ownBlock = v.ownBlock ∨ ∃ b, v1.ownBlock = some b ∧ W.heap.size ≤ b) → Tch W w1 ys → w1.ownsRow base e sz v n xs → wpList P ops Q rest (a.put o.dst v1) w1) :
    wpList P ops Q (o :: rest) a W := by
  refine wpList_plain hgd fun K hK => ?_
  obtain ⟨v1, w1, hr, h2, h3, h4, h5, h6⟩ := run_app (P := P) W base t o.type e z sz bytes ht hinfo hz hsz v n xs HO y m ys hR h1 h63 hl hbase
  unfold Oper.wp execOp
  simp only [ho, resolve, invoke, builtin, Sem.run_bind, Sem.run_pure, Result.andThen_ok, List.map_toArray, List.map_cons, List.map_nil, hs, hx, hr]
  exact hK _ _ (h v1 w1 h2 h3 h4 h5 h6)
/-- In a region that draws. -/
theorem step_app {ops : Array Oper} {o : Oper} {a : Act} {K : Act → World → Prop} {Q : Exit → Act → World → Prop} {E : Prop} {W : World} (base : Nat) (hgd : o.guard = none) (s x : Operand) (t e : TypeId) (z : Value) (sz bytes : Nat)
    (ho : o.op = .call { callee := .builtin .append, args := #[s, x], argTypes := #[t, t] }) (ht : P.underlying t = some (.slice e))
    (hinfo : (P.info? e).map (fun i => (i.zero, i.size, i.bytes)) = some (some z, sz, bytes)) (hz : z.cells.size = sz) (hsz : 0 < sz)
    (v : Value) (n : Nat) (xs : List Value) (y : Value) (m : Nat) (ys : List Value) (hs : a.eval s = v) (hx : a.eval x = y)
    (HO : W.ownsRow base e sz v n xs) (hR : Rd W sz y m ys) (h1 : ∀ u ∈ ys, u.oneCell' = true)
    (h63 : n + m ≤ maxLen) (hl : (n + m) * bytes ≤ 140737488355328) (hbase : base ≤ W.heap.size)
    (h : ∀ v1 w1, w1.ownsRow base e sz v1 (n + m) (xs ++ ys) → W.grownBy w1 v.ownBlock → (v1.ownBlock = v.ownBlock ∨ ∃ b, v1.ownBlock = some b ∧ W.heap.size ≤ b) → Tch W w1 ys → w1.ownsRow base e sz v n xs → K (a.put o.dst v1) w1) :
    if Region.wanted o (yielded ops a.tmps) = true then Oper.wp P o a W K Q else E := by
  have hw : Region.wanted o (yielded ops a.tmps) = true := by simp [Region.wanted, hgd]
  rw [if_pos hw]
  obtain ⟨v1, w1, hr, h2, h3, h4, h5, h6⟩ := run_app (P := P) W base t o.type e z sz bytes ht hinfo hz hsz v n xs HO y m ys hR h1 h63 hl hbase
  unfold Oper.wp execOp
  simp only [ho, resolve, invoke, builtin, Sem.run_bind, Sem.run_pure, Result.andThen_ok, List.map_toArray, List.map_cons, List.map_nil, hs, hx, hr]
  exact h v1 w1 h2 h3 h4 h5 h6
end

theorem info_u8 : (Tryd.prog.info? 5).map (fun i => (i.zero, i.size, i.bytes)) = some (some (.int .u8 0), 1, 1) := by kernel_rfl

/-- 'append(v, x...)' of bytes, v the call's own (or nil), x whatever slice: what was there below base stays. -/
theorem appB {ops : Array Oper} {rest : List Oper} {o : Oper} {a : Act} {Q : Exit → Act → World → Prop} {W w0 : World} (B : Nat) (hgd : o.guard = none) (s x : Operand)
    (ho : o.op = .call { callee := .builtin .append, args := #[s, x], argTypes := #[22, 22] })
    (v : Value) (xs : List UInt8) (y : Value) (ys : List UInt8) (hs : a.eval s = v) (hx : a.eval x = y)
    (HO : Ob W B v xs) (hR : Bs W y ys) (hl : xs.length + ys.length ≤ 140737488355328) (HB : Below B w0 W) (hB : B ≤ W.heap.size)
    (h : ∀ v1 w1, Ob w1 B v1 (xs ++ ys) → Below B w0 w1 → W.grownBy w1 v.ownBlock → (v1.ownBlock = v.ownBlock ∨ ∃ b, v1.ownBlock = some b ∧ W.heap.size ≤ b) → wpList Tryd.prog ops Q rest (a.put o.dst v1) w1) :
    wpList Tryd.prog ops Q (o :: rest) a W := by
  refine wpList_app B hgd s x 22 5 (.int .u8 0) 1 1 ho Tryd.underlying22 info_u8 rfl (by decide) v xs.length (bys xs) y ys.length (bys ys) hs hx HO hR (bys_one ys)
    (by simp only [maxLen]; omega) (by omega) hB ?_
  intro v1 w1 h1 h2 h3 _ _
  refine h v1 w1 ?_ (HB.grown h2 hB (own_base HO)) h2 h3
  unfold Ob; rw [List.length_append, bys_append]; exact h1

/-- A literal's bytes, just laid. -/
theorem Bs.lit (W : World) (cs : Array Value) (xs : List UInt8) (h : cs.toList = bys xs) (hl : xs.length ≤ 9223372036854775807) :
    Bs (W.alloc (.cells cs 5)) (.slice (some ⟨W.heap.size, 0, none⟩) xs.length xs.length) xs := by
  refine ⟨_, _, rfl, by rw [bys_length]; simp, Nat.le_refl _, by simpa [maxLen] using hl, fun j u hj => ⟨W.heap.size, 0, rfl, ?_⟩⟩
  have := cell_of_row (W.alloc (.cells cs 5)) W.heap.size (0 + j) cs 5 (0, 0) (heap_alloc_new W _)
  rw [this, Nat.zero_add, ← Array.getElem?_toList, h]; exact hj

theorem Bs.litn (W : World) (cs : Array Value) (xs : List UInt8) (n b : Nat) (h : cs.toList = bys xs) (hn : n = xs.length) (hl : n ≤ 9223372036854775807) (hb : b = W.heap.size) :
    Bs (W.alloc (.cells cs 5)) (.slice (some ⟨b, 0, none⟩) n n) xs := by subst hn; subst hb; exact Bs.lit W cs xs h hl
/-- 'make([]byte, 0, n)' -/
theorem makeB0 {ops : Array Oper} {rest : List Oper} {o : Oper} {a : Act} {Q : Exit → Act → World → Prop} {W w0 : World} (B : Nat) (hgd : o.guard = none) (l c : Operand) (ho : o.op = Op.makeSlice 22 l c)
    (kl kc : IntKind) (C : Int) (n : Nat) (hl : a.eval l = .int kl 0) (hc : a.eval c = .int kc C) (hC : C = (n : Int)) (hn : n ≤ 281474976710656) (HB : Below B w0 W) (hB : B ≤ W.heap.size)
    (h : ∀ w1, Ob w1 B (.slice (some ⟨W.heap.size, 0, none⟩) 0 n) [] → Below B w0 w1 → Below W.heap.size W w1 → wpList Tryd.prog ops Q rest (a.put o.dst (.slice (some ⟨W.heap.size, 0, none⟩) 0 n)) w1) :
    wpList Tryd.prog ops Q (o :: rest) a W := by
  obtain ⟨i0, hi, hz0, hz1, hz2⟩ := info_parts info_u8
  refine wpList_make_own W hgd l c 22 ho B 5 i0 (.int .u8 0) 1 Tryd.underlying22 hi hz0 hz1 kl kc C n hl hc hC (by rw [hz2]; omega) (by unfold maxLen; omega) hB ?_
  intro w1 h1 h2
  exact h w1 h1 (HB.grown h2 hB (fun k hk => by cases hk)) ⟨h2.os, h2.tape, h2.output, h2.size, fun k hk => h2.block k hk (by simp)⟩

/-- 'make([]byte, n)' -/
theorem makeBn {ops : Array Oper} {rest : List Oper} {o : Oper} {a : Act} {Q : Exit → Act → World → Prop} {W w0 : World} (B : Nat) (hgd : o.guard = none) (l c : Operand) (ho : o.op = Op.makeSlice 22 l c)
    (kl kc : IntKind) (L C : Int) (n : Nat) (hl : a.eval l = .int kl L) (hc : a.eval c = .int kc C) (hL : L = (n : Int)) (hC : C = (n : Int)) (hn : n ≤ 281474976710656) (HB : Below B w0 W) (hB : B ≤ W.heap.size)
    (h : ∀ w1, Ob w1 B (.slice (some ⟨W.heap.size, 0, none⟩) n n) (List.replicate n 0) → Below B w0 w1 → Below W.heap.size W w1 → wpList Tryd.prog ops Q rest (a.put o.dst (.slice (some ⟨W.heap.size, 0, none⟩) n n)) w1) :
    wpList Tryd.prog ops Q (o :: rest) a W := by
  obtain ⟨i0, hi, hz0, hz1, hz2⟩ := info_parts info_u8
  refine wpList_make_full W hgd l c 22 ho B 5 i0 (.int .u8 0) 1 Tryd.underlying22 hi hz0 hz1 kl kc L C n hl hc hL hC (by rw [hz2]; omega) (by unfold maxLen; omega) hB ?_
  intro w1 h1 h2
  refine h w1 ?_ (HB.grown h2 hB (fun k hk => by cases hk)) ⟨h2.os, h2.tape, h2.output, h2.size, fun k hk => h2.block k hk (by simp)⟩
  unfold Ob
  rw [List.length_replicate]
  have e : (madeCells (Value.int .u8 0).cells (n * 1)).toList = bys (List.replicate n 0) := by
    rw [show (Value.int .u8 0).cells = #[Value.int .u8 0] by rfl]
    apply List.ext_getElem
    · simp [madeCells, bys]
    · intro i h1 h2; simp [madeCells, bys, byt, Nat.mod_one]
  rw [← e]; exact h1

/-- A slice of byte slices. -/
def Bss (w : World) (v : Value) (xss : List (List UInt8)) : Prop := ∃ vs, Rd w 1 v xss.length vs ∧ vs.length = xss.length ∧ ∀ (i : Nat) (u : Value) (xs : List UInt8), vs[i]? = some u → xss[i]? = some xs → Bs w u xs
theorem Bss.below {w w' : World} {v : Value} {xss : List (List UInt8)} (h : Bss w v xss) (hb : Below w.heap.size w w') : Bss w' v xss := by
  obtain ⟨vs, h1, h2, h3⟩ := h
  exact ⟨vs, h1.below hb, h2, fun i u xs a b => (h3 i u xs a b).below hb⟩
theorem Bss.form {w : World} {v : Value} {xss : List (List UInt8)} (h : Bss w v xss) : ∃ A c, v = .slice A xss.length c ∧ xss.length ≤ c ∧ c ≤ maxLen ∧
    ∀ j (hj : j < xss.length), ∃ b o u, A = some ⟨b, o, none⟩ ∧ w.cell? ⟨b, o + j, none⟩ = some u ∧ Bs w u xss[j] := by
  obtain ⟨vs, ⟨A, c, rfl, hl, hn, hc, hr⟩, h2, h3⟩ := h
  refine ⟨A, c, rfl, hn, hc, fun j hj => ?_⟩
  have hv : j < vs.length := by omega
  obtain ⟨b, o, e, h⟩ := hr j vs[j] (by simp [hv])
  exact ⟨b, o, vs[j], e, h, h3 j _ _ (by simp [hv]) (by simp [hj])⟩
theorem Bss.lit (W : World) (vs : List Value) (xss : List (List UInt8)) (n : Nat) (hn : n = xss.length) (hm : n ≤ 9223372036854775807) (hl : vs.length = xss.length)
    (h : ∀ (i : Nat) (u : Value) (xs : List UInt8), vs[i]? = some u → xss[i]? = some xs → Bs W u xs) :
    Bss (W.alloc (.cells vs.toArray 22)) (.slice (some ⟨W.heap.size, 0, none⟩) n n) xss := by
  subst hn
  refine ⟨vs, ⟨_, _, rfl, by omega, Nat.le_refl _, by unfold maxLen; omega, fun j u hj => ⟨W.heap.size, 0, rfl, ?_⟩⟩, hl, fun i u xs a b => (h i u xs a b).below ((Below.refl _ W).alloc (Nat.le_refl _) _)⟩
  have := cell_of_row (W.alloc (.cells vs.toArray 22)) W.heap.size (0 + j) vs.toArray 22 (0, 0) (heap_alloc_new W _)
  rw [this, Nat.zero_add]; simpa using hj
theorem Bss.litn (W : World) (vs : List Value) (xss : List (List UInt8)) (n b : Nat) (hn : n = xss.length) (hm : n ≤ 9223372036854775807) (hl : vs.length = xss.length) (hb : b = W.heap.size)
    (h : ∀ (i : Nat) (u : Value) (xs : List UInt8), vs[i]? = some u → xss[i]? = some xs → Bs W u xs) :
    Bss (W.alloc (.cells vs.toArray 22)) (.slice (some ⟨b, 0, none⟩) n n) xss := by subst hb; exact Bss.lit W vs xss n hn hm hl h
theorem Bss.lit1 (W : World) (v : Value) (xs : List UInt8) (h : Bs W v xs) : Bss (W.alloc (.cells #[v] 22)) (.slice (some ⟨W.heap.size, 0, none⟩) 1 1) [xs] :=
  Bss.lit W [v] [xs] 1 rfl (by omega) rfl (fun i u ys a b => by
    match i with
    | 0 => simp at a b; subst a; subst b; exact h
    | i + 1 => simp at a)

theorem grownBy_chain {a b c : World} {r r' : Option Nat} (h : a.grownBy b r) (k : b.grownBy c r') (hr : ∀ x, r' = some x → r = some x ∨ a.heap.size ≤ x) : a.grownBy c r :=
  ⟨k.os.trans h.os, k.tape.trans h.tape, k.output.trans h.output, Nat.le_trans h.size k.size, fun x hx hne => by
    rw [k.block x (Nat.lt_of_lt_of_le hx h.size) (fun e => ?_), h.block x hx hne]
    rcases hr x e.symm with e1 | e1
    · exact hne e1.symm
    · omega⟩
theorem grownBy_refl (w : World) (r : Option Nat) : w.grownBy w r := ⟨rfl, rfl, rfl, Nat.le_refl _, fun _ _ _ => rfl⟩

/-- A byte of the call's own is written. -/
theorem Ob.cell {w : World} {B g n c k : Nat} {xs : List UInt8} (h : Ob w B (.slice (some ⟨g, 0, none⟩) n c) xs) (hk : k < xs.length) :
    w.cell? ⟨g, k, none⟩ = some (byt xs[k]) ∧ w.frozen? ⟨g, k, none⟩ = false := by
  have h1 := h.2
  have h0 := h.cells (g := g) rfl k (byt xs[k]) (by simp [bys, hk])
  rw [add_plain, Nat.zero_add] at h0
  refine ⟨h0, ?_⟩
  rcases h1 with ⟨e, _⟩ | ⟨g', cap, cur, e, _, hh, _⟩
  · cases e
  · injection e with e1 e2 e3; injection e1 with e1; injection e1 with e1 _ _; subst e1
    simp [World.frozen?, hh]
theorem Ob.put {w : World} {B g n c k : Nat} {xs : List UInt8} (h : Ob w B (.slice (some ⟨g, 0, none⟩) n c) xs) (hk : k < xs.length) (y : UInt8) :
    Ob (w.setCell ⟨g, k, none⟩ (byt y)) B (.slice (some ⟨g, 0, none⟩) n c) (xs.set k y) ∧ w.grownBy (w.setCell ⟨g, k, none⟩ (byt y)) (some g) := by
  refine ⟨⟨by simp [bys], ?_⟩, ⟨rfl, rfl, rfl, by simp [World.setCell], fun x hx hne => Below.heap_setCell _ _ _ _ (fun e => hne (by rw [e]))⟩⟩
  rcases h.2 with ⟨e, _⟩ | ⟨g', cap, cur, e, hb, hh, h1, h2, h3, h4⟩
  · cases e
  · injection e with e1 e2 e3; injection e1 with e1; injection e1 with e1 _ _; subst e1; subst e2; subst e3
    have hkc : k < cur.size := by
      have := congrArg List.length h4
      rw [List.length_take, bys_length, Array.length_toList] at this; omega
    refine .inr ⟨g, c, cur.setIfInBounds k (byt y), by rw [List.length_set], hb, ?_, by rw [List.length_set]; exact h1, h2, by rw [Array.size_setIfInBounds]; exact h3, ?_⟩
    · have hlt : g < w.heap.size := (Array.getElem?_eq_some_iff.1 hh).1
      have hv : w.heap[g] = .cells cur 5 (0, 0) := (Array.getElem?_eq_some_iff.1 hh).2
      simp only [World.setCell]
      rw [Array.getElem?_eq_getElem (by simpa using hlt), Array.getElem_modify]
      simp [hv]
    · rw [Array.toList_setIfInBounds, List.length_set, List.take_set, h4]
      simp [bys, List.map_set]

/-- 'append' of bytes, with word on what was touched. -/
theorem appT {ops : Array Oper} {rest : List Oper} {o : Oper} {a : Act} {Q : Exit → Act → World → Prop} {W : World} (B : Nat) (hgd : o.guard = none) (s x : Operand)
    (ho : o.op = .call { callee := .builtin .append, args := #[s, x], argTypes := #[22, 22] })
    (v : Value) (xs : List UInt8) (y : Value) (ys : List UInt8) (hs : a.eval s = v) (hx : a.eval x = y)
    (HO : Ob W B v xs) (hR : Bs W y ys) (hl : xs.length + ys.length ≤ 140737488355328) (hB : B ≤ W.heap.size)
    (h : ∀ v1 w1, Ob w1 B v1 (xs ++ ys) → W.grownBy w1 v.ownBlock → (v1.ownBlock = v.ownBlock ∨ ∃ b, v1.ownBlock = some b ∧ W.heap.size ≤ b) → Tch W w1 (bys ys) → Ob w1 B v xs → wpList Tryd.prog ops Q rest (a.put o.dst v1) w1) :
    wpList Tryd.prog ops Q (o :: rest) a W := by
  refine wpList_app B hgd s x 22 5 (.int .u8 0) 1 1 ho Tryd.underlying22 info_u8 rfl (by decide) v xs.length (bys xs) y ys.length (bys ys) hs hx HO hR (bys_one ys)
    (by simp only [maxLen]; omega) (by omega) hB ?_
  intro v1 w1 h1 h2 h3 h4 h5
  refine h v1 w1 ?_ h2 h3 h4 h5
  unfold Ob; rw [List.length_append, bys_append]; exact h1
theorem Bs.tch {w w' : World} {v : Value} {n : Nat} {m : UInt8} (h : Bs w v (List.replicate n m)) (ht : Tch w w' [byt m]) : Bs w' v (List.replicate n m) := by
  obtain ⟨A, c, e, hl, hn, hc, hr⟩ := h
  refine ⟨A, c, e, hl, hn, hc, fun j u hj => ?_⟩
  obtain ⟨b, o, e, h⟩ := hr j u hj
  refine ⟨b, o, e, ?_⟩
  have hu : u = byt m := by
    have := List.mem_of_getElem? hj
    simp only [bys, List.map_replicate, List.mem_replicate] at this
    exact this.2
  rcases ht _ _ h with h1 | ⟨y, hy, h1⟩
  · exact h1
  · rw [List.mem_singleton] at hy; rw [h1, hy, hu]
theorem Tch.mono {w w' : World} {ys zs : List Value} (h : Tch w w' ys) (hs : ∀ y ∈ ys, y ∈ zs) : Tch w w' zs := fun a u hu => (h a u hu).imp id fun ⟨y, hy, e⟩ => ⟨y, hs y hy, e⟩

/-- All blocks that were there and are not of S stand as they were. -/
structure Kp (w w' : World) (S : Nat → Prop) : Prop where
  os : w'.os = w.os
  tape : w'.tape = w.tape
  output : w'.output = w.output
  size : w.heap.size ≤ w'.heap.size
  block : ∀ k, k < w.heap.size → ¬ S k → w'.heap[k]? = w.heap[k]?
theorem Kp.refl (w : World) (S : Nat → Prop) : Kp w w S := ⟨rfl, rfl, rfl, Nat.le_refl _, fun _ _ _ => rfl⟩
theorem Kp.of_below {w w' : World} (h : Below w.heap.size w w') (S : Nat → Prop) : Kp w w' S := ⟨h.os, h.tape, h.output, h.size, fun k hk _ => h.block k hk⟩
theorem Kp.of_belowT {w w' : World} {T : Nat} (h : Below T w w') : Kp w w' (fun k => T ≤ k) := ⟨h.os, h.tape, h.output, h.size, fun k _ hs => h.block k (by omega)⟩
theorem Kp.of_grown {w w' : World} {r : Option Nat} (h : w.grownBy w' r) : Kp w w' (fun k => some k = r) := ⟨h.os, h.tape, h.output, h.size, fun k hk hs => h.block k hk hs⟩
theorem Kp.mono {w w' : World} {S S' : Nat → Prop} (h : Kp w w' S) (hs : ∀ k, S k → S' k) : Kp w w' S' := ⟨h.os, h.tape, h.output, h.size, fun k hk hn => h.block k hk (fun x => hn (hs k x))⟩
theorem Kp.trans {a b c : World} {S S' : Nat → Prop} (h : Kp a b S) (k : Kp b c S') (hs : ∀ x, x < a.heap.size → S' x → S x) : Kp a c S :=
  ⟨k.os.trans h.os, k.tape.trans h.tape, k.output.trans h.output, Nat.le_trans h.size k.size, fun x hx hn => (k.block x (Nat.lt_of_lt_of_le hx h.size) (fun e => hn (hs x hx e))).trans (h.block x hx hn)⟩
theorem Kp.below {w w' : World} {S : Nat → Prop} {T : Nat} (h : Kp w w' S) (hT : T ≤ w.heap.size) (hs : ∀ k, S k → T ≤ k) : Below T w w' :=
  ⟨h.os, h.tape, h.output, h.size, fun k hk => h.block k (by omega) (fun x => by have := hs k x; omega)⟩
theorem Kp.cell {w w' : World} {S : Nat → Prop} (h : Kp w w' S) {a : Addr} {v : Value} (hc : w.cell? a = some v) (hn : ¬ S a.block) : w'.cell? a = some v :=
  (World.cell?_of_block (w := w) (h.block _ (World.block_lt_of_cell? w a hc) hn)).trans hc
theorem Kp.set {w : World} (p : Addr) (v : Value) : Kp w (w.setCell p v) (fun k => k = p.block) := ⟨rfl, rfl, rfl, by simp [World.setCell], fun k _ hn => Below.heap_setCell _ _ _ _ hn⟩
theorem Kp.alloc (w : World) (o : Obj) (S : Nat → Prop) : Kp w (w.alloc o) S := Kp.of_below ((Below.refl _ w).alloc (Nat.le_refl _) o) S
theorem Rd.kp {w w' : World} {S : Nat → Prop} {sz n : Nat} {v : Value} {cs : List Value} (h : Rd w sz v n cs) (hk : Kp w w' S) (hn : ∀ k, v.ownBlock = some k → ¬ S k) : Rd w' sz v n cs := by
  obtain ⟨A, c, rfl, hl, hn', hc, hr⟩ := h
  refine ⟨A, c, rfl, hl, hn', hc, fun j u hj => ?_⟩
  obtain ⟨b, o, rfl, h⟩ := hr j u hj
  exact ⟨b, o, rfl, hk.cell h (hn b rfl)⟩
theorem Bs.kp {w w' : World} {S : Nat → Prop} {v : Value} {xs : List UInt8} (h : Bs w v xs) (hk : Kp w w' S) (hn : ∀ k, v.ownBlock = some k → ¬ S k) : Bs w' v xs := Rd.kp h hk hn
theorem own_kp {w w' : World} {S : Nat → Prop} {base : Nat} {e : TypeId} {size n : Nat} {v : Value} {xs : List Value} (h : w.ownsRow base e size v n xs) (hk : Kp w w' S) (hn : ∀ k, v.ownBlock = some k → ¬ S k) : w'.ownsRow base e size v n xs := by
  refine ⟨h.1, ?_⟩
  rcases h.2 with h2 | ⟨g, cap, cur, rfl, hb, hg, rest⟩
  · exact .inl h2
  · exact .inr ⟨g, cap, cur, rfl, hb, by rw [hk.block g (Array.getElem?_eq_some_iff.1 hg).1 (hn g rfl)]; exact hg, rest⟩

/-- Two slices at the head of one row: what keeps the longer one keeps the shorter. -/
theorem Ob.twin {w w1 : World} {B n n2 : Nat} {m : UInt8} {l s : Value} (hl : Ob w B l (List.replicate n m)) (hs : Ob w B s (List.replicate n2 m)) (he : l.ownBlock = s.ownBlock) (hn : n ≤ n2) (h1 : Ob w1 B s (List.replicate n2 m)) : Ob w1 B l (List.replicate n m) := by
  refine ⟨by simp [bys], ?_⟩
  rcases hl.2 with h | ⟨g, cap, cur, rfl, hb, hh, c1, c2, c3, c4⟩
  · exact .inl h
  · rcases hs.2 with ⟨rfl, _⟩ | ⟨g', cap', cur', rfl, hb', hh', d1, d2, d3, d4⟩
    · simp [Value.ownBlock] at he
    · simp only [Value.ownBlock] at he; injection he with he; subst he
      rw [hh] at hh'; injection hh' with hh'; injection hh' with hh' _ _; subst hh'
      rcases h1.2 with ⟨e, _⟩ | ⟨g2, cap2, cur2, e, hb2, hh2, e1, e2, e3, e4⟩
      · cases e
      · injection e with e _ e5; injection e with e; injection e with e _ _; subst e; subst e5
        refine .inr ⟨g, cap, cur2, rfl, hb, hh2, c1, c2, by omega, ?_⟩
        rw [List.length_replicate] at e4 ⊢
        have : cur2.toList.take (n * 1) = (cur2.toList.take (n2 * 1)).take (n * 1) := by rw [List.take_take]; congr 1; omega
        rw [this, e4]
        simp [bys, List.take_replicate]; omega
end Go.Proofs.YtfmlkagcmkbebaaDoor
