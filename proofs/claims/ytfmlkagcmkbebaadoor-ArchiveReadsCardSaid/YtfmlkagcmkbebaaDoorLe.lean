/- The statements' Book: lists that were handed out, each full of a mark of its own. -/
import Derived.Test.YtfmlkagcmkbebaaDoorLh
namespace Go.Proofs.YtfmlkagcmkbebaaDoor
open Go.RowKit

set_option maxRecDepth 100000 in
set_option maxHeartbeats 400000 in
theorem longer_any (l : Value) (n B : Nat) (m : UInt8) (hn : n ≤ 1099511627776) (w : World) (HO : Ob w B l (List.replicate n m)) (hB : B ≤ w.heap.size) :
    Calls Tryd.prog 42 #[l, .int .u8 (m.toNat : Int)] w fun e w' => ∃ v, e = .returned v ∧ Ob w' B v (List.replicate (n + 200) m) ∧ w.grownBy w' l.ownBlock ∧ Tch w w' [byt m] ∧
      (v.ownBlock = l.ownBlock ∨ ∃ b, v.ownBlock = some b ∧ w.heap.size ≤ b) ∧ Ob w' B l (List.replicate n m) := by
  have hmb := m.toNat_lt
  go_enter Tryd.func42, Tryd.ntmps42
  go_wp2
  go_loopw [0, 5] (fun s i wr => ∃ k : Nat, k ≤ 200 ∧ i = .int .i64 k ∧ Ob wr B s (List.replicate (n + k) m) ∧ w.grownBy wr l.ownBlock ∧ Tch w wr [byt m] ∧ (s.ownBlock = l.ownBlock ∨ ∃ b, s.ownBlock = some b ∧ w.heap.size ≤ b) ∧ Ob wr B l (List.replicate n m)) (fun _ i _ => 200 - (intOf i).toNat)
  case atStart => exact ⟨0, Nat.zero_le _, rfl, HO, grownBy_refl _ _, Tch.refl _ _, .inl rfl, HO⟩
  case round =>
    obtain ⟨k, hk, rfl, HO1, hg1, ht1, hb1, HL⟩ := hrel
    have hsz := hg1.size
    have HB1 := Lib.hid hb1
    clear hb1
    by_cases hlt : k < 200
    · have hl1 : (List.replicate (n + k) m).length = n + k := List.length_replicate
      have HL1 := Lib.hid hl1
      clear hl1
      go_wp2_with (at_builtin; refine appT B rfl _ _ rfl _ (List.replicate (n + k) m) _ [m] rfl rfl (HO1.below ((Below.refl _ _).alloc (Nat.le_refl _) _)) (Bs.lit _ _ [m] (by rfl) (by simp)) (by rw [HL1.out]; simp only [List.length_cons, List.length_nil]; omega) (by simp; omega) ?_; intro v1 w1 HO2 hg2 hb2 ht2 HS2; have HB2 := Lib.hid hb2; clear hb2)
      go_roundw
      case rel =>
        refine ⟨k + 1, by omega, by go_num, by rw [← Nat.add_assoc, List.replicate_succ']; exact HO2, grownBy_chain (hg1.trans (World.grownBy_alloc _ _ _)) hg2 ?_, (ht1.trans (Tch.of_below ((Below.refl _ _).alloc (Nat.le_refl _) _) _)).trans ht2, ?_, ?_⟩
        · intro x hx
          rcases HB1.out with e | ⟨b, e, hb⟩
          · exact .inl (e.symm.trans hx)
          · have hx' : some b = some x := e.symm.trans hx
            injection hx' with hx'; exact .inr (by omega)
        · rcases HB2.out with e | ⟨b, e, hb⟩
          · rcases HB1.out with e1 | ⟨b, e1, hb⟩
            · exact .inl (e.trans e1)
            · exact .inr ⟨b, e.trans e1, hb⟩
          · exact .inr ⟨b, e, by simp at hb; omega⟩
        · have HLa := HL.below ((Below.refl _ wr).alloc (Nat.le_refl _) (.cells #[.int .u8 (m.toNat : Int)] 5))
          have HOa := HO1.below ((Below.refl _ wr).alloc (Nat.le_refl _) (.cells #[.int .u8 (m.toNat : Int)] 5))
          rcases HB1.out with e | ⟨b, e, hb⟩
          · exact HLa.twin HOa e.symm (by omega) HS2
          · refine own_kp HLa (Kp.of_grown hg2) (fun x hx hx2 => ?_)
            have hx3 : some x = some b := hx2.trans e
            injection hx3 with hx3
            have hltl := (HO.lt x hx).2
            omega
      case measure => simp [intOf]; omega
    · obtain rfl : k = 200 := by omega
      go_wp2
      go_ret
      exact ⟨_, rfl, HO1, hg1, ht1, HB1.out, HL⟩

/-- The Book at block bk: its lists, each full of its mark, all in blocks below T, apart from the Book's own. -/
structure Book1 (w : World) (bk T : Nat) (vL vM : Value) (L : List Value) (M : List UInt8) : Prop where
  blk : w.heap[bk]? = some (.cells #[vL, vM] 29 (0, 0))
  lt : bk < T
  ownL : w.ownsRow (bk + 1) 22 1 vL L.length L
  ownM : Ob w (bk + 1) vM M
  ltL : ∀ k, vL.ownBlock = some k → k < T
  ltM : ∀ k, vM.ownBlock = some k → k < T
  len : L.length = M.length
  each : ∀ (i : Nat) (u : Value) (m : UInt8), L[i]? = some u → M[i]? = some m → ∃ n, n ≤ 1099511627776 ∧ Bs w u (List.replicate n m)
  apart : ∀ u, u ∈ L → ∀ k, u.ownBlock = some k → k < T ∧ k ≠ bk ∧ some k ≠ vL.ownBlock ∧ some k ≠ vM.ownBlock
/-- The Book's own blocks. -/
def Foot (bk : Nat) (vL vM : Value) (k : Nat) : Prop := k = bk ∨ some k = vL.ownBlock ∨ some k = vM.ownBlock

theorem Book1.kp {w w' : World} {S : Nat → Prop} {bk T : Nat} {vL vM : Value} {L : List Value} {M : List UInt8} (h : Book1 w bk T vL vM L M) (hT : T ≤ w.heap.size) (hk : Kp w w' S) (hs : ∀ k, k < T → ¬ S k) : Book1 w' bk T vL vM L M where
  blk := by rw [hk.block bk (by have := h.lt; omega) (hs bk h.lt)]; exact h.blk
  lt := h.lt
  ownL := own_kp h.ownL hk (fun k e => hs k (h.ltL k e))
  ownM := own_kp h.ownM hk (fun k e => hs k (h.ltM k e))
  ltL := h.ltL
  ltM := h.ltM
  len := h.len
  each := fun i u m a b => by
    obtain ⟨n, hn, hb⟩ := h.each i u m a b
    exact ⟨n, hn, hb.kp hk (fun k e => hs k (h.apart u (List.mem_of_getElem? a) k e).1)⟩
  apart := h.apart
theorem Book1.mono {w : World} {bk T T' : Nat} {vL vM : Value} {L : List Value} {M : List UInt8} (h : Book1 w bk T vL vM L M) (hT : T ≤ T') : Book1 w bk T' vL vM L M where
  blk := h.blk
  lt := by have := h.lt; omega
  ownL := h.ownL
  ownM := h.ownM
  ltL := fun k e => by have := h.ltL k e; omega
  ltM := fun k e => by have := h.ltM k e; omega
  len := h.len
  each := h.each
  apart := fun u hu k e => by have := h.apart u hu k e; exact ⟨by omega, this.2⟩
theorem Book1.below {w w' : World} {bk T : Nat} {vL vM : Value} {L : List Value} {M : List UInt8} (h : Book1 w bk T vL vM L M) (hT : T ≤ w.heap.size) (hk : Below T w w') : Book1 w' bk T vL vM L M :=
  h.kp hT (Kp.of_belowT hk) (fun k hk => by omega)


/-- (*Book).take: the bytes are written full of a mark, and kept in four lengths. -/
def Took (w : World) (bk : Nat) (vL vM l : Value) (L : List Value) (w' : World) : Prop :=
  ∃ vL' vM' L' M', Book1 w' bk w'.heap.size vL' vM' L' M' ∧ L'.length = L.length + 4 ∧
    Kp w w' (fun k => Foot bk vL vM k ∨ some k = l.ownBlock) ∧ (∀ k, Foot bk vL' vM' k → Foot bk vL vM k ∨ w.heap.size ≤ k) ∧
    ∀ u, u ∈ L' → u ∈ L ∨ ∀ k, u.ownBlock = some k → some k = l.ownBlock ∨ w.heap.size ≤ k

end Go.Proofs.YtfmlkagcmkbebaaDoor
