/- annalsref2: letters, pieces and names, walked. -/
import Derived.Test.YtfmlkagcmkbebaaDoorTe
import Derived.Test.YtfmlkagcmkbebaaDoorTc
import Derived.Laws.ResultCell
namespace Go.Proofs.YtfmlkagcmkbebaaDoor
open Go.RowKit

/-- The letters of annalsref2, as they are laid. -/
def TabN (w : World) : Prop := ∀ i (h : i < 22), w.cell? ⟨4, i * 2, none⟩ = some (.int .i64 ((lettersTab[i]'h).1 : Int)) ∧ w.cell? ⟨4, i * 2 + 1, none⟩ = some (.int .i64 ((lettersTab[i]'h).2 : Int))
theorem TabN.below {w w' : World} (h : TabN w) (hb : Below w.heap.size w w') : TabN w' := fun i hi => by
  obtain ⟨h1, h2⟩ := h i hi
  exact ⟨(hb.cell (World.block_lt_of_cell? w _ h1)).trans h1, (hb.cell (World.block_lt_of_cell? w _ h2)).trans h2⟩

set_option maxRecDepth 100000 in
theorem rwithin_any (r lo hi : Int) (w : World) : Calls Tryd.prog 138 #[.int .i64 r, .int .i64 lo, .int .i64 hi] w fun e w' => e = .returned (.bool (betw r lo hi)) ∧ w = w' := by
  by_cases h1 : lo ≤ r
  · by_cases h2 : r ≤ hi
    · have e : betw r lo hi = true := by simp [betw, h1, h2]
      rw [e]
      go_enter Tryd.func138, Tryd.ntmps138
      go_wp2
      go_ret
      exact ⟨rfl, rfl⟩
    · have e : betw r lo hi = false := by simp [betw, h2]
      rw [e]
      go_enter Tryd.func138, Tryd.ntmps138
      go_wp2
      go_ret
      exact ⟨rfl, rfl⟩
  · have e : betw r lo hi = false := by simp [betw, h1]
    rw [e]
    go_enter Tryd.func138, Tryd.ntmps138
    go_wp2
    go_ret
    exact ⟨rfl, rfl⟩

theorem q_rwithin {r lo hi : Int} {b : Bool} {w : World} {n : Nat} (h : Hid (betw r lo hi = b)) : Calls Tryd.prog 138 #[.int .i64 r, .int .i64 lo, .int .i64 hi] (w.drewN n) fun e w'' => e = .returned (.bool b) ∧ ∃ m, w'' = w.drewN m :=
  q_same (by have := rwithin_any r lo hi (w.drewN n); rw [h.out] at this; exact this)
set_option maxRecDepth 100000 in
set_option maxHeartbeats 1000000 in
theorem rLetter_any (r : Int) (w : World) (ht : TabN w) : Calls Tryd.prog 129 #[.int .i64 r] w fun e w' => e = .returned (.bool (letter r)) ∧ ∃ m, w' = w.drewN m := by
  have HT := Lib.hid ht
  clear ht
  go_enter Tryd.func129, Tryd.ntmps129
  go_wp2
  go_loopw [3] (fun i wr => ∃ k m : Nat, k ≤ 22 ∧ i = .int .i64 k ∧ wr = w.drewN m ∧ ∀ j (h : j < 22), j < k → betw r ((lettersTab[j]'h).1 : Int) ((lettersTab[j]'h).2 : Int) = false) (fun i _ => 22 - (intOf i).toNat)
  case atStart => exact ⟨0, 0, by omega, rfl, rfl, fun j _ h => by omega⟩
  case round =>
    obtain ⟨k, m, hk, rfl, hwr, hj⟩ := hrel
    have HTR : Hid (TabN wr) := Lib.hid (by rw [hwr]; exact HT.out)
    have HWR := Lib.hid hwr
    clear hwr
    have HJ := Lib.hid hj
    clear hj
    by_cases hlt : k < 22
    · obtain ⟨c1, c2⟩ := HTR.out k hlt
      have hk0 : (0 : Int) ≤ (k : Int) := by omega
      have hk1 : (k : Int) < 22 := by omega
      generalize hlo : (lettersTab[k]'hlt).1 = lo at c1
      generalize hhi : (lettersTab[k]'hlt).2 = hi at c2
      have HLO := Lib.hid hlo
      have HHI := Lib.hid hhi
      clear hlo hhi
      cases hbw : betw r (lo : Int) (hi : Int) with
      | true =>
        have hl : letter r = true := (letter_eq r).2 ⟨k, hlt, by rw [HLO.out, HHI.out]; exact hbw⟩
        have HL := Lib.hid hl
        clear hl
        have HBW := Lib.hid hbw
        clear hbw
        go_wp2_with fail
        go_quiet ((go_at_call 138; exact q_rwithin HBW))
        go_wp2_with fail
        go_ret
        exact ⟨by rw [HL.out]; rfl, _, by rw [HWR.out, World.drewN_drewN]⟩
      | false =>
        have HBW := Lib.hid hbw
        clear hbw
        go_wp2_with fail
        go_quiet ((go_at_call 138; exact q_rwithin HBW))
        go_wp2_with fail
        go_roundw
        case rel =>
          refine ⟨k + 1, m + nq, by omega, by go_num, by rw [HWR.out, World.drewN_drewN], fun j h hjk => ?_⟩
          rcases Nat.lt_or_eq_of_le (Nat.le_of_lt_succ hjk) with h1 | h1
          · exact HJ.out j h h1
          · subst h1; rw [HLO.out, HHI.out]; exact HBW.out
        case measure => simp [intOf]; omega
    · obtain rfl : k = 22 := by omega
      have hl : letter r = false := by
        cases h : letter r with
        | false => rfl
        | true => obtain ⟨i, hi, hb⟩ := (letter_eq r).1 h; rw [HJ.out i hi hi] at hb; cases hb
      have HL := Lib.hid hl
      clear hl
      go_wp2_with fail
      go_ret
      exact ⟨by rw [HL.out]; rfl, m, HWR.out⟩


end Go.Proofs.YtfmlkagcmkbebaaDoor
