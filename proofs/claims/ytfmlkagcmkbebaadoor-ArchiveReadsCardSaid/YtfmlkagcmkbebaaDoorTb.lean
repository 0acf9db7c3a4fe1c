/- text: letters and names, walked. -/
import Derived.Test.YtfmlkagcmkbebaaDoorTa
import Derived.Test.YtfmlkagcmkbebaaDoorSh
import Derived.WalkSpells
import Derived.WalkKit
import Derived.Below
import Derived.Lib.Hide
import Derived.Deep.QuietTactic
import Derived.BigQuiet
namespace Go.Proofs.YtfmlkagcmkbebaaDoor
open Go.RowKit

/-- The letters of package text, as they are laid. -/
def TabT (w : World) : Prop := ∀ i (h : i < 22), w.cell? ⟨5, i * 2, none⟩ = some (.int .i32 ((lettersTab[i]'h).1 : Int)) ∧ w.cell? ⟨5, i * 2 + 1, none⟩ = some (.int .i32 ((lettersTab[i]'h).2 : Int))

set_option maxRecDepth 100000 in
theorem from_any (r lo hi : Int) (w : World) : Calls Tryd.prog 140 #[.int .i32 r, .int .i32 lo, .int .i32 hi] w fun e w' => e = .returned (.bool (betw r lo hi)) ∧ w = w' := by
  by_cases h1 : lo ≤ r
  · by_cases h2 : r ≤ hi
    · have e : betw r lo hi = true := by simp [betw, h1, h2]
      rw [e]
      go_enter Tryd.func140, Tryd.ntmps140
      go_wp2
      go_ret
      exact ⟨rfl, rfl⟩
    · have e : betw r lo hi = false := by simp [betw, h2]
      rw [e]
      go_enter Tryd.func140, Tryd.ntmps140
      go_wp2
      go_ret
      exact ⟨rfl, rfl⟩
  · have e : betw r lo hi = false := by simp [betw, h1]
    rw [e]
    go_enter Tryd.func140, Tryd.ntmps140
    go_wp2
    go_ret
    exact ⟨rfl, rfl⟩

/-- A callee that leaves the world as it is, in a region that only reads. -/
theorem q_same {P : Program} {f : FuncId} {args : Array Value} {w : World} {n : Nat} {v : Value} (h : Calls P f args (w.drewN n) fun e w' => e = .returned v ∧ w.drewN n = w') : Calls P f args (w.drewN n) fun e w'' => e = .returned v ∧ ∃ m, w'' = w.drewN m :=
  h.mono fun _ _ ⟨he, hm⟩ => ⟨he, n, hm.symm⟩
theorem q_from {r lo hi : Int} {b : Bool} {w : World} {n : Nat} (h : Hid (betw r lo hi = b)) : Calls Tryd.prog 140 #[.int .i32 r, .int .i32 lo, .int .i32 hi] (w.drewN n) fun e w'' => e = .returned (.bool b) ∧ ∃ m, w'' = w.drewN m :=
  q_same (by have := from_any r lo hi (w.drewN n); rw [h.out] at this; exact this)
theorem letter_eq (r : Int) : letter r = true ↔ ∃ i, ∃ h : i < 22, betw r ((lettersTab[i]'h).1 : Int) ((lettersTab[i]'h).2 : Int) = true := by
  unfold letter
  rw [List.any_eq_true]
  constructor
  · rintro ⟨x, hx, hb⟩
    obtain ⟨i, hi, rfl⟩ := List.getElem_of_mem hx
    exact ⟨i, hi, hb⟩
  · rintro ⟨i, hi, hb⟩
    exact ⟨_, List.getElem_mem hi, hb⟩

set_option maxRecDepth 100000 in
set_option maxHeartbeats 1000000 in
theorem Letter_any (r : Int) (w : World) (ht : TabT w) : Calls Tryd.prog 133 #[.int .i32 r] w fun e w' => e = .returned (.bool (letter r)) ∧ ∃ m, w' = w.drewN m := by
  have HT := Lib.hid ht
  clear ht
  go_enter Tryd.func133, Tryd.ntmps133
  go_wp2
  go_loopw [3, 4] (fun _ i wr => ∃ k m : Nat, k ≤ 22 ∧ i = .int .i64 k ∧ wr = w.drewN m ∧ ∀ j (h : j < 22), j < k → betw r ((lettersTab[j]'h).1 : Int) ((lettersTab[j]'h).2 : Int) = false) (fun _ i _ => 22 - (intOf i).toNat)
  case atStart => exact ⟨0, 0, by omega, rfl, rfl, fun j _ h => by omega⟩
  case round =>
    obtain ⟨k, m, hk, rfl, hwr, hj⟩ := hrel
    have HTR : Hid (TabT wr) := Lib.hid (by rw [hwr]; exact HT.out)
    have HWR := Lib.hid hwr
    clear hwr
    have HJ := Lib.hid hj
    clear hj
    by_cases hlt : k < 22
    · obtain ⟨c1, c2⟩ := HTR.out k hlt
      have hk0 : (0 : Int) ≤ (k : Int) := by omega
      have hk1 : (k : Int) < 22 := by omega
      generalize hlo : (lettersTab[k]'hlt).1 = lo at c1
      generalize hhi : (lettersTab[k]'hlt).2 = hi at c2
      have HLO := Lib.hid hlo
      have HHI := Lib.hid hhi
      clear hlo hhi
      cases hbw : betw r (lo : Int) (hi : Int) with
      | true =>
        have hl : letter r = true := (letter_eq r).2 ⟨k, hlt, by rw [HLO.out, HHI.out]; exact hbw⟩
        have HL := Lib.hid hl
        clear hl
        have HBW := Lib.hid hbw
        clear hbw
        go_wp2_with fail
        go_quiet ((go_at_call 140; exact q_from HBW))
        go_wp2_with fail
        go_ret
        exact ⟨by rw [HL.out]; rfl, _, by rw [HWR.out, World.drewN_drewN]⟩
      | false =>
        have HBW := Lib.hid hbw
        clear hbw
        go_wp2_with fail
        go_quiet ((go_at_call 140; exact q_from HBW))
        go_wp2_with fail
        go_roundw
        case rel =>
          refine ⟨k + 1, m + nq, by omega, by go_num, by rw [HWR.out, World.drewN_drewN], fun j h hjk => ?_⟩
          rcases Nat.lt_or_eq_of_le (Nat.le_of_lt_succ hjk) with h1 | h1
          · exact HJ.out j h h1
          · subst h1; rw [HLO.out, HHI.out]; exact HBW.out
        case measure => simp [intOf]; omega
    · obtain rfl : k = 22 := by omega
      have hl : letter r = false := by
        cases h : letter r with
        | false => rfl
        | true => obtain ⟨i, hi, hb⟩ := (letter_eq r).1 h; rw [HJ.out i hi hi] at hb; cases hb
      have HL := Lib.hid hl
      clear hl
      go_wp2_with fail
      go_ret
      exact ⟨by rw [HL.out]; rfl, m, HWR.out⟩

set_option maxRecDepth 100000 in
set_option maxHeartbeats 1000000 in
theorem inName_any (r : Int) (w : World) (ht : TabT w) : Calls Tryd.prog 132 #[.int .i32 r] w fun e w' => e = .returned (.bool (inName r)) ∧ ∃ m, w' = w.drewN m := by
  have HT := Lib.hid ht
  clear ht
  have hyes : inName r = true → betw r 48 57 = true ∨ (r == 45) = true ∨ (r == 95) = true ∨ (r == 46) = true ∨ inName r = letter r := fun h => by
    unfold inName at *; cases betw r 48 57 <;> cases (r == 45) <;> cases (r == 95) <;> cases (r == 46) <;> simp_all
  by_cases h1 : 48 ≤ r ∧ r ≤ 57
  · have e := Lib.hid (show inName r = true by simp [inName, betw, h1.1, h1.2])
    obtain ⟨h2, h3⟩ := h1
    clear hyes
    go_enter Tryd.func132, Tryd.ntmps132
    go_wp2
    go_ret
    exact ⟨by rw [e.out]; rfl, 0, rfl⟩
  · by_cases h4 : r = 45 ∨ r = 95 ∨ r = 46
    · have e := Lib.hid (show inName r = true by rcases h4 with rfl | rfl | rfl <;> decide)
      clear hyes h1
      rcases h4 with rfl | rfl | rfl
      all_goals
        go_enter Tryd.func132, Tryd.ntmps132
        go_wp2
        go_ret
        exact ⟨by rw [e.out]; rfl, 0, rfl⟩
    · have e := Lib.hid (show inName r = letter r by
        have e1 : betw r 48 57 = false := by cases h : betw r 48 57 with | false => rfl | true => simp [betw] at h; omega
        have e2 : (r == 45) = false := by rw [beq_eq_false_iff_ne]; omega
        have e3 : (r == 95) = false := by rw [beq_eq_false_iff_ne]; omega
        have e4 : (r == 46) = false := by rw [beq_eq_false_iff_ne]; omega
        simp [inName, e1, e2, e3, e4])
      clear hyes
      have e2 : (r == 45) = false := by rw [beq_eq_false_iff_ne]; omega
      have e3 : (r == 95) = false := by rw [beq_eq_false_iff_ne]; omega
      have e4 : (r == 46) = false := by rw [beq_eq_false_iff_ne]; omega
      by_cases h5 : 48 ≤ r
      · have h6 : ¬ r ≤ 57 := by omega
        clear h1 h4
        go_enter Tryd.func132, Tryd.ntmps132
        go_wp2_with fail
        refine (Letter_any r _ HT.out).mono ?_
        rintro e w1 ⟨rfl, m, rfl⟩
        go_wp2_with fail
        go_ret
        exact ⟨by rw [e.out]; rfl, m, rfl⟩
      · clear h1 h4
        go_enter Tryd.func132, Tryd.ntmps132
        go_wp2_with fail
        refine (Letter_any r _ HT.out).mono ?_
        rintro e w1 ⟨rfl, m, rfl⟩
        go_wp2_with fail
        go_ret
        exact ⟨by rw [e.out]; rfl, m, rfl⟩

/-- The decoder's tables, as they are laid. -/
def TabU (w : World) : Prop := Lib.Utf8Tabs 6 7 w

set_option maxRecDepth 100000 in
theorem stray_any (s : ByteArray) (i : Nat) (r : Int) (hi : i ≤ s.size) (hs : s.size ≤ maxLen) (w : World) (ht : TabU w) : Calls Tryd.prog 131 #[.string s, .int .i64 (i : Int), .int .i32 r] w fun e w' => ∃ b, e = .returned (.bool b) ∧ Below w.heap.size w w' ∧ (r ≠ 65533 → b = false ∧ w = w') := by
  have HT := Lib.hid ht
  clear ht
  unfold maxLen at hs
  by_cases h1 : r = 65533
  · subst h1
    go_enter Tryd.func131, Tryd.ntmps131
    go_wp2_with fail
    refine (utf8_DecodeRuneInString _ _ HT.out).mono ?_
    rintro e w1 ⟨rfl, HB⟩
    go_wp2_with fail
    go_ret
    exact ⟨_, rfl, HB, fun h => absurd rfl h⟩
  · have h2 : (r != 65533) = true := by rw [bne_iff_ne]; exact h1
    go_enter Tryd.func131, Tryd.ntmps131
    go_wp2_with fail
    go_ret
    exact ⟨_, rfl, Below.refl _ _, fun _ => ⟨rfl, rfl⟩⟩
end Go.Proofs.YtfmlkagcmkbebaaDoor
