/- annalsref2.Name and annalsref3.label. -/
import Derived.Test.YtfmlkagcmkbebaaDoorTg
namespace Go.Proofs.YtfmlkagcmkbebaaDoor
open Go.RowKit

theorem rwithin_is {r lo hi : Int} {b : Bool} (h : Hid (betw r lo hi = b)) (w : World) : Calls Tryd.prog 138 #[.int .i64 r, .int .i64 lo, .int .i64 hi] w fun e w' => e = .returned (.bool b) ∧ w = w' := by
  have := rwithin_any r lo hi w; rw [h.out] at this; exact this
theorem rLetter_is {r : Int} {b : Bool} (h : Hid (letter r = b)) (w : World) (ht : TabN w) : Calls Tryd.prog 129 #[.int .i64 r] w fun e w' => e = .returned (.bool b) ∧ ∃ m, w' = w.drewN m := by
  have := rLetter_any r w ht; rw [h.out] at this; exact this

set_option maxRecDepth 100000 in
set_option maxHeartbeats 1000000 in
theorem rnameRune_any (r : Int) (w : World) (ht : TabN w) : Calls Tryd.prog 130 #[.int .i64 r] w fun e w' => e = .returned (.bool (inName r)) ∧ ∃ m, w' = w.drewN m := by
  have HT := Lib.hid ht
  clear ht
  cases hl : letter r with
  | true =>
    have e := Lib.hid (show inName r = true by unfold inName; rw [hl]; simp)
    have HL := Lib.hid hl
    clear hl
    go_enter Tryd.func130, Tryd.ntmps130
    go_wp2_with fail
    refine (rLetter_is HL _ HT.out).mono ?_
    rintro e w1 ⟨rfl, m, rfl⟩
    go_wp2_with fail
    go_ret
    exact ⟨by rw [e.out]; rfl, m, rfl⟩
  | false =>
    have e := Lib.hid (show inName r = (betw r 48 57 || r == 45 || r == 95 || r == 46) by unfold inName; rw [hl]; simp)
    have HL := Lib.hid hl
    clear hl
    cases hb : betw r 48 57 with
    | true =>
      have HB := Lib.hid hb
      have e1 := Lib.hid (show inName r = true by rw [e.out, hb]; simp)
      clear hb
      go_enter Tryd.func130, Tryd.ntmps130
      go_wp2_with fail
      refine (rLetter_is HL _ HT.out).mono ?_
      rintro e w1 ⟨rfl, m, rfl⟩
      go_wp2_with fail
      refine (rwithin_is HB _).mono ?_
      rintro e w1 ⟨rfl, rfl⟩
      go_wp2_with fail
      go_ret
      exact ⟨by rw [e1.out]; rfl, m, rfl⟩
    | false =>
      have HB := Lib.hid hb
      have e1 := Lib.hid (show inName r = (r == 45 || r == 95 || r == 46) by rw [e.out, hb]; simp)
      clear hb
      by_cases h4 : r = 45 ∨ r = 95 ∨ r = 46
      · have e2 := Lib.hid (show inName r = true by rw [e1.out]; rcases h4 with rfl | rfl | rfl <;> rfl)
        rcases h4 with rfl | rfl | rfl
        all_goals
          go_enter Tryd.func130, Tryd.ntmps130
          go_wp2_with fail
          refine (rLetter_is HL _ HT.out).mono ?_
          rintro e w1 ⟨rfl, m, rfl⟩
          go_wp2_with fail
          refine (rwithin_is HB _).mono ?_
          rintro e w1 ⟨rfl, rfl⟩
          go_wp2_with fail
          go_ret
          exact ⟨by rw [e2.out]; rfl, m, rfl⟩
      · have f2 : (r == 45) = false := by rw [beq_eq_false_iff_ne]; omega
        have f3 : (r == 95) = false := by rw [beq_eq_false_iff_ne]; omega
        have f4 : (r == 46) = false := by rw [beq_eq_false_iff_ne]; omega
        have e2 := Lib.hid (show inName r = false by rw [e1.out, f2, f3, f4]; rfl)
        clear h4
        go_enter Tryd.func130, Tryd.ntmps130
        go_wp2_with fail
        refine (rLetter_is HL _ HT.out).mono ?_
        rintro e w1 ⟨rfl, m, rfl⟩
        go_wp2_with fail
        refine (rwithin_is HB _).mono ?_
        rintro e w1 ⟨rfl, rfl⟩
        go_wp2_with fail
        go_ret
        exact ⟨by rw [e2.out]; rfl, m, rfl⟩
theorem rnameRune_is {r : Int} {b : Bool} (h : Hid (inName r = b)) (w : World) (ht : TabN w) : Calls Tryd.prog 130 #[.int .i64 r] w fun e w' => e = .returned (.bool b) ∧ ∃ m, w' = w.drewN m := by
  have := rnameRune_any r w ht; rw [h.out] at this; exact this

theorem letter_below {r : Int} (h : r < 0) : letter r = false := by
  cases hl : letter r with
  | false => rfl
  | true => obtain ⟨i, hi, hb⟩ := (letter_eq r).1 hl; simp [betw] at hb; omega
theorem inName_below {r : Int} (h : r < 0) : inName r = false := by
  unfold inName
  have e1 : betw r 48 57 = false := by cases h2 : betw r 48 57 with | false => rfl | true => simp [betw] at h2; omega
  have e2 : (r == 45) = false := by rw [beq_eq_false_iff_ne]; omega
  have e3 : (r == 95) = false := by rw [beq_eq_false_iff_ne]; omega
  have e4 : (r == 46) = false := by rw [beq_eq_false_iff_ne]; omega
  rw [e1, e2, e3, e4, letter_below h]; rfl
theorem Opc.below {w w' : World} {B : Nat} {v : Value} {l : List (Int × Nat × Nat)} (h : Opc w B v l) (hb : Below w.heap.size w w') : Opc w' B v l := own_below h hb

set_option maxRecDepth 100000 in
set_option maxHeartbeats 2000000 in
theorem rName_any (s : ByteArray) (hs : s.size ≤ 1099511627776) (w : World) (ht : TabN w) : Calls Tryd.prog 118 #[.string s] w (NameSaid s w) := by
  have HT := Lib.hid ht
  clear ht
  go_enter Tryd.func118, Tryd.ntmps118
  go_wp2_with fail
  refine (rPieces_any s hs w).mono ?_
  rintro e w1 ⟨v, rfl, HO, HB⟩
  have hN := Lib.hid (show nameOk s = nameL (piecesF s s.size 0) 0 from (nameL_pieces s s.size 0 0).symm)
  generalize piecesF s s.size 0 = L at HO hN
  obtain ⟨A, c, rfl⟩ := HO.slice
  have HO1 := Lib.hid HO
  have hlm : L.length ≤ 9223372036854775807 := by have := HO; obtain ⟨A9, c9, e9, _, h1, h2, _⟩ := Rd.of_own this; injection e9 with _ e91 _; unfold maxLen at h2; omega
  clear HO
  have s1 := HB.size
  by_cases h0 : L.length = 0
  · have hno := Lib.hid (show nameOk s = false by rw [hN.out, List.eq_nil_of_length_eq_zero h0]; rfl)
    have h1 : ((L.length : Int) == 0) = true := by rw [beq_iff_eq]; omega
    clear h0
    go_wp2_with fail
    go_ret2
    exact ⟨_, _, rfl, by rw [hno.out]; simp, HB⟩
  · have h1 : ((L.length : Int) == 0) = false := by rw [beq_eq_false_iff_ne]; omega
    go_wp2_with fail
    go_loopw [5] (fun i wr => ∃ k : Nat, k ≤ L.length ∧ i = .int .i64 (k : Int) ∧ nameL (L.drop k) k = nameOk s ∧ Below w1.heap.size w1 wr) (fun i _ => L.length - (intOf i).toNat)
    case atStart => exact ⟨0, Nat.zero_le _, rfl, by rw [hN.out]; rfl, Below.refl _ _⟩
    case round =>
      obtain ⟨k, hk, rfl, hnl, hb⟩ := hrel
      have HBr := HB.trans (hb.mono s1)
      have sr := hb.size
      by_cases hlt : k < L.length
      · obtain ⟨g, rfl, c0, c1, c2⟩ := (HO1.out.below hb).cells hlt
        have hst : nameOk s = (decide (k < 48) && inName (L[k]'hlt).1 && (decide (0 < k) || letter (L[k]'hlt).1) && nameL (L.drop (k + 1)) (k + 1)) := by
          rw [← hnl, List.drop_eq_getElem_cons hlt]; rfl
        generalize (L[k]'hlt).1 = r at *
        generalize (L[k]'hlt).2.1 = p at *
        generalize (L[k]'hlt).2.2 = n at *
        have HST := Lib.hid hst
        clear hst hnl
        have HT1 : Hid (TabN (wr.alloc (.cells #[.int .i64 r, .int .i64 (p : Int), .int .i64 (n : Int)] 192))) := Lib.hid (HT.out.below (HBr.alloc (by omega) _))
        have HBr1 := HBr.alloc (by omega) (.cells #[.int .i64 r, .int .i64 (p : Int), .int .i64 (n : Int)] 192)
        have hbr1 := hb.alloc sr (.cells #[.int .i64 r, .int .i64 (p : Int), .int .i64 (n : Int)] 192)
        by_cases hk48 : 48 ≤ k
        · have hno := Lib.hid (show nameOk s = false by rw [HST.out, decide_eq_false (by omega)]; rfl)
          have hk5 : (48 : Int) ≤ k := by omega
          go_wp2_with fail
          go_quiet (fail)
          go_wp2_with fail
          go_ret2
          exact ⟨_, _, rfl, by rw [hno.out]; simp, HBr1.trans (below_drewN _ _)⟩
        · have hk5 : ¬ (48 : Int) ≤ k := by omega
          by_cases hr0 : r < 0
          · have hno := Lib.hid (show nameOk s = false by rw [HST.out, inName_below hr0]; simp)
            go_wp2_with fail
            go_quiet (fail)
            go_wp2_with fail
            go_ret2
            exact ⟨_, _, rfl, by rw [hno.out]; simp, HBr1.trans (below_drewN _ _)⟩
          · by_cases hk0 : k = 0
            · subst hk0
              cases hl : letter r with
              | false =>
                have hno := Lib.hid (show nameOk s = false by rw [HST.out, hl]; simp)
                have HL := Lib.hid hl
                clear hl
                go_wp2_with fail
                refine (rLetter_is HL _ HT1.out).mono ?_
                rintro e w2 ⟨rfl, m, rfl⟩
                go_wp2_with fail
                go_quiet (fail)
                go_wp2_with fail
                go_ret2
                exact ⟨_, _, rfl, by rw [hno.out]; simp, (HBr1.trans (below_drewN _ _)).trans (below_drewN _ _)⟩
              | true =>
                have hi := Lib.hid (show inName r = true by unfold inName; rw [hl]; simp)
                have HL := Lib.hid hl
                clear hl
                go_wp2_with fail
                refine (rLetter_is HL _ HT1.out).mono ?_
                rintro e w2 ⟨rfl, m, rfl⟩
                go_wp2_with fail
                refine (rnameRune_is hi _ (HT1.out.below (below_drewN _ _))).mono ?_
                rintro e w3 ⟨rfl, m3, rfl⟩
                go_wp2_with fail
                go_roundw
                case rel => exact ⟨1, by omega, rfl, by rw [HST.out, hi.out, HL.out]; rfl, hbr1.trans (below_drewN _ _)⟩
                case measure => simp [intOf]; omega
            · have hk1 : ((k : Int) == 0) = false := by rw [beq_eq_false_iff_ne]; omega
              cases hi0 : inName r with
              | false =>
                have hno := Lib.hid (show nameOk s = false by rw [HST.out, hi0]; simp)
                have hi := Lib.hid hi0
                clear hi0
                go_wp2_with fail
                refine (rnameRune_is hi _ HT1.out).mono ?_
                rintro e w2 ⟨rfl, m, rfl⟩
                go_wp2_with fail
                go_quiet (fail)
                go_wp2_with fail
                go_ret2
                exact ⟨_, _, rfl, by rw [hno.out]; simp, (HBr1.trans (below_drewN _ _)).trans (below_drewN _ _)⟩
              | true =>
                have hi := Lib.hid hi0
                clear hi0
                go_wp2_with fail
                refine (rnameRune_is hi _ HT1.out).mono ?_
                rintro e w2 ⟨rfl, m, rfl⟩
                go_wp2_with fail
                go_roundw
                case rel => exact ⟨k + 1, by omega, by go_num, by rw [HST.out, hi.out, decide_eq_true (by omega : k < 48), decide_eq_true (by omega : 0 < k)]; rfl, hbr1.trans (below_drewN _ _)⟩
                case measure => simp [intOf]; omega
      · obtain rfl : k = L.length := by omega
        have hyes := Lib.hid (show nameOk s = true by rw [← hnl, List.drop_length]; exact decide_eq_true (by omega))
        clear hnl
        go_wp2_with fail
        go_ret2
        exact ⟨_, _, rfl, by rw [hyes.out]; simp, HBr⟩

set_option maxRecDepth 100000 in
theorem rlabel_any (s : ByteArray) (hs : s.size ≤ 1099511627776) (w : World) (ht : TabN w) : Calls Tryd.prog 94 #[.string s] w fun e w' => e = .returned (.int .i64 (labelC s)) ∧ Below w.heap.size w w' := by
  have HT := Lib.hid ht
  clear ht
  go_enter Tryd.func94, Tryd.ntmps94
  go_wp2_with fail
  refine (rName_any s hs w HT.out).mono ?_
  rintro e w1 ⟨c, p, rfl, hc, hb⟩
  by_cases h0 : c = 0
  · have hl := Lib.hid (show labelC s = 0 by unfold labelC; rw [if_pos (hc.1 h0)])
    subst h0
    clear hc
    go_wp2_with fail
    go_ret
    exact ⟨by rw [hl.out]; rfl, hb⟩
  · have hl := Lib.hid (show labelC s = 35 by unfold labelC; rw [if_neg (fun h => h0 (hc.2 h))])
    have h1 : (c != 0) = true := by rw [bne_iff_ne]; exact h0
    clear hc
    go_wp2_with fail
    go_ret
    exact ⟨by rw [hl.out]; rfl, hb⟩
end Go.Proofs.YtfmlkagcmkbebaaDoor
