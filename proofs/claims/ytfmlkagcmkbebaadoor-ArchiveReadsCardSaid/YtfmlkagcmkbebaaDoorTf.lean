/- annalsref2: pieces. -/
import Derived.Test.YtfmlkagcmkbebaaDoorTd
import Derived.Deep.DeepCutAuto
import Derived.Deep.CutBlock
namespace Go.Proofs.YtfmlkagcmkbebaaDoor
open Go.RowKit

theorem idx_b0 {s : ByteArray} {i : Nat} (h : i < s.size) : (s[i]'h).toNat = b0 s i := by
  unfold b0
  rw [← Go.get_at s i h]; rfl

theorem acc_step (s : ByteArray) (i r0 k : Nat) : acc s i r0 (k + 1) ≤ acc s i r0 k * 64 + 127 := by
  have := b0_lt s (i + (k + 1))
  show acc s i r0 k * 64 + (b0 s (i + (k + 1)) - 128) ≤ _
  omega
theorem acc_le (s : ByteArray) (i r0 : Nat) (h : r0 < 32) (k : Nat) (hk : k ≤ 3) : acc s i r0 k ≤ 100000000 := by
  have h0 : acc s i r0 0 = r0 := rfl
  have h1 : acc s i r0 1 ≤ acc s i r0 0 * 64 + 127 := acc_step s i r0 0
  have h2 : acc s i r0 2 ≤ acc s i r0 1 * 64 + 127 := acc_step s i r0 1
  have h3 : acc s i r0 3 ≤ acc s i r0 2 * 64 + 127 := acc_step s i r0 2
  rcases (by omega : k = 0 ∨ k = 1 ∨ k = 2 ∨ k = 3) with rfl | rfl | rfl | rfl <;> omega
/-- A piece as piece hands it over. -/
def pieceV (r : Int) (i n : Int) : Value := .agg #[.int .i64 r, .int .i64 i, .int .i64 n]
theorem runeAt_stray {s : ByteArray} {i : Nat} (h : Utf8.decode s i = (65533, 1)) : runeAt s i = -1 := by unfold runeAt; rw [if_pos h]
theorem runeAt_wide {s : ByteArray} {i r n : Nat} (h : Utf8.decode s i = (r, n)) (hn : n ≠ 1 ∨ r ≠ 65533) : runeAt s i = r := by
  unfold runeAt; rw [if_neg (by rw [h]; intro e; injection e; omega), h]

set_option maxRecDepth 100000 in
set_option maxHeartbeats 2000000 in
theorem rpiece_any (s : ByteArray) (i : Nat) (hi : i < s.size) (hs : s.size ≤ 140737488355328) (w : World) :
    Calls Tryd.prog 137 #[.string s, .int .i64 (i : Int)] w fun e w' => e = .returned (pieceV (runeAt s i) i ((Utf8.decode s i).2 : Nat)) ∧ Below w.heap.size w w' := by
  have hx := idx_b0 hi
  have hb := b0_lt s i
  by_cases h1 : b0 s i < 128
  · have hd := Lib.hid (piece_low h1)
    have hR := Lib.hid (runeAt_wide hd.out (.inr (by omega)))
    have hH := Lib.hid (show (Utf8.decode s i).2 = 1 by rw [hd.out])
    generalize b0 s i = b at hx hb h1 hR
    have hb2 : (b : Int) < 128 := by omega
    go_enter Tryd.func137, Tryd.ntmps137
    go_wp2
    rw [hR.out, hH.out]
    exact bodyPost_ret (v := pieceV b i 1) (by simp [pieceV, results, Tryd.results137, go_sem]) rfl ⟨rfl, ((Below.refl _ _).alloc (Nat.le_refl _) _).alloc (by simp) _⟩
  · cases hc : cls (b0 s i) with
    | none =>
      have hd := Lib.hid (piece_none (by omega) hc)
      have hR := Lib.hid (runeAt_stray hd.out)
      have hH := Lib.hid (show (Utf8.decode s i).2 = 1 by rw [hd.out])
      have hcs : b0 s i < 192 ∨ 248 ≤ b0 s i := by
        unfold cls at hc
        split at hc
        · cases hc
        · split at hc
          · cases hc
          · split at hc
            · cases hc
            · omega
      clear hc
      generalize b0 s i = b at hx hb h1 hcs
      have hb2 : ¬ (b : Int) < 128 := by omega
      rcases hcs with h3 | h3
      · have h4 : ¬ (192 : Int) ≤ b := by omega
        have h5 : ¬ (224 : Int) ≤ b := by omega
        have h6 : ¬ (240 : Int) ≤ b := by omega
        go_enter Tryd.func137, Tryd.ntmps137
        go_wp2
        rw [hR.out, hH.out]
        exact bodyPost_ret (v := pieceV (-1) i 1) (by simp [pieceV, results, Tryd.results137, go_sem]) rfl ⟨rfl, ((Below.refl _ _).alloc (Nat.le_refl _) _).alloc (by simp) _⟩
      · have h4 : (192 : Int) ≤ b := by omega
        have h5 : (224 : Int) ≤ b := by omega
        have h6 : (240 : Int) ≤ b := by omega
        have h7 : ¬ (b : Int) < 224 := by omega
        have h8 : ¬ (b : Int) < 240 := by omega
        have h9 : ¬ (b : Int) < 248 := by omega
        go_enter Tryd.func137, Tryd.ntmps137
        go_wp2
        rw [hR.out, hH.out]
        exact bodyPost_ret (v := pieceV (-1) i 1) (by simp [pieceV, results, Tryd.results137, go_sem]) rfl ⟨rfl, ((Below.refl _ _).alloc (Nat.le_refl _) _).alloc (by simp) _⟩
    | some p =>
      obtain ⟨n, r0, l⟩ := p
      have HC := Lib.hid hc
      have hcc := cls_cases hc
      clear hc
      generalize hbb : b0 s i = b at hx hb h1 hcc
      have HBB := Lib.hid hbb
      clear hbb
      have hb2 : ¬ (b : Int) < 128 := by omega
      go_enter Tryd.func137, Tryd.ntmps137
      go_upto_block 0 with fail
      go_cut [7, 8, 9] (fun x y z wx => x = .int .i64 (n : Int) ∧ y = .int .i64 (r0 : Int) ∧ z = .int .i64 (l : Int) ∧ (w.alloc (.cells #[.int .i64 0, .int .i64 0, .int .i64 0] 192)).alloc (.cells #[.int .i64 (-1), .int .i64 (i : Int), .int .i64 1] 192) = wx)
      case first =>
        rcases hcc with ⟨rfl, rfl, rfl, h2, h3⟩ | ⟨rfl, rfl, rfl, h2, h3⟩ | ⟨rfl, rfl, rfl, h2, h3⟩
        · go_wp2
          go_meet
          exact ⟨rfl, by go_num, rfl, rfl⟩
        · go_wp2
          go_meet
          exact ⟨rfl, by go_num, rfl, rfl⟩
        · go_wp2
          go_meet
          exact ⟨rfl, by go_num, rfl, rfl⟩
      case rest =>
        obtain ⟨rfl, rfl, rfl, rfl⟩ := hcut
        have hn : 2 ≤ n ∧ n ≤ 4 ∧ r0 < 32 := by omega
        obtain ⟨hn2, hn4, hr0⟩ := hn
        clear hcc hx
        have HS : Hid (∀ j, 1 ≤ j → j < n → cont s (i + j) = false → pieceV (runeAt s i) i ((Utf8.decode s i).2 : Nat) = pieceV (-1) i 1) := Lib.hid fun j h1 h2 h3 => by
          have := piece_bad HC.out h1 h2 h3
          rw [runeAt_stray this, this]; rfl
        by_cases hfit : i + n ≤ s.size
        · have hfit2 : ¬ (s.size : Int) < (i : Int) + n := by omega
          go_wp2_with fail
          go_loop [8, 10] (fun r k => ∃ j : Nat, 1 ≤ j ∧ j ≤ n ∧ k = .int .i64 (j : Int) ∧ r = .int .i64 ((acc s i r0 (j - 1) : Nat) : Int) ∧ ∀ x, 1 ≤ x → x < j → cont s (i + x) = true) (fun _ k => n - (intOf k).toNat)
          case atStart => exact ⟨1, by omega, by omega, rfl, rfl, fun x h1 h2 => by omega⟩
          case round =>
            obtain ⟨j, hj1, hj2, rfl, rfl, hall⟩ := hrel
            have HA := Lib.hid hall
            clear hall
            have hacc := acc_le s i r0 hr0 (j - 1) (by omega)
            by_cases hlt : j < n
            · have hij : i + j < s.size := by omega
              have hx := idx_b0 hij
              have hb2 := b0_lt s (i + j)
              have hcc : acc s i r0 j = acc s i r0 (j - 1) * 64 + (b0 s (i + j) - 128) := by
                obtain ⟨q, rfl⟩ : ∃ q, j = q + 1 := ⟨j - 1, by omega⟩
                rfl
              have HCC := Lib.hid hcc
              clear hcc
              have HCT := Lib.hid (cont_iff s (i + j))
              generalize hcb : b0 s (i + j) = c at hx hb2
              have HCB := Lib.hid hcb
              clear hcb
              generalize haa : acc s i r0 (j - 1) = a at hacc
              have HAA := Lib.hid haa
              clear haa
              by_cases hc1 : c < 128
              · have hst := Lib.hid (HS.out j hj1 hlt (by cases h : cont s (i + j) with | false => rfl | true => have := HCT.out.1 h; rw [HCB.out] at this; omega))
                have hc2 : (c : Int) < 128 := by omega
                go_wp2
                rw [hst.out]
                exact bodyPost_ret (v := pieceV (-1) i 1) (by simp [pieceV, results, Tryd.results137, go_sem]) rfl ⟨rfl, ((Below.refl _ _).alloc (Nat.le_refl _) _).alloc (by simp) _⟩
              · by_cases hc3 : 191 < c
                · have hst := Lib.hid (HS.out j hj1 hlt (by cases h : cont s (i + j) with | false => rfl | true => have := HCT.out.1 h; rw [HCB.out] at this; omega))
                  have hc2 : ¬ (c : Int) < 128 := by omega
                  have hc4 : (191 : Int) < c := by omega
                  go_wp2
                  rw [hst.out]
                  exact bodyPost_ret (v := pieceV (-1) i 1) (by simp [pieceV, results, Tryd.results137, go_sem]) rfl ⟨rfl, ((Below.refl _ _).alloc (Nat.le_refl _) _).alloc (by simp) _⟩
                · have hc2 : ¬ (c : Int) < 128 := by omega
                  have hc4 : ¬ (191 : Int) < c := by omega
                  go_wp2
                  go_round
                  case rel =>
                    refine ⟨j + 1, by omega, by omega, by go_num, ?_, fun x h1 h2 => ?_⟩
                    · rw [Nat.add_sub_cancel, HCC.out, HCB.out, HAA.out]; congr 1; omega
                    · rcases Nat.lt_or_eq_of_le (Nat.le_of_lt_succ h2) with h3 | h3
                      · exact HA.out x h1 h3
                      · rw [h3]; exact HCT.out.2 ⟨hij, by rw [HCB.out]; omega⟩
                  case measure => simp [intOf]; omega
            · obtain rfl : j = n := by omega
              have hd := piece_fit HC.out HA.out
              simp only [valid_iff] at hd
              generalize acc s i r0 (j - 1) = a at hd hacc
              have HD := Lib.hid hd
              clear hd
              by_cases hg : l ≤ a ∧ (a < 55296 ∨ (57344 ≤ a ∧ a ≤ 1114111))
              · have hdd := Lib.hid (HD.out.trans (if_pos hg))
                have hv := Lib.hid (show pieceV (runeAt s i) i ((Utf8.decode s i).2 : Nat) = pieceV a i (j : Nat) by rw [runeAt_wide hdd.out (.inl (by omega)), hdd.out])
                obtain ⟨g1, g2⟩ := hg
                have g3 : ¬ (a : Int) < l := by omega
                have g4 : ¬ (1114111 : Int) < a := by omega
                by_cases g5 : a < 55296
                · have g6 : ¬ (55296 : Int) ≤ a := by omega
                  clear g2
                  go_wp2
                  rw [hv.out]
                  exact bodyPost_ret (v := pieceV a i j) (by simp [pieceV, results, Tryd.results137, go_sem]) rfl ⟨rfl, ((Below.refl _ _).alloc (Nat.le_refl _) _).alloc (by simp) _⟩
                · have g6 : (55296 : Int) ≤ a := by omega
                  have g7 : ¬ (a : Int) ≤ 57343 := by omega
                  clear g2
                  go_wp2
                  rw [hv.out]
                  exact bodyPost_ret (v := pieceV a i j) (by simp [pieceV, results, Tryd.results137, go_sem]) rfl ⟨rfl, ((Below.refl _ _).alloc (Nat.le_refl _) _).alloc (by simp) _⟩
              · have hdd := Lib.hid (HD.out.trans (if_neg hg))
                have hst := Lib.hid (show pieceV (runeAt s i) i ((Utf8.decode s i).2 : Nat) = pieceV (-1) i 1 by rw [runeAt_stray hdd.out, hdd.out]; rfl)
                by_cases g3 : a < l
                · have g4 : (a : Int) < l := by omega
                  clear hg
                  go_wp2
                  rw [hst.out]
                  exact bodyPost_ret (v := pieceV (-1) i 1) (by simp [pieceV, results, Tryd.results137, go_sem]) rfl ⟨rfl, ((Below.refl _ _).alloc (Nat.le_refl _) _).alloc (by simp) _⟩
                · have g4 : ¬ (a : Int) < l := by omega
                  by_cases g5 : 1114111 < a
                  · have g6 : (1114111 : Int) < a := by omega
                    clear hg
                    go_wp2
                    rw [hst.out]
                    exact bodyPost_ret (v := pieceV (-1) i 1) (by simp [pieceV, results, Tryd.results137, go_sem]) rfl ⟨rfl, ((Below.refl _ _).alloc (Nat.le_refl _) _).alloc (by simp) _⟩
                  · have g6 : ¬ (1114111 : Int) < a := by omega
                    have g7 : (55296 : Int) ≤ a := by omega
                    have g8 : (a : Int) ≤ 57343 := by omega
                    clear hg
                    go_wp2
                    rw [hst.out]
                    exact bodyPost_ret (v := pieceV (-1) i 1) (by simp [pieceV, results, Tryd.results137, go_sem]) rfl ⟨rfl, ((Below.refl _ _).alloc (Nat.le_refl _) _).alloc (by simp) _⟩
        · have hst := Lib.hid (HS.out (n - 1) (by omega) (by omega) (by cases h : cont s (i + (n - 1)) with | false => rfl | true => have := (cont_iff _ _).1 h; omega))
          have hfit2 : (s.size : Int) < (i : Int) + n := by omega
          go_wp2
          rw [hst.out]
          exact bodyPost_ret (v := pieceV (-1) i 1) (by simp [pieceV, results, Tryd.results137, go_sem]) rfl ⟨rfl, ((Below.refl _ _).alloc (Nat.le_refl _) _).alloc (by simp) _⟩
end Go.Proofs.YtfmlkagcmkbebaaDoor
