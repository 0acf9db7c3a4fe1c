/- archive.readLast. -/
import Derived.Test.YtfmlkagcmkbebaaDoorXe
namespace Go.Proofs.YtfmlkagcmkbebaaDoor
open Go.RowKit

theorem rdFr_end {b : List UInt8} {p : Nat} (h : (rdFr b p).2.2 = 0) : 0 < (rdFr b p).1.length ∧ (rdFr b p).1.length ≤ 1048576 ∧ p < (rdFr b p).2.1 ∧ (rdFr b p).2.1 ≤ b.length := by
  unfold rdFr at h ⊢
  split at h
  · rename_i h1; exact absurd h h1
  · rename_i h1
    rw [if_neg h1]
    obtain ⟨e1, e2, e3, e4⟩ := bdU_end (Classical.byContradiction h1)
    split at h
    · simp at h
    · rename_i h2
      rw [if_neg h2]
      simp only [List.length_drop, List.length_take]; omega
/-- Where the last frame at p ends, the code. -/
def rdLast (b : List UInt8) (p : Nat) : Nat × Int :=
  if (rdFr b p).2.2 ≠ 0 then (0, (rdFr b p).2.2) else if (rdFr b p).1.getD 0 0 = 82 then (0, 171) else if (rdFr b p).1 ≠ [69] ++ le32 (crc (b.take p)) then (0, 170) else ((rdFr b p).2.1, 0)

set_option maxRecDepth 100000 in
set_option maxHeartbeats 4000000 in
theorem readLast_any (v : Value) (b : List UInt8) (p : Nat) (hb : b.length ≤ 1099511627776) (hp : p ≤ b.length) (w : World) (hT : Tab w) (hv : Bs w v b) :
    Calls Tryd.prog 58 #[v, .int .i64 (p : Int)] w fun e w' => e = .returned (.tuple #[.int .i64 ((rdLast b p).1 : Int), .int .i64 (rdLast b p).2]) ∧ Below w.heap.size w w' := by
  have HRF := Lib.hid (ReadFrame_any v b p hb (by omega) w hT hv)
  have hend := rdFr_end (b := b) (p := p)
  obtain ⟨B, hB⟩ : ∃ B, rdLast b p = B := ⟨_, rfl⟩
  rw [hB]
  unfold rdLast at hB
  obtain ⟨A, c, rfl, hn, hc, hr⟩ := hv.form
  have HP := Lib.hid hv
  have HT := Lib.hid hT
  clear hr hv hT
  unfold maxLen at hc
  generalize rdFr b p = r at HRF hend hB
  obtain ⟨bd, nx, e⟩ := r
  simp only at HRF hend hB
  by_cases he : e ≠ 0
  · rw [if_pos he] at hB
    have HV := Lib.hid hB.symm
    have t1 : (e != 0) = true := by rw [bne_iff_ne]; exact he
    clear hB he hend
    go_enter Tryd.func58, Tryd.ntmps58
    go_wp2_with fail
    refine HRF.out.mono ?_
    rintro ee w1 ⟨v1, rfl, HO1, hb1⟩
    have HB1 := Lib.hid hb1
    clear hb1
    go_wp2_with fail
    go_ret2
    exact ⟨by rw [HV.out]; rfl, HB1.out⟩
  · rw [if_neg he] at hB
    have he0 : e = 0 := Classical.byContradiction he
    subst he0
    obtain ⟨hb0, hb1, hpn, hnb⟩ := hend rfl
    clear he hend
    obtain ⟨x, bs, rfl⟩ : ∃ x bs, bd = x :: bs := by cases bd with | nil => simp at hb0 | cons x bs => exact ⟨x, bs, rfl⟩
    simp only [List.getD_cons_zero] at hB
    by_cases h82 : x = 82
    · rw [if_pos h82] at hB
      have HV := Lib.hid hB.symm
      subst h82
      clear hB
      go_enter Tryd.func58, Tryd.ntmps58
      go_wp2_with fail
      refine HRF.out.mono ?_
      rintro ee w1 ⟨v1, rfl, HO1, hb1'⟩
      have HB1 := Lib.hid hb1'
      obtain ⟨g, cap, rfl, _, _, _⟩ := HO1.form (by simp)
      have hcell := (HO1.cell (k := 0) (by simp)).1
      simp only [List.getElem_cons_zero] at hcell
      replace hcell : w1.cell? ⟨g, 0, none⟩ = some (.int .u8 82) := hcell
      clear hb1' HO1
      go_wp2_with fail
      go_ret2
      exact ⟨by rw [HV.out]; rfl, HB1.out⟩
    · rw [if_neg h82] at hB
      have hx82 : ((x.toNat : Int) == 82) = false := by
        rw [beq_eq_false_iff_ne]; intro e; exact h82 (UInt8.toNat_inj.1 (by show x.toNat = 82; omega))
      obtain ⟨P, hP⟩ : ∃ P, b.take p = P := ⟨_, rfl⟩
      have hPl : P.length = p := by rw [← hP]; simp; omega
      have hpb := (HP.out.take (m := p) hp)
      rw [hP] at hpb hB
      have HPB := Lib.hid hpb
      obtain ⟨W, hW⟩ : ∃ W, [69] ++ le32 (crc P) = W := ⟨_, rfl⟩
      rw [hW] at hB
      have HWW := Lib.hid hW
      have hpi : (p : Int) ≤ (b.length : Int) := by omega
      clear hP hpb hW
      go_enter Tryd.func58, Tryd.ntmps58
      go_wp2_with fail
      refine HRF.out.mono ?_
      rintro ee w1 ⟨v1, rfl, HO1, hb1'⟩
      have HB1 := Lib.hid hb1'
      have s1 := hb1'.size
      obtain ⟨g, cap, rfl, _, _, _⟩ := HO1.form (by simp)
      have hcell := (HO1.cell (k := 0) (by simp)).1
      simp only [List.getElem_cons_zero] at hcell
      replace hcell : w1.cell? ⟨g, 0, none⟩ = some (.int .u8 (x.toNat : Int)) := hcell
      have HOB := Lib.hid HO1.bs
      clear hb1' HO1
      have hal1 : Below w1.heap.size w1 (w1.alloc (.cells #[.int .u8 69] 5)) := (Below.refl _ _).alloc (Nat.le_refl _) _
      have hal2 : Below w1.heap.size w1 ((w1.alloc (.cells #[.int .u8 69] 5)).alloc (.cells #[.slice A p c] 22)) := hal1.alloc (by simp) _
      have hb69 := Ob.litn w1 #[.int .u8 69] [69] 1 w1.heap.size w1.heap.size (by rfl) rfl (by omega) rfl (Nat.le_refl _)
      have hBX : Bss ((w1.alloc (.cells #[.int .u8 69] 5)).alloc (.cells #[.slice A p c] 22)) (.slice (some ⟨w1.heap.size + 1, 0, none⟩) 1 1) [P] := by
        have := Bss.lit1 (w1.alloc (.cells #[.int .u8 69] 5)) (.slice A p c) P ((HPB.out.below HB1.out).below hal1)
        simpa using this
      have HSU := Lib.hid (Sum_any _ [P] _ ((HT.out.below HB1.out).below hal2) hBX)
      have HA2 := Lib.hid hal2
      have HO9 := Lib.hid (hb69.below ((Below.refl _ _).alloc (Nat.le_refl _) (.cells #[.slice A p c] 22)))
      clear hal1 hal2 hb69 hBX
      go_wp2_with fail
      refine HSU.out.mono ?_
      rintro e wz ⟨rfl, rfl⟩
      rw [show [P].flatten = P by simp]
      go_wp2_with fail
      refine (low4_any (crc P) _).mono ?_
      rintro e w5 ⟨x5, rfl, HX5, hb5⟩
      have HO5 := HO9.out.below hb5
      have HX5b := HX5.bs
      have hb15 := HA2.out.trans (hb5.mono HA2.out.size)
      have s5 := hb15.size
      go_wp2_with (at_builtin; refine appB w1.heap.size rfl (.tmp 27) _ rfl _ [69] _ (le32 (crc P)) rfl rfl HO5 HX5b (by simp [le32]) hb15 s5 ?_; intro v6 w6 HO6 hb6 _ _; rw [HWW.out] at HO6)
      have hb16 := HB1.out.trans (hb6.mono s1)
      refine (Equal_any _ _ (x :: bs) W w6 (HOB.out.below hb6) HO6.bs).mono ?_
      rintro e wz ⟨rfl, rfl⟩
      by_cases heq : x :: bs = W
      · rw [if_neg (by simpa using heq)] at hB
        have HV := Lib.hid hB.symm
        rw [decide_eq_true heq]
        clear heq hB hb6 hb15 hb5
        go_wp2_with fail
        go_ret2
        exact ⟨by rw [HV.out]; rfl, hb16⟩
      · rw [if_pos heq] at hB
        have HV := Lib.hid hB.symm
        rw [decide_eq_false heq]
        clear heq hB hb6 hb15 hb5
        go_wp2_with fail
        go_ret2
        exact ⟨by rw [HV.out]; rfl, hb16⟩
end Go.Proofs.YtfmlkagcmkbebaaDoor
