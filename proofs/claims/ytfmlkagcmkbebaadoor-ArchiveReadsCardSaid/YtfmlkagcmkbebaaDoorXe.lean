/- archive.two, bytes.Equal. -/
import Derived.Test.YtfmlkagcmkbebaaDoorXw
import Derived.Test.YtfmlkagcmkbebaaDoorUc
namespace Go.Proofs.YtfmlkagcmkbebaaDoor
open Go.RowKit

/-- Two numbers that fill b from p on. -/
def rdTwo (b : List UInt8) (p : Nat) : Nat × Nat × Bool :=
  if (rdU b p).2.2 ≠ 0 then (0, 0, false) else ((rdU b p).1, (rdU b (rdU b p).2.1).1, decide ((rdU b (rdU b p).2.1).2.2 = 0) && decide ((rdU b (rdU b p).2.1).2.1 = b.length))

set_option maxRecDepth 100000 in
set_option maxHeartbeats 2000000 in
theorem two_any (v : Value) (b : List UInt8) (p : Nat) (hb : b.length ≤ 1099511627776) (hp : p ≤ 1099511627776) (w : World) (hv : Bs w v b) :
    Calls Tryd.prog 56 #[v, .int .i64 (p : Int)] w fun e w' => e = .returned (.tuple #[.int .u64 ((rdTwo b p).1 : Int), .int .u64 ((rdTwo b p).2.1 : Int), .bool (rdTwo b p).2.2]) ∧ w = w' := by
  have HR1 := Lib.hid (ReadUint_any v b p hb hp w hv)
  have hend := rdU_end (b := b) (p := p)
  have hr2 := ReadUint_any v b (rdU b p).2.1 hb
  obtain ⟨B, hB⟩ : ∃ B, rdTwo b p = B := ⟨_, rfl⟩
  rw [hB]
  unfold rdTwo at hB
  obtain ⟨A, c, rfl, hn, hc, _⟩ := hv.form
  by_cases he : (rdU b p).2.2 ≠ 0
  · rw [if_pos he] at hB
    have HV := Lib.hid hB.symm
    have t1 : ((rdU b p).2.2 != 0) = true := by rw [bne_iff_ne]; exact he
    generalize rdU b p = r at HR1 t1
    clear hB he hend hr2 hv hc
    go_enter Tryd.func56, Tryd.ntmps56
    go_wp2_with fail
    refine HR1.out.mono ?_
    rintro ee wz ⟨rfl, rfl⟩
    go_wp2_with fail
    refine bodyPost_ret (results_tmp3 rfl _ _ _) rfl ⟨?_, by first | rfl | trivial⟩
    rw [HV.out]; rfl
  · rw [if_neg he] at hB
    have he0 : (rdU b p).2.2 = 0 := Classical.byContradiction he
    obtain ⟨hp1, hfr⟩ := hend he0
    have HR2 := Lib.hid (hr2 (by omega) w hv)
    rw [he0] at HR1
    generalize rdU b p = r at HR1 HR2 hB hp1 hfr
    obtain ⟨x, q, e⟩ := r
    simp only at HR1 HR2 hB hp1 hfr
    generalize rdU b q = r2 at HR2 hB
    obtain ⟨y, q2, e2⟩ := r2
    simp only at HR2 hB
    have HV := Lib.hid hB.symm
    clear hB he hend hr2 hv hc he0
    go_enter Tryd.func56, Tryd.ntmps56
    go_wp2_with fail
    refine HR1.out.mono ?_
    rintro ee wz ⟨rfl, rfl⟩
    go_wp2_with fail
    refine HR2.out.mono ?_
    rintro ee wz ⟨rfl, rfl⟩
    by_cases h2 : e2 = 0
    · subst h2
      by_cases h3 : q2 = b.length
      · subst h3
        go_wp2_with fail
        refine bodyPost_ret (results_tmp3 rfl _ _ _) rfl ⟨?_, by first | rfl | trivial⟩
        rw [HV.out]; simp
      · have t3 : ((q2 : Int) == (b.length : Int)) = false := by rw [beq_eq_false_iff_ne]; omega
        go_wp2_with fail
        refine bodyPost_ret (results_tmp3 rfl _ _ _) rfl ⟨?_, by first | rfl | trivial⟩
        rw [HV.out]; simp [h3]
    · have t2 : (e2 == 0) = false := by rw [beq_eq_false_iff_ne]; exact h2
      go_wp2_with fail
      refine bodyPost_ret (results_tmp3 rfl _ _ _) rfl ⟨?_, by first | rfl | trivial⟩
      rw [HV.out]; simp [h2]

set_option maxRecDepth 100000 in
theorem Equal_any (u v : Value) (xs ys : List UInt8) (w : World) (hu : Bs w u xs) (hv : Bs w v ys) :
    Calls Tryd.prog 36 #[u, v] w fun e w' => e = .returned (.bool (decide (xs = ys))) ∧ w = w' := by
  have c1 := conv_bs hu
  have c2 := conv_bs hv
  obtain ⟨A, c, rfl, _⟩ := hu.form
  obtain ⟨A2, c2', rfl, _⟩ := hv.form
  clear hu hv
  go_enter Tryd.func36, Tryd.ntmps36
  go_wp2_with fail
  go_ret
  refine ⟨?_, by first | rfl | trivial⟩
  have e : (xs == ys) = decide (xs = ys) := by by_cases h : xs = ys <;> simp [h]
  rw [← e]; rfl
end Go.Proofs.YtfmlkagcmkbebaaDoor
