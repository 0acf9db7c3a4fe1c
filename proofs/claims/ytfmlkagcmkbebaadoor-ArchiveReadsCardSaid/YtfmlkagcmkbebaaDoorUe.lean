/- annalsref3: what stands in a record, walked. -/
import Derived.Test.YtfmlkagcmkbebaaDoorUd
import Derived.Test.YtfmlkagcmkbebaaDoorTh
namespace Go.Proofs.YtfmlkagcmkbebaaDoor
open Go.RowKit

set_option maxRecDepth 100000 in
theorem rwithinC_any (n lo hi : Int) (w : World) : Calls Tryd.prog 93 #[.int .i64 n, .int .i64 lo, .int .i64 hi] w fun e w' => e = .returned (.int .i64 (withinC n lo hi)) ∧ w = w' := by
  by_cases h1 : n < lo
  · have e : withinC n lo hi = 34 := if_pos (.inl h1)
    rw [e]
    go_enter Tryd.func93, Tryd.ntmps93
    go_wp2
    go_ret
    exact ⟨rfl, rfl⟩
  · by_cases h2 : hi < n
    · have e : withinC n lo hi = 34 := if_pos (.inr h2)
      rw [e]
      go_enter Tryd.func93, Tryd.ntmps93
      go_wp2
      go_ret
      exact ⟨rfl, rfl⟩
    · have e : withinC n lo hi = 0 := if_neg (by omega)
      rw [e]
      go_enter Tryd.func93, Tryd.ntmps93
      go_wp2
      go_ret
      exact ⟨rfl, rfl⟩

set_option maxRecDepth 100000 in
set_option maxHeartbeats 4000000 in
theorem rbounds_any (r : Rc) (dv : Value) (t : Nat) (h3 : 3 ≤ t) (h11 : t ≤ 11) (hf : r.Fit) (w : World) (hT : TabN w) (hd : Bs w dv r.da) :
    Calls Tryd.prog 65 #[r.val dv, .int .i64 (t : Int)] w fun e w' => e = .returned (.int .i64 (boundsC r t)) ∧ Below w.heap.size w w' := by
  obtain ⟨A, c, rfl, hn, hc, _⟩ := hd.form
  have HF := Lib.hid hf
  have HB1 : Below w.heap.size w (w.alloc (.cells (r.cells (.slice A r.da.length c)) 62)) := (Below.refl _ _).alloc (Nat.le_refl _) _
  have HR0 := Lib.hid (show RecIn (w.alloc (.cells (r.cells (.slice A r.da.length c)) 62)) w.heap.size r (.slice A r.da.length c) from ⟨RecAt.new w r _ _ _ rfl, hd.below HB1⟩)
  have HT := Lib.hid (hT.below HB1)
  clear hf hT hd
  rw [val_eq]
  go_enter Tryd.func65, Tryd.ntmps65
  go_upto_region 1 with fail
  obtain ⟨w1, hw1⟩ : ∃ w1, w.alloc (.cells #[.int .i64 r.v, .int .i64 r.kd, .int .i64 r.sg, .int .i64 r.st, .int .i64 r.tr, .int .i64 r.tm, .int .i64 r.la, .int .i64 r.co, .int .i64 r.cn, .int .i64 r.pv, .string r.nm, .slice A r.da.length c] 62) = w1 := ⟨_, rfl⟩
  have hw2 : w.alloc (.cells (r.cells (.slice A r.da.length c)) 62) = w1 := hw1
  rw [hw2] at HB1 HR0 HT
  rw [hw1]
  have hz1 := Lib.hid (show w1.heap.size = w.heap.size + 1 by rw [← hw1]; exact World.size_alloc _ _)
  clear hw1 hw2
  have hr := HR0.out
  have c0 := hr.at_.c0
  have c1 := hr.at_.c1
  go_cut [5] (fun o wx => w1 = wx ∧ o = .bool (oldB r))
  case first =>
    by_cases hv : r.v = 1
    · by_cases hk : r.kd = 1
      · have e1 : (r.v == 1) = true := by rw [hv]; rfl
        have e2 : (r.kd == 1) = true := by rw [hk]; rfl
        have e3 := Lib.hid (show oldB r = true by unfold oldB; rw [e1, e2]; rfl)
        clear hv hk
        go_wp2
        go_meet
        exact ⟨rfl, by rw [e3.out]⟩
      · have e1 : (r.v == 1) = true := by rw [hv]; rfl
        have e2 : (r.kd == 1) = false := by rw [beq_eq_false_iff_ne]; exact hk
        have e3 := Lib.hid (show oldB r = false by unfold oldB; rw [e1, e2]; rfl)
        clear hv hk
        go_wp2
        go_meet
        exact ⟨rfl, by rw [e3.out]⟩
    · have e1 : (r.v == 1) = false := by rw [beq_eq_false_iff_ne]; exact hv
      have e3 := Lib.hid (show oldB r = false by unfold oldB; rw [e1]; rfl)
      clear hv
      go_wp2
      go_meet
      exact ⟨rfl, by rw [e3.out]⟩
  case rest =>
    obtain ⟨rfl, rfl⟩ := hcut
    clear c0 c1
    rcases (by omega : t = 3 ∨ t = 4 ∨ t = 5 ∨ t = 6 ∨ t = 7 ∨ t = 8 ∨ t = 9 ∨ t = 10 ∨ t = 11) with rfl | rfl | rfl | rfl | rfl | rfl | rfl | rfl | rfl
    · have c3 := hr.at_.c3
      clear hr
      cases ho : oldB r with
      | true =>
        have e := Lib.hid (show boundsC r 3 = withinC r.st 1 32 by unfold boundsC; rw [if_pos rfl, ho]; rfl)
        clear ho
        go_wp2_with fail
        refine (rwithinC_any r.st 1 32 w1).mono ?_
        rintro e w2 ⟨rfl, rfl⟩
        go_wp2_with fail
        go_ret
        exact ⟨by rw [e.out]; rfl, HB1⟩
      | false =>
        have e := Lib.hid (show boundsC r 3 = withinC r.st 0 31 by unfold boundsC; rw [if_pos rfl, ho]; rfl)
        clear ho
        go_wp2_with fail
        refine (rwithinC_any r.st 0 31 w1).mono ?_
        rintro e w2 ⟨rfl, rfl⟩
        go_wp2_with fail
        go_ret
        exact ⟨by rw [e.out]; rfl, HB1⟩
    · have c4 := hr.at_.c4
      clear hr
      generalize oldB r = o
      go_wp2_with fail
      refine (rwithinC_any r.tr 1 1000 w1).mono ?_
      rintro e w2 ⟨rfl, rfl⟩
      go_wp2_with fail
      go_ret
      exact ⟨rfl, HB1⟩
    · have c5 := hr.at_.c5
      clear hr
      generalize oldB r = o
      go_wp2_with fail
      refine (rwithinC_any r.tm 0 _ w1).mono ?_
      rintro e w2 ⟨rfl, rfl⟩
      go_wp2_with fail
      go_ret
      exact ⟨rfl, HB1⟩
    · have c6 := hr.at_.c6
      clear hr
      generalize oldB r = o
      go_wp2_with fail
      refine (rwithinC_any r.la 0 1 w1).mono ?_
      rintro e w2 ⟨rfl, rfl⟩
      go_wp2_with fail
      go_ret
      exact ⟨rfl, HB1⟩
    · have c1 := hr.at_.c1
      have c7 := hr.at_.c7
      clear hr
      generalize oldB r = o
      by_cases hk : r.kd = 7
      · have e := Lib.hid (show boundsC r 7 = withinC r.co 0 2 by simp [boundsC, hk])
        have e2 : (r.kd == 7) = true := by rw [hk]; rfl
        clear hk
        go_wp2_with fail
        refine (rwithinC_any r.co 0 2 w1).mono ?_
        rintro e w2 ⟨rfl, rfl⟩
        go_wp2_with fail
        go_ret
        exact ⟨by rw [e.out]; rfl, HB1⟩
      · have e := Lib.hid (show boundsC r 7 = 0 by simp [boundsC, hk])
        have e2 : (r.kd == 7) = false := by rw [beq_eq_false_iff_ne]; exact hk
        clear hk
        go_wp2_with fail
        go_ret
        exact ⟨by rw [e.out]; rfl, HB1⟩
    · have c8 := hr.at_.c8
      clear hr
      generalize oldB r = o
      go_wp2_with fail
      refine (rwithinC_any r.cn 1 32 w1).mono ?_
      rintro e w2 ⟨rfl, rfl⟩
      go_wp2_with fail
      go_ret
      exact ⟨rfl, HB1⟩
    · have c8 := hr.at_.c8
      have c9 := hr.at_.c9
      clear hr
      generalize oldB r = o
      go_wp2_with fail
      refine (rwithinC_any r.pv 0 r.cn w1).mono ?_
      rintro e w2 ⟨rfl, rfl⟩
      go_wp2_with fail
      go_ret
      exact ⟨rfl, HB1⟩
    · have c10 := hr.at_.c10
      clear hr
      generalize oldB r = o
      go_wp2_with fail
      refine (rlabel_any r.nm HF.out.nm w1 HT.out).mono ?_
      rintro e w2 ⟨rfl, hb⟩
      go_wp2_with fail
      go_ret
      exact ⟨rfl, HB1.trans (hb.mono (by rw [hz1.out]; omega))⟩
    · have c11 := hr.at_.c11
      have hcv := conv_bs hr.da
      clear hr
      by_cases hd : 16384 < r.da.length
      · have e := Lib.hid (show boundsC r 11 = 36 by simp [boundsC, hd])
        have hd2 : (16384 : Int) < r.da.length := by omega
        generalize oldB r = o
        go_wp2_with fail
        go_ret
        exact ⟨by rw [e.out]; rfl, HB1⟩
      · have hd2 : ¬ (16384 : Int) < r.da.length := by omega
        cases ho : oldB r with
        | true =>
          have e := Lib.hid (show boundsC r 11 = labelC ⟨r.da.toArray⟩ by simp [boundsC, hd, ho])
          clear ho
          go_wp2_with fail
          refine (rlabel_any ⟨r.da.toArray⟩ (by have := HF.out.da; show r.da.toArray.size ≤ _; simpa using this) w1 HT.out).mono ?_
          rintro e w2 ⟨rfl, hb⟩
          go_wp2_with fail
          go_ret
          exact ⟨by rw [e.out]; rfl, HB1.trans (hb.mono (by rw [hz1.out]; omega))⟩
        | false =>
          have e := Lib.hid (show boundsC r 11 = 0 by simp [boundsC, hd, ho])
          clear ho
          go_wp2_with fail
          go_ret
          exact ⟨by rw [e.out]; rfl, HB1⟩
end Go.Proofs.YtfmlkagcmkbebaaDoor
