/- annalsref3.Check. -/
import Derived.Test.YtfmlkagcmkbebaaDoorUg
namespace Go.Proofs.YtfmlkagcmkbebaaDoor
open Go.RowKit

/-- What the document's Check reads of the memory. -/
structure TabQ (w : World) : Prop where
  n : TabN w
  f : TabF w
theorem TabQ.below {w w' : World} (h : TabQ w) (hb : Below w.heap.size w w') : TabQ w' := ⟨h.n.below hb, h.f.below hb⟩

/-- Twelve cells of one block, kept. -/
theorem keep12 {w w' : World} {b : Nat} {x0 x1 x2 x3 x4 x5 x6 x7 x8 x9 x10 x11 : Value} (hb : Below w.heap.size w w') (h0 : w.cell? ⟨b, 0, none⟩ = some x0) (h1 : w.cell? ⟨b, 1, none⟩ = some x1) (h2 : w.cell? ⟨b, 2, none⟩ = some x2) (h3 : w.cell? ⟨b, 3, none⟩ = some x3)
    (h4 : w.cell? ⟨b, 4, none⟩ = some x4) (h5 : w.cell? ⟨b, 5, none⟩ = some x5) (h6 : w.cell? ⟨b, 6, none⟩ = some x6) (h7 : w.cell? ⟨b, 7, none⟩ = some x7) (h8 : w.cell? ⟨b, 8, none⟩ = some x8) (h9 : w.cell? ⟨b, 9, none⟩ = some x9) (h10 : w.cell? ⟨b, 10, none⟩ = some x10) (h11 : w.cell? ⟨b, 11, none⟩ = some x11) :
    w'.cell? ⟨b, 0, none⟩ = some x0 ∧ w'.cell? ⟨b, 1, none⟩ = some x1 ∧ w'.cell? ⟨b, 2, none⟩ = some x2 ∧ w'.cell? ⟨b, 3, none⟩ = some x3 ∧ w'.cell? ⟨b, 4, none⟩ = some x4 ∧ w'.cell? ⟨b, 5, none⟩ = some x5 ∧ w'.cell? ⟨b, 6, none⟩ = some x6 ∧ w'.cell? ⟨b, 7, none⟩ = some x7 ∧ w'.cell? ⟨b, 8, none⟩ = some x8 ∧ w'.cell? ⟨b, 9, none⟩ = some x9 ∧ w'.cell? ⟨b, 10, none⟩ = some x10 ∧ w'.cell? ⟨b, 11, none⟩ = some x11 := by
  have k : ∀ j x, w.cell? ⟨b, j, none⟩ = some x → w'.cell? ⟨b, j, none⟩ = some x := fun j x h => (hb.cell (World.block_lt_of_cell? w _ h)).trans h
  exact ⟨k _ _ h0, k _ _ h1, k _ _ h2, k _ _ h3, k _ _ h4, k _ _ h5, k _ _ h6, k _ _ h7, k _ _ h8, k _ _ h9, k _ _ h10, k _ _ h11⟩

set_option maxRecDepth 100000 in
set_option maxHeartbeats 4000000 in
theorem rCheck_any (r : Rc) (dv : Value) (hf : r.Fit) (w : World) (hT : TabQ w) (hd : Bs w dv r.da) :
    Calls Tryd.prog 30 #[r.val dv] w fun e w' => e = .returned (.int .i64 (checkC r)) ∧ Below w.heap.size w w' := by
  have HF := Lib.hid hf
  have HB1 : Below w.heap.size w (w.alloc (.cells (r.cells dv) 62)) := (Below.refl _ _).alloc (Nat.le_refl _) _
  have HR := Lib.hid (show RecIn (w.alloc (.cells (r.cells dv) 62)) w.heap.size r dv from ⟨RecAt.new w r dv _ _ rfl, hd.below HB1⟩)
  have HT := Lib.hid (hT.below HB1)
  clear hf hT hd
  rw [val_eq]
  by_cases h1 : r.v < 1 ∨ 3 < r.v
  · have e := Lib.hid (show checkC r = 3 by unfold checkC; rw [if_pos h1])
    by_cases h2 : r.v < 1
    · clear h1
      go_enter Tryd.func30, Tryd.ntmps30
      go_wp2
      go_ret
      exact ⟨by rw [e.out]; rfl, HB1⟩
    · have h3 : 3 < r.v := by omega
      clear h1
      go_enter Tryd.func30, Tryd.ntmps30
      go_wp2
      go_ret
      exact ⟨by rw [e.out]; rfl, HB1⟩
  · by_cases h4 : r.kd < 1 ∨ 7 < r.kd
    · have e := Lib.hid (show checkC r = 31 by unfold checkC; rw [if_neg h1, if_pos h4])
      have h2 : ¬ r.v < 1 := by omega
      have h3 : ¬ 3 < r.v := by omega
      by_cases h5 : r.kd < 1
      · clear h1 h4
        go_enter Tryd.func30, Tryd.ntmps30
        go_wp2
        go_ret
        exact ⟨by rw [e.out]; rfl, HB1⟩
      · have h6 : 7 < r.kd := by omega
        clear h1 h4
        go_enter Tryd.func30, Tryd.ntmps30
        go_wp2
        go_ret
        exact ⟨by rw [e.out]; rfl, HB1⟩
    · have h2 : ¬ r.v < 1 := by omega
      have h3 : ¬ 3 < r.v := by omega
      have h5 : ¬ r.kd < 1 := by omega
      have h6 : ¬ 7 < r.kd := by omega
      by_cases h7 : r.sg < 1
      · have e := Lib.hid (show checkC r = 32 by unfold checkC; rw [if_neg h1, if_neg h4, if_pos h7])
        clear h1 h4
        go_enter Tryd.func30, Tryd.ntmps30
        go_wp2
        go_ret
        exact ⟨by rw [e.out]; rfl, HB1⟩
      · have e := Lib.hid (show checkC r = ckF r (tagsOf r.v.toNat r.kd.toNat) 9 3 by unfold checkC; rw [if_neg h1, if_neg h4, if_neg h7])
        clear h1 h4
        go_enter Tryd.func30, Tryd.ntmps30
        go_wp2_with fail
        obtain ⟨w1, hw1⟩ : ∃ w1, w.alloc (.cells #[.int .i64 r.v, .int .i64 r.kd, .int .i64 r.sg, .int .i64 r.st, .int .i64 r.tr, .int .i64 r.tm, .int .i64 r.la, .int .i64 r.co, .int .i64 r.cn, .int .i64 r.pv, .string r.nm, dv] 62) = w1 := ⟨_, rfl⟩
        have hw2 : w.alloc (.cells (r.cells dv) 62) = w1 := hw1
        rw [hw2] at HB1 HR HT
        rw [hw1]
        have hz1 := Lib.hid (show w1.heap.size = w.heap.size + 1 by rw [← hw1]; exact World.size_alloc _ _)
        clear hw1 hw2
        obtain ⟨v0, ev⟩ : ∃ v0 : Nat, r.v = (v0 : Int) + 1 := ⟨r.v.toNat - 1, by omega⟩
        obtain ⟨k0, ek⟩ : ∃ k0 : Nat, r.kd = (k0 : Int) + 1 := ⟨r.kd.toNat - 1, by omega⟩
        have g3 : v0 < 3 := by omega
        have g4 : k0 < 7 := by omega
        have hmm := Lib.hid (show tagsOf r.v.toNat r.kd.toNat = tagsOf (v0 + 1) (k0 + 1) by rw [ev, ek]; congr 1)
        generalize tagsOf r.v.toNat r.kd.toNat = m at e hmm
        have EV := Lib.hid ev
        have EK := Lib.hid ek
        clear h2 h3 h5 h6 h7 ev ek
        have hz2 := hz1.out
        go_wp2_with fail
        go_loopw [3] (fun i wr => ∃ t f : Nat, 3 ≤ t ∧ t + f = 12 ∧ i = .int .i64 (t : Int) ∧ checkC r = ckF r m f t ∧ Below w1.heap.size w1 wr) (fun i _ => 12 - (intOf i).toNat)
        case atStart => exact ⟨3, 9, by omega, by omega, rfl, e.out, Below.refl _ _⟩
        case round =>
          obtain ⟨t, f, ht3, htf, rfl, hck, hb⟩ := hrel
          have HCK := Lib.hid hck
          have HTF := Lib.hid htf
          have ht12 : t ≤ 12 := by omega
          clear hck htf
          have HBr : Below w.heap.size w wr := HB1.trans (hb.mono (by omega))
          have HR1 := Lib.hid (HR.out.below hb)
          have HT1 := Lib.hid (HT.out.below hb)
          have sr := hb.size
          by_cases hlt : t ≤ 11
          · obtain ⟨f', hf'⟩ : ∃ f', f = f' + 1 := ⟨f - 1, by have := HTF.out; omega⟩
            have HF' := Lib.hid hf'
            clear hf'
            have hlt2 : (t : Int) ≤ 11 := by omega
            have HST := Lib.hid (show checkC r = (if bitB m t then (if boundsC r t = 0 then ckF r m f' (t + 1) else boundsC r t) else (if zeroB r t then ckF r m f' (t + 1) else 33)) by rw [HCK.out, HF'.out]; rfl)
            obtain ⟨c0, c1, c2, c3, c4, c5, c6, c7, c8, c9, c10, c11⟩ := HR1.out.at_
            rw [EV.out] at c0
            rw [EK.out] at c1
            have HS := Lib.hid (fun (z : Bool) (h : bitB m t = z) => rstands_is (v := v0) (k := k0) (t := t) (c := z) (Lib.hid (by rw [← hmm.out]; exact h)) g3 g4 hlt wr HT1.out.f)
            have HZ0 := Lib.hid (fun (z : Bool) (h : zeroB r t = z) (wx : World) (hx : Below wr.heap.size wr wx) => (by
              have := rzero_any r dv t (by omega) hlt wx (HR1.out.da.below hx)
              rw [val_eq, EV.out, EK.out, h] at this; exact this :
              Calls Tryd.prog 64 #[.agg #[.int .i64 ((v0 : Int) + 1), .int .i64 ((k0 : Int) + 1), .int .i64 r.sg, .int .i64 r.st, .int .i64 r.tr, .int .i64 r.tm, .int .i64 r.la, .int .i64 r.co, .int .i64 r.cn, .int .i64 r.pv, .string r.nm, dv], .int .i64 (t : Int)] wx fun e w' => e = .returned (.bool z) ∧ Below wx.heap.size wx w'))
            have HB0 := Lib.hid (fun (wx : World) (hx : Below wr.heap.size wr wx) => (by
              have := rbounds_any r dv t ht3 hlt HF.out wx (HT1.out.n.below hx) (HR1.out.da.below hx)
              rw [val_eq, EV.out, EK.out] at this; exact this :
              Calls Tryd.prog 65 #[.agg #[.int .i64 ((v0 : Int) + 1), .int .i64 ((k0 : Int) + 1), .int .i64 r.sg, .int .i64 r.st, .int .i64 r.tr, .int .i64 r.tm, .int .i64 r.la, .int .i64 r.co, .int .i64 r.cn, .int .i64 r.pv, .string r.nm, dv], .int .i64 (t : Int)] wx fun e w' => e = .returned (.int .i64 (boundsC r t)) ∧ Below wx.heap.size wx w'))
            cases hbit : bitB m t with
            | false =>
              cases hzz : zeroB r t with
              | true =>
                have H1 := HS.out false hbit
                have H1 := Lib.hid H1
                have H2 := Lib.hid (HZ0.out true hzz)
                have HN := Lib.hid (show checkC r = ckF r m f' (t + 1) by rw [HST.out, hbit, hzz]; rfl)
                clear hbit hzz
                go_wp2_with fail
                refine H1.out.mono ?_
                rintro e w2 ⟨rfl, hb2⟩
                obtain ⟨d0, d1, d2, d3, d4, d5, d6, d7, d8, d9, d10, d11⟩ := keep12 hb2 c0 c1 c2 c3 c4 c5 c6 c7 c8 c9 c10 c11
                have s2 := hb2.size
                have hb2' := Lib.hid hb2
                go_wp2_with fail
                refine (H2.out w2 hb2'.out).mono ?_
                rintro e w3 ⟨rfl, hb3⟩
                go_wp2_with fail
                go_roundw
                case rel => exact ⟨t + 1, f', by omega, by have := HTF.out; have := HF'.out; omega, by go_num, HN.out, (hb.trans (hb2.mono sr)).trans (hb3.mono (by omega))⟩
                case measure => simp [intOf]; omega
              | false =>
                have H1 := Lib.hid (HS.out false hbit)
                have H2 := Lib.hid (HZ0.out false hzz)
                have HN := Lib.hid (show checkC r = 33 by rw [HST.out, hbit, hzz]; rfl)
                clear hbit hzz
                go_wp2_with fail
                refine H1.out.mono ?_
                rintro e w2 ⟨rfl, hb2⟩
                obtain ⟨d0, d1, d2, d3, d4, d5, d6, d7, d8, d9, d10, d11⟩ := keep12 hb2 c0 c1 c2 c3 c4 c5 c6 c7 c8 c9 c10 c11
                have s2 := hb2.size
                have hb2' := Lib.hid hb2
                go_wp2_with fail
                refine (H2.out w2 hb2'.out).mono ?_
                rintro e w3 ⟨rfl, hb3⟩
                go_wp2_with fail
                go_ret
                exact ⟨by rw [HN.out]; rfl, (HBr.trans (hb2.mono (by omega))).trans (hb3.mono (by omega))⟩
            | true =>
              have H1 := Lib.hid (HS.out true hbit)
              by_cases hc : boundsC r t = 0
              · have HN := Lib.hid (show checkC r = ckF r m f' (t + 1) by rw [HST.out, hbit, hc]; rfl)
                have HC := Lib.hid hc
                clear hbit hc
                have H2 := Lib.hid (HZ0.out _ rfl)
                generalize zeroB r t = z at H2
                go_wp2_with fail
                refine H1.out.mono ?_
                rintro e w2 ⟨rfl, hb2⟩
                obtain ⟨d0, d1, d2, d3, d4, d5, d6, d7, d8, d9, d10, d11⟩ := keep12 hb2 c0 c1 c2 c3 c4 c5 c6 c7 c8 c9 c10 c11
                have s2 := hb2.size
                have hb2' := Lib.hid hb2
                go_wp2_with fail
                refine (H2.out w2 hb2'.out).mono ?_
                rintro e w3 ⟨rfl, hb3⟩
                have s3 := hb3.size
                obtain ⟨q0, q1, q2, q3, q4, q5, q6, q7, q8, q9, q10, q11⟩ := keep12 hb3 d0 d1 d2 d3 d4 d5 d6 d7 d8 d9 d10 d11
                have hb3' := Lib.hid (hb2.trans (hb3.mono s2))
                go_wp2_with fail
                refine (HB0.out w3 hb3'.out).mono ?_
                rintro e w4 ⟨rfl, hb4⟩
                rw [HC.out]
                go_wp2_with fail
                go_roundw
                case rel => exact ⟨t + 1, f', by omega, by have := HTF.out; have := HF'.out; omega, by go_num, HN.out, (hb.trans (hb3'.out.mono sr)).trans (hb4.mono (by omega))⟩
                case measure => simp [intOf]; omega
              · have HN := Lib.hid (show checkC r = boundsC r t by rw [HST.out, hbit, if_pos rfl, if_neg hc])
                have hc2 : (boundsC r t != 0) = true := by rw [bne_iff_ne]; exact hc
                clear hbit hc
                have H2 := Lib.hid (HZ0.out _ rfl)
                generalize zeroB r t = z at H2
                go_wp2_with fail
                refine H1.out.mono ?_
                rintro e w2 ⟨rfl, hb2⟩
                obtain ⟨d0, d1, d2, d3, d4, d5, d6, d7, d8, d9, d10, d11⟩ := keep12 hb2 c0 c1 c2 c3 c4 c5 c6 c7 c8 c9 c10 c11
                have s2 := hb2.size
                have hb2' := Lib.hid hb2
                go_wp2_with fail
                refine (H2.out w2 hb2'.out).mono ?_
                rintro e w3 ⟨rfl, hb3⟩
                have s3 := hb3.size
                obtain ⟨q0, q1, q2, q3, q4, q5, q6, q7, q8, q9, q10, q11⟩ := keep12 hb3 d0 d1 d2 d3 d4 d5 d6 d7 d8 d9 d10 d11
                have hb3' := Lib.hid (hb2.trans (hb3.mono s2))
                go_wp2_with fail
                refine (HB0.out w3 hb3'.out).mono ?_
                rintro e w4 ⟨rfl, hb4⟩
                go_wp2_with fail
                go_ret
                exact ⟨by rw [HN.out]; rfl, (HBr.trans (hb3'.out.mono (by omega))).trans (hb4.mono (by omega))⟩
          · obtain rfl : t = 12 := by omega
            have hf0 : f = 0 := by have := HTF.out; omega
            subst hf0
            have HN := Lib.hid (show checkC r = 0 from HCK.out)
            go_wp2_with fail
            go_ret
            exact ⟨by rw [HN.out]; rfl, HBr⟩
end Go.Proofs.YtfmlkagcmkbebaaDoor
