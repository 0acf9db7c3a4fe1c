/- record.Check. -/
import Derived.Test.YtfmlkagcmkbebaaDoorUc
namespace Go.Proofs.YtfmlkagcmkbebaaDoor
open Go.RowKit

theorem wrapk_nat {x : Nat} (h : x < 9223372036854775808) : IntKind.i64.wrap (x : Int) = (x : Int) := by rw [IntKind.wrap_i64]; omega
/-- The table of the tags that may stand. -/
def TabM (w : World) : Prop := ∀ i, i < 21 → w.cell? ⟨1, i, none⟩ = some (.int .u16 ((mayTab.getD i 0 : Nat) : Int))
theorem TabM.below {w w' : World} (h : TabM w) (hb : Below w.heap.size w w') : TabM w' := fun i hi => (hb.cell (World.block_lt_of_cell? w _ (h i hi))).trans (h i hi)
theorem may_lt (i : Nat) : mayTab.getD i 0 < 65536 := by
  rcases Nat.lt_or_ge i 21 with h | h
  · have : ∀ i : Fin 21, mayTab.getD i.val 0 < 65536 := by decide
    exact this ⟨i, h⟩
  · rw [List.getD_eq_getElem?_getD, List.getElem?_eq_none (by exact h)]; decide
theorem zero_is {b : Nat} {r : Rc} {dv : Value} {t : Nat} {c : Bool} (h : Hid (zeroB r t = c)) (h1 : 1 ≤ t) (h11 : t ≤ 11) (w : World) (hr : RecIn w b r dv) :
    Calls Tryd.prog 77 #[.pointer (some ⟨b, 0, none⟩), .int .i64 (t : Int)] w fun e w' => e = .returned (.bool c) ∧ w = w' := by
  obtain ⟨A, cp, rfl, _⟩ := hr.da.form
  have := zero_any b r A r.da.length cp rfl t h1 h11 w hr.at_
  rw [h.out] at this; exact this
theorem stands_is {m t : Nat} {c : Bool} (h : Hid (bitB m t = c)) (hm : m < 65536) (h1 : 3 ≤ t) (h11 : t ≤ 11) (w : World) : Calls Tryd.prog 76 #[.int .u16 (m : Int), .int .i64 (t : Int)] w fun e w' => e = .returned (.bool c) ∧ w = w' := by
  have := stands_any m t hm h1 h11 w; rw [h.out] at this; exact this
theorem bounds_is {b : Nat} {r : Rc} {dv : Value} {t : Nat} {c : Int} (h : Hid (boundsC r t = c)) (h3 : 3 ≤ t) (h11 : t ≤ 11) (hf : r.Fit) (w : World) (hT : TabR w) (hr : RecIn w b r dv) :
    Calls Tryd.prog 78 #[.pointer (some ⟨b, 0, none⟩), .int .i64 (t : Int)] w fun e w' => e = .returned (.int .i64 c) ∧ Below w.heap.size w w' := by
  have := bounds_any b r dv t h3 h11 hf w hT hr; rw [h.out] at this; exact this
theorem val_eq (r : Rc) (dv : Value) : r.val dv = .agg #[.int .i64 r.v, .int .i64 r.kd, .int .i64 r.sg, .int .i64 r.st, .int .i64 r.tr, .int .i64 r.tm, .int .i64 r.la, .int .i64 r.co, .int .i64 r.cn, .int .i64 r.pv, .string r.nm, dv] := rfl

set_option maxRecDepth 100000 in
set_option maxHeartbeats 4000000 in
theorem Check_any (r : Rc) (dv : Value) (hf : r.Fit) (w : World) (hT : TabR w) (hM : TabM w) (hd : Bs w dv r.da) :
    Calls Tryd.prog 49 #[r.val dv] w fun e w' => e = .returned (.int .i64 (checkC r)) ∧ Below w.heap.size w w' := by
  have HF := Lib.hid hf
  have HB1 : Below w.heap.size w (w.alloc (.cells (r.cells dv) 62)) := (Below.refl _ _).alloc (Nat.le_refl _) _
  have HR := Lib.hid (show RecIn (w.alloc (.cells (r.cells dv) 62)) w.heap.size r dv from ⟨RecAt.new w r dv _ _ rfl, hd.below HB1⟩)
  have HT := Lib.hid (hT.below HB1)
  have HM := Lib.hid (hM.below HB1)
  clear hf hT hM hd
  rw [val_eq]
  by_cases h1 : r.v < 1 ∨ 3 < r.v
  · have e := Lib.hid (show checkC r = 3 by unfold checkC; rw [if_pos h1])
    by_cases h2 : r.v < 1
    · clear h1
      go_enter Tryd.func49, Tryd.ntmps49
      go_wp2
      go_ret
      exact ⟨by rw [e.out]; rfl, HB1⟩
    · have h3 : 3 < r.v := by omega
      clear h1
      go_enter Tryd.func49, Tryd.ntmps49
      go_wp2
      go_ret
      exact ⟨by rw [e.out]; rfl, HB1⟩
  · by_cases h4 : r.kd < 1 ∨ 7 < r.kd
    · have e := Lib.hid (show checkC r = 31 by unfold checkC; rw [if_neg h1, if_pos h4])
      have h2 : ¬ r.v < 1 := by omega
      have h3 : ¬ 3 < r.v := by omega
      by_cases h5 : r.kd < 1
      · clear h1 h4
        go_enter Tryd.func49, Tryd.ntmps49
        go_wp2
        go_ret
        exact ⟨by rw [e.out]; rfl, HB1⟩
      · have h6 : 7 < r.kd := by omega
        clear h1 h4
        go_enter Tryd.func49, Tryd.ntmps49
        go_wp2
        go_ret
        exact ⟨by rw [e.out]; rfl, HB1⟩
    · have h2 : ¬ r.v < 1 := by omega
      have h3 : ¬ 3 < r.v := by omega
      have h5 : ¬ r.kd < 1 := by omega
      have h6 : ¬ 7 < r.kd := by omega
      by_cases h7 : r.sg < 1
      · have e := Lib.hid (show checkC r = 32 by unfold checkC; rw [if_neg h1, if_neg h4, if_pos h7])
        clear h1 h4
        go_enter Tryd.func49, Tryd.ntmps49
        go_wp2
        go_ret
        exact ⟨by rw [e.out]; rfl, HB1⟩
      · have e := Lib.hid (show checkC r = ckF r (tagsOf r.v.toNat r.kd.toNat) 9 3 by unfold checkC; rw [if_neg h1, if_neg h4, if_neg h7])
        clear h1 h4
        have hm : tagsOf r.v.toNat r.kd.toNat < 65536 := may_lt _
        have cm : (w.alloc (.cells (r.cells dv) 62)).cell? ⟨1, (r.v.toNat - 1) * 7 + (r.kd.toNat - 1), none⟩ = some (.int .u16 ((tagsOf r.v.toNat r.kd.toNat : Nat) : Int)) := HM.out _ (by omega)
        generalize tagsOf r.v.toNat r.kd.toNat = m at cm hm e
        go_enter Tryd.func49, Tryd.ntmps49
        go_wp2_with fail
        obtain ⟨w1, hw1⟩ : ∃ w1, w.alloc (.cells #[.int .i64 r.v, .int .i64 r.kd, .int .i64 r.sg, .int .i64 r.st, .int .i64 r.tr, .int .i64 r.tm, .int .i64 r.la, .int .i64 r.co, .int .i64 r.cn, .int .i64 r.pv, .string r.nm, dv] 62) = w1 := ⟨_, rfl⟩
        have hw2 : w.alloc (.cells (r.cells dv) 62) = w1 := hw1
        rw [hw2] at HB1 HR HT HM cm
        rw [hw1]
        have c0 := HR.out.at_.c0
        have c1 := HR.out.at_.c1
        have hz1 := Lib.hid (show w1.heap.size = w.heap.size + 1 by rw [← hw1]; exact World.size_alloc _ _)
        clear hw1 hw2
        obtain ⟨v0, ev⟩ : ∃ v0 : Nat, r.v = (v0 : Int) + 1 := ⟨r.v.toNat - 1, by omega⟩
        obtain ⟨k0, ek⟩ : ∃ k0 : Nat, r.kd = (k0 : Int) + 1 := ⟨r.kd.toNat - 1, by omega⟩
        have g1 : (v0 : Int) < 3 := by omega
        have g2 : (k0 : Int) < 7 := by omega
        have g3 : v0 < 3 := by omega
        have g4 : k0 < 7 := by omega
        have g5 : (0 : Int) ≤ (v0 : Int) := by omega
        have g6 : (0 : Int) ≤ (k0 : Int) := by omega
        have cm2 : w1.cell? ⟨1, v0 * 7 + k0, none⟩ = some (.int .u16 (m : Int)) := by
          rw [show v0 * 7 + k0 = (r.v.toNat - 1) * 7 + (r.kd.toNat - 1) by omega]; exact cm
        have f1 : IntKind.i64.wrap ((v0 : Int) + 1 - 1) = (v0 : Int) := by rw [show (v0 : Int) + 1 - 1 = (v0 : Int) by omega]; exact wrapk_nat (by omega)
        have f2 : IntKind.i64.wrap ((k0 : Int) + 1 - 1) = (k0 : Int) := by rw [show (k0 : Int) + 1 - 1 = (k0 : Int) by omega]; exact wrapk_nat (by omega)
        have f3 : IntKind.i64.wrap (v0 : Int) = (v0 : Int) := wrapk_nat (by omega)
        have f4 : IntKind.i64.wrap (k0 : Int) = (k0 : Int) := wrapk_nat (by omega)
        rw [ev] at c0
        rw [ek] at c1
        clear cm h2 h3 h5 h6 h7 ev ek
        go_quiet (fail)
        clear f1 f2 f3 f4 g1 g2 g3 g4 g5 g6 c0 c1 cm2
        have hz2 := hz1.out
        have hbq : Below w1.heap.size w1 (w1.drewN nq) := below_drewN _ _
        generalize w1.drewN nq = wq at hbq
        go_wp2_with fail
        go_loopw [4] (fun i wr => ∃ t f : Nat, 3 ≤ t ∧ t + f = 12 ∧ i = .int .i64 (t : Int) ∧ checkC r = ckF r m f t ∧ Below w1.heap.size w1 wr) (fun i _ => 12 - (intOf i).toNat)
        case atStart => exact ⟨3, 9, by omega, by omega, rfl, e.out, hbq⟩
        case round =>
          obtain ⟨t, f, ht3, htf, rfl, hck, hb⟩ := hrel
          have HCK := Lib.hid hck
          have HTF := Lib.hid htf
          have ht12 : t ≤ 12 := by omega
          clear hck htf
          have HBr : Below w.heap.size w wr := HB1.trans (hb.mono (by omega))
          have HR1 := Lib.hid (HR.out.below hb)
          have HT1 := Lib.hid (HT.out.below hb)
          have sr := hb.size
          by_cases hlt : t ≤ 11
          · obtain ⟨f', hf'⟩ : ∃ f', f = f' + 1 := ⟨f - 1, by have := HTF.out; omega⟩
            have HF' := Lib.hid hf'
            clear hf'
            have hlt2 : (t : Int) ≤ 11 := by omega
            have HST := Lib.hid (show checkC r = (if bitB m t then (if boundsC r t = 0 then ckF r m f' (t + 1) else boundsC r t) else (if zeroB r t then ckF r m f' (t + 1) else 33)) by rw [HCK.out, HF'.out]; rfl)
            cases hbit : bitB m t with
            | false =>
              have HBIT := Lib.hid hbit
              cases hzz : zeroB r t with
              | true =>
                have HZ := Lib.hid hzz
                have HN := Lib.hid (show checkC r = ckF r m f' (t + 1) by rw [HST.out, hbit, hzz]; rfl)
                clear hbit hzz
                go_wp2_with fail
                refine (stands_is HBIT hm ht3 hlt wr).mono ?_
                rintro e w2 ⟨rfl, rfl⟩
                go_wp2_with fail
                refine (zero_is HZ (by omega) hlt wr HR1.out).mono ?_
                rintro e w2 ⟨rfl, rfl⟩
                go_wp2_with fail
                go_roundw
                case rel => exact ⟨t + 1, f', by omega, by have := HTF.out; have := HF'.out; omega, by go_num, HN.out, hb⟩
                case measure => simp [intOf]; omega
              | false =>
                have HZ := Lib.hid hzz
                have HN := Lib.hid (show checkC r = 33 by rw [HST.out, hbit, hzz]; rfl)
                clear hbit hzz
                go_wp2_with fail
                refine (stands_is HBIT hm ht3 hlt wr).mono ?_
                rintro e w2 ⟨rfl, rfl⟩
                go_wp2_with fail
                refine (zero_is HZ (by omega) hlt wr HR1.out).mono ?_
                rintro e w2 ⟨rfl, rfl⟩
                go_wp2_with fail
                go_ret
                exact ⟨by rw [HN.out]; rfl, HBr⟩
            | true =>
              have HBIT := Lib.hid hbit
              by_cases hc : boundsC r t = 0
              · have HC := Lib.hid hc
                have HN := Lib.hid (show checkC r = ckF r m f' (t + 1) by rw [HST.out, hbit, hc]; rfl)
                clear hbit hc
                go_wp2_with fail
                refine (stands_is HBIT hm ht3 hlt wr).mono ?_
                rintro e w2 ⟨rfl, rfl⟩
                go_wp2_with fail
                refine (bounds_is HC ht3 hlt HF.out wr HT1.out HR1.out).mono ?_
                rintro e w2 ⟨rfl, hb2⟩
                go_wp2_with fail
                go_roundw
                case rel => exact ⟨t + 1, f', by omega, by have := HTF.out; have := HF'.out; omega, by go_num, HN.out, hb.trans (hb2.mono sr)⟩
                case measure => simp [intOf]; omega
              · have HN := Lib.hid (show checkC r = boundsC r t by rw [HST.out, hbit, if_pos rfl, if_neg hc])
                have hc2 : (boundsC r t != 0) = true := by rw [bne_iff_ne]; exact hc
                clear hbit hc
                go_wp2_with fail
                refine (stands_is HBIT hm ht3 hlt wr).mono ?_
                rintro e w2 ⟨rfl, rfl⟩
                go_wp2_with fail
                refine (bounds_any w.heap.size r dv t ht3 hlt HF.out wr HT1.out HR1.out).mono ?_
                rintro e w2 ⟨rfl, hb2⟩
                go_wp2_with fail
                go_ret
                exact ⟨by rw [HN.out]; rfl, HBr.trans (hb2.mono (by have := HBr.size; omega))⟩
          · obtain rfl : t = 12 := by omega
            have hf0 : f = 0 := by have := HTF.out; omega
            subst hf0
            have HN := Lib.hid (show checkC r = 0 from HCK.out)
            go_wp2_with fail
            go_ret
            exact ⟨by rw [HN.out]; rfl, HBr⟩
end Go.Proofs.YtfmlkagcmkbebaaDoor
