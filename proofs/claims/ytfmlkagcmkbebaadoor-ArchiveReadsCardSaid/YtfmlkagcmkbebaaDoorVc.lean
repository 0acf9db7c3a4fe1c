/- record.Encode of a valid record. -/
import Derived.Test.YtfmlkagcmkbebaaDoorVb
import Derived.Test.YtfmlkagcmkbebaaDoorUd
import Derived.Deep.CutBlock
namespace Go.Proofs.YtfmlkagcmkbebaaDoor
open Go.RowKit

/-- The numbers fit their kind. -/
def Rc.Nums (r : Rc) : Prop := ∀ t, t ≤ 9 → -9223372036854775808 ≤ r.num t ∧ r.num t ≤ 9223372036854775807
theorem Check_good {r : Rc} {dv : Value} (hg : r.Good) (hf : r.Fit) (w : World) (hT : TabR w) (hM : TabM w) (hd : Bs w dv r.da) :
    Calls Tryd.prog 49 #[r.val dv] w fun e w' => e = .returned (.int .i64 0) ∧ Below w.heap.size w w' := by
  have := Check_any r dv hf w hT hM hd; rw [hg.ck] at this; exact this

theorem encF_skip {r : Rc} {f t : Nat} (h : zeroB r t = true) : encF r (f + 1) t = encF r f (t + 1) := by
  simp [encF, h]
theorem encF_step {r : Rc} {f t : Nat} (h : zeroB r t = false) : encF r (f + 1) t = [UInt8.ofNat t] ++ valB r t ++ encF r f (t + 1) := by
  simp [encF, h]

set_option maxRecDepth 100000 in
set_option maxHeartbeats 4000000 in
theorem Encode_ok (r : Rc) (dv : Value) (hg : r.Good) (hn : r.Nums) (hf : r.Fit) (w : World) (hT : TabR w) (hM : TabM w) (hd : Bs w dv r.da) :
    Calls Tryd.prog 51 #[r.val dv] w (Gives0 w (encB r)) := by
  obtain ⟨A, c, rfl, _⟩ := hd.form
  have HG := Lib.hid hg
  have HN := Lib.hid hn
  have HF := Lib.hid hf
  have HB1 : Below w.heap.size w (w.alloc (.cells (r.cells (.slice A r.da.length c)) 62)) := (Below.refl _ _).alloc (Nat.le_refl _) _
  have HR := Lib.hid (show RecIn (w.alloc (.cells (r.cells (.slice A r.da.length c)) 62)) w.heap.size r (.slice A r.da.length c) from ⟨RecAt.new w r _ _ _ rfl, hd.below HB1⟩)
  have HC := Lib.hid (Check_good hg hf (w.alloc (.cells (r.cells (.slice A r.da.length c)) 62)) (hT.below HB1) (hM.below HB1) (hd.below HB1))
  have hel := encB_len hg hn
  clear hf hT hM hd hg hn
  rw [val_eq]
  go_enter Tryd.func51, Tryd.ntmps51
  go_wp2_with fail
  obtain ⟨w1, hw1⟩ : ∃ w1, w.alloc (.cells #[.int .i64 r.v, .int .i64 r.kd, .int .i64 r.sg, .int .i64 r.st, .int .i64 r.tr, .int .i64 r.tm, .int .i64 r.la, .int .i64 r.co, .int .i64 r.cn, .int .i64 r.pv, .string r.nm, .slice A r.da.length c] 62) = w1 := ⟨_, rfl⟩
  have hw2 : w.alloc (.cells (r.cells (.slice A r.da.length c)) 62) = w1 := hw1
  rw [hw2, val_eq] at HC
  rw [hw2] at HB1 HR
  rw [hw1]
  have hz1 : w1.heap.size = w.heap.size + 1 := by rw [← hw1]; exact World.size_alloc _ _
  clear hw1 hw2
  refine HC.out.mono ?_
  rintro e w2 ⟨rfl, hb2⟩
  have s2 := hb2.size
  go_wp2_with fail
  go_loopw [5, 6] (fun b i wr => ∃ (t f : Nat) (dn : List UInt8), 1 ≤ t ∧ t + f = 12 ∧ i = .int .i64 (t : Int) ∧ encB r = dn ++ encF r f t ∧ Ob wr w1.heap.size b dn ∧ Below w1.heap.size w1 wr) (fun _ i _ => 12 - (intOf i).toNat)
  case atStart => exact ⟨1, 11, [], by omega, by omega, rfl, rfl, Ob.nil _ _, hb2⟩
  case round =>
    obtain ⟨t, f, dn, ht1, htf, rfl, he, HO, hb⟩ := hrel
    have HE := Lib.hid he
    have HTF := Lib.hid htf
    have ht12 : t ≤ 12 := by omega
    have hdl : dn.length ≤ 180345 := by rw [he, List.length_append] at hel; omega
    clear he htf
    have sr := hb.size
    have HR1 := Lib.hid (HR.out.below hb)
    obtain ⟨Ab, cb, rfl⟩ := HO.slice
    by_cases hlt : t ≤ 11
    · obtain ⟨f', hf'⟩ : ∃ f', f = f' + 1 := ⟨f - 1, by have := HTF.out; omega⟩
      have HF' := Lib.hid hf'
      clear hf'
      have hlt2 : (t : Int) ≤ 11 := by omega
      cases hz : zeroB r t with
      | true =>
        have HZ := Lib.hid hz
        have HS := Lib.hid (show encF r f t = encF r f' (t + 1) by rw [HF'.out]; exact encF_skip hz)
        clear hz
        go_wp2_with fail
        refine (zero_is HZ ht1 hlt wr HR1.out).mono ?_
        rintro e w3 ⟨rfl, rfl⟩
        go_wp2_with fail
        go_roundw
        case rel => exact ⟨t + 1, f', dn, by omega, by have := HTF.out; have := HF'.out; omega, by go_num, by rw [HE.out, HS.out], HO, hb⟩
        case measure => simp [intOf]; omega
      | false =>
        have HZ := Lib.hid hz
        have HS := Lib.hid (show encF r f t = [UInt8.ofNat t] ++ valB r t ++ encF r f' (t + 1) by rw [HF'.out]; exact encF_step hz)
        have HU := Lib.hid (uvar_lt (n := t) (by omega))
        have hvl := valB_len HG.out HN.out (t := t) hlt
        clear hz
        go_wp2_with fail
        refine (zero_is HZ ht1 hlt wr HR1.out).mono ?_
        rintro e w3 ⟨rfl, rfl⟩
        go_wp2_with fail
        refine (Uint_any t (by omega) wr).mono ?_
        rintro e w3 ⟨x3, rfl, HX3, hb3⟩
        rw [HU.out] at HX3
        have s3 := hb3.size
        have HO3 := HO.below hb3
        have hbw3 := hb.trans (hb3.mono sr)
        obtain ⟨A3, c3, rfl⟩ := HX3.slice
        have HX4 := HX3.bs
        go_upto_block 2 with (at_builtin; refine appB w1.heap.size rfl (.tmp 18) _ rfl _ dn _ [UInt8.ofNat t] rfl rfl HO3 HX4 (by simp; omega) hbw3 (by omega) ?_; intro v4 w4 HO4 hb4 hg4 _)
        have HRI := Lib.hid (HR.out.below hb4)
        have s4 := hb4.size
        have hl4 : (dn ++ [UInt8.ofNat t]).length ≤ 180346 := by simp; omega
        obtain ⟨d4, hd4⟩ : ∃ d4, dn ++ [UInt8.ofNat t] = d4 := ⟨_, rfl⟩
        rw [hd4] at HO4 hl4
        have HD4 := Lib.hid hd4
        clear hd4
        obtain ⟨A4, c4, rfl⟩ := HO4.slice
        clear hg4 HX3 HX4 HO3 HO hb3 hbw3
        by_cases h7 : t = 7
        · have hvv : valB r t = uvar (zig r.co) := by unfold valB; rw [if_pos h7]
          rw [hvv] at HS hvl
          have hcell := HRI.out.at_.c7
          have h7i : (t : Int) = 7 := by omega
          have hco := HN.out 7 (by omega)
          go_wp2_with fail
          refine (Int_any r.co hco w4).mono ?_
          rintro e w5 ⟨x5, rfl, HX5, hb5⟩
          have HO5 := HO4.below hb5
          have hbw5 := hb4.trans (hb5.mono s4)
          have s5 := hb5.size
          have HX5 := HX5.bs
          go_wp2_with (at_builtin; refine appB w1.heap.size rfl (.tmp 34) _ rfl _ d4 _ (uvar (zig r.co)) rfl rfl HO5 HX5 (by omega) hbw5 (by omega) ?_; intro v6 w6 HO6 hb6 _ _)
          go_roundw
          case rel =>
            obtain ⟨A6, c6, rfl⟩ := HO6.slice
            exact ⟨t + 1, f', _, by omega, by have := HTF.out; have := HF'.out; omega, by first | go_num | (congr 1; omega), by rw [HE.out, HS.out, ← HD4.out]; simp [List.append_assoc], HO6, hb6⟩
          case measure => simp [intOf]; omega
        · have h7i : (t : Int) ≠ 7 := by omega
          by_cases h10 : t = 10
          · have hvv : valB r t = uvar r.nm.data.toList.length ++ r.nm.data.toList := by unfold valB; rw [if_neg h7, if_pos h10]
            rw [hvv] at HS hvl
            have hcell := HRI.out.at_.c10
            have h10i : (t : Int) = 10 := by omega
            have hnm := HF.out.nm
            obtain ⟨cq, hcv, HXq, hbq⟩ := conv_sb w4 r.nm (by simp only [maxLen]; omega)
            obtain ⟨wq, hwq⟩ : ∃ wq, Lib.bytesWorld w4 5 r.nm = wq := ⟨_, rfl⟩
            rw [hwq] at hcv HXq hbq
            clear hwq
            go_wp2_with fail
            refine (Bytes_any _ r.nm.data.toList (by rw [Array.length_toList]; exact hnm) wq HXq).mono ?_
            rintro e w5 ⟨x5, rfl, HX5, hbx⟩
            have sq := hbq.size
            have hb5 := hbq.trans (hbx.mono sq)
            have HO5 := HO4.below hb5
            have hbw5 := hb4.trans (hb5.mono s4)
            have s5 := hb5.size
            have HX5 := HX5.bs
            go_wp2_with (at_builtin; refine appB w1.heap.size rfl (.tmp 41) _ rfl _ d4 _ (uvar r.nm.data.toList.length ++ r.nm.data.toList) rfl rfl HO5 HX5 (by omega) hbw5 (by omega) ?_; intro v6 w6 HO6 hb6 _ _)
            go_roundw
            case rel =>
              obtain ⟨A6, c6, rfl⟩ := HO6.slice
              exact ⟨t + 1, f', _, by omega, by have := HTF.out; have := HF'.out; omega, by first | go_num | (congr 1; omega), by rw [HE.out, HS.out, ← HD4.out]; simp [List.append_assoc], HO6, hb6⟩
            case measure => simp [intOf]; omega
          · have h10i : (t : Int) ≠ 10 := by omega
            by_cases h11 : t = 11
            · have hvv : valB r t = uvar r.da.length ++ r.da := by unfold valB; rw [if_neg h7, if_neg h10, if_pos h11]
              rw [hvv] at HS hvl
              have hcell := HRI.out.at_.c11
              have h11i : (t : Int) = 11 := by omega
              have hda := HG.out.da
              have HDA := HRI.out.da
              go_wp2_with fail
              refine (Bytes_any _ r.da (by omega) w4 HDA).mono ?_
              rintro e w5 ⟨x5, rfl, HX5, hb5⟩
              have HO5 := HO4.below hb5
              have hbw5 := hb4.trans (hb5.mono s4)
              have s5 := hb5.size
              have HX5 := HX5.bs
              go_wp2_with (at_builtin; refine appB w1.heap.size rfl (.tmp 49) _ rfl _ d4 _ (uvar r.da.length ++ r.da) rfl rfl HO5 HX5 (by omega) hbw5 (by omega) ?_; intro v6 w6 HO6 hb6 _ _)
              go_roundw
              case rel =>
                obtain ⟨A6, c6, rfl⟩ := HO6.slice
                exact ⟨t + 1, f', _, by omega, by have := HTF.out; have := HF'.out; omega, by first | go_num | (congr 1; omega), by rw [HE.out, HS.out, ← HD4.out]; simp [List.append_assoc], HO6, hb6⟩
              case measure => simp [intOf]; omega
            · have h11i : (t : Int) ≠ 11 := by omega
              have hvv : valB r t = uvar (r.num t).toNat := by unfold valB; rw [if_neg h7, if_neg h10, if_neg h11]
              rw [hvv] at HS hvl
              obtain ⟨m, hm⟩ := Int.eq_ofNat_of_zero_le (HG.out.num (t := t) ht1 (by omega) h7)
              have hcell := HRI.out.at_.at (t := t) (by omega)
              have hmb := (HN.out t (by omega)).2
              rw [hm] at hcell HS hvl hmb
              rw [Int.toNat_natCast] at HS hvl
              go_wp2_with fail
              refine (number_any w.heap.size t ht1 (by omega) w4).mono ?_
              rintro e w5 ⟨rfl, rfl⟩
              go_wp2_with fail
              refine (Uint_any m (by omega) w4).mono ?_
              rintro e w5 ⟨x5, rfl, HX5, hb5⟩
              have HO5 := HO4.below hb5
              have hbw5 := hb4.trans (hb5.mono s4)
              have s5 := hb5.size
              have HX5 := HX5.bs
              go_wp2_with (at_builtin; refine appB w1.heap.size rfl (.tmp 24) _ rfl _ d4 _ (uvar m) rfl rfl HO5 HX5 (by omega) hbw5 (by omega) ?_; intro v6 w6 HO6 hb6 _ _)
              go_roundw
              case rel =>
                obtain ⟨A6, c6, rfl⟩ := HO6.slice
                exact ⟨t + 1, f', _, by omega, by have := HTF.out; have := HF'.out; omega, by first | go_num | (congr 1; omega), by rw [HE.out, HS.out, ← HD4.out]; simp [List.append_assoc], HO6, hb6⟩
              case measure => simp [intOf]; omega
    · have ht : t = 12 := by omega
      subst ht
      have hf0 : f = 0 := by have := HTF.out; omega
      go_wp2_with fail
      go_ret2
      refine ⟨_, rfl, ?_, ?_⟩
      · rw [HE.out, hf0]; simp only [encF, List.append_nil]; exact own_mono HO (by omega)
      · exact HB1.trans (hb.mono (by omega))
end Go.Proofs.YtfmlkagcmkbebaaDoor
