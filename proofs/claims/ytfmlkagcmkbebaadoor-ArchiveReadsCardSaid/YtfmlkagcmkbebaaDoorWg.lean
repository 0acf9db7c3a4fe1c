/- annalsref3.value, Encode of a valid record; annalsref17.first, last. -/
import Derived.Test.YtfmlkagcmkbebaaDoorVc
import Derived.Test.YtfmlkagcmkbebaaDoorUh
import Derived.Test.YtfmlkagcmkbebaaDoorWx
namespace Go.Proofs.YtfmlkagcmkbebaaDoor
open Go.RowKit

theorem Gives.mono {w w1 w' : World} {xs : List UInt8} {e : Ending} (hb : Below w.heap.size w w1) (h : Gives w1 xs e w') : Gives w xs e w' := by
  obtain ⟨v, rfl, h1, h2⟩ := h
  exact ⟨v, rfl, own_mono h1 hb.size, hb.trans (h2.mono hb.size)⟩

set_option maxRecDepth 100000 in
set_option maxHeartbeats 2000000 in
theorem rvalue_any (r : Rc) (dv : Value) (t : Nat) (h1 : 1 ≤ t) (h11 : t ≤ 11) (hn : r.Nums) (hpos : t ≤ 9 → t ≠ 7 → 0 ≤ r.num t) (hnm : r.nm.size ≤ 1099511627776) (hda : r.da.length ≤ 1099511627776) (w : World) (hd : Bs w dv r.da) :
    Calls Tryd.prog 82 #[r.val dv, .int .i64 (t : Int)] w (Gives w (valB r t)) := by
  obtain ⟨A, c, rfl, _⟩ := hd.form
  have hB1 : Below w.heap.size w (w.alloc (.cells (r.cells (.slice A r.da.length c)) 62)) := (Below.refl _ _).alloc (Nat.le_refl _) _
  have HD := Lib.hid (hd.below hB1)
  have HB := Lib.hid hB1
  have HN := Lib.hid hn
  rw [val_eq]
  clear hd hB1 hn
  change Hid (Bs (w.alloc (.cells #[.int .i64 r.v, .int .i64 r.kd, .int .i64 r.sg, .int .i64 r.st, .int .i64 r.tr, .int .i64 r.tm, .int .i64 r.la, .int .i64 r.co, .int .i64 r.cn, .int .i64 r.pv, .string r.nm, .slice A r.da.length c] 62)) _ _) at HD
  change Hid (Below _ _ (w.alloc (.cells #[.int .i64 r.v, .int .i64 r.kd, .int .i64 r.sg, .int .i64 r.st, .int .i64 r.tr, .int .i64 r.tm, .int .i64 r.la, .int .i64 r.co, .int .i64 r.cn, .int .i64 r.pv, .string r.nm, .slice A r.da.length c] 62))) at HB
  by_cases h7 : t = 7
  · subst h7
    have HV := Lib.hid (show valB r 7 = uvar (zig r.co) by unfold valB; rw [if_pos rfl])
    clear hpos
    go_enter Tryd.func82, Tryd.ntmps82
    go_wp2_with fail
    refine (rInt_any r.co (HN.out 7 (by omega)) _).mono ?_
    rintro e w5 hg
    obtain ⟨x, rfl, hq⟩ := hg.mono HB.out
    go_wp2_with fail
    go_ret
    exact ⟨_, rfl, by rw [HV.out]; exact hq.1, hq.2⟩
  · by_cases h10 : t = 10
    · subst h10
      have HV := Lib.hid (show valB r 10 = uvar r.nm.data.toList.length ++ r.nm.data.toList by unfold valB; rw [if_neg h7, if_pos rfl])
      clear hpos h7
      obtain ⟨cq, hcv, HXq, hbq⟩ := conv_sb (w.alloc (.cells #[.int .i64 r.v, .int .i64 r.kd, .int .i64 r.sg, .int .i64 r.st, .int .i64 r.tr, .int .i64 r.tm, .int .i64 r.la, .int .i64 r.co, .int .i64 r.cn, .int .i64 r.pv, .string r.nm, .slice A r.da.length c] 62)) r.nm (by simp only [maxLen]; omega)
      have HBQ := Lib.hid (HB.out.trans (hbq.mono (HB.out.size)))
      obtain ⟨wq, hwq⟩ : ∃ wq, Lib.bytesWorld (w.alloc (.cells #[.int .i64 r.v, .int .i64 r.kd, .int .i64 r.sg, .int .i64 r.st, .int .i64 r.tr, .int .i64 r.tm, .int .i64 r.la, .int .i64 r.co, .int .i64 r.cn, .int .i64 r.pv, .string r.nm, .slice A r.da.length c] 62)) 5 r.nm = wq := ⟨_, rfl⟩
      rw [hwq] at hcv HXq HBQ
      rw [World.size_alloc] at hcv HXq
      have HXQ := Lib.hid HXq
      clear hwq hbq HXq
      go_enter Tryd.func82, Tryd.ntmps82
      go_wp2_with fail
      refine (rBytes_any _ r.nm.data.toList (by rw [Array.length_toList]; exact hnm) wq HXQ.out).mono ?_
      rintro e w5 hg
      obtain ⟨x, rfl, hq⟩ := hg.mono HBQ.out
      go_wp2_with fail
      go_ret
      exact ⟨_, rfl, by rw [HV.out]; exact hq.1, hq.2⟩
    · by_cases h11' : t = 11
      · subst h11'
        have HV := Lib.hid (show valB r 11 = uvar r.da.length ++ r.da by unfold valB; rw [if_neg h7, if_neg h10, if_pos rfl])
        clear hpos h7 h10
        go_enter Tryd.func82, Tryd.ntmps82
        go_wp2_with fail
        refine (rBytes_any _ r.da hda _ HD.out).mono ?_
        rintro e w5 hg
        obtain ⟨x, rfl, hq⟩ := hg.mono HB.out
        go_wp2_with fail
        go_ret
        exact ⟨_, rfl, by rw [HV.out]; exact hq.1, hq.2⟩
      · have HV := Lib.hid (show valB r t = uvar (r.num t).toNat by unfold valB; rw [if_neg h7, if_neg h10, if_neg h11'])
        obtain ⟨m, hm⟩ := Int.eq_ofNat_of_zero_le (hpos (by omega) h7)
        have hmb := (HN.out t (by omega)).2
        rw [hm] at hmb
        have HM := Lib.hid hm
        have i7 : (t : Int) ≠ 7 := by omega
        have i10 : (t : Int) ≠ 10 := by omega
        have i11 : (t : Int) ≠ 11 := by omega
        clear hpos h7 h10 h11' hm
        go_enter Tryd.func82, Tryd.ntmps82
        go_wp2_with fail
        refine (rnumber_any r (.slice A r.da.length c) t h1 (by omega) _).mono ?_
        rintro e w3 ⟨rfl, hb3⟩
        rw [HM.out]
        have HB3 := Lib.hid (HB.out.trans (hb3.mono HB.out.size))
        go_wp2_with fail
        refine (rUint_any m (by omega) _).mono ?_
        rintro e w5 hg
        obtain ⟨x, rfl, hq⟩ := hg.mono HB3.out
        go_wp2_with fail
        go_ret
        exact ⟨_, rfl, by rw [HV.out, HM.out]; exact hq.1, hq.2⟩

theorem rzero_is {r : Rc} {dv : Value} {t : Nat} {c : Bool} (h : Hid (zeroB r t = c)) (h1 : 1 ≤ t) (h11 : t ≤ 11) (w : World) (hd : Bs w dv r.da) :
    Calls Tryd.prog 64 #[r.val dv, .int .i64 (t : Int)] w fun e w' => e = .returned (.bool c) ∧ Below w.heap.size w w' := by
  have := rzero_any r dv t h1 h11 w hd; rw [h.out] at this; exact this
theorem rCheck_good {r : Rc} {dv : Value} (hg : r.Good) (hf : r.Fit) (w : World) (hT : TabQ w) (hd : Bs w dv r.da) :
    Calls Tryd.prog 30 #[r.val dv] w fun e w' => e = .returned (.int .i64 0) ∧ Below w.heap.size w w' := by
  have := rCheck_any r dv hf w hT hd; rw [hg.ck] at this; exact this

set_option maxRecDepth 100000 in
set_option maxHeartbeats 4000000 in
theorem rEncode_ok (r : Rc) (dv : Value) (hg : r.Good) (hn : r.Nums) (hf : r.Fit) (w : World) (hT : TabQ w) (hd : Bs w dv r.da) :
    Calls Tryd.prog 53 #[r.val dv] w (Gives0 w (encB r)) := by
  obtain ⟨A, c, rfl, _⟩ := hd.form
  have HG := Lib.hid hg
  have HN := Lib.hid hn
  have HF := Lib.hid hf
  have HD := Lib.hid hd
  have hB1 : Below w.heap.size w (w.alloc (.cells (r.cells (.slice A r.da.length c)) 62)) := (Below.refl _ w).alloc (Nat.le_refl _) _
  have HC := Lib.hid (rCheck_good hg hf (w.alloc (.cells (r.cells (.slice A r.da.length c)) 62)) (hT.below hB1) (hd.below hB1))
  have hblk : (w.alloc (.cells (r.cells (.slice A r.da.length c)) 62)).heap[w.heap.size]? = some (.cells #[.int .i64 r.v, .int .i64 r.kd, .int .i64 r.sg, .int .i64 r.st, .int .i64 r.tr, .int .i64 r.tm, .int .i64 r.la, .int .i64 r.co, .int .i64 r.cn, .int .i64 r.pv, .string r.nm, .slice A r.da.length c] 62 (0, 0)) := heap_alloc_new w _
  have hel := encB_len hg hn
  clear hf hT hd hg hn
  rw [val_eq]
  go_enter Tryd.func53, Tryd.ntmps53
  go_wp2_with fail
  obtain ⟨w1, hw1⟩ : ∃ w1, w.alloc (.cells #[.int .i64 r.v, .int .i64 r.kd, .int .i64 r.sg, .int .i64 r.st, .int .i64 r.tr, .int .i64 r.tm, .int .i64 r.la, .int .i64 r.co, .int .i64 r.cn, .int .i64 r.pv, .string r.nm, .slice A r.da.length c] 62) = w1 := ⟨_, rfl⟩
  have hw2 : w.alloc (.cells (r.cells (.slice A r.da.length c)) 62) = w1 := hw1
  rw [hw2, val_eq] at HC
  rw [hw2] at hB1 hblk
  rw [hw1]
  have hz1 : w1.heap.size = w.heap.size + 1 := by rw [← hw1]; exact World.size_alloc _ _
  clear hw1 hw2
  have HBK := Lib.hid hblk
  have HB1 := Lib.hid hB1
  clear hblk hB1
  refine HC.out.mono ?_
  rintro e w2 ⟨rfl, hb2⟩
  have s2 := hb2.size
  go_wp2_with fail
  go_loopw [5, 6, 7, 8] (fun b i _ _ wr => ∃ (t f : Nat) (dn : List UInt8), 1 ≤ t ∧ t + f = 12 ∧ i = .int .i64 (t : Int) ∧ encB r = dn ++ encF r f t ∧ Ob wr w1.heap.size b dn ∧ Below w1.heap.size w1 wr) (fun _ i _ _ _ => 12 - (intOf i).toNat)
  case atStart => exact ⟨1, 11, [], by omega, by omega, rfl, rfl, Ob.nil _ _, hb2⟩
  case round =>
    obtain ⟨t, f, dn, ht1, htf, rfl, he, HO, hb⟩ := hrel
    have HE := Lib.hid he
    have HTF := Lib.hid htf
    have ht12 : t ≤ 12 := by omega
    have hdl : dn.length ≤ 180345 := by rw [he, List.length_append] at hel; omega
    clear he htf
    have sr := hb.size
    have HK := Lib.hid ((hb.block w.heap.size (by omega)).trans HBK.out)
    have HDR := Lib.hid ((HD.out.below HB1.out).below hb)
    obtain ⟨Ab, cb, rfl⟩ := HO.slice
    by_cases hlt : t ≤ 11
    · obtain ⟨f', hf'⟩ : ∃ f', f = f' + 1 := ⟨f - 1, by have := HTF.out; omega⟩
      have HF' := Lib.hid hf'
      clear hf'
      have hlt2 : (t : Int) ≤ 11 := by omega
      cases hz : zeroB r t with
      | true =>
        have HZ := Lib.hid hz
        have HS := Lib.hid (show encF r f t = encF r f' (t + 1) by rw [HF'.out]; exact encF_skip hz)
        clear hz
        go_wp2_with (refine ld_cs (by exact rfl) (by exact rfl) w.heap.size (by exact rfl) #[.int .i64 r.v, .int .i64 r.kd, .int .i64 r.sg, .int .i64 r.st, .int .i64 r.tr, .int .i64 r.tm, .int .i64 r.la, .int .i64 r.co, .int .i64 r.cn, .int .i64 r.pv, .string r.nm, .slice A r.da.length c] rfl (by exact HK.out) ?_)
        refine (rzero_is HZ ht1 hlt wr HDR.out).mono ?_
        rintro e w3 ⟨rfl, hb3⟩
        have HO3 := HO.below hb3
        go_wp2_with fail
        go_roundw
        case rel => exact ⟨t + 1, f', dn, by omega, by have := HTF.out; have := HF'.out; omega, by go_num, by rw [HE.out, HS.out], HO3, hb.trans (hb3.mono sr)⟩
        case measure => simp [intOf]; omega
      | false =>
        have HZ := Lib.hid hz
        have HS := Lib.hid (show encF r f t = [UInt8.ofNat t] ++ valB r t ++ encF r f' (t + 1) by rw [HF'.out]; exact encF_step hz)
        have hvl := valB_len HG.out HN.out (t := t) hlt
        clear hz
        go_wp2_with (refine ld_cs (by exact rfl) (by exact rfl) w.heap.size (by exact rfl) #[.int .i64 r.v, .int .i64 r.kd, .int .i64 r.sg, .int .i64 r.st, .int .i64 r.tr, .int .i64 r.tm, .int .i64 r.la, .int .i64 r.co, .int .i64 r.cn, .int .i64 r.pv, .string r.nm, .slice A r.da.length c] rfl (by exact HK.out) ?_)
        refine (rzero_is HZ ht1 hlt wr HDR.out).mono ?_
        rintro e w3 ⟨rfl, hb3⟩
        have HO3 := HO.below hb3
        have hbw3 := hb.trans (hb3.mono sr)
        have s3 := hb3.size
        have HK3 := Lib.hid ((hb3.block w.heap.size (by omega)).trans HK.out)
        go_wp2_with (first
          | (at_builtin; refine appB w1.heap.size rfl (.tmp 23) _ rfl _ dn _ [UInt8.ofNat t] rfl rfl (HO3.below ((Below.refl _ _).alloc (Nat.le_refl _) _)) (Bs.litn _ _ [UInt8.ofNat t] 1 _ (lit1 (by omega) (by omega)) rfl (by omega) (by simp)) (by simp; omega) (hbw3.alloc (by omega) _) (by simp; omega) ?_; intro v4 w4 HO4 hb4 _ _; have s4 := hb4.size; have HK4 := Lib.hid ((hb4.block w.heap.size (by omega)).trans HBK.out))
          | (refine ld_cs (by exact rfl) (by exact rfl) w.heap.size (by exact rfl) #[.int .i64 r.v, .int .i64 r.kd, .int .i64 r.sg, .int .i64 r.st, .int .i64 r.tr, .int .i64 r.tm, .int .i64 r.la, .int .i64 r.co, .int .i64 r.cn, .int .i64 r.pv, .string r.nm, .slice A r.da.length c] rfl (by exact HK4.out) ?_))
        have hl4 : (dn ++ [UInt8.ofNat t]).length ≤ 180346 := by simp; omega
        obtain ⟨d4, hd4⟩ : ∃ d4, dn ++ [UInt8.ofNat t] = d4 := ⟨_, rfl⟩
        rw [hd4] at HO4 hl4
        have HD4 := Lib.hid hd4
        clear hd4
        have HDR4 := (HD.out.below HB1.out).below hb4
        refine (rvalue_any r (.slice A r.da.length c) t ht1 hlt HN.out (fun h9 h7 => HG.out.num ht1 h9 h7) HF.out.nm (by have := HG.out.da; omega) w4 HDR4).mono ?_
        rintro e w5 ⟨x5, rfl, HX5, hb5⟩
        have HO5 := HO4.below hb5
        have hbw5 := hb4.trans (hb5.mono s4)
        have s5 := hb5.size
        have HX5 := HX5.bs
        go_wp2_with (at_builtin; refine appB w1.heap.size rfl (.tmp 31) _ rfl _ d4 _ (valB r t) rfl rfl HO5 HX5 (by omega) hbw5 (by omega) ?_; intro v6 w6 HO6 hb6 _ _)
        go_roundw
        case rel =>
          exact ⟨t + 1, f', _, by omega, by have := HTF.out; have := HF'.out; omega, by go_num, by rw [HE.out, HS.out, ← HD4.out]; simp [List.append_assoc], HO6, hb6⟩
        case measure => simp [intOf]; omega
    · have ht : t = 12 := by omega
      subst ht
      have hf0 : f = 0 := by have := HTF.out; omega
      go_wp2_with fail
      go_ret2
      refine ⟨_, rfl, ?_, ?_⟩
      · rw [HE.out, hf0]; simp only [encF, List.append_nil]; exact own_mono HO (by omega)
      · exact HB1.out.trans (hb.mono (by omega))
end Go.Proofs.YtfmlkagcmkbebaaDoor
