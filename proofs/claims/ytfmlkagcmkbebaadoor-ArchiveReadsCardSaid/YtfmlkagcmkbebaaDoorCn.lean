/- annalsref17.Read. -/
import Derived.Test.YtfmlkagcmkbebaaDoorCm
namespace Go.Proofs.YtfmlkagcmkbebaaDoor
open Go.RowKit

theorem st_narch {ops : Array Oper} {rest : List Oper} {o : Oper} {a : Act} {W : World} {Q : Exit → Act → World → Prop} {x y : Operand} {old : Array Value} (ho : o.op = .store 53 x y) (hgd : o.guard = none) (b : Nat) (hb : b = W.heap.size)
    (hx : a.eval x = .pointer (some ⟨b, 0, none⟩)) (cs : Array Value) (hy : a.eval y = .agg cs) (hs : cs.size = 2) (hold : old.size = cs.size) (h1 : cs.all (·.oneCell') = true)
    (h : wpList Tryd.prog ops Q rest (a.put o.dst undef) (W.alloc (.cells cs 53))) : wpList Tryd.prog ops Q (o :: rest) a (W.alloc (.cells old 53)) := by
  subst hb
  refine wpList_store_row hgd 53 x y ho W.heap.size _ hx hy 53 old (heap_alloc_new _ _) (by rw [hs]; kernel_rfl) hold h1 ?_
  rw [World.setRow_alloc_new]; exact h
/-- The last frame, told by writing it anew. -/
theorem rdLast_two {b x : List UInt8} {p q : Nat} (h : rdFr b p = (x, q, 0)) : rdLast b p = if x.getD 0 0 = 82 then (0, 171) else if (b.take q).drop p ≠ lastF (b.take p) then (0, 170) else (q, 0) := by
  obtain ⟨h1, h2, h3, h4, h5⟩ := rdFr_frame h
  unfold rdLast
  rw [h]
  simp only [ne_eq, not_true_eq_false, if_false]
  by_cases h82 : x.getD 0 0 = 82
  · rw [if_pos h82, if_pos h82]
  · rw [if_neg h82, if_neg h82]
    have e : (b.take q).drop p = frame x := by
      rw [List.drop_take, h3, h2, Nat.add_sub_cancel_left, List.take_left' rfl]
    by_cases hx : x = [69] ++ le32 (crc (b.take p))
    · rw [if_neg (by simpa using hx), if_neg]
      rw [e]; unfold lastF; rw [← hx]; simp
    · rw [if_pos (by simpa using hx), if_pos]
      rw [e]; intro k
      refine hx (frame_inj (r := []) (s := []) (by simpa [lastF] using k) h4 h5 (by simp [le32]) (by simp [le32])).1

set_option maxRecDepth 100000 in
set_option maxHeartbeats 8000000 in
theorem rRead_any (v : Value) (b : List UInt8) (hb : b.length ≤ 1099511627776) (w : World) (hT : TabQ w) (hv : Bs w v b) :
    Calls Tryd.prog 28 #[v] w (ArchE w (rdArch b)) := by
  have HT := Lib.hid hT
  have HX := Lib.hid hv
  obtain ⟨A, c, rfl, hn, hc, hr⟩ := hv.form
  obtain ⟨W2, hW2⟩ : ∃ W2, (w.alloc (.cells #[.int .i64 0, .slice none 0 0] 53)).alloc (.cells #[.int .i64 0, .slice none 0 0] 53) = W2 := ⟨_, rfl⟩
  have hB2 : Below w.heap.size w W2 := by rw [← hW2]; exact ((Below.refl _ w).alloc (Nat.le_refl _) _).alloc (by simp) _
  have hz : W2.heap.size = w.heap.size + 2 := by rw [← hW2]; simp
  have hb0 : W2.heap[w.heap.size]? = some (.cells #[.int .i64 0, .slice none 0 0] 53 (0, 0)) := by
    rw [← hW2]; exact (Below.heap_alloc _ _ _ (by simp)).trans (heap_alloc_new w _)
  have hb1 : W2.heap[w.heap.size + 1]? = some (.cells #[.int .i64 0, .slice none 0 0] 53 (0, 0)) := by
    rw [← hW2]; exact (heap_alloc2 _ _ _).trans (heap_alloc_new w _)
  have HW := Lib.hid hW2
  have H0 := Lib.hid hb0
  have H1 := Lib.hid hb1
  clear hW2 hb0 hb1 hT
  obtain ⟨Y, hY⟩ : ∃ Y, rdArch b = Y := ⟨_, rfl⟩
  rw [hY]
  unfold rdArch at hY
  by_cases hbig : 8388608 < b.length
  · rw [if_pos hbig] at hY
    have HV := Lib.hid hY.symm
    have t1 : (8388608 : Int) < (b.length : Int) := by omega
    clear hY hbig hv hr
    go_enter Tryd.func28, Tryd.ntmps28
    go_wp2_with fail
    refine bodyPost_ret (results_cell2 rfl _ _ _ w.heap.size #[.int .i64 0, .slice none 0 0] rfl (ld_abox (by rw [HW.out]; exact H0.out) rfl)) rfl (by exact ArchE.zero HV.out (by rw [HW.out]; exact hB2))
  · rw [if_neg hbig] at hY
    have t1 : ¬ (8388608 : Int) < (b.length : Int) := by omega
    by_cases hsm : b.length < 5
    · rw [if_pos (.inl hsm)] at hY
      have HV := Lib.hid hY.symm
      have t2 : (b.length : Int) < 5 := by omega
      clear hY hbig hsm hv hr
      go_enter Tryd.func28, Tryd.ntmps28
      go_wp2_with fail
      refine bodyPost_ret (results_cell2 rfl _ _ _ w.heap.size #[.int .i64 0, .slice none 0 0] rfl (ld_abox (by rw [HW.out]; exact H0.out) rfl)) rfl (by exact ArchE.zero HV.out (by rw [HW.out]; exact hB2))
    · have t2 : ¬ (b.length : Int) < 5 := by omega
      have hcv := conv_bs ((hv.below hB2).take (m := 5) (by omega))
      rw [← HW.out] at hcv
      obtain ⟨g, o, rfl, -⟩ := hr 0 (by omega)
      by_cases hhd : b.take 5 ≠ [65, 78, 65, 82, 1]
      · rw [if_pos (.inr hhd)] at hY
        have HV := Lib.hid hY.symm
        have hbe : (b.take 5 == [65, 78, 65, 82, 1]) = false := by rw [beq_eq_false_iff_ne]; exact hhd
        generalize b.take 5 = hd at hcv hbe
        clear hY hbig hsm hv hr hhd
        go_enter Tryd.func28, Tryd.ntmps28
        go_wp2_with fail
        refine bodyPost_ret (results_cell2 rfl _ _ _ w.heap.size #[.int .i64 0, .slice none 0 0] rfl (ld_abox (by rw [HW.out]; exact H0.out) rfl)) rfl (by exact ArchE.zero HV.out (by rw [HW.out]; exact hB2))
      · rw [if_neg (fun h => by rcases h with h | h; omega; exact hhd h)] at hY
        have hhd0 : b.take 5 = [65, 78, 65, 82, 1] := Classical.byContradiction hhd
        rw [hhd0] at hcv
        have HFR := Lib.hid (rReadFrame_any _ b 5 hb (by omega) W2 (HX.out.below hB2))
        have hend := rdFr_end (b := b) (p := 5)
        obtain ⟨y, hy⟩ : ∃ y, rdFr b 5 = y := ⟨_, rfl⟩
        rw [hy] at hY HFR hend
        obtain ⟨x, q, e⟩ := y
        simp only at hY hend
        clear hv hr hhd hhd0 hy
        by_cases he : e ≠ 0
        · rw [if_pos he] at hY
          have HV := Lib.hid hY.symm
          have t3 : (e != 0) = true := by rw [bne_iff_ne]; exact he
          clear hY he hend hbig hsm
          go_enter Tryd.func28, Tryd.ntmps28
          go_wp2_with fail
          rw [HW.out]
          refine HFR.out.mono ?_
          rintro ee w1 ⟨v1, rfl, HO1, hb1⟩
          have K0 := Lib.hid ((hb1.block w.heap.size (by omega)).trans H0.out)
          have K1 := Lib.hid ((hb1.block (w.heap.size + 1) (by omega)).trans H1.out)
          have HB1 := Lib.hid (hB2.trans (hb1.mono (by omega)))
          clear hb1 HO1
          go_wp2_with (first
            | (refine ld_arch (by exact rfl) (by exact rfl) (w.heap.size + 1) (by exact rfl) #[.int .i64 0, .slice none 0 0] rfl (by exact K1.out) ?_)
            | (refine st_arch (by exact rfl) (by exact rfl) w.heap.size (by exact rfl) #[.int .i64 0, .slice none 0 0] #[.int .i64 0, .slice none 0 0] (by exact rfl) rfl rfl (by simp [Value.oneCell']) (by exact K0.out) ?_))
          refine bodyPost_ret (results_cell2 rfl _ _ _ w.heap.size #[.int .i64 0, .slice none 0 0] rfl (ld_abox (setRow_abox _ _ _ _ K0.out) rfl)) rfl (by exact ArchE.zero HV.out (below_setRow HB1.out))
        · rw [if_neg he] at hY
          have he0 : e = 0 := Classical.byContradiction he
          subst he0
          obtain ⟨hx0, hx1, hq5, hqb⟩ := hend rfl
          clear he hend
          have hli : (0 : Int) < (x.length : Int) := by omega
          have HTW := Lib.hid (fun (W : World) (u : Value) (hu : Bs W u x) => numbers_any u x 1 (by omega) (by omega) W hu)
          have hN := rdTwo_lt (b := x) (p := 1)
          generalize rdTwo x 1 = tw at hY HTW hN
          obtain ⟨top, N, ok⟩ := tw
          simp only at hY HTW
          by_cases hbad : x.getD 0 0 ≠ 84 ∨ ok = false ∨ 9223372036854775807 < top
          · rw [if_pos hbad] at hY
            have HV := Lib.hid hY.symm
            clear hY hbig hsm
            have hcase : ((((x.getD 0 0).toNat : Int) != 84) = true) ∨ (x.getD 0 0 = 84 ∧ ok = false) ∨ (x.getD 0 0 = 84 ∧ ok = true ∧ (9223372036854775807 : Int) < (top : Int)) := by
              by_cases h84 : x.getD 0 0 = 84
              · rcases hbad with h | h | h
                · exact absurd h84 h
                · exact .inr (.inl ⟨h84, h⟩)
                · cases ok with
                  | false => exact .inr (.inl ⟨h84, rfl⟩)
                  | true => exact .inr (.inr ⟨h84, rfl, by omega⟩)
              · refine .inl ?_
                rw [bne_iff_ne]; intro e; exact h84 (UInt8.toNat_inj.1 (by show _ = 84; omega))
            clear hbad
            go_enter Tryd.func28, Tryd.ntmps28
            go_wp2_with fail
            rw [HW.out]
            refine HFR.out.mono ?_
            rintro ee w1 ⟨v1, rfl, HO1, hb1⟩
            obtain ⟨gx, cap, rfl, -, -, -⟩ := HO1.form hx0
            obtain ⟨g', o', e, hcell⟩ := HO1.bs.at0 hx0
            injection e with e; injection e with e1 e2 _
            subst e1; subst e2
            have c0 := hcell 0 hx0
            rw [Nat.zero_add] at c0
            have K0 := Lib.hid ((hb1.block w.heap.size (by omega)).trans H0.out)
            have K1 := Lib.hid ((hb1.block (w.heap.size + 1) (by omega)).trans H1.out)
            have HB1 := Lib.hid (hB2.trans (hb1.mono (by omega)))
            have HTW1 := Lib.hid (HTW.out w1 _ HO1.bs)
            clear hb1 HO1 hcell
            go_wp2_with fail
            refine HTW1.out.mono ?_
            rintro ee wz ⟨rfl, rfl⟩
            rcases hcase with hz | ⟨h84, rfl⟩ | ⟨h84, rfl, htop⟩
            · generalize (x.getD 0 0).toNat = z0 at c0 hz
              go_wp2_with (first
                | (refine ld_arch (by exact rfl) (by exact rfl) (w.heap.size + 1) (by exact rfl) #[.int .i64 0, .slice none 0 0] rfl (by exact K1.out) ?_)
                | (refine st_arch (by exact rfl) (by exact rfl) w.heap.size (by exact rfl) #[.int .i64 0, .slice none 0 0] #[.int .i64 0, .slice none 0 0] (by exact rfl) rfl rfl (by simp [Value.oneCell']) (by exact K0.out) ?_))
              refine bodyPost_ret (results_cell2 rfl _ _ _ w.heap.size #[.int .i64 0, .slice none 0 0] rfl (ld_abox (setRow_abox _ _ _ _ K0.out) rfl)) rfl (by exact ArchE.zero HV.out (below_setRow HB1.out))
            · rw [h84] at c0
              replace c0 : w1.cell? ⟨gx, 0, none⟩ = some (.int .u8 84) := c0
              clear h84
              go_wp2_with (first
                | (refine ld_arch (by exact rfl) (by exact rfl) (w.heap.size + 1) (by exact rfl) #[.int .i64 0, .slice none 0 0] rfl (by exact K1.out) ?_)
                | (refine st_arch (by exact rfl) (by exact rfl) w.heap.size (by exact rfl) #[.int .i64 0, .slice none 0 0] #[.int .i64 0, .slice none 0 0] (by exact rfl) rfl rfl (by simp [Value.oneCell']) (by exact K0.out) ?_))
              refine bodyPost_ret (results_cell2 rfl _ _ _ w.heap.size #[.int .i64 0, .slice none 0 0] rfl (ld_abox (setRow_abox _ _ _ _ K0.out) rfl)) rfl (by exact ArchE.zero HV.out (below_setRow HB1.out))
            · rw [h84] at c0
              replace c0 : w1.cell? ⟨gx, 0, none⟩ = some (.int .u8 84) := c0
              clear h84
              go_wp2_with (first
                | (refine ld_arch (by exact rfl) (by exact rfl) (w.heap.size + 1) (by exact rfl) #[.int .i64 0, .slice none 0 0] rfl (by exact K1.out) ?_)
                | (refine st_arch (by exact rfl) (by exact rfl) w.heap.size (by exact rfl) #[.int .i64 0, .slice none 0 0] #[.int .i64 0, .slice none 0 0] (by exact rfl) rfl rfl (by simp [Value.oneCell']) (by exact K0.out) ?_))
              refine bodyPost_ret (results_cell2 rfl _ _ _ w.heap.size #[.int .i64 0, .slice none 0 0] rfl (ld_abox (setRow_abox _ _ _ _ K0.out) rfl)) rfl (by exact ArchE.zero HV.out (below_setRow HB1.out))
          · rw [if_neg hbad] at hY
            have h84 : x.getD 0 0 = 84 := Classical.byContradiction fun h => hbad (.inl h)
            have hok : ok = true := by
              cases ok with
              | false => exact absurd (.inr (.inl rfl)) hbad
              | true => rfl
            subst hok
            have hN64 := hN rfl
            simp only at hN64
            clear hN
            have htop : top ≤ 9223372036854775807 := by
              rcases Nat.lt_or_ge 9223372036854775807 top with h | h
              · exact absurd (.inr (.inr h)) hbad
              · exact h
            have htopi : ¬ (9223372036854775807 : Int) < (top : Int) := by omega
            have hwt : IntKind.i64.wrap (top : Int) = (top : Int) := by rw [IntKind.wrap_i64]; omega
            have HY := Lib.hid hY
            clear hbad hY hbig hsm
            go_enter Tryd.func28, Tryd.ntmps28
            go_wp2_with fail
            rw [HW.out]
            refine HFR.out.mono ?_
            rintro ee w1 ⟨v1, rfl, HO1, hb1⟩
            obtain ⟨gx, cap, rfl, -, -, -⟩ := HO1.form hx0
            obtain ⟨g', o', e, hcell⟩ := HO1.bs.at0 hx0
            injection e with e; injection e with e1 e2 _
            subst e1; subst e2
            have c0 := hcell 0 hx0
            rw [h84] at c0
            replace c0 : w1.cell? ⟨gx, 0, none⟩ = some (.int .u8 84) := c0
            have k0 := (hb1.block w.heap.size (by omega)).trans H0.out
            have k1 := (hb1.block (w.heap.size + 1) (by omega)).trans H1.out
            have hB1 := hB2.trans (hb1.mono (by omega))
            have HTW1 := Lib.hid (HTW.out w1 _ HO1.bs)
            have hs1 := hb1.size
            obtain ⟨w3, hw3⟩ : ∃ w3, w1.alloc (.cells #[.int .i64 (top : Int), .slice none 0 0] 53) = w3 := ⟨_, rfl⟩
            have hal3 : Below w1.heap.size w1 w3 := by rw [← hw3]; exact (Below.refl _ _).alloc (Nat.le_refl _) _
            have hb3n : w3.heap[w1.heap.size]? = some (.cells #[.int .i64 (top : Int), .slice none 0 0] 53 (0, 0)) := by rw [← hw3]; exact heap_alloc_new _ _
            have hb30 := (hal3.block w.heap.size (by omega)).trans k0
            have hb31 := (hal3.block (w.heap.size + 1) (by omega)).trans k1
            have hB3 := hB1.trans (hal3.mono (by omega))
            have hs3 : w1.heap.size + 1 ≤ w3.heap.size := by rw [← hw3, World.size_alloc]; omega
            have HW3 := Lib.hid hw3
            obtain ⟨nb, hnb⟩ : ∃ nb, w1.heap.size = nb := ⟨_, rfl⟩
            have hnb2 : w.heap.size + 2 ≤ nb := by omega
            have HNB := Lib.hid hnb
            clear hb1 HO1 hcell h84 k0 k1 hal3 hw3
            go_wp2_with fail
            refine HTW1.out.mono ?_
            rintro ee wz ⟨rfl, rfl⟩
            clear hnb
            go_wp2_with (refine st_narch (by exact rfl) (by exact rfl) w1.heap.size rfl (by exact rfl) #[.int .i64 (top : Int), .slice none 0 0] (by exact rfl) rfl rfl (by simp [Value.oneCell']) ?_; rw [HW3.out])
            rw [HNB.out] at hb3n hs3 ⊢
            clear c0
            obtain ⟨RR, hRR⟩ : ∃ RR, rdRecs b N q [] = RR := ⟨_, rfl⟩
            rw [hRR] at HY
            have HRR := Lib.hid hRR
            clear hRR HTW1 HTW
            go_loopw [7, 13] (fun ii jj wr => ∃ (k i n : Nat) (l : List Rec) (va : Value), ii = .int .i64 (k : Int) ∧ jj = .int .u64 (i : Int) ∧ i + n = N ∧ k ≤ b.length ∧ l.length ≤ k ∧ Hid (RR = rdRecs b n k (l.map Prod.fst)) ∧
              wr.heap[w.heap.size]? = some (.cells #[.int .i64 0, .slice none 0 0] 53 (0, 0)) ∧ wr.heap[w.heap.size + 1]? = some (.cells #[.int .i64 0, .slice none 0 0] 53 (0, 0)) ∧ wr.heap[nb]? = some (.cells #[.int .i64 (top : Int), va] 53 (0, 0)) ∧ Owd wr (nb + 1) va l ∧ Below w.heap.size w wr ∧ nb + 1 ≤ wr.heap.size) (fun _ jj _ => N - (intOf jj).toNat)
            case atStart => exact ⟨q, 0, N, [], .slice none 0 0, rfl, rfl, by omega, hqb, by simp, HRR.out.symm, hb30, hb31, hb3n, Owd.nil _ _, hB3, hs3⟩
            case round =>
              obtain ⟨k, i, n, l, va, rfl, rfl, hin, hk, hlk, HF, hz0, hz1, hzn, HO, HB, hsz⟩ := hrel
              clear hb30 hb31 hB3 hs3 hb3n
              have H0 := Lib.hid hz0
              have H1 := Lib.hid hz1
              have H2 := Lib.hid hzn
              obtain ⟨Aa, ca, rfl⟩ := HO.ow.slice
              clear hz0 hz1 hzn
              have HFR := Lib.hid (rReadFrame_any _ b k hb (by omega) wr (HX.out.below HB))
              by_cases hn0 : n = 0
              · subst hn0
                have hlt : ¬ (i : Int) < (N : Int) := by omega
                have hF0 : RR = (l.map Prod.fst, k, 0) := HF.out
                have hY1 := HY.out
                rw [hF0, if_neg (by simp)] at hY1
                simp only at hY1
                have hend := rdFr_end (b := b) (p := k)
                have h2 := fun x q (h : rdFr b k = (x, q, 0)) => rdLast_two h
                have hle : (rdFr b k).2.2 ≠ 0 → rdLast b k = (0, (rdFr b k).2.2) := fun h => by unfold rdLast; rw [if_pos h]
                generalize rdFr b k = fr at HFR hend h2 hle
                obtain ⟨x5, en, ec⟩ := fr
                simp only at hend hle
                have HOr := Lib.hid HO
                have HBr := Lib.hid HB
                clear HO HB hF0 HF hin
                by_cases he : ec ≠ 0
                · rw [hle he, if_pos he] at hY1
                  have HV := Lib.hid hY1.symm
                  have t3 : (ec != 0) = true := by rw [bne_iff_ne]; exact he
                  clear hY1 he hle h2 hend
                  go_wp2_with fail
                  refine HFR.out.mono ?_
                  rintro ee w5 ⟨v5, rfl, -, hb5⟩
                  have K0 := Lib.hid ((hb5.block w.heap.size (by omega)).trans H0.out)
                  have K1 := Lib.hid ((hb5.block (w.heap.size + 1) (by omega)).trans H1.out)
                  have HB1 := Lib.hid (HBr.out.trans (hb5.mono (by omega)))
                  clear hb5
                  go_wp2_with (first
                    | (refine ld_arch (by exact rfl) (by exact rfl) (w.heap.size + 1) (by exact rfl) #[.int .i64 0, .slice none 0 0] rfl (by exact K1.out) ?_)
                    | (refine st_arch (by exact rfl) (by exact rfl) w.heap.size (by exact rfl) #[.int .i64 0, .slice none 0 0] #[.int .i64 0, .slice none 0 0] (by exact rfl) rfl rfl (by simp [Value.oneCell']) (by exact K0.out) ?_))
                  try simp only [Exit.inBlock, Exit.then]
                  refine bodyPost_ret (results_cell2 rfl _ _ _ w.heap.size #[.int .i64 0, .slice none 0 0] rfl (ld_abox (setRow_abox _ _ _ _ K0.out) rfl)) rfl (by exact ArchE.zero HV.out (below_setRow HB1.out))
                · have he0 : ec = 0 := Classical.byContradiction he
                  subst he0
                  obtain ⟨hx50, hx51, hken, henb⟩ := hend rfl
                  rw [h2 x5 en rfl] at hY1
                  clear he hle h2 hend
                  have hli5 : (0 : Int) < (x5.length : Int) := by omega
                  by_cases h82 : x5.getD 0 0 = 82
                  · rw [if_pos h82, if_pos (by simp)] at hY1
                    have HV := Lib.hid hY1.symm
                    clear hY1
                    go_wp2_with fail
                    refine HFR.out.mono ?_
                    rintro ee w5 ⟨v5, rfl, HO5, hb5⟩
                    obtain ⟨g5, cap5, rfl, -, -, -⟩ := HO5.form hx50
                    obtain ⟨g', o', e, hcell⟩ := HO5.bs.at0 hx50
                    injection e with e; injection e with e1 e2 _
                    subst e1; subst e2
                    have c0 := hcell 0 hx50
                    rw [h82] at c0
                    replace c0 : w5.cell? ⟨g5, 0, none⟩ = some (.int .u8 82) := c0
                    have K0 := Lib.hid ((hb5.block w.heap.size (by omega)).trans H0.out)
                    have K1 := Lib.hid ((hb5.block (w.heap.size + 1) (by omega)).trans H1.out)
                    have HB1 := Lib.hid (HBr.out.trans (hb5.mono (by omega)))
                    clear hb5 HO5 hcell h82
                    go_wp2_with (first
                      | (refine ld_arch (by exact rfl) (by exact rfl) (w.heap.size + 1) (by exact rfl) #[.int .i64 0, .slice none 0 0] rfl (by exact K1.out) ?_)
                      | (refine st_arch (by exact rfl) (by exact rfl) w.heap.size (by exact rfl) #[.int .i64 0, .slice none 0 0] #[.int .i64 0, .slice none 0 0] (by exact rfl) rfl rfl (by simp [Value.oneCell']) (by exact K0.out) ?_))
                    try simp only [Exit.inBlock, Exit.then]
                    refine bodyPost_ret (results_cell2 rfl _ _ _ w.heap.size #[.int .i64 0, .slice none 0 0] rfl (ld_abox (setRow_abox _ _ _ _ K0.out) rfl)) rfl (by exact ArchE.zero HV.out (below_setRow HB1.out))
                  · rw [if_neg h82] at hY1
                    have hz82 : (((x5.getD 0 0).toNat : Int) == 82) = false := by
                      rw [beq_eq_false_iff_ne]; intro e; exact h82 (UInt8.toNat_inj.1 (by show _ = 82; omega))
                    have HLA := Lib.hid (fun (W : World) (hW : Below w.heap.size w W) => last_any _ (b.take k) W ((HX.out.below hW).take hk))
                    have hLL := lastF_len (b.take k)
                    have hki : (k : Int) ≤ (b.length : Int) := by omega
                    have hHX2 := fun (W : World) (hW : Below w.heap.size w W) => slice_lh (HX.out.below hW) k en (by omega) henb
                    have hHY1 := hY1
                    clear hY1
                    go_wp2_with fail
                    refine HFR.out.mono ?_
                    rintro ee w5 ⟨v5, rfl, HO5, hb5⟩
                    obtain ⟨g5, cap5, rfl, -, -, -⟩ := HO5.form hx50
                    obtain ⟨g', o', e, hcell⟩ := HO5.bs.at0 hx50
                    injection e with e; injection e with e1 e2 _
                    subst e1; subst e2
                    have c0 := hcell 0 hx50
                    rw [Nat.zero_add] at c0
                    generalize (x5.getD 0 0).toNat = z0 at c0 hz82
                    have k0 := ((hb5.block w.heap.size (by omega)).trans H0.out)
                    have k1 := ((hb5.block (w.heap.size + 1) (by omega)).trans H1.out)
                    have k2 := ((hb5.block nb (by omega)).trans H2.out)
                    have hB5 := (HBr.out.trans (hb5.mono (by omega)))
                    have HO55 := Lib.hid (HOr.out.below hb5)
                    have HLA5 := Lib.hid (HLA.out w5 hB5)
                    have hs5 := hb5.size
                    clear hb5 HO5 hcell h82
                    go_wp2_with fail
                    refine HLA5.out.mono ?_
                    rintro ee w6 ⟨v6, rfl, HO6, hb6⟩
                    obtain ⟨Wd, hWd⟩ : ∃ Wd, lastF (b.take k) = Wd := ⟨_, rfl⟩
                    rw [hWd] at HO6 hLL hHY1
                    have HHY1 := Lib.hid hHY1
                    clear hHY1
                    obtain ⟨A6, c6, rfl⟩ := HO6.slice
                    have hB6 := hB5.trans (hb6.mono (by omega))
                    have hs6 := hb6.size
                    have K0 := Lib.hid ((hb6.block w.heap.size (by omega)).trans k0)
                    have K1 := Lib.hid ((hb6.block (w.heap.size + 1) (by omega)).trans k1)
                    have K2 := Lib.hid ((hb6.block nb (by omega)).trans k2)
                    have HO66 := Lib.hid (HO55.out.below hb6)
                    have HB1 := Lib.hid hB6
                    obtain ⟨As, cs, hsl, hbs⟩ := hHX2 w6 hB6
                    have hwk : IntKind.i64.wrap ((en : Int) - (k : Int)) = (en : Int) - (k : Int) := by rw [IntKind.wrap_i64]; omega
                    have hkei : (k : Int) ≤ (en : Int) := by omega
                    have hebi : (en : Int) ≤ (b.length : Int) := by omega
                    have hcv1 := fun n => conv_bs (hbs.below (below_drewN (B := w6.heap.size) w6 n))
                    have hcv2 := fun n => conv_bs (HO6.bs.below (below_drewN (B := w6.heap.size) w6 n))
                    have HWD := Lib.hid hWd
                    clear hb6 k0 k1 k2 HO6 hHX2 hWd hB6 hB5 hLL
                    by_cases hlen : en - k = Wd.length
                    · have hne : ((en : Int) - (k : Int) != (Wd.length : Int)) = false := by rw [bne_eq_false_iff_eq]; omega
                      obtain ⟨P, hP⟩ : ∃ P, (b.drop k).take (en - k) = P := ⟨_, rfl⟩
                      have hPd : (b.take en).drop k = P := by rw [List.drop_take]; exact hP
                      rw [hP] at hcv1
                      have HHY2 := HHY1.out
                      rw [hPd] at HHY2
                      have HHY2 := Lib.hid HHY2
                      clear hbs hlen hP hPd
                      by_cases hPW : P = Wd
                      · subst hPW
                        have hY3 := HHY2.out
                        rw [if_neg (show ¬ (if P ≠ P then ((0 : Nat), (170 : Int)) else (en, 0)).2 ≠ 0 by simp)] at hY3
                        simp only [ne_eq, not_true_eq_false, if_false] at hY3
                        have hY3 := Lib.hid hY3
                        go_wp2_with fail
                        go_quiet (fail)
                        clear hsl hcv1 hcv2 hwk
                        obtain ⟨w7, hw7⟩ : ∃ w7, w6.drewN nq = w7 := ⟨_, rfl⟩
                        have hd7 : Below w6.heap.size w6 w7 := by rw [← hw7]; exact below_drewN _ _
                        have K07 := Lib.hid ((hd7.block w.heap.size (by omega)).trans K0.out)
                        have K17 := Lib.hid ((hd7.block (w.heap.size + 1) (by omega)).trans K1.out)
                        have K27 := Lib.hid ((hd7.block nb (by omega)).trans K2.out)
                        have HB7 := Lib.hid (HB1.out.trans (hd7.mono (by have := HB1.out.size; omega)))
                        have HO7 := Lib.hid (HO66.out.below hd7)
                        rw [hw7]
                        clear hw7 hd7
                        by_cases hen : en = b.length
                        · have HV := Lib.hid (hY3.out.symm.trans (if_neg (by simpa using hen)))
                          have hei : ¬ (en : Int) < (b.length : Int) := by omega
                          clear hen hne
                          go_wp2_with (first
                            | (refine ld_arch (by exact rfl) (by exact rfl) nb (by exact rfl) #[.int .i64 (top : Int), .slice Aa l.length ca] rfl (by exact K27.out) ?_)
                            | (refine st_arch (by exact rfl) (by exact rfl) w.heap.size (by exact rfl) #[.int .i64 (top : Int), .slice Aa l.length ca] #[.int .i64 0, .slice none 0 0] (by exact rfl) rfl rfl (by simp [Value.oneCell']) (by exact K07.out) ?_))
                          try simp only [Exit.inBlock, Exit.then]
                          refine bodyPost_ret (results_cell2 rfl _ _ _ w.heap.size #[.int .i64 (top : Int), .slice Aa l.length ca] rfl (ld_abox (setRow_abox _ _ _ _ K07.out) rfl)) rfl (by exact ⟨.slice Aa l.length ca, l, by rw [HV.out]; rfl, (HO7.out.kp (Kp.of_grown (grownBy_setRow w7 w.heap.size #[.int .i64 (top : Int), .slice Aa l.length ca])) (fun k e => by injection e with e; omega)).mono (by omega), by rw [HV.out], below_setRow HB7.out⟩)
                        · have HV := Lib.hid (hY3.out.symm.trans (if_pos (by simpa using hen)))
                          have hei : (en : Int) < (b.length : Int) := by omega
                          clear hen hne
                          go_wp2_with (first
                            | (refine ld_arch (by exact rfl) (by exact rfl) (w.heap.size + 1) (by exact rfl) #[.int .i64 0, .slice none 0 0] rfl (by exact K17.out) ?_)
                            | (refine st_arch (by exact rfl) (by exact rfl) w.heap.size (by exact rfl) #[.int .i64 0, .slice none 0 0] #[.int .i64 0, .slice none 0 0] (by exact rfl) rfl rfl (by simp [Value.oneCell']) (by exact K07.out) ?_))
                          try simp only [Exit.inBlock, Exit.then]
                          refine bodyPost_ret (results_cell2 rfl _ _ _ w.heap.size #[.int .i64 0, .slice none 0 0] rfl (ld_abox (setRow_abox _ _ _ _ K07.out) rfl)) rfl (by exact ArchE.zero HV.out (below_setRow HB7.out))
                      · have hpw : (P == Wd) = false := by rw [beq_eq_false_iff_ne]; exact hPW
                        have HV := Lib.hid (show Y = (0, [], 170, k) by
                          have h1 : (if P ≠ Wd then ((0 : Nat), (170 : Int)) else (en, 0)) = (0, 170) := if_pos hPW
                          have h := HHY2.out
                          rw [h1, if_pos (by simp)] at h
                          exact h.symm)
                        clear hPW
                        go_wp2_with fail
                        go_quiet (fail)
                        clear hsl hcv1 hcv2 hwk
                        obtain ⟨w7, hw7⟩ : ∃ w7, w6.drewN nq = w7 := ⟨_, rfl⟩
                        have hd7 : Below w6.heap.size w6 w7 := by rw [← hw7]; exact below_drewN _ _
                        have K07 := Lib.hid ((hd7.block w.heap.size (by omega)).trans K0.out)
                        have K17 := Lib.hid ((hd7.block (w.heap.size + 1) (by omega)).trans K1.out)
                        have K27 := Lib.hid ((hd7.block nb (by omega)).trans K2.out)
                        have HB7 := Lib.hid (HB1.out.trans (hd7.mono (by have := HB1.out.size; omega)))
                        have HO7 := Lib.hid (HO66.out.below hd7)
                        rw [hw7]
                        clear hw7 hd7
                        go_wp2_with (first
                          | (refine ld_arch (by exact rfl) (by exact rfl) (w.heap.size + 1) (by exact rfl) #[.int .i64 0, .slice none 0 0] rfl (by exact K17.out) ?_)
                          | (refine st_arch (by exact rfl) (by exact rfl) w.heap.size (by exact rfl) #[.int .i64 0, .slice none 0 0] #[.int .i64 0, .slice none 0 0] (by exact rfl) rfl rfl (by simp [Value.oneCell']) (by exact K07.out) ?_))
                        try simp only [Exit.inBlock, Exit.then]
                        refine bodyPost_ret (results_cell2 rfl _ _ _ w.heap.size #[.int .i64 0, .slice none 0 0] rfl (ld_abox (setRow_abox _ _ _ _ K07.out) rfl)) rfl (by exact ArchE.zero HV.out (below_setRow HB7.out))
                    · have hne : ((en : Int) - (k : Int) != (Wd.length : Int)) = true := by rw [bne_iff_ne]; omega
                      have HV := Lib.hid (show Y = (0, [], 170, k) by
                        have h1 : (if (b.take en).drop k ≠ Wd then ((0 : Nat), (170 : Int)) else (en, 0)) = (0, 170) := if_pos (fun e => hlen (by have := congrArg List.length e; simp at this; omega))
                        have h := HHY1.out
                        rw [h1, if_pos (by simp)] at h
                        exact h.symm)
                      clear hlen hsl hcv1 hcv2
                      go_wp2_with fail
                      go_quiet (fail)
                      clear hwk
                      obtain ⟨w7, hw7⟩ : ∃ w7, w6.drewN nq = w7 := ⟨_, rfl⟩
                      have hd7 : Below w6.heap.size w6 w7 := by rw [← hw7]; exact below_drewN _ _
                      have K07 := Lib.hid ((hd7.block w.heap.size (by omega)).trans K0.out)
                      have K17 := Lib.hid ((hd7.block (w.heap.size + 1) (by omega)).trans K1.out)
                      have K27 := Lib.hid ((hd7.block nb (by omega)).trans K2.out)
                      have HB7 := Lib.hid (HB1.out.trans (hd7.mono (by have := HB1.out.size; omega)))
                      have HO7 := Lib.hid (HO66.out.below hd7)
                      rw [hw7]
                      clear hw7 hd7
                      go_wp2_with (first
                        | (refine ld_arch (by exact rfl) (by exact rfl) (w.heap.size + 1) (by exact rfl) #[.int .i64 0, .slice none 0 0] rfl (by exact K17.out) ?_)
                        | (refine st_arch (by exact rfl) (by exact rfl) w.heap.size (by exact rfl) #[.int .i64 0, .slice none 0 0] #[.int .i64 0, .slice none 0 0] (by exact rfl) rfl rfl (by simp [Value.oneCell']) (by exact K07.out) ?_))
                      try simp only [Exit.inBlock, Exit.then]
                      refine bodyPost_ret (results_cell2 rfl _ _ _ w.heap.size #[.int .i64 0, .slice none 0 0] rfl (ld_abox (setRow_abox _ _ _ _ K07.out) rfl)) rfl (by exact ArchE.zero HV.out (below_setRow HB7.out))
              · obtain ⟨n', rfl⟩ : ∃ n', n = n' + 1 := ⟨n - 1, by omega⟩
                have hlt : (i : Int) < (N : Int) := by omega
                have hend := rdFr_end (b := b) (p := k)
                have hF1 : RR = if (rdRec b k).2 ≠ 0 then ([], k, (rdRec b k).2) else rdRecs b n' (rdFr b k).2.1 (l.map Prod.fst ++ [(rdRec b k).1]) := HF.out
                have hrr : rdRec b k = if (rdFr b k).2.2 ≠ 0 then (rc0, (rdFr b k).2.2) else rdRecB (rdFr b k).1 := rfl
                generalize rdRec b k = rr at hF1 hrr
                generalize rdFr b k = fr at HFR hend hF1 hrr
                obtain ⟨x5, q2, ef⟩ := fr
                simp only at hF1 hrr hend
                clear HF hn0
                by_cases hef : ef ≠ 0
                · rw [if_pos hef] at hrr
                  subst hrr
                  simp only at hF1
                  have HV := Lib.hid (show Y = (0, [], ef, k) by rw [← HY.out, hF1, if_pos hef]; simp only; rw [if_pos hef])
                  have t3 : (ef != 0) = true := by rw [bne_iff_ne]; exact hef
                  clear hef hend hF1
                  go_wp2_with fail
                  refine HFR.out.mono ?_
                  rintro ee w4 ⟨v4, rfl, -, hb4⟩
                  have K0 := Lib.hid ((hb4.block w.heap.size (by omega)).trans H0.out)
                  have K1 := Lib.hid ((hb4.block (w.heap.size + 1) (by omega)).trans H1.out)
                  have HB1 := Lib.hid (HB.trans (hb4.mono (by omega)))
                  clear hb4 HO HB
                  go_wp2_with (first
                    | (refine ld_arch (by exact rfl) (by exact rfl) (w.heap.size + 1) (by exact rfl) #[.int .i64 0, .slice none 0 0] rfl (by exact K1.out) ?_)
                    | (refine st_arch (by exact rfl) (by exact rfl) w.heap.size (by exact rfl) #[.int .i64 0, .slice none 0 0] #[.int .i64 0, .slice none 0 0] (by exact rfl) rfl rfl (by simp [Value.oneCell']) (by exact K0.out) ?_))
                  try simp only [Exit.inBlock, Exit.then]
                  refine bodyPost_ret (results_cell2 rfl _ _ _ w.heap.size #[.int .i64 0, .slice none 0 0] rfl (ld_abox (setRow_abox _ _ _ _ K0.out) rfl)) rfl (by exact ArchE.zero HV.out (below_setRow HB1.out))
                · have hef0 : ef = 0 := Classical.byContradiction hef
                  subst hef0
                  rw [if_neg hef] at hrr
                  obtain ⟨hx50, hx51, hq2, hq2b⟩ := hend rfl
                  have HRB := Lib.hid (fun (W : World) (hW : Below w.heap.size w W) (u : Value) (hu : Bs W u x5) => rec_any u x5 hx50 (by omega) W (HT.out.below hW) hu)
                  rw [← hrr] at HRB
                  obtain ⟨r, ec⟩ := rr
                  simp only at hF1
                  have HFR1 := Lib.hid hF1
                  clear hef hend hF1 hrr
                  by_cases he : ec ≠ 0
                  · have HV := Lib.hid (show Y = (0, [], ec, k) by rw [← HY.out, HFR1.out, if_pos he]; simp only; rw [if_pos he])
                    have t3 : (ec != 0) = true := by rw [bne_iff_ne]; exact he
                    clear he
                    go_wp2_with fail
                    refine HFR.out.mono ?_
                    rintro ee w3 ⟨v3, rfl, HO3, hb3⟩
                    have hB3 := HB.trans (hb3.mono (by omega))
                    have HRB3 := Lib.hid (HRB.out w3 hB3 v3 HO3.bs)
                    have hs3 := hb3.size
                    clear HO3
                    go_wp2_with fail
                    refine HRB3.out.mono ?_
                    rintro ee w4 ⟨dv, rfl, hO4, hb4⟩
                    simp only at hO4
                    obtain ⟨Ad, cd, rfl⟩ := hO4.slice
                    obtain ⟨w5, hw5⟩ : ∃ w5, w4.alloc (.cells #[.int .i64 r.v, .int .i64 r.kd, .int .i64 r.sg, .int .i64 r.st, .int .i64 r.tr, .int .i64 r.tm, .int .i64 r.la, .int .i64 r.co, .int .i64 r.cn, .int .i64 r.pv, .string r.nm, .slice Ad r.da.length cd] 62) = w5 := ⟨_, rfl⟩
                    have hb34 := hb3.trans (hb4.mono hs3)
                    have hal : Below wr.heap.size wr w5 := by rw [← hw5]; exact hb34.alloc hb34.size _
                    have HW5 := Lib.hid hw5
                    have K0 := Lib.hid ((hal.block w.heap.size (by omega)).trans H0.out)
                    have K1 := Lib.hid ((hal.block (w.heap.size + 1) (by omega)).trans H1.out)
                    have HB1 := Lib.hid (HB.trans (hal.mono (by omega)))
                    clear hal hw5 hb4 hb3 hb34 hO4 HO HB hB3
                    go_wp2_with (first
                      | (refine st_ncs (by exact rfl) (by exact rfl) w4.heap.size rfl (by exact rfl) #[.int .i64 r.v, .int .i64 r.kd, .int .i64 r.sg, .int .i64 r.st, .int .i64 r.tr, .int .i64 r.tm, .int .i64 r.la, .int .i64 r.co, .int .i64 r.cn, .int .i64 r.pv, .string r.nm, .slice Ad r.da.length cd] (by exact rfl) rfl rfl (by simp [Value.oneCell']) ?_; rw [HW5.out])
                      | (refine ld_arch (by exact rfl) (by exact rfl) (w.heap.size + 1) (by exact rfl) #[.int .i64 0, .slice none 0 0] rfl (by exact K1.out) ?_)
                      | (refine st_arch (by exact rfl) (by exact rfl) w.heap.size (by exact rfl) #[.int .i64 0, .slice none 0 0] #[.int .i64 0, .slice none 0 0] (by exact rfl) rfl rfl (by simp [Value.oneCell']) (by exact K0.out) ?_))
                    try simp only [Exit.inBlock, Exit.then]
                    refine bodyPost_ret (results_cell2 rfl _ _ _ w.heap.size #[.int .i64 0, .slice none 0 0] rfl (ld_abox (setRow_abox _ _ _ _ K0.out) rfl)) rfl (by exact ArchE.zero HV.out (below_setRow HB1.out))
                  · have HF2 := Lib.hid (HFR1.out.trans (if_neg he))
                    have he0 : ec = 0 := Classical.byContradiction he
                    subst he0
                    clear he HFR1
                    go_wp2_with fail
                    refine HFR.out.mono ?_
                    rintro ee w3 ⟨v3, rfl, HO3, hb3⟩
                    have hB3 := HB.trans (hb3.mono (by omega))
                    have HRB3 := Lib.hid (HRB.out w3 hB3 v3 HO3.bs)
                    have hs3 := hb3.size
                    clear HO3
                    go_wp2_with fail
                    refine HRB3.out.mono ?_
                    rintro ee w4 ⟨dv, rfl, hO4, hb4⟩
                    simp only at hO4
                    obtain ⟨Ad, cd, rfl⟩ := hO4.slice
                    obtain ⟨w5, hw5⟩ : ∃ w5, w4.alloc (.cells #[.int .i64 r.v, .int .i64 r.kd, .int .i64 r.sg, .int .i64 r.st, .int .i64 r.tr, .int .i64 r.tm, .int .i64 r.la, .int .i64 r.co, .int .i64 r.cn, .int .i64 r.pv, .string r.nm, .slice Ad r.da.length cd] 62) = w5 := ⟨_, rfl⟩
                    have hal : Below w4.heap.size w4 w5 := by rw [← hw5]; exact (Below.refl _ _).alloc (Nat.le_refl _) _
                    have hz5 : w5.heap.size = w4.heap.size + 1 := by rw [← hw5]; simp
                    have hb34 := hb3.trans (hb4.mono hs3)
                    have hs4 := hb34.size
                    have hbr5 : Below wr.heap.size wr w5 := hb34.trans (hal.mono hs4)
                    have K5 := Lib.hid (show w5.heap[w4.heap.size]? = some (.cells #[.int .i64 r.v, .int .i64 r.kd, .int .i64 r.sg, .int .i64 r.st, .int .i64 r.tr, .int .i64 r.tm, .int .i64 r.la, .int .i64 r.co, .int .i64 r.cn, .int .i64 r.pv, .string r.nm, .slice Ad r.da.length cd] 62 (0, 0)) by rw [← hw5]; exact heap_alloc_new _ _)
                    have HW5 := Lib.hid hw5
                    have k0 := (hbr5.block w.heap.size (by omega)).trans H0.out
                    have k1 := (hbr5.block (w.heap.size + 1) (by omega)).trans H1.out
                    have k2 := (hbr5.block nb (by omega)).trans H2.out
                    have qa : w5.cell? ⟨nb, 1, none⟩ = some (.slice Aa l.length ca) := by rw [cell_of_row w5 _ 1 _ _ _ k2]; rfl
                    have HRL := Lib.hid (Rd.lits w5 62 #[.int .i64 r.v, .int .i64 r.kd, .int .i64 r.sg, .int .i64 r.st, .int .i64 r.tr, .int .i64 r.tm, .int .i64 r.la, .int .i64 r.co, .int .i64 r.cn, .int .i64 r.pv, .string r.nm, .slice Ad r.da.length cd] 12 1 rfl (by omega) w5.heap.size rfl)
                    have hal6 : Below w5.heap.size w5 (w5.alloc (.cells #[.int .i64 r.v, .int .i64 r.kd, .int .i64 r.sg, .int .i64 r.st, .int .i64 r.tr, .int .i64 r.tm, .int .i64 r.la, .int .i64 r.co, .int .i64 r.cn, .int .i64 r.pv, .string r.nm, .slice Ad r.da.length cd] 62)) := (Below.refl _ _).alloc (Nat.le_refl _) _
                    have HO6 := Lib.hid ((HO.below hbr5).below hal6)
                    have HD6 := Lib.hid (show Ob (w5.alloc (.cells #[.int .i64 r.v, .int .i64 r.kd, .int .i64 r.sg, .int .i64 r.st, .int .i64 r.tr, .int .i64 r.tm, .int .i64 r.la, .int .i64 r.co, .int .i64 r.cn, .int .i64 r.pv, .string r.nm, .slice Ad r.da.length cd] 62)) (nb + 1) (.slice Ad r.da.length cd) r.da from own_mono ((hO4.below hal).below hal6) (by omega))
                    have HNEW := Lib.hid (fun k (hk : (Value.slice Ad r.da.length cd).ownBlock = some k) => (hO4.lt k hk).1)
                    have HOLD := Lib.hid (fun q (hq : q ∈ l) k (hk : q.2.ownBlock = some k) => Nat.lt_of_lt_of_le ((HO.ow.da q hq).lt k hk).2 hs3)
                    have k06 := (hal6.block w.heap.size (by omega)).trans k0
                    have k16 := (hal6.block (w.heap.size + 1) (by omega)).trans k1
                    have k26 := (hal6.block nb (by omega)).trans k2
                    have K06 := Lib.hid k06
                    have K16 := Lib.hid k16
                    have K26 := Lib.hid k26
                    have HB6 := Lib.hid ((HB.trans (hbr5.mono (by omega))).trans (hal6.mono (by omega)))
                    have hz6 : (w5.alloc (.cells #[.int .i64 r.v, .int .i64 r.kd, .int .i64 r.sg, .int .i64 r.st, .int .i64 r.tr, .int .i64 r.tm, .int .i64 r.la, .int .i64 r.co, .int .i64 r.cn, .int .i64 r.pv, .string r.nm, .slice Ad r.da.length cd] 62)).heap.size = w5.heap.size + 1 := World.size_alloc _ _
                    have HZ6 := Lib.hid hz6
                    have HZ5 := Lib.hid hz5
                    clear hal hw5 hb4 hb3 hb34 hO4 HO HB hB3 hbr5 k0 k1 k2 hal6 k06 k16 k26 hz6 hz5
                    go_wp2_with (first
                      | (refine st_ncs (by exact rfl) (by exact rfl) w4.heap.size rfl (by exact rfl) #[.int .i64 r.v, .int .i64 r.kd, .int .i64 r.sg, .int .i64 r.st, .int .i64 r.tr, .int .i64 r.tm, .int .i64 r.la, .int .i64 r.co, .int .i64 r.cn, .int .i64 r.pv, .string r.nm, .slice Ad r.da.length cd] (by exact rfl) rfl rfl (by simp [Value.oneCell']) ?_; rw [HW5.out])
                      | (refine ld_cs (by exact rfl) (by exact rfl) w4.heap.size (by exact rfl) #[.int .i64 r.v, .int .i64 r.kd, .int .i64 r.sg, .int .i64 r.st, .int .i64 r.tr, .int .i64 r.tm, .int .i64 r.la, .int .i64 r.co, .int .i64 r.cn, .int .i64 r.pv, .string r.nm, .slice Ad r.da.length cd] rfl (by exact K5.out) ?_)
                      | (at_builtin; refine wpList_app (nb + 1) rfl (.tmp 97) (.tmp 99) 49 62 _ 12 120 rfl Tryd.underlying49 info_rec rfl (by decide) _ l.length (recCs l) _ 1 (recC (r, .slice Ad r.da.length cd)) rfl rfl HO6.out.ow.own HRL.out (recC_one _ _ _ _) (by unfold maxLen; omega) (by omega) (by have := HZ6.out; have := HZ5.out; omega) ?_; intro v7 w7 g1 g2 g3 _ _; have hO7 := HO6.out.snoc (p := (r, .slice Ad r.da.length cd)) g2 g1 HD6.out HNEW.out HOLD.out; have hs7 := g2.size; rw [HZ6.out, HZ5.out] at hs7; have k07 := (g2.block w.heap.size (by rw [HZ6.out, HZ5.out]; omega) (fun e => by have := (HO6.out.ow.own.lt _ e.symm).1; omega)).trans K06.out; have k17 := (g2.block (w.heap.size + 1) (by rw [HZ6.out, HZ5.out]; omega) (fun e => by have := (HO6.out.ow.own.lt _ e.symm).1; omega)).trans K16.out; have k27 := (g2.block nb (by rw [HZ6.out, HZ5.out]; omega) (fun e => by have := (HO6.out.ow.own.lt _ e.symm).1; omega)).trans K26.out; have hB7 : Below w.heap.size w w7 := HB6.out.grown g2 HB6.out.size (fun k e => by have := (HO6.out.ow.own.lt k e).1; omega); obtain ⟨A7, c7, e7⟩ := hO7.ow.slice; rw [List.length_append, List.length_singleton] at e7; subst e7; have q7 : w7.cell? ⟨nb, 1, none⟩ = some (.slice Aa l.length ca) := (by rw [cell_of_row w7 _ 1 _ _ _ k27]; rfl); have f7 : w7.frozen? ⟨nb, 1, none⟩ = false := (by simp [World.frozen?, k27]); have HO7 := Lib.hid hO7; have K07 := Lib.hid k07; have K17 := Lib.hid k17; have K27 := Lib.hid k27; have HB7 := Lib.hid hB7; clear hO7 k07 k17 k27 hB7 g1 g2 g3))
                    have hkp8 : Kp w7 (w7.setCell ⟨nb, 1, none⟩ (.slice A7 (l.length + 1) c7)) (fun k => k = nb) := Kp.set _ _
                    go_roundw
                    case rel =>
                      refine ⟨q2, i + 1, n', l ++ [(r, Value.slice Ad r.da.length cd)], .slice A7 (l.length + 1) c7, rfl, by go_num, by omega, hq2b, by rw [List.length_append, List.length_singleton]; omega, ?_, ?_, ?_, ?_, ?_, ?_, ?_⟩
                      · rw [List.map_append]; exact HF2.out
                      · exact (hkp8.block w.heap.size (by omega) (by omega)).trans K07.out
                      · exact (hkp8.block (w.heap.size + 1) (by omega) (by omega)).trans K17.out
                      · rw [setCell_eq_setRow w7 nb 1 _ _ _ _ K27.out, setRow_heap _ _ _ _ _ _ K27.out]; rfl
                      · exact HO7.out.kp hkp8 (fun k e => by omega)
                      · exact HB7.out.trans (hkp8.below (T := w.heap.size) (by omega) (fun k e => by omega))
                      · have := hkp8.size; omega
                    case measure => simp [intOf]; omega
end Go.Proofs.YtfmlkagcmkbebaaDoor
