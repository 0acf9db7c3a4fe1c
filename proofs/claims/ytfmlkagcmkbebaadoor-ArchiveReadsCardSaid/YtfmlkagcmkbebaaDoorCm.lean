/- archive.Read. -/
import Derived.Test.YtfmlkagcmkbebaaDoorCx
import Derived.Test.YtfmlkagcmkbebaaDoorWh
namespace Go.Proofs.YtfmlkagcmkbebaaDoor
open Go.RowKit

/-- n records from p on behind those of l. -/
def rdRecs (b : List UInt8) : Nat → Nat → List Rc → List Rc × Nat × Int
  | 0, p, l => (l, p, 0)
  | n + 1, p, l => if (rdRec b p).2 ≠ 0 then ([], p, (rdRec b p).2) else rdRecs b n (rdFr b p).2.1 (l ++ [(rdRec b p).1])
/-- What the bytes of an archive say: its Top, its records, the code, the place. -/
def rdArch (b : List UInt8) : Nat × List Rc × Int × Nat :=
  if 8388608 < b.length then (0, [], 2, 8388608)
  else if b.length < 5 ∨ b.take 5 ≠ [65, 78, 65, 82, 1] then (0, [], 170, 0)
  else if (rdFr b 5).2.2 ≠ 0 then (0, [], (rdFr b 5).2.2, 5)
  else if (rdFr b 5).1.getD 0 0 ≠ 84 ∨ (rdTwo (rdFr b 5).1 1).2.2 = false ∨ 9223372036854775807 < (rdTwo (rdFr b 5).1 1).1 then (0, [], 170, 5)
  else if (rdRecs b (rdTwo (rdFr b 5).1 1).2.1 (rdFr b 5).2.1 []).2.2 ≠ 0 then (0, [], (rdRecs b (rdTwo (rdFr b 5).1 1).2.1 (rdFr b 5).2.1 []).2.2, (rdRecs b (rdTwo (rdFr b 5).1 1).2.1 (rdFr b 5).2.1 []).2.1)
  else if (rdLast b (rdRecs b (rdTwo (rdFr b 5).1 1).2.1 (rdFr b 5).2.1 []).2.1).2 ≠ 0 then (0, [], (rdLast b (rdRecs b (rdTwo (rdFr b 5).1 1).2.1 (rdFr b 5).2.1 []).2.1).2, (rdRecs b (rdTwo (rdFr b 5).1 1).2.1 (rdFr b 5).2.1 []).2.1)
  else if (rdLast b (rdRecs b (rdTwo (rdFr b 5).1 1).2.1 (rdFr b 5).2.1 []).2.1).1 ≠ b.length then (0, [], 172, (rdLast b (rdRecs b (rdTwo (rdFr b 5).1 1).2.1 (rdFr b 5).2.1 []).2.1).1)
  else ((rdTwo (rdFr b 5).1 1).1, (rdRecs b (rdTwo (rdFr b 5).1 1).2.1 (rdFr b 5).2.1 []).1, 0, 0)
theorem rdTwo_lt {b : List UInt8} {p : Nat} (h : (rdTwo b p).2.2 = true) : (rdTwo b p).2.1 < 18446744073709551616 := by
  unfold rdTwo at h ⊢
  split at h
  · simp at h
  · rename_i h1
    rw [if_neg h1]
    simp only [Bool.and_eq_true, decide_eq_true_eq] at h
    exact rdU_lt h.1
theorem rdRec_fr {b : List UInt8} {p : Nat} (h : (rdRec b p).2 = 0) : p < (rdFr b p).2.1 ∧ (rdFr b p).2.1 ≤ b.length := by
  unfold rdRec at h
  split at h
  · rename_i h1; exact absurd h h1
  · rename_i h1
    have := rdFr_end (b := b) (p := p) (Classical.byContradiction h1)
    exact this.2.2

/-- Records of the call's own, no two data in one block. -/
structure Owd (w : World) (B : Nat) (v : Value) (l : List Rec) : Prop where
  ow : Ow w B v l
  sep : l.Pairwise (fun p q => ∀ k, p.2.ownBlock = some k → q.2.ownBlock ≠ some k)
theorem Owd.nil (w : World) (B : Nat) : Owd w B (.slice none 0 0) [] := ⟨Ow.nil w B, List.Pairwise.nil⟩
theorem Owd.below {w w' : World} {B : Nat} {v : Value} {l : List Rec} (h : Owd w B v l) (hb : Below w.heap.size w w') : Owd w' B v l := ⟨h.ow.below hb, h.sep⟩
theorem Owd.mono {w : World} {B B' : Nat} {v : Value} {l : List Rec} (h : Owd w B v l) (hb : B' ≤ B) : Owd w B' v l := ⟨⟨own_mono h.ow.own hb, fun p hp => own_mono (h.ow.da p hp) hb⟩, h.sep⟩
/-- A record's data in a new block comes behind. -/
theorem Owd.snoc {w w' : World} {B N : Nat} {v v' : Value} {l : List Rec} {p : Rec} (h : Owd w B v l) (hg : w.grownBy w' v.ownBlock) (ho : w'.ownsRow B 62 12 v' (l.length + 1) (recCs l ++ recC p)) (hp : Ob w B p.2 p.1.da)
    (hnew : ∀ k, p.2.ownBlock = some k → N ≤ k) (hold : ∀ q, q ∈ l → ∀ k, q.2.ownBlock = some k → k < N) : Owd w' B v' (l ++ [p]) := by
  refine ⟨h.ow.snoc hg ho hp, List.pairwise_append.2 ⟨h.sep, List.pairwise_singleton _ _, fun q hq r hr k hk hk2 => ?_⟩⟩
  rw [List.mem_singleton] at hr; subst hr
  have h1 := hold q hq k hk
  have h2 := hnew k hk2
  omega
theorem Owd.kp {w w' : World} {B : Nat} {v : Value} {l : List Rec} {S : Nat → Prop} (h : Owd w B v l) (hk : Kp w w' S) (hs : ∀ k, S k → k < B) : Owd w' B v l :=
  ⟨⟨own_kp h.ow.own hk (fun k hk' e => by have := (h.ow.own.lt k hk').1; have := hs k e; omega), fun p hp => own_kp (h.ow.da p hp) hk (fun k hk' e => by have := ((h.ow.da p hp).lt k hk').1; have := hs k e; omega)⟩, h.sep⟩

/-- What Read answers. -/
def ArchE (w : World) (y : Nat × List Rc × Int × Nat) (e : Ending) (w' : World) : Prop :=
  ∃ va l, e = .returned (.tuple #[.agg #[.int .i64 (y.1 : Int), va], .int .i64 y.2.2.1, .int .i64 (y.2.2.2 : Int)]) ∧ Owd w' w.heap.size va l ∧ l.map Prod.fst = y.2.1 ∧ Below w.heap.size w w'
theorem ArchE.zero {w w' : World} {c : Int} {p : Nat} {y : Nat × List Rc × Int × Nat} (h : y = (0, [], c, p)) (hb : Below w.heap.size w w') : ArchE w y (.returned (.tuple #[.agg #[.int .i64 0, .slice none 0 0], .int .i64 c, .int .i64 (p : Int)])) w' :=
  ⟨.slice none 0 0, [], by rw [h]; rfl, Owd.nil _ _, by rw [h]; rfl, hb⟩
theorem ld_abox {w : World} {g : Nat} {cs : Array Value} (h : w.heap[g]? = some (.cells cs 53 (0, 0))) (hs : cs.size = 2) : (loadVar 53 ⟨g, 0, none⟩).run Tryd.prog w = .ok (.agg cs) w :=
  run_loadVar_row _ g 53 53 _ _ _ h Tryd.underlying53 rfl (by rw [hs]; kernel_rfl)
theorem setRow_abox (w : World) (g : Nat) (old cs : Array Value) (h : w.heap[g]? = some (.cells old 53 (0, 0))) : (w.setRow g cs).heap[g]? = some (.cells cs 53 (0, 0)) := setRow_heap _ _ _ _ _ _ h

set_option maxRecDepth 100000 in
set_option maxHeartbeats 8000000 in
theorem Read_any (v : Value) (b : List UInt8) (hb : b.length ≤ 1099511627776) (w : World) (hT : Tab w) (hR : TabR w) (hM : TabM w) (hv : Bs w v b) :
    Calls Tryd.prog 27 #[v] w (ArchE w (rdArch b)) := by
  have HT := Lib.hid hT
  have HR := Lib.hid hR
  have HM := Lib.hid hM
  have HX := Lib.hid hv
  obtain ⟨A, c, rfl, hn, hc, hr⟩ := hv.form
  obtain ⟨W2, hW2⟩ : ∃ W2, (w.alloc (.cells #[.int .i64 0, .slice none 0 0] 53)).alloc (.cells #[.int .i64 0, .slice none 0 0] 53) = W2 := ⟨_, rfl⟩
  have hB2 : Below w.heap.size w W2 := by rw [← hW2]; exact ((Below.refl _ w).alloc (Nat.le_refl _) _).alloc (by simp) _
  have hz : W2.heap.size = w.heap.size + 2 := by rw [← hW2]; simp
  have hb0 : W2.heap[w.heap.size]? = some (.cells #[.int .i64 0, .slice none 0 0] 53 (0, 0)) := by
    rw [← hW2]; exact (Below.heap_alloc _ _ _ (by simp)).trans (heap_alloc_new w _)
  have hb1 : W2.heap[w.heap.size + 1]? = some (.cells #[.int .i64 0, .slice none 0 0] 53 (0, 0)) := by
    rw [← hW2]; exact (heap_alloc2 _ _ _).trans (heap_alloc_new w _)
  have HW := Lib.hid hW2
  have H0 := Lib.hid hb0
  have H1 := Lib.hid hb1
  clear hW2 hb0 hb1 hT hR hM
  obtain ⟨Y, hY⟩ : ∃ Y, rdArch b = Y := ⟨_, rfl⟩
  rw [hY]
  unfold rdArch at hY
  by_cases hbig : 8388608 < b.length
  · rw [if_pos hbig] at hY
    have HV := Lib.hid hY.symm
    have t1 : (8388608 : Int) < (b.length : Int) := by omega
    clear hY hbig hv hr
    go_enter Tryd.func27, Tryd.ntmps27
    go_wp2_with fail
    refine bodyPost_ret (results_cell2 rfl _ _ _ w.heap.size #[.int .i64 0, .slice none 0 0] rfl (ld_abox (by rw [HW.out]; exact H0.out) rfl)) rfl (by exact ArchE.zero HV.out (by rw [HW.out]; exact hB2))
  · rw [if_neg hbig] at hY
    have t1 : ¬ (8388608 : Int) < (b.length : Int) := by omega
    by_cases hsm : b.length < 5
    · rw [if_pos (.inl hsm)] at hY
      have HV := Lib.hid hY.symm
      have t2 : (b.length : Int) < 5 := by omega
      clear hY hbig hsm hv hr
      go_enter Tryd.func27, Tryd.ntmps27
      go_wp2_with fail
      refine bodyPost_ret (results_cell2 rfl _ _ _ w.heap.size #[.int .i64 0, .slice none 0 0] rfl (ld_abox (by rw [HW.out]; exact H0.out) rfl)) rfl (by exact ArchE.zero HV.out (by rw [HW.out]; exact hB2))
    · have t2 : ¬ (b.length : Int) < 5 := by omega
      have hcv := conv_bs ((hv.below hB2).take (m := 5) (by omega))
      rw [← HW.out] at hcv
      obtain ⟨g, o, rfl, -⟩ := hr 0 (by omega)
      by_cases hhd : b.take 5 ≠ [65, 78, 65, 82, 1]
      · rw [if_pos (.inr hhd)] at hY
        have HV := Lib.hid hY.symm
        have hbe : (b.take 5 == [65, 78, 65, 82, 1]) = false := by rw [beq_eq_false_iff_ne]; exact hhd
        generalize b.take 5 = hd at hcv hbe
        clear hY hbig hsm hv hr hhd
        go_enter Tryd.func27, Tryd.ntmps27
        go_wp2_with fail
        refine bodyPost_ret (results_cell2 rfl _ _ _ w.heap.size #[.int .i64 0, .slice none 0 0] rfl (ld_abox (by rw [HW.out]; exact H0.out) rfl)) rfl (by exact ArchE.zero HV.out (by rw [HW.out]; exact hB2))
      · rw [if_neg (fun h => by rcases h with h | h; omega; exact hhd h)] at hY
        have hhd0 : b.take 5 = [65, 78, 65, 82, 1] := Classical.byContradiction hhd
        rw [hhd0] at hcv
        have HFR := Lib.hid (ReadFrame_any _ b 5 hb (by omega) W2 (HT.out.below hB2) (HX.out.below hB2))
        have hend := rdFr_end (b := b) (p := 5)
        obtain ⟨y, hy⟩ : ∃ y, rdFr b 5 = y := ⟨_, rfl⟩
        rw [hy] at hY HFR hend
        obtain ⟨x, q, e⟩ := y
        simp only at hY HFR hend
        clear hv hr hhd hhd0 hy
        by_cases he : e ≠ 0
        · rw [if_pos he] at hY
          have HV := Lib.hid hY.symm
          have t3 : (e != 0) = true := by rw [bne_iff_ne]; exact he
          clear hY he hend hbig hsm
          go_enter Tryd.func27, Tryd.ntmps27
          go_wp2_with fail
          rw [HW.out]
          refine HFR.out.mono ?_
          rintro ee w1 ⟨v1, rfl, HO1, hb1⟩
          have K0 := Lib.hid ((hb1.block w.heap.size (by omega)).trans H0.out)
          have K1 := Lib.hid ((hb1.block (w.heap.size + 1) (by omega)).trans H1.out)
          have HB1 := Lib.hid (hB2.trans (hb1.mono (by omega)))
          clear hb1 HO1
          go_wp2_with (first
            | (refine ld_arch (by exact rfl) (by exact rfl) (w.heap.size + 1) (by exact rfl) #[.int .i64 0, .slice none 0 0] rfl (by exact K1.out) ?_)
            | (refine st_arch (by exact rfl) (by exact rfl) w.heap.size (by exact rfl) #[.int .i64 0, .slice none 0 0] #[.int .i64 0, .slice none 0 0] (by exact rfl) rfl rfl (by simp [Value.oneCell']) (by exact K0.out) ?_))
          refine bodyPost_ret (results_cell2 rfl _ _ _ w.heap.size #[.int .i64 0, .slice none 0 0] rfl (ld_abox (setRow_abox _ _ _ _ K0.out) rfl)) rfl (by exact ArchE.zero HV.out (below_setRow HB1.out))
        · rw [if_neg he] at hY
          have he0 : e = 0 := Classical.byContradiction he
          subst he0
          obtain ⟨hx0, hx1, hq5, hqb⟩ := hend rfl
          clear he hend
          have hli : (0 : Int) < (x.length : Int) := by omega
          have HTW := Lib.hid (fun (W : World) (u : Value) (hu : Bs W u x) => two_any u x 1 (by omega) (by omega) W hu)
          have hN := rdTwo_lt (b := x) (p := 1)
          generalize rdTwo x 1 = tw at hY HTW hN
          obtain ⟨top, N, ok⟩ := tw
          simp only at hY HTW
          by_cases hbad : x.getD 0 0 ≠ 84 ∨ ok = false ∨ 9223372036854775807 < top
          · rw [if_pos hbad] at hY
            have HV := Lib.hid hY.symm
            clear hY hbig hsm
            have hcase : ((((x.getD 0 0).toNat : Int) != 84) = true) ∨ (x.getD 0 0 = 84 ∧ ok = false) ∨ (x.getD 0 0 = 84 ∧ ok = true ∧ (9223372036854775807 : Int) < (top : Int)) := by
              by_cases h84 : x.getD 0 0 = 84
              · rcases hbad with h | h | h
                · exact absurd h84 h
                · exact .inr (.inl ⟨h84, h⟩)
                · cases ok with
                  | false => exact .inr (.inl ⟨h84, rfl⟩)
                  | true => exact .inr (.inr ⟨h84, rfl, by omega⟩)
              · refine .inl ?_
                rw [bne_iff_ne]; intro e; exact h84 (UInt8.toNat_inj.1 (by show _ = 84; omega))
            clear hbad
            go_enter Tryd.func27, Tryd.ntmps27
            go_wp2_with fail
            rw [HW.out]
            refine HFR.out.mono ?_
            rintro ee w1 ⟨v1, rfl, HO1, hb1⟩
            obtain ⟨gx, cap, rfl, -, -, -⟩ := HO1.form hx0
            obtain ⟨g', o', e, hcell⟩ := HO1.bs.at0 hx0
            injection e with e; injection e with e1 e2 _
            subst e1; subst e2
            have c0 := hcell 0 hx0
            rw [Nat.zero_add] at c0
            have K0 := Lib.hid ((hb1.block w.heap.size (by omega)).trans H0.out)
            have K1 := Lib.hid ((hb1.block (w.heap.size + 1) (by omega)).trans H1.out)
            have HB1 := Lib.hid (hB2.trans (hb1.mono (by omega)))
            have HTW1 := Lib.hid (HTW.out w1 _ HO1.bs)
            clear hb1 HO1 hcell
            go_wp2_with fail
            refine HTW1.out.mono ?_
            rintro ee wz ⟨rfl, rfl⟩
            rcases hcase with hz | ⟨h84, rfl⟩ | ⟨h84, rfl, htop⟩
            · generalize (x.getD 0 0).toNat = z0 at c0 hz
              go_wp2_with (first
                | (refine ld_arch (by exact rfl) (by exact rfl) (w.heap.size + 1) (by exact rfl) #[.int .i64 0, .slice none 0 0] rfl (by exact K1.out) ?_)
                | (refine st_arch (by exact rfl) (by exact rfl) w.heap.size (by exact rfl) #[.int .i64 0, .slice none 0 0] #[.int .i64 0, .slice none 0 0] (by exact rfl) rfl rfl (by simp [Value.oneCell']) (by exact K0.out) ?_))
              refine bodyPost_ret (results_cell2 rfl _ _ _ w.heap.size #[.int .i64 0, .slice none 0 0] rfl (ld_abox (setRow_abox _ _ _ _ K0.out) rfl)) rfl (by exact ArchE.zero HV.out (below_setRow HB1.out))
            · rw [h84] at c0
              replace c0 : w1.cell? ⟨gx, 0, none⟩ = some (.int .u8 84) := c0
              clear h84
              go_wp2_with (first
                | (refine ld_arch (by exact rfl) (by exact rfl) (w.heap.size + 1) (by exact rfl) #[.int .i64 0, .slice none 0 0] rfl (by exact K1.out) ?_)
                | (refine st_arch (by exact rfl) (by exact rfl) w.heap.size (by exact rfl) #[.int .i64 0, .slice none 0 0] #[.int .i64 0, .slice none 0 0] (by exact rfl) rfl rfl (by simp [Value.oneCell']) (by exact K0.out) ?_))
              refine bodyPost_ret (results_cell2 rfl _ _ _ w.heap.size #[.int .i64 0, .slice none 0 0] rfl (ld_abox (setRow_abox _ _ _ _ K0.out) rfl)) rfl (by exact ArchE.zero HV.out (below_setRow HB1.out))
            · rw [h84] at c0
              replace c0 : w1.cell? ⟨gx, 0, none⟩ = some (.int .u8 84) := c0
              clear h84
              go_wp2_with (first
                | (refine ld_arch (by exact rfl) (by exact rfl) (w.heap.size + 1) (by exact rfl) #[.int .i64 0, .slice none 0 0] rfl (by exact K1.out) ?_)
                | (refine st_arch (by exact rfl) (by exact rfl) w.heap.size (by exact rfl) #[.int .i64 0, .slice none 0 0] #[.int .i64 0, .slice none 0 0] (by exact rfl) rfl rfl (by simp [Value.oneCell']) (by exact K0.out) ?_))
              refine bodyPost_ret (results_cell2 rfl _ _ _ w.heap.size #[.int .i64 0, .slice none 0 0] rfl (ld_abox (setRow_abox _ _ _ _ K0.out) rfl)) rfl (by exact ArchE.zero HV.out (below_setRow HB1.out))
          · rw [if_neg hbad] at hY
            have h84 : x.getD 0 0 = 84 := Classical.byContradiction fun h => hbad (.inl h)
            have hok : ok = true := by
              cases ok with
              | false => exact absurd (.inr (.inl rfl)) hbad
              | true => rfl
            subst hok
            have hN64 := hN rfl
            simp only at hN64
            clear hN
            have htop : top ≤ 9223372036854775807 := by
              rcases Nat.lt_or_ge 9223372036854775807 top with h | h
              · exact absurd (.inr (.inr h)) hbad
              · exact h
            have htopi : ¬ (9223372036854775807 : Int) < (top : Int) := by omega
            have hwt : IntKind.i64.wrap (top : Int) = (top : Int) := by rw [IntKind.wrap_i64]; omega
            have HY := Lib.hid hY
            clear hbad hY hbig hsm
            go_enter Tryd.func27, Tryd.ntmps27
            go_wp2_with fail
            rw [HW.out]
            refine HFR.out.mono ?_
            rintro ee w1 ⟨v1, rfl, HO1, hb1⟩
            obtain ⟨gx, cap, rfl, -, -, -⟩ := HO1.form hx0
            obtain ⟨g', o', e, hcell⟩ := HO1.bs.at0 hx0
            injection e with e; injection e with e1 e2 _
            subst e1; subst e2
            have c0 := hcell 0 hx0
            rw [h84] at c0
            replace c0 : w1.cell? ⟨gx, 0, none⟩ = some (.int .u8 84) := c0
            have k0 := (hb1.block w.heap.size (by omega)).trans H0.out
            have k1 := (hb1.block (w.heap.size + 1) (by omega)).trans H1.out
            have hB1 := hB2.trans (hb1.mono (by omega))
            have HTW1 := Lib.hid (HTW.out w1 _ HO1.bs)
            have hs1 := hb1.size
            obtain ⟨w3, hw3⟩ : ∃ w3, w1.setCell ⟨w.heap.size + 1, 0, none⟩ (.int .i64 (top : Int)) = w3 := ⟨_, rfl⟩
            have hkp3 : Kp w1 w3 (fun k => k = w.heap.size + 1) := by rw [← hw3]; exact Kp.set _ _
            have hb31 : w3.heap[w.heap.size + 1]? = some (.cells #[.int .i64 (top : Int), .slice none 0 0] 53 (0, 0)) := by
              rw [← hw3, setCell_eq_setRow w1 (w.heap.size + 1) 0 _ _ _ _ k1, setRow_heap _ _ _ _ _ _ k1]; rfl
            have hb30 := (hkp3.block w.heap.size (by omega) (by omega)).trans k0
            have hB3 := hB1.trans (hkp3.below (T := w.heap.size) (by omega) (fun k e => by omega))
            have hs3 : w.heap.size + 2 ≤ w3.heap.size := by have := hkp3.size; omega
            have q0 : w1.cell? ⟨w.heap.size + 1, 0, none⟩ = some (.int .i64 0) := by rw [cell_of_row w1 _ 0 _ _ _ k1]; rfl
            have q1 : w1.frozen? ⟨w.heap.size + 1, 0, none⟩ = false := by simp [World.frozen?, k1]
            have HW3 := Lib.hid hw3
            clear hb1 HO1 hcell h84 k0 k1 hkp3 hw3
            go_wp2_with fail
            refine HTW1.out.mono ?_
            rintro ee wz ⟨rfl, rfl⟩
            go_wp2_with fail
            rw [HW3.out]
            clear q0 q1 c0
            obtain ⟨RR, hRR⟩ : ∃ RR, rdRecs b N q [] = RR := ⟨_, rfl⟩
            rw [hRR] at HY
            have HRR := Lib.hid hRR
            clear hRR HTW1 HTW
            go_loopw [7, 10] (fun i nn wr => ∃ (k n : Nat) (l : List Rec) (va : Value), i = .int .i64 (k : Int) ∧ nn = .int .u64 (n : Int) ∧ n < 18446744073709551616 ∧ k ≤ b.length ∧ l.length ≤ k ∧ Hid (RR = rdRecs b n k (l.map Prod.fst)) ∧
              wr.heap[w.heap.size]? = some (.cells #[.int .i64 0, .slice none 0 0] 53 (0, 0)) ∧ wr.heap[w.heap.size + 1]? = some (.cells #[.int .i64 (top : Int), va] 53 (0, 0)) ∧ Owd wr (w.heap.size + 2) va l ∧ Below w.heap.size w wr ∧ w.heap.size + 2 ≤ wr.heap.size) (fun _ nn _ => (intOf nn).toNat)
            case atStart => exact ⟨q, N, [], .slice none 0 0, rfl, rfl, hN64, hqb, by simp, HRR.out.symm, hb30, hb31, Owd.nil _ _, hB3, hs3⟩
            case round =>
              obtain ⟨k, n, l, va, rfl, rfl, hn64, hk, hlk, HF, hz0, hz1, HO, HB, hsz⟩ := hrel
              clear hb30 hb31 hB3 hs3
              have H0 := Lib.hid hz0
              have H1 := Lib.hid hz1
              obtain ⟨Aa, ca, rfl⟩ := HO.ow.slice
              clear hz0 hz1
              by_cases hn0 : n = 0
              · subst hn0
                have hF0 : RR = (l.map Prod.fst, k, 0) := HF.out
                have hY1 := HY.out
                rw [hF0, if_neg (by simp)] at hY1
                simp only at hY1
                have HRL := Lib.hid (readLast_any _ b k hb hk wr (HT.out.below HB) (HX.out.below HB))
                generalize rdLast b k = rl at hY1 HRL
                obtain ⟨en, ec⟩ := rl
                simp only at hY1 HRL
                have HOr := Lib.hid HO
                have HBr := Lib.hid HB
                clear HO HB hF0 HF
                by_cases he : ec ≠ 0
                · rw [if_pos he] at hY1
                  have HV := Lib.hid hY1.symm
                  have t3 : (ec != 0) = true := by rw [bne_iff_ne]; exact he
                  clear hY1 he
                  go_wp2_with fail
                  refine HRL.out.mono ?_
                  rintro ee w5 ⟨rfl, hb5⟩
                  have K0 := Lib.hid ((hb5.block w.heap.size (by omega)).trans H0.out)
                  have HB5 := Lib.hid (HBr.out.trans (hb5.mono (by omega)))
                  clear hb5
                  go_wp2_with (refine st_arch (by exact rfl) (by exact rfl) w.heap.size (by exact rfl) #[.int .i64 0, .slice none 0 0] #[.int .i64 0, .slice none 0 0] (by exact rfl) rfl rfl (by simp [Value.oneCell']) (by exact K0.out) ?_)
                  try simp only [Exit.inBlock, Exit.then]
                  refine bodyPost_ret (results_cell2 rfl _ _ _ w.heap.size #[.int .i64 0, .slice none 0 0] rfl (ld_abox (setRow_abox _ _ _ _ K0.out) rfl)) rfl (by exact ArchE.zero HV.out (below_setRow HB5.out))
                · rw [if_neg he] at hY1
                  have he0 : ec = 0 := Classical.byContradiction he
                  subst he0
                  by_cases hen : en ≠ b.length
                  · rw [if_pos hen] at hY1
                    have HV := Lib.hid hY1.symm
                    have t3 : ((en : Int) != (b.length : Int)) = true := by rw [bne_iff_ne]; omega
                    clear hY1 he hen
                    go_wp2_with fail
                    refine HRL.out.mono ?_
                    rintro ee w5 ⟨rfl, hb5⟩
                    have K0 := Lib.hid ((hb5.block w.heap.size (by omega)).trans H0.out)
                    have HB5 := Lib.hid (HBr.out.trans (hb5.mono (by omega)))
                    clear hb5
                    go_wp2_with (refine st_arch (by exact rfl) (by exact rfl) w.heap.size (by exact rfl) #[.int .i64 0, .slice none 0 0] #[.int .i64 0, .slice none 0 0] (by exact rfl) rfl rfl (by simp [Value.oneCell']) (by exact K0.out) ?_)
                    try simp only [Exit.inBlock, Exit.then]
                    refine bodyPost_ret (results_cell2 rfl _ _ _ w.heap.size #[.int .i64 0, .slice none 0 0] rfl (ld_abox (setRow_abox _ _ _ _ K0.out) rfl)) rfl (by exact ArchE.zero HV.out (below_setRow HB5.out))
                  · rw [if_neg hen] at hY1
                    have HV := Lib.hid hY1.symm
                    have t3 : ((en : Int) != (b.length : Int)) = false := by rw [bne_eq_false_iff_eq]; omega
                    clear hY1 he hen
                    go_wp2_with fail
                    refine HRL.out.mono ?_
                    rintro ee w5 ⟨rfl, hb5⟩
                    have K0 := Lib.hid ((hb5.block w.heap.size (by omega)).trans H0.out)
                    have K1 := Lib.hid ((hb5.block (w.heap.size + 1) (by omega)).trans H1.out)
                    have HB5 := Lib.hid (HBr.out.trans (hb5.mono (by omega)))
                    have HO5 := Lib.hid (HOr.out.below hb5)
                    clear hb5
                    go_wp2_with (first
                      | (refine ld_arch (by exact rfl) (by exact rfl) (w.heap.size + 1) (by exact rfl) #[.int .i64 (top : Int), .slice Aa l.length ca] rfl (by exact K1.out) ?_)
                      | (refine st_arch (by exact rfl) (by exact rfl) w.heap.size (by exact rfl) #[.int .i64 (top : Int), .slice Aa l.length ca] #[.int .i64 0, .slice none 0 0] (by exact rfl) rfl rfl (by simp [Value.oneCell']) (by exact K0.out) ?_))
                    try simp only [Exit.inBlock, Exit.then]
                    refine bodyPost_ret (results_cell2 rfl _ _ _ w.heap.size #[.int .i64 (top : Int), .slice Aa l.length ca] rfl (ld_abox (setRow_abox _ _ _ _ K0.out) rfl)) rfl (by exact ⟨.slice Aa l.length ca, l, by rw [HV.out]; rfl, (HO5.out.kp (Kp.of_grown (grownBy_setRow w5 w.heap.size #[.int .i64 (top : Int), .slice Aa l.length ca])) (fun k e => by injection e with e; omega)).mono (by omega), by rw [HV.out], below_setRow HB5.out⟩)
              · obtain ⟨n', rfl⟩ : ∃ n', n = n' + 1 := ⟨n - 1, by omega⟩
                have hni : (0 : Int) < ((n' + 1 : Nat) : Int) := by omega
                have hfr := rdRec_fr (b := b) (p := k)
                have HRC := Lib.hid (readRecord_any _ b k hb (by omega) wr (HT.out.below HB) (HR.out.below HB) (HM.out.below HB) (HX.out.below HB))
                have hF1 : RR = if (rdRec b k).2 ≠ 0 then ([], k, (rdRec b k).2) else rdRecs b n' (rdFr b k).2.1 (l.map Prod.fst ++ [(rdRec b k).1]) := HF.out
                generalize rdRec b k = rr at hF1 HRC hfr
                obtain ⟨r, ec⟩ := rr
                generalize (rdFr b k).2.1 = q2 at hF1 HRC hfr
                simp only at hF1 hfr
                have HFR1 := Lib.hid hF1
                clear hF1 HF hn0
                by_cases he : ec ≠ 0
                · have HV := Lib.hid (show Y = (0, [], ec, k) by rw [← HY.out, HFR1.out, if_pos he]; simp only; rw [if_pos he])
                  have t3 : (ec != 0) = true := by rw [bne_iff_ne]; exact he
                  clear he hfr
                  go_wp2_with fail
                  refine HRC.out.mono ?_
                  rintro ee w4 ⟨dv, nx, rfl, -, hO4, hb4⟩
                  simp only at hO4
                  obtain ⟨Ad, cd, rfl⟩ := hO4.slice
                  obtain ⟨w5, hw5⟩ : ∃ w5, w4.alloc (.cells #[.int .i64 r.v, .int .i64 r.kd, .int .i64 r.sg, .int .i64 r.st, .int .i64 r.tr, .int .i64 r.tm, .int .i64 r.la, .int .i64 r.co, .int .i64 r.cn, .int .i64 r.pv, .string r.nm, .slice Ad r.da.length cd] 62) = w5 := ⟨_, rfl⟩
                  have hal : Below wr.heap.size wr w5 := by rw [← hw5]; exact hb4.alloc hb4.size _
                  have HW5 := Lib.hid hw5
                  have K0 := Lib.hid ((hal.block w.heap.size (by omega)).trans H0.out)
                  have HB5 := Lib.hid (HB.trans (hal.mono (by omega)))
                  clear hal hw5 hb4 hO4 HO HB
                  go_wp2_with (first
                    | (refine st_ncs (by exact rfl) (by exact rfl) w4.heap.size rfl (by exact rfl) #[.int .i64 r.v, .int .i64 r.kd, .int .i64 r.sg, .int .i64 r.st, .int .i64 r.tr, .int .i64 r.tm, .int .i64 r.la, .int .i64 r.co, .int .i64 r.cn, .int .i64 r.pv, .string r.nm, .slice Ad r.da.length cd] (by exact rfl) rfl rfl (by simp [Value.oneCell']) ?_; rw [HW5.out])
                    | (refine st_arch (by exact rfl) (by exact rfl) w.heap.size (by exact rfl) #[.int .i64 0, .slice none 0 0] #[.int .i64 0, .slice none 0 0] (by exact rfl) rfl rfl (by simp [Value.oneCell']) (by exact K0.out) ?_))
                  try simp only [Exit.inBlock, Exit.then]
                  refine bodyPost_ret (results_cell2 rfl _ _ _ w.heap.size #[.int .i64 0, .slice none 0 0] rfl (ld_abox (setRow_abox _ _ _ _ K0.out) rfl)) rfl (by exact ArchE.zero HV.out (below_setRow HB5.out))
                · have HF2 := Lib.hid (HFR1.out.trans (if_neg he))
                  have he0 : ec = 0 := Classical.byContradiction he
                  subst he0
                  obtain ⟨hq2, hq2b⟩ := hfr rfl
                  clear he hfr HFR1
                  go_wp2_with fail
                  refine HRC.out.mono ?_
                  rintro ee w4 ⟨dv, nx, rfl, hnx, hO4, hb4⟩
                  obtain rfl := hnx rfl
                  simp only at hO4
                  obtain ⟨Ad, cd, rfl⟩ := hO4.slice
                  obtain ⟨w5, hw5⟩ : ∃ w5, w4.alloc (.cells #[.int .i64 r.v, .int .i64 r.kd, .int .i64 r.sg, .int .i64 r.st, .int .i64 r.tr, .int .i64 r.tm, .int .i64 r.la, .int .i64 r.co, .int .i64 r.cn, .int .i64 r.pv, .string r.nm, .slice Ad r.da.length cd] 62) = w5 := ⟨_, rfl⟩
                  have hal : Below w4.heap.size w4 w5 := by rw [← hw5]; exact (Below.refl _ _).alloc (Nat.le_refl _) _
                  have hz5 : w5.heap.size = w4.heap.size + 1 := by rw [← hw5]; simp
                  have hs4 := hb4.size
                  have hbr5 : Below wr.heap.size wr w5 := hb4.trans (hal.mono hs4)
                  have K5 := Lib.hid (show w5.heap[w4.heap.size]? = some (.cells #[.int .i64 r.v, .int .i64 r.kd, .int .i64 r.sg, .int .i64 r.st, .int .i64 r.tr, .int .i64 r.tm, .int .i64 r.la, .int .i64 r.co, .int .i64 r.cn, .int .i64 r.pv, .string r.nm, .slice Ad r.da.length cd] 62 (0, 0)) by rw [← hw5]; exact heap_alloc_new _ _)
                  have HW5 := Lib.hid hw5
                  have k0 := (hbr5.block w.heap.size (by omega)).trans H0.out
                  have k1 := (hbr5.block (w.heap.size + 1) (by omega)).trans H1.out
                  have qa : w5.cell? ⟨w.heap.size + 1, 1, none⟩ = some (.slice Aa l.length ca) := by rw [cell_of_row w5 _ 1 _ _ _ k1]; rfl
                  have HRL := Lib.hid (Rd.lits w5 62 #[.int .i64 r.v, .int .i64 r.kd, .int .i64 r.sg, .int .i64 r.st, .int .i64 r.tr, .int .i64 r.tm, .int .i64 r.la, .int .i64 r.co, .int .i64 r.cn, .int .i64 r.pv, .string r.nm, .slice Ad r.da.length cd] 12 1 rfl (by omega) w5.heap.size rfl)
                  have hal6 : Below w5.heap.size w5 (w5.alloc (.cells #[.int .i64 r.v, .int .i64 r.kd, .int .i64 r.sg, .int .i64 r.st, .int .i64 r.tr, .int .i64 r.tm, .int .i64 r.la, .int .i64 r.co, .int .i64 r.cn, .int .i64 r.pv, .string r.nm, .slice Ad r.da.length cd] 62)) := (Below.refl _ _).alloc (Nat.le_refl _) _
                  have HO6 := Lib.hid ((HO.below hbr5).below hal6)
                  have HD6 := Lib.hid (show Ob (w5.alloc (.cells #[.int .i64 r.v, .int .i64 r.kd, .int .i64 r.sg, .int .i64 r.st, .int .i64 r.tr, .int .i64 r.tm, .int .i64 r.la, .int .i64 r.co, .int .i64 r.cn, .int .i64 r.pv, .string r.nm, .slice Ad r.da.length cd] 62)) (w.heap.size + 2) (.slice Ad r.da.length cd) r.da from own_mono ((hO4.below hal).below hal6) (by omega))
                  have HNEW := Lib.hid (fun k (hk : (Value.slice Ad r.da.length cd).ownBlock = some k) => (hO4.lt k hk).1)
                  have HOLD := Lib.hid (fun q (hq : q ∈ l) k (hk : q.2.ownBlock = some k) => ((HO.ow.da q hq).lt k hk).2)
                  have k06 := (hal6.block w.heap.size (by omega)).trans k0
                  have k16 := (hal6.block (w.heap.size + 1) (by omega)).trans k1
                  have K06 := Lib.hid k06
                  have K16 := Lib.hid k16
                  have HB6 := Lib.hid ((HB.trans (hbr5.mono (by omega))).trans (hal6.mono (by omega)))
                  have hz6 : (w5.alloc (.cells #[.int .i64 r.v, .int .i64 r.kd, .int .i64 r.sg, .int .i64 r.st, .int .i64 r.tr, .int .i64 r.tm, .int .i64 r.la, .int .i64 r.co, .int .i64 r.cn, .int .i64 r.pv, .string r.nm, .slice Ad r.da.length cd] 62)).heap.size = w5.heap.size + 1 := World.size_alloc _ _
                  have HZ6 := Lib.hid hz6
                  have HZ5 := Lib.hid hz5
                  clear hal hw5 hb4 hO4 HO HB hbr5 k0 k1 hal6 k06 k16 hz6 hz5
                  go_wp2_with (first
                    | (refine st_ncs (by exact rfl) (by exact rfl) w4.heap.size rfl (by exact rfl) #[.int .i64 r.v, .int .i64 r.kd, .int .i64 r.sg, .int .i64 r.st, .int .i64 r.tr, .int .i64 r.tm, .int .i64 r.la, .int .i64 r.co, .int .i64 r.cn, .int .i64 r.pv, .string r.nm, .slice Ad r.da.length cd] (by exact rfl) rfl rfl (by simp [Value.oneCell']) ?_; rw [HW5.out])
                    | (refine ld_cs (by exact rfl) (by exact rfl) w4.heap.size (by exact rfl) #[.int .i64 r.v, .int .i64 r.kd, .int .i64 r.sg, .int .i64 r.st, .int .i64 r.tr, .int .i64 r.tm, .int .i64 r.la, .int .i64 r.co, .int .i64 r.cn, .int .i64 r.pv, .string r.nm, .slice Ad r.da.length cd] rfl (by exact K5.out) ?_)
                    | (at_builtin; refine wpList_app (w.heap.size + 2) rfl (.tmp 79) (.tmp 81) 49 62 _ 12 120 rfl Tryd.underlying49 info_rec rfl (by decide) _ l.length (recCs l) _ 1 (recC (r, .slice Ad r.da.length cd)) rfl rfl HO6.out.ow.own HRL.out (recC_one _ _ _ _) (by unfold maxLen; omega) (by omega) (by have := HZ6.out; have := HZ5.out; omega) ?_; intro v7 w7 g1 g2 g3 _ _; have hO7 := HO6.out.snoc (p := (r, .slice Ad r.da.length cd)) g2 g1 HD6.out HNEW.out HOLD.out; have hs7 := g2.size; rw [HZ6.out, HZ5.out] at hs7; have k07 := (g2.block w.heap.size (by rw [HZ6.out, HZ5.out]; omega) (fun e => by have := (HO6.out.ow.own.lt _ e.symm).1; omega)).trans K06.out; have k17 := (g2.block (w.heap.size + 1) (by rw [HZ6.out, HZ5.out]; omega) (fun e => by have := (HO6.out.ow.own.lt _ e.symm).1; omega)).trans K16.out; have hB7 : Below w.heap.size w w7 := HB6.out.grown g2 HB6.out.size (fun k e => by have := (HO6.out.ow.own.lt k e).1; omega); obtain ⟨A7, c7, e7⟩ := hO7.ow.slice; rw [List.length_append, List.length_singleton] at e7; subst e7; have q7 : w7.cell? ⟨w.heap.size + 1, 1, none⟩ = some (.slice Aa l.length ca) := (by rw [cell_of_row w7 _ 1 _ _ _ k17]; rfl); have f7 : w7.frozen? ⟨w.heap.size + 1, 1, none⟩ = false := (by simp [World.frozen?, k17]); have HO7 := Lib.hid hO7; have K07 := Lib.hid k07; have K17 := Lib.hid k17; have HB7 := Lib.hid hB7; clear hO7 k07 k17 hB7 g1 g2 g3))
                  have hkp8 : Kp w7 (w7.setCell ⟨w.heap.size + 1, 1, none⟩ (.slice A7 (l.length + 1) c7)) (fun k => k = w.heap.size + 1) := Kp.set _ _
                  go_roundw
                  case rel =>
                    refine ⟨q2, n', l ++ [(r, Value.slice Ad r.da.length cd)], .slice A7 (l.length + 1) c7, rfl, by go_num, by omega, hq2b, by rw [List.length_append, List.length_singleton]; omega, ?_, ?_, ?_, ?_, ?_, ?_⟩
                    · rw [List.map_append]; exact HF2.out
                    · exact (hkp8.block w.heap.size (by omega) (by omega)).trans K07.out
                    · rw [setCell_eq_setRow w7 (w.heap.size + 1) 1 _ _ _ _ K17.out, setRow_heap _ _ _ _ _ _ K17.out]; rfl
                    · exact HO7.out.kp hkp8 (fun k e => by omega)
                    · exact HB7.out.trans (hkp8.below (T := w.heap.size) (by omega) (fun k e => by omega))
                    · have := hkp8.size; omega
                  case measure => simp [intOf]
end Go.Proofs.YtfmlkagcmkbebaaDoor
