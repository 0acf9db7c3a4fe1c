/- archive.Pack. -/
import Derived.Test.YtfmlkagcmkbebaaDoorWy
import Derived.Test.YtfmlkagcmkbebaaDoorWx
import Derived.Deep.DeepCutAuto
namespace Go.Proofs.YtfmlkagcmkbebaaDoor
open Go.RowKit

/-- The call of the first frame, wherever it comes. -/
theorem topCall (W1 W : World) (B g b tn n : Nat) (v84 v1 v2 : Value) (q : Nat) (hq : q = W.heap.size) (hb : Below W1.heap.size W1 W) (hW : Wr0 W1 B g b 5 packHead) (hT : Tab W1) (hB : B ≤ W1.heap.size) (ht : tn < 18446744073709551616) (hn : n < 18446744073709551616)
    (h84 : Bs W v84 [84]) (h1 : Bs W v1 (uvar tn)) (h2 : Bs W v2 (uvar n)) :
    Calls Tryd.prog 50 #[.pointer (some ⟨g, 0, none⟩), .slice (some ⟨q, 0, none⟩) 3 3] (W.alloc (.cells #[v84, v1, v2] 22)) fun e w3 => e = .returned (.tuple #[]) ∧ ∃ v', Wr w3 B g v' (packHead ++ topF tn n) ∧ Below B W1 w3 := by
  subst hq
  have hal : Below W1.heap.size W1 (W.alloc (.cells #[v84, v1, v2] 22)) := hb.alloc hb.size _
  have hfl : [[84], uvar tn, uvar n].flatten = [84] ++ uvar tn ++ uvar n := by simp [List.append_assoc]
  have hll := topF_len ht hn
  have hP : Bss (W.alloc (.cells #[v84, v1, v2] 22)) (.slice (some ⟨W.heap.size, 0, none⟩) 3 3) [[84], uvar tn, uvar n] := by
    refine Bss.litn W [v84, v1, v2] [[84], uvar tn, uvar n] 3 _ rfl (by omega) rfl rfl (fun i u xs hu hx => ?_)
    match i with
    | 0 => simp at hu hx; subst hu; subst hx; exact h84
    | 1 => simp at hu hx; subst hu; subst hx; exact h1
    | 2 => simp at hu hx; subst hu; subst hx; exact h2
    | n + 3 => simp at hu
  refine (wframe0_any B g b 5 _ packHead [[84], uvar tn, uvar n] _ (hT.below hal) (hW.below hal) hP (by rw [hfl]; exact hll.2) (by rw [hfl]; omega) (by decide) (by have := hal.size; omega)).mono ?_
  rintro e w3 ⟨rfl, v', h3, h4⟩
  rw [hfl] at h3
  exact ⟨rfl, v', h3, (hal.mono hB).trans h4⟩

/-- A frame of two parts. -/
theorem pairCall (W : World) (B g : Nat) (v va vb : Value) (q : Nat) (X xs ys : List UInt8) (hq : q = W.heap.size) (hW : Wr W B g v X) (hT : Tab W) (hB : B ≤ W.heap.size) (hX : X.length ≤ 8388608) (ha : Bs W va xs) (hb : Bs W vb ys) (h0 : 0 < xs.length) (h1 : xs.length + ys.length ≤ 1048576) :
    Calls Tryd.prog 50 #[.pointer (some ⟨g, 0, none⟩), .slice (some ⟨q, 0, none⟩) 2 2] (W.alloc (.cells #[va, vb] 22)) fun e w3 => e = .returned (.tuple #[]) ∧ ∃ A c, Wr w3 B g (.slice A (X ++ frame (xs ++ ys)).length c) (X ++ frame (xs ++ ys)) ∧ Below B W w3 := by
  subst hq
  have hal : Below W.heap.size W (W.alloc (.cells #[va, vb] 22)) := (Below.refl _ _).alloc (Nat.le_refl _) _
  have hfl : [xs, ys].flatten = xs ++ ys := by simp
  have hP : Bss (W.alloc (.cells #[va, vb] 22)) (.slice (some ⟨W.heap.size, 0, none⟩) 2 2) [xs, ys] := by
    refine Bss.litn W [va, vb] [xs, ys] 2 _ rfl (by omega) rfl rfl (fun i u zs hu hx => ?_)
    match i with
    | 0 => simp at hu hx; subst hu; subst hx; exact ha
    | 1 => simp at hu hx; subst hu; subst hx; exact hb
    | n + 2 => simp at hu
  refine (wframe_any B g v _ X [xs, ys] _ (hT.below hal) (hW.below hal) hP (by rw [hfl, List.length_append]; omega) (by rw [hfl, List.length_append]; omega) (by omega) (by have := hal.size; omega)).mono ?_
  rintro e w3 ⟨rfl, v', h3, h4⟩
  rw [hfl] at h3
  obtain ⟨A, c, rfl⟩ := h3.ob.slice
  exact ⟨rfl, A, c, h3, (hal.mono hB).trans h4⟩

theorem Check_is (r : Rc) (dv : Value) (hf : r.Fit) (w : World) (hT : TabR w) (hM : TabM w) (hd : Bs w dv r.da) :
    Calls Tryd.prog 49 #[r.val dv] w fun e w' => e = .returned (.int .i64 (checkC r)) ∧ Below w.heap.size w w' := Check_any r dv hf w hT hM hd

set_option maxRecDepth 100000 in
set_option maxHeartbeats 4000000 in
theorem Pack_any (top : Int) (rv : Value) (l : List Rec) (hl : l.length ≤ 1048576) (htop : -9223372036854775808 ≤ top ∧ top ≤ 9223372036854775807) (hN : ∀ p, p ∈ l → p.1.Nums) (hF : ∀ p, p ∈ l → p.1.Fit)
    (w : World) (hT : Tab w) (hTR : TabR w) (hTM : TabM w) (hp : Rs w rv l) : Calls Tryd.prog 24 #[.agg #[.int .i64 top, rv]] w (PackE w top (l.map Prod.fst)) := by
  obtain ⟨A, c, rfl, hn, hc, hr⟩ := hp.form
  obtain ⟨ht1, ht2⟩ := htop
  by_cases h0 : top < 0
  · have HC := Lib.hid (show packC top (l.map Prod.fst) = 86 by unfold packC; rw [if_pos h0])
    clear hr hp hT hTR hTM hN hF hc
    go_enter Tryd.func24, Tryd.ntmps24
    go_wp2_with fail
    go_ret2
    refine ⟨(Below.refl _ w).alloc (Nat.le_refl _) _, .inl ⟨by rw [HC.out]; decide, by rw [HC.out]; rfl⟩⟩
  · obtain ⟨tn, rfl⟩ := Int.eq_ofNat_of_zero_le (by omega : 0 ≤ top)
    have HR := Lib.hid hr
    have HP := Lib.hid hp
    have HN := Lib.hid hN
    have HF := Lib.hid hF
    have HT := Lib.hid hT
    have HTR := Lib.hid hTR
    have HTM := Lib.hid hTM
    have hB0 : Below w.heap.size w (w.alloc (.cells #[.int .i64 (tn : Int), .slice A l.length c] 53)) := (Below.refl _ w).alloc (Nat.le_refl _) _
    have hbox := ABox.new w (tn : Int) (.slice A l.length c) _ rfl
    have hz0 := World.size_alloc w (.cells #[.int .i64 (tn : Int), .slice A l.length c] 53)
    clear hr hp hT hTR hTM hN hF hc
    go_enter Tryd.func24, Tryd.ntmps24
    go_wp2_with fail
    generalize w.alloc (.cells #[.int .i64 (tn : Int), .slice A l.length c] 53) = W0 at *
    have HB0 := Lib.hid hB0
    have HBX := Lib.hid hbox
    clear hB0 hbox
    go_loopw [5, 6, 18] (fun _ _ i wr => ∃ k : Nat, k ≤ l.length ∧ i = .int .i64 (k : Int) ∧ chkF ((l.map Prod.fst).drop k) = chkF (l.map Prod.fst) ∧ Below W0.heap.size W0 wr) (fun _ _ i _ => l.length - (intOf i).toNat)
    case atStart => exact ⟨0, Nat.zero_le _, rfl, rfl, Below.refl _ _⟩
    case round =>
      obtain ⟨k, hk, rfl, hck, hb⟩ := hrel
      have HCK := Lib.hid hck
      clear hck
      have sr := hb.size
      by_cases hlt : k < l.length
      · obtain ⟨b, o, rfl, hcell⟩ := HR.out k hlt
        have hbw := HB0.out.trans (hb.mono (by omega))
        have g1 := rangeAt_below hcell hbw
        have d1 := (HP.out.da _ (List.getElem_mem hlt)).below hbw
        have hfit := HF.out _ (List.getElem_mem hlt)
        have hkm : k < (l.map Prod.fst).length := by simpa using hlt
        have hgm : (l.map Prod.fst)[k]'hkm = (l[k]'hlt).1 := by simp
        have hdr := chkF_drop (l := l.map Prod.fst) hkm
        have hbd := chkF_bad (l := l.map Prod.fst) hkm
        rw [hgm] at hdr hbd
        clear hcell hgm
        generalize l[k]'hlt = p1 at g1 d1 hfit hdr hbd
        obtain ⟨r, dv⟩ := p1
        replace d1 : Bs wr dv r.da := d1
        replace hfit : r.Fit := hfit
        replace hdr : checkC r = 0 → _ := hdr
        replace hbd : checkC r ≠ 0 → _ = checkC r := hbd
        obtain ⟨Ad, cd, rfl, _⟩ := d1.form
        have G1 := Lib.hid g1
        have hi1 : (k : Int) < (l.length : Int) := by omega
        have hA1 : Below wr.heap.size wr (wr.alloc (.cells #[.int .i64 r.v, .int .i64 r.kd, .int .i64 r.sg, .int .i64 r.st, .int .i64 r.tr, .int .i64 r.tm, .int .i64 r.la, .int .i64 r.co, .int .i64 r.cn, .int .i64 r.pv, .string r.nm, .slice Ad r.da.length cd] 62)) := (Below.refl _ wr).alloc (Nat.le_refl _) _
        have HCC := Lib.hid (Check_is r (.slice Ad r.da.length cd) hfit (wr.alloc (.cells #[.int .i64 r.v, .int .i64 r.kd, .int .i64 r.sg, .int .i64 r.st, .int .i64 r.tr, .int .i64 r.tm, .int .i64 r.la, .int .i64 r.co, .int .i64 r.cn, .int .i64 r.pv, .string r.nm, .slice Ad r.da.length cd] 62)) ((HTR.out.below hbw).below hA1) ((HTM.out.below hbw).below hA1) (d1.below hA1))
        have HA1 := Lib.hid hA1
        rw [val_eq] at HCC
        clear g1 hA1
        by_cases hc0 : checkC r = 0
        · have HD1 := Lib.hid (hdr hc0)
          rw [hc0] at HCC
          clear hdr hbd hc0
          go_wp2_with (refine ld_lit (by exact rfl) (by exact rfl) b (o + k * 12) (by exact rfl) #[.int .i64 r.v, .int .i64 r.kd, .int .i64 r.sg, .int .i64 r.st, .int .i64 r.tr, .int .i64 r.tm, .int .i64 r.la, .int .i64 r.co, .int .i64 r.cn, .int .i64 r.pv, .string r.nm, .slice Ad r.da.length cd].toList (by exact rfl) (by exact G1.out) ?_)
          refine HCC.out.mono ?_
          rintro e w3 ⟨rfl, hb3⟩
          have hb13 := HA1.out.trans (hb3.mono HA1.out.size)
          go_wp2_with fail
          go_roundw
          case rel => exact ⟨k + 1, by omega, by go_num, by rw [← HD1.out]; exact HCK.out, hb.trans (hb13.mono sr)⟩
          case measure => simp [intOf]; omega
        · have HCB := Lib.hid (show packC (tn : Int) (l.map Prod.fst) = checkC r ∧ checkC r ≠ 0 by
            have : chkF (l.map Prod.fst) = checkC r := by rw [← HCK.out]; exact hbd hc0
            exact ⟨by unfold packC; rw [if_neg (by omega), if_pos (by rw [this]; exact hc0), this], hc0⟩)
          have t1 : (checkC r != 0) = true := by rw [bne_iff_ne]; exact hc0
          generalize checkC r = cr at HCC HCB t1
          clear hdr hbd hc0
          go_wp2_with (refine ld_lit (by exact rfl) (by exact rfl) b (o + k * 12) (by exact rfl) #[.int .i64 r.v, .int .i64 r.kd, .int .i64 r.sg, .int .i64 r.st, .int .i64 r.tr, .int .i64 r.tm, .int .i64 r.la, .int .i64 r.co, .int .i64 r.cn, .int .i64 r.pv, .string r.nm, .slice Ad r.da.length cd].toList (by exact rfl) (by exact G1.out) ?_)
          refine HCC.out.mono ?_
          rintro e w3 ⟨rfl, hb3⟩
          have hb13 := HA1.out.trans (hb3.mono HA1.out.size)
          go_wp2_with fail
          go_ret2
          exact ⟨hbw.trans (hb13.mono hbw.size), .inl ⟨by rw [HCB.out.1]; exact HCB.out.2, by rw [HCB.out.1]; rfl⟩⟩
      · obtain rfl : k = l.length := by omega
        have hgood := chkF_good (l := l.map Prod.fst) (by rw [← HCK.out, List.drop_of_length_le (by simp)]; rfl)
        have hck0 : chkF (l.map Prod.fst) = 0 := by rw [← HCK.out, List.drop_of_length_le (by simp)]; rfl
        have HGD := Lib.hid hgood
        have HC0 := Lib.hid hck0
        clear hgood hck0
        have kc := Lib.run_convert_bytes_const (P := Tryd.prog) wr 22 5 #[.int .u8 65, .int .u8 78, .int .u8 65, .int .u8 82, .int .u8 1] 5 5 Tryd.underlying22 Tryd.underlying5
        rw [show (#[.int .u8 65, .int .u8 78, .int .u8 65, .int .u8 82, .int .u8 1] : Array Value).size = 5 from rfl] at kc
        go_upto_region 11 with fail
        obtain ⟨W1, hW1⟩ : ∃ W1, (wr.alloc (.cells #[.int .u8 65, .int .u8 78, .int .u8 65, .int .u8 82, .int .u8 1] 5 (5, 6))).alloc (.cells #[.slice (some ⟨wr.heap.size, 0, none⟩) 5 5, .int .i64 0] 89) = W1 := ⟨_, rfl⟩
        have hB1 : Below wr.heap.size wr W1 := by rw [← hW1]; exact ((Below.refl _ wr).alloc (Nat.le_refl _) _).alloc (by simp) _
        have hz1 : W1.heap.size = wr.heap.size + 2 := by rw [← hW1]; simp
        have hWr : Wr0 W1 W0.heap.size (wr.heap.size + 1) wr.heap.size 5 packHead := by
          refine ⟨?_, ?_, by omega⟩
          · rw [← hW1]
            have := heap_alloc_new (wr.alloc (.cells #[.int .u8 65, .int .u8 78, .int .u8 65, .int .u8 82, .int .u8 1] 5 (5, 6))) (.cells #[.slice (some ⟨wr.heap.size, 0, none⟩) 5 5, .int .i64 0] 89)
            simpa using this
          · rw [← hW1]
            refine ⟨_, _, rfl, by rfl, Nat.le_refl _, by unfold maxLen; omega, fun j u hj => ⟨wr.heap.size, 0, rfl, ?_⟩⟩
            rw [cell_of_row _ wr.heap.size (0 + j) _ _ _ ((Below.heap_alloc _ _ _ (by simp)).trans (heap_alloc_new wr _)), Nat.zero_add, ← Array.getElem?_toList]; exact hj
        rw [hW1]
        have HWR := Lib.hid hWr
        have hb1 : Below W0.heap.size W0 W1 := hb.trans (hB1.mono sr)
        have hbx1 := HBX.out.below hb1 (by omega)
        have e0 := hbx1.c0
        have e1 := hbx1.c1
        have hbw1 := HB0.out.trans (hb1.mono (by omega))
        have HT1 := Lib.hid (HT.out.below hbw1)
        clear hW1 kc hWr hbx1
        go_cut [44] (fun _ wx => ∃ v', Wr wx W0.heap.size (wr.heap.size + 1) v' (packHead ++ topF tn l.length) ∧ Below W0.heap.size W1 wx)
        case first =>
          refine wp_region_noPanic ?_
          refine wp_region_held_drew (S := fun w' => Below W0.heap.size W1 w') (by kernel_rfl) ((Below.refl _ _).drew) (fun hHeld => ?_)
          refine takeO (i := 0) (d := some 32) (v := (.pointer (some ⟨wr.heap.size + 1, 0, none⟩))) (by simp only [List.getElem?_toArray, List.getElem?_cons_zero]; rfl) (by rfl) (by kernel_rfl) (by kernel_rfl) (by kernel_rfl) (fun _ _ _ h => h) (Or.inl ⟨by rfl, ?_⟩) hHeld ?_
          · intro wS hSw; have q0 := (hSw.cell (p := ⟨w.heap.size, 0, none⟩) (by simp only; omega)).trans e0; have q1 := (hSw.cell (p := ⟨w.heap.size, 1, none⟩) (by simp only; omega)).trans e1; clear hSw e0 e1; go_simp
          simp only [Act.put, List.setIfInBounds_toArray, List.set_cons_zero, List.set_cons_succ]
          refine takeO (i := 2) (d := some 34) (v := (.pointer (some ⟨w.heap.size, 0, none⟩))) (by simp only [List.getElem?_toArray, List.getElem?_cons_succ, List.getElem?_cons_zero]; rfl) (by rfl) (by kernel_rfl) (by kernel_rfl) (by kernel_rfl) (fun _ _ _ h => h) (Or.inl ⟨by rfl, ?_⟩) hHeld ?_
          · intro wS hSw; have q0 := (hSw.cell (p := ⟨w.heap.size, 0, none⟩) (by simp only; omega)).trans e0; have q1 := (hSw.cell (p := ⟨w.heap.size, 1, none⟩) (by simp only; omega)).trans e1; clear hSw e0 e1; go_simp
          simp only [Act.put, List.setIfInBounds_toArray, List.set_cons_zero, List.set_cons_succ]
          refine takeO (i := 3) (d := some 35) (v := (.int .i64 (tn : Int))) (by simp only [List.getElem?_toArray, List.getElem?_cons_succ, List.getElem?_cons_zero]; rfl) (by rfl) (by kernel_rfl) (by kernel_rfl) (by kernel_rfl) (fun _ _ _ h => h) (Or.inl ⟨by rfl, ?_⟩) hHeld ?_
          · intro wS hSw; have q0 := (hSw.cell (p := ⟨w.heap.size, 0, none⟩) (by simp only; omega)).trans e0; have q1 := (hSw.cell (p := ⟨w.heap.size, 1, none⟩) (by simp only; omega)).trans e1; clear hSw e0 e1; go_simp
          simp only [Act.put, List.setIfInBounds_toArray, List.set_cons_zero, List.set_cons_succ]
          refine takeO (i := 4) (d := some 36) (v := (.int .u64 (tn : Int))) (by simp only [List.getElem?_toArray, List.getElem?_cons_succ, List.getElem?_cons_zero]; rfl) (by rfl) (by kernel_rfl) (by kernel_rfl) (by kernel_rfl) (fun _ _ _ h => h) (Or.inl ⟨by rfl, ?_⟩) hHeld ?_
          · intro wS hSw; have q0 := (hSw.cell (p := ⟨w.heap.size, 0, none⟩) (by simp only; omega)).trans e0; have q1 := (hSw.cell (p := ⟨w.heap.size, 1, none⟩) (by simp only; omega)).trans e1; clear hSw e0 e1; go_simp; rw [IntKind.wrap_u64]; omega
          simp only [Act.put, List.setIfInBounds_toArray, List.set_cons_zero, List.set_cons_succ]
          refine takeO (i := 6) (d := some 38) (v := (.pointer (some ⟨w.heap.size, 1, none⟩))) (by simp only [List.getElem?_toArray, List.getElem?_cons_succ, List.getElem?_cons_zero]; rfl) (by rfl) (by kernel_rfl) (by kernel_rfl) (by kernel_rfl) (fun _ _ _ h => h) (Or.inl ⟨by rfl, ?_⟩) hHeld ?_
          · intro wS hSw; have q0 := (hSw.cell (p := ⟨w.heap.size, 0, none⟩) (by simp only; omega)).trans e0; have q1 := (hSw.cell (p := ⟨w.heap.size, 1, none⟩) (by simp only; omega)).trans e1; clear hSw e0 e1; go_simp
          simp only [Act.put, List.setIfInBounds_toArray, List.set_cons_zero, List.set_cons_succ]
          refine takeO (i := 7) (d := some 39) (v := (.slice A l.length c)) (by simp only [List.getElem?_toArray, List.getElem?_cons_succ, List.getElem?_cons_zero]; rfl) (by rfl) (by kernel_rfl) (by kernel_rfl) (by kernel_rfl) (fun _ _ _ h => h) (Or.inl ⟨by rfl, ?_⟩) hHeld ?_
          · intro wS hSw; have q0 := (hSw.cell (p := ⟨w.heap.size, 0, none⟩) (by simp only; omega)).trans e0; have q1 := (hSw.cell (p := ⟨w.heap.size, 1, none⟩) (by simp only; omega)).trans e1; clear hSw e0 e1; go_simp
          simp only [Act.put, List.setIfInBounds_toArray, List.set_cons_zero, List.set_cons_succ]
          refine takeO (i := 8) (d := some 40) (v := (.int .i64 (l.length : Int))) (by simp only [List.getElem?_toArray, List.getElem?_cons_succ, List.getElem?_cons_zero]; rfl) (by rfl) (by kernel_rfl) (by kernel_rfl) (by kernel_rfl) (fun _ _ _ h => h) (Or.inl ⟨by rfl, ?_⟩) hHeld ?_
          · intro wS hSw; have q0 := (hSw.cell (p := ⟨w.heap.size, 0, none⟩) (by simp only; omega)).trans e0; have q1 := (hSw.cell (p := ⟨w.heap.size, 1, none⟩) (by simp only; omega)).trans e1; clear hSw e0 e1; go_simp
          simp only [Act.put, List.setIfInBounds_toArray, List.set_cons_zero, List.set_cons_succ]
          refine takeO (i := 9) (d := some 41) (v := (.int .u64 (l.length : Int))) (by simp only [List.getElem?_toArray, List.getElem?_cons_succ, List.getElem?_cons_zero]; rfl) (by rfl) (by kernel_rfl) (by kernel_rfl) (by kernel_rfl) (fun _ _ _ h => h) (Or.inl ⟨by rfl, ?_⟩) hHeld ?_
          · intro wS hSw; have q0 := (hSw.cell (p := ⟨w.heap.size, 0, none⟩) (by simp only; omega)).trans e0; have q1 := (hSw.cell (p := ⟨w.heap.size, 1, none⟩) (by simp only; omega)).trans e1; clear hSw e0 e1; go_simp; rw [IntKind.wrap_u64]; omega
          simp only [Act.put, List.setIfInBounds_toArray, List.set_cons_zero, List.set_cons_succ]
          have HU1 := fun W => Uint_any tn (by omega) W
          have HU2 := fun W => Uint_any l.length (by omega) W
          clear e0 e1
          have h01 : W0.heap.size ≤ W1.heap.size := by omega
          have hG : Below W1.heap.size W1 W1.drew := (Below.refl _ _).drew
          clear hHeld
          refine wpAnyH_ready (rs := [1, 5]) (by kernel_rfl) (by simp) (AllReadyH.cons rfl (fun K hK => ?_) (AllReadyH.cons rfl (fun K hK => ?_) AllReadyH.nil))
          · go_simp
            have h84 := (Bs.litn W1 #[.int .u8 84] [84] 1 (wr.heap.size + 2) (by rfl) rfl (by omega) hz1.symm).below ((Below.refl _ _).drew)
            replace hG : Below W1.heap.size W1 (W1.alloc (.cells #[.int .u8 84] 5)).drew := ((Below.refl _ W1).alloc (Nat.le_refl _) _).drew
            refine hK.out _ _ (hG.mono h01) (fun hHeld => ?_)
            clear hK K hHeld
            refine wpAnyH_ready (rs := [5]) (by kernel_rfl) (by simp) (AllReadyH.cons rfl (fun K hK => ?_) AllReadyH.nil)
            go_simp
            refine (HU1 _).mono ?_
            rintro e wb ⟨x1, rfl, Hx1, hbb⟩
            obtain ⟨Ax1, cx1, rfl⟩ := Hx1.slice
            replace hG := hG.trans (hbb.mono hG.size)
            refine hK.out _ _ (hG.mono h01) (fun hHeld => ?_)
            clear hK K hHeld
            refine wpAnyH_ready (rs := [10]) (by kernel_rfl) (by simp) (AllReadyH.cons rfl (fun K hK => ?_) AllReadyH.nil)
            go_simp
            refine (HU2 _).mono ?_
            rintro e wc ⟨x2, rfl, Hx2, hbc⟩
            obtain ⟨Ax2, cx2, rfl⟩ := Hx2.slice
            replace hG := hG.trans (hbc.mono hG.size)
            refine hK.out _ _ (hG.mono h01) (fun hHeld => ?_)
            clear hK K hHeld
            refine wpAnyH_ready (rs := [11]) (by kernel_rfl) (by simp) (AllReadyH.cons rfl (fun K hK => ?_) AllReadyH.nil)
            go_simp
            refine hK.out _ _ ((hG.alloc hG.size _).mono h01) (fun hHeld => ?_)
            clear hK K hHeld
            refine wpAnyH_ready (rs := [12]) (by kernel_rfl) (by simp) (AllReadyH.cons rfl (fun K hK => ?_) AllReadyH.nil)
            go_simp
            refine (topCall W1 _ W0.heap.size (wr.heap.size + 1) wr.heap.size tn l.length _ _ _ _ (by first | rfl | simp) hG HWR.out HT1.out (by omega) (by omega) (by omega) ((h84.below hbb).below hbc) (Hx1.bs.below hbc) Hx2.bs).mono ?_
            rintro e w9 ⟨rfl, v', hWr, hb9⟩
            refine hK.out _ _ hb9 (fun hHeld => ?_)
            clear hK K hHeld
            refine wpAnyH_done (by kernel_rfl) ?_ _
            refine NoPanic.normal ?_
            go_wp2_with fail
            go_meet
            exact ⟨v', hWr, hb9⟩
          · go_simp
            refine (HU1 _).mono ?_
            rintro e wb ⟨x1, rfl, Hx1, hbb⟩
            obtain ⟨Ax1, cx1, rfl⟩ := Hx1.slice
            replace hG := hG.trans (hbb.mono hG.size)
            refine hK.out _ _ (hG.mono h01) (fun hHeld => ?_)
            clear hK K hHeld
            refine wpAnyH_ready (rs := [1, 10]) (by kernel_rfl) (by simp) (AllReadyH.cons rfl (fun K hK => ?_) (AllReadyH.cons rfl (fun K hK => ?_) AllReadyH.nil))
            · go_simp
              have h84 := Bs.litn wb #[.int .u8 84] [84] 1 wb.heap.size (by rfl) rfl (by omega) rfl
              have hba : Below wb.heap.size wb (wb.alloc (.cells #[.int .u8 84] 5)) := (Below.refl _ _).alloc (Nat.le_refl _) _
              replace hG := hG.trans (hba.mono hG.size)
              refine hK.out _ _ (hG.mono h01) (fun hHeld => ?_)
              clear hK K hHeld
              refine wpAnyH_ready (rs := [10]) (by kernel_rfl) (by simp) (AllReadyH.cons rfl (fun K hK => ?_) AllReadyH.nil)
              go_simp
              refine (HU2 _).mono ?_
              rintro e wc ⟨x2, rfl, Hx2, hbc⟩
              obtain ⟨Ax2, cx2, rfl⟩ := Hx2.slice
              replace hG := hG.trans (hbc.mono hG.size)
              refine hK.out _ _ (hG.mono h01) (fun hHeld => ?_)
              clear hK K hHeld
              refine wpAnyH_ready (rs := [11]) (by kernel_rfl) (by simp) (AllReadyH.cons rfl (fun K hK => ?_) AllReadyH.nil)
              go_simp
              refine hK.out _ _ ((hG.alloc hG.size _).mono h01) (fun hHeld => ?_)
              clear hK K hHeld
              refine wpAnyH_ready (rs := [12]) (by kernel_rfl) (by simp) (AllReadyH.cons rfl (fun K hK => ?_) AllReadyH.nil)
              go_simp
              refine (topCall W1 _ W0.heap.size (wr.heap.size + 1) wr.heap.size tn l.length _ _ _ _ (by first | rfl | simp) hG HWR.out HT1.out (by omega) (by omega) (by omega) (h84.below hbc) ((Hx1.bs.below hba).below hbc) Hx2.bs).mono ?_
              rintro e w9 ⟨rfl, v', hWr, hb9⟩
              refine hK.out _ _ hb9 (fun hHeld => ?_)
              clear hK K hHeld
              refine wpAnyH_done (by kernel_rfl) ?_ _
              refine NoPanic.normal ?_
              go_wp2_with fail
              go_meet
              exact ⟨v', hWr, hb9⟩
            · go_simp
              refine (HU2 _).mono ?_
              rintro e wc ⟨x2, rfl, Hx2, hbc⟩
              obtain ⟨Ax2, cx2, rfl⟩ := Hx2.slice
              replace hG := hG.trans (hbc.mono hG.size)
              refine hK.out _ _ (hG.mono h01) (fun hHeld => ?_)
              clear hK K hHeld
              refine wpAnyH_ready (rs := [1]) (by kernel_rfl) (by simp) (AllReadyH.cons rfl (fun K hK => ?_) AllReadyH.nil)
              go_simp
              have h84 := Bs.litn wc #[.int .u8 84] [84] 1 wc.heap.size (by rfl) rfl (by omega) rfl
              have hba : Below wc.heap.size wc (wc.alloc (.cells #[.int .u8 84] 5)) := (Below.refl _ _).alloc (Nat.le_refl _) _
              replace hG := hG.trans (hba.mono hG.size)
              refine hK.out _ _ (hG.mono h01) (fun hHeld => ?_)
              clear hK K hHeld
              refine wpAnyH_ready (rs := [11]) (by kernel_rfl) (by simp) (AllReadyH.cons rfl (fun K hK => ?_) AllReadyH.nil)
              go_simp
              refine hK.out _ _ ((hG.alloc hG.size _).mono h01) (fun hHeld => ?_)
              clear hK K hHeld
              refine wpAnyH_ready (rs := [12]) (by kernel_rfl) (by simp) (AllReadyH.cons rfl (fun K hK => ?_) AllReadyH.nil)
              go_simp
              refine (topCall W1 _ W0.heap.size (wr.heap.size + 1) wr.heap.size tn l.length _ _ _ _ (by first | rfl | simp) hG HWR.out HT1.out (by omega) (by omega) (by omega) h84 ((Hx1.bs.below hbc).below hba) (Hx2.bs.below hba)).mono ?_
              rintro e w9 ⟨rfl, v', hWr, hb9⟩
              refine hK.out _ _ hb9 (fun hHeld => ?_)
              clear hK K hHeld
              refine wpAnyH_done (by kernel_rfl) ?_ _
              refine NoPanic.normal ?_
              go_wp2_with fail
              go_meet
              exact ⟨v', hWr, hb9⟩
        case rest =>
          obtain ⟨v0, hWr0, hb0⟩ := hcut
          have hbA : Below W0.heap.size W0 wc := hb1.trans hb0
          obtain ⟨T, hTT⟩ : ∃ T, packHead ++ topF tn l.length = T := ⟨_, rfl⟩
          have hTl : T.length ≤ 105 := by
            have := topF_len (top := tn) (n := l.length) (by omega) (by omega)
            have h2 := uvar_len10 (n := ([84] ++ uvar tn ++ uvar l.length).length) (by omega)
            have h3 : packHead.length = 5 := rfl
            rw [← hTT, List.length_append]; unfold topF; rw [frame_len]; omega
          rw [hTT] at hWr0
          have HTT := Lib.hid hTT
          have HG := Lib.hid (show wr.heap.size + 1 < wc.heap.size from hWr0.lt)
          obtain ⟨g, hg⟩ : ∃ g, wr.heap.size + 1 = g := ⟨_, rfl⟩
          have hbxc := HBX.out.below hbA (by omega)
          have x1c := hbxc.c1
          have hgl : w.heap.size < g := by omega
          rw [hg] at hWr0 HG
          clear hTT hb1 hb0 hB1 hz1 HWR e0 e1 hbw1 HT1 hb
          simp only [hg]
          go_wp2_with fail
          have HXT := Lib.hid (show T ++ recsF ((l.map Prod.fst).take 0) = T by simp [recsF])
          go_loopw [9, 10, 11, 48] (fun _ _ _ i wr => ∃ (k : Nat) (v : Value), k ≤ l.length ∧ i = .int .i64 (k : Int) ∧ Wr wr W0.heap.size g v (T ++ recsF ((l.map Prod.fst).take k)) ∧ (T ++ recsF ((l.map Prod.fst).take k)).length ≤ 8388608 ∧ Below W0.heap.size W0 wr) (fun _ _ _ i _ => l.length - (intOf i).toNat)
          case atStart => exact ⟨0, _, Nat.zero_le _, rfl, by rw [HXT.out]; exact hWr0, by rw [HXT.out]; omega, hbA⟩
          case round =>
            obtain ⟨k, vv, hk, rfl, hWr, hXl, hb⟩ := hrel
            have sr := hb.size
            have hbw := HB0.out.trans (hb.mono (by omega))
            by_cases hlt : k < l.length
            · obtain ⟨b, o, rfl, hcell⟩ := HR.out k hlt
              have g1 := rangeAt_below hcell hbw
              have d1 := (HP.out.da _ (List.getElem_mem hlt)).below hbw
              have hfit := HF.out _ (List.getElem_mem hlt)
              have hnum := HN.out _ (List.getElem_mem hlt)
              have hkm : k < (l.map Prod.fst).length := by simpa using hlt
              have hgm : (l.map Prod.fst)[k]'hkm = (l[k]'hlt).1 := by simp
              have hgd := HGD.out _ (List.getElem_mem hkm)
              have hsx := recsF_succ hkm
              have hpre := recsF_take_le (l.map Prod.fst) (k + 1)
              rw [hgm] at hgd hsx
              clear hcell hgm
              generalize l[k]'hlt = p1 at g1 d1 hfit hnum hgd hsx
              obtain ⟨r, dv⟩ := p1
              replace d1 : Bs wr dv r.da := d1
              replace hfit : r.Fit := hfit
              replace hnum : r.Nums := hnum
              replace hgd : r.Good := hgd
              replace hsx : recsF ((l.map Prod.fst).take (k + 1)) = recsF ((l.map Prod.fst).take k) ++ recF r := hsx
              obtain ⟨Ad, cd, rfl, _⟩ := d1.form
              have G1 := Lib.hid g1
              have hsx2 : T ++ recsF ((l.map Prod.fst).take (k + 1)) = (T ++ recsF ((l.map Prod.fst).take k)) ++ recF r := by rw [hsx, List.append_assoc]
              have HSX := Lib.hid hsx2
              have HBIG := Lib.hid (show 8388608 < ((T ++ recsF ((l.map Prod.fst).take k)) ++ recF r).length → packC (tn : Int) (l.map Prod.fst) = 2 from fun hbig => by
                have hbody : bodyP tn (l.map Prod.fst).length (l.map Prod.fst) = T ++ recsF (l.map Prod.fst) := by unfold bodyP; rw [List.length_map, HTT.out]
                rw [← hsx2, List.length_append] at hbig
                unfold packC; rw [if_neg (by omega), if_neg (by rw [HC0.out]; simp), if_pos (by rw [Int.toNat_natCast, hbody, List.length_append]; omega)])
              have hi1 : (k : Int) < (l.length : Int) := by omega
              have hA1 : Below wr.heap.size wr (wr.alloc (.cells #[.int .i64 r.v, .int .i64 r.kd, .int .i64 r.sg, .int .i64 r.st, .int .i64 r.tr, .int .i64 r.tm, .int .i64 r.la, .int .i64 r.co, .int .i64 r.cn, .int .i64 r.pv, .string r.nm, .slice Ad r.da.length cd] 62)) := (Below.refl _ wr).alloc (Nat.le_refl _) _
              have hblk := heap_alloc_new wr (.cells #[.int .i64 r.v, .int .i64 r.kd, .int .i64 r.sg, .int .i64 r.st, .int .i64 r.tr, .int .i64 r.tm, .int .i64 r.la, .int .i64 r.co, .int .i64 r.cn, .int .i64 r.pv, .string r.nm, .slice Ad r.da.length cd] 62)
              have hszA := World.size_alloc wr (.cells #[.int .i64 r.v, .int .i64 r.kd, .int .i64 r.sg, .int .i64 r.st, .int .i64 r.tr, .int .i64 r.tm, .int .i64 r.la, .int .i64 r.co, .int .i64 r.cn, .int .i64 r.pv, .string r.nm, .slice Ad r.da.length cd] 62)
              have HENC := Lib.hid (Encode_ok r (.slice Ad r.da.length cd) hgd hnum hfit (wr.alloc (.cells #[.int .i64 r.v, .int .i64 r.kd, .int .i64 r.sg, .int .i64 r.st, .int .i64 r.tr, .int .i64 r.tm, .int .i64 r.la, .int .i64 r.co, .int .i64 r.cn, .int .i64 r.pv, .string r.nm, .slice Ad r.da.length cd] 62)) ((HTR.out.below hbw).below hA1) ((HTM.out.below hbw).below hA1) (d1.below hA1))
              rw [val_eq] at HENC
              have hel := encB_len hgd hnum
              obtain ⟨⟨hv1, hv3⟩, _⟩ := hgd.all
              obtain ⟨vn, hvn⟩ := Int.eq_ofNat_of_zero_le (show 0 ≤ r.v by omega)
              have HVN := Lib.hid hvn
              rw [hvn] at hv1 hv3
              have HRF := Lib.hid (show recF r = frame ([82, UInt8.ofNat vn] ++ encB r) by unfold recF; rw [hvn]; rfl)
              have HTW := Lib.hid (HT.out.below hbw)
              have HA1 := Lib.hid hA1
              have HBK := Lib.hid hblk
              have HSZ := Lib.hid hszA
              generalize T ++ recsF ((l.map Prod.fst).take k) = X at hWr hXl HSX HBIG
              clear g1 hsx hsx2 hpre hgd hnum hfit hvn hA1 hblk hszA d1
              generalize encB r = eb at HENC hel HRF
              go_wp2_with (refine ld_lit (by exact rfl) (by exact rfl) b (o + k * 12) (by exact rfl) #[.int .i64 r.v, .int .i64 r.kd, .int .i64 r.sg, .int .i64 r.st, .int .i64 r.tr, .int .i64 r.tm, .int .i64 r.la, .int .i64 r.co, .int .i64 r.cn, .int .i64 r.pv, .string r.nm, .slice Ad r.da.length cd].toList (by exact rfl) (by exact G1.out) ?_)
              refine HENC.out.mono ?_
              rintro e w3 ⟨x3, rfl, HX3, hb3⟩
              have hb13 := HA1.out.trans (hb3.mono HA1.out.size)
              have s13 := hb13.size
              have hsz3 := hb3.size
              rw [HSZ.out] at hsz3
              have f0 : w3.cell? ⟨wr.heap.size, 0, none⟩ = some (.int .i64 (vn : Int)) := by
                rw [cell_of_row w3 wr.heap.size 0 _ _ _ ((hb3.block wr.heap.size (by rw [HSZ.out]; omega)).trans HBK.out), ← HVN.out]; rfl
              have hWr3 := hWr.below hb13
              have HX3b := HX3.bs
              obtain ⟨Ax3, cx3, rfl⟩ := HX3.slice
              have HLV := Lib.hid (lit82 vn (by omega))
              have hal3 : Below w3.heap.size w3 (w3.alloc (.cells #[.int .u8 82, .int .u8 (vn : Int)] 5)) := (Below.refl _ _).alloc (Nat.le_refl _) _
              have HPC := Lib.hid (pairCall (w3.alloc (.cells #[.int .u8 82, .int .u8 (vn : Int)] 5)) W0.heap.size g vv (.slice (some ⟨w3.heap.size, 0, none⟩) 2 2) (.slice Ax3 eb.length cx3) (w3.heap.size + 1) X [82, UInt8.ofNat vn] eb (by simp) (hWr3.below hal3) ((HTW.out.below hb13).below hal3) (by have := hal3.size; omega) hXl (Bs.litn w3 _ [82, UInt8.ofNat vn] 2 _ HLV.out rfl (by omega) rfl) (HX3b.below hal3) (by simp) (by simp only [List.length_cons, List.length_nil]; omega))
              go_wp2_with fail
              refine HPC.out.mono ?_
              rintro e w5 ⟨rfl, A5, c5, hWr5, hb5⟩
              have hb35 : Below W0.heap.size W0 w5 := (hb.trans (hb13.mono sr)).trans ((hal3.mono (by omega)).trans hb5)
              rw [← HRF.out] at hWr5
              have d0 := hWr5.c0
              by_cases hbig : 8388608 < (X ++ recF r).length
              · have HCB := Lib.hid (HBIG.out hbig)
                have hbi : (8388608 : Int) < ((X ++ recF r).length : Int) := by omega
                generalize X ++ recF r = X5 at hWr5 d0 hbi hbig
                clear hWr5
                go_wp2_with fail
                go_ret2
                exact ⟨HB0.out.trans (hb35.mono (by omega)), .inl ⟨by rw [HCB.out]; decide, by rw [HCB.out]; rfl⟩⟩
              · have hbi : ¬ (8388608 : Int) < ((X ++ recF r).length : Int) := by omega
                generalize X ++ recF r = X5 at hWr5 d0 hbi hbig HSX
                have HW5 := Lib.hid hWr5
                clear hWr5
                go_wp2_with fail
                go_roundw
                case rel => exact ⟨k + 1, _, by omega, by go_num, by rw [HSX.out]; exact HW5.out, by rw [HSX.out]; omega, hb35⟩
                case measure => simp [intOf]; omega
            · obtain rfl : k = l.length := by omega
              have hbody : bodyP tn (l.map Prod.fst).length (l.map Prod.fst) = T ++ recsF (l.map Prod.fst) := by unfold bodyP; rw [List.length_map, HTT.out]
              have htk : (l.map Prod.fst).take l.length = l.map Prod.fst := List.take_of_length_le (by simp)
              rw [htk] at hWr hXl
              have HCB := Lib.hid (show 8388608 < (T ++ recsF (l.map Prod.fst)).length + 11 → packC (tn : Int) (l.map Prod.fst) = 2 from fun h => by
                unfold packC; rw [if_neg (by omega), if_neg (by rw [HC0.out]; simp), if_pos (by rw [Int.toNat_natCast, hbody]; omega)])
              have HCG := Lib.hid (show ¬ 8388608 < (T ++ recsF (l.map Prod.fst)).length + 11 → packC (tn : Int) (l.map Prod.fst) = 0 from fun h => by
                unfold packC; rw [if_neg (by omega), if_neg (by rw [HC0.out]; simp), if_neg (by rw [Int.toNat_natCast, hbody]; omega)])
              have HPB := Lib.hid (show packB ((tn : Int)).toNat (l.map Prod.fst) = (T ++ recsF (l.map Prod.fst)) ++ lastF (T ++ recsF (l.map Prod.fst)) by
                unfold packB; rw [Int.toNat_natCast, hbody])
              have HTW := Lib.hid (HT.out.below hbw)
              clear hbody htk
              generalize T ++ recsF (l.map Prod.fst) = X at hWr hXl HCB HCG HPB
              obtain ⟨Ax, cx, rfl⟩ := hWr.ob.slice
              have hal1 : Below wr.heap.size wr (wr.alloc (.cells #[.int .u8 69] 5)) := (Below.refl _ _).alloc (Nat.le_refl _) _
              have hWr1 := hWr.below hal1
              have d0 := hWr1.c0
              have hal2 : Below wr.heap.size wr ((wr.alloc (.cells #[.int .u8 69] 5)).alloc (.cells #[.slice Ax X.length cx] 22)) := hal1.alloc (by simp) _
              have hb69 := Bs.litn wr #[.int .u8 69] [69] 1 wr.heap.size (by rfl) rfl (by omega) rfl
              have hBX : Bss ((wr.alloc (.cells #[.int .u8 69] 5)).alloc (.cells #[.slice Ax X.length cx] 22)) (.slice (some ⟨wr.heap.size + 1, 0, none⟩) 1 1) [X] := by
                have := Bss.lit1 (wr.alloc (.cells #[.int .u8 69] 5)) (.slice Ax X.length cx) X hWr1.ob.bs
                simpa using this
              have HSU := Lib.hid (Sum_any _ [X] _ (HTW.out.below hal2) hBX)
              have HB69 := Lib.hid (hb69.below ((Below.refl _ _).alloc (Nat.le_refl _) (.cells #[.slice Ax X.length cx] 22)))
              have HWR2 := Lib.hid (hWr.below hal2)
              have HA2 := Lib.hid hal2
              have HT2 := Lib.hid (HTW.out.below hal2)
              clear hal2 hb69 hBX hWr1 hal1 hWr
              go_wp2_with fail
              refine HSU.out.mono ?_
              rintro e wz ⟨rfl, rfl⟩
              rw [show [X].flatten = X by simp]
              go_wp2_with fail
              refine (low4_any (crc X) _).mono ?_
              rintro e w5 ⟨x5, rfl, HX5, hb5⟩
              have hb25 := HA2.out.trans (hb5.mono HA2.out.size)
              have hWr5 := HWR2.out.below hb5
              have HPC := Lib.hid (pairCall w5 W0.heap.size g _ (.slice (some ⟨wr.heap.size, 0, none⟩) 1 1) x5 w5.heap.size X [69] (le32 (crc X)) rfl hWr5 (HT2.out.below hb5) (by have := hb25.size; omega) hXl (HB69.out.below hb5) HX5.bs (by simp) (by simp [le32]))
              have h4 : (le32 (crc X)).length = 4 := rfl
              obtain ⟨A5, c5, rfl⟩ := HX5.slice
              rw [h4] at HPC
              have HLL := lastF_len X
              have HLF := Lib.hid (show frame ([69] ++ le32 (crc X)) = lastF X from rfl)
              rw [HLF.out] at HPC
              generalize lastF X = lf at HPC HLL HPB
              go_wp2_with fail
              refine HPC.out.mono ?_
              rintro e w7 ⟨rfl, A7, c7, hWr7, hb7⟩
              have hb37 : Below W0.heap.size W0 w7 := (hb.trans (hb25.mono sr)).trans hb7
              have e0 := hWr7.c0
              have e1 := hWr7.c1
              have hlt7 := hWr7.lt
              have hX7 : (X ++ lf).length = X.length + 11 := by rw [List.length_append, HLL]
              generalize X ++ lf = X7 at hWr7 e0 e1 hX7 HPB
              have HW7 := Lib.hid hWr7
              clear hWr7
              by_cases hbig : 8388608 < X7.length
              · have HC2 := Lib.hid (HCB.out (by omega))
                have hbi : (8388608 : Int) < (X7.length : Int) := by omega
                have hfz : w7.frozen? ⟨g, 1, none⟩ = false := by simp [World.frozen?, HW7.out.blk]
                have hx1 : (w7.setCell ⟨g, 1, none⟩ (.int .i64 2)).cell? ⟨g, 1, none⟩ = some (.int .i64 2) := World.cell?_setCell_same _ _ _ e1
                have hB8 : Below W0.heap.size W0 (w7.setCell ⟨g, 1, none⟩ (.int .i64 2)) := hb37.setCell HW7.out.lo _
                have HB8 := Lib.hid hB8
                clear hB8 hX7 h4 hXl HLL hb5 hb25 hb7 hb37 hWr5 HX5
                go_wp2_with fail
                generalize w7.setCell ⟨g, 1, none⟩ (.int .i64 2) = w8 at hx1 HB8
                go_quiet (fail)
                go_wp2_with fail
                go_ret2
                exact ⟨HB0.out.trans ((HB8.out.trans (below_drewN _ _)).mono (by omega)), .inl ⟨by rw [HC2.out]; decide, by rw [HC2.out]; rfl⟩⟩
              · have HC2 := Lib.hid (HCG.out (by omega))
                have hbi : ¬ (8388608 : Int) < (X7.length : Int) := by omega
                have HB7 := Lib.hid hb37
                clear hX7 h4 hXl HLL hb5 hb25 hb7 hb37 hWr5 HX5
                go_wp2_with fail
                go_ret2
                exact ⟨HB0.out.trans (HB7.out.mono (by omega)), .inr ⟨HC2.out, _, rfl, by rw [HPB.out]; exact own_mono HW7.out.ob (by omega)⟩⟩
end Go.Proofs.YtfmlkagcmkbebaaDoor
