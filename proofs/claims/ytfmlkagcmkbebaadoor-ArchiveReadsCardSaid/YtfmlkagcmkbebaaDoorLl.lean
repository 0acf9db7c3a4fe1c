/- The iterator of archive.Cut: it hands the pieces over. -/
import Derived.Test.YtfmlkagcmkbebaaDoorLk
import Derived.Deep.RegionHeld3
import Derived.Deep.DeepCutAuto
namespace Go.Proofs.YtfmlkagcmkbebaaDoor
open Go.RowKit

theorem CutBoxes.below {w w' : World} {B pn pw pz ps : Nat} {b : List UInt8} {s : Nat} (h : CutBoxes w B pn pw pz ps b s) (hb : Below w.heap.size w w') : CutBoxes w' B pn pw pz ps b s where
  n := cellBelow hb h.n
  whole := by obtain ⟨A, c, h1, h2⟩ := h.whole; exact ⟨A, c, cellBelow hb h1, h2.below hb⟩
  size := cellBelow hb h.size
  sum := by obtain ⟨A, c, h1, h2⟩ := h.sum; exact ⟨A, c, cellBelow hb h1, h2.below hb⟩
  pos := h.pos
  tab := h.tab.below hb
  ge := h.ge

theorem Bss.lit5 (W : World) (v1 v2 v3 v4 v5 : Value) (x1 x2 x3 x4 x5 : List UInt8) (b : Nat) (hb : b = W.heap.size) (h1 : Bs W v1 x1) (h2 : Bs W v2 x2) (h3 : Bs W v3 x3) (h4 : Bs W v4 x4) (h5 : Bs W v5 x5) :
    Bss (W.alloc (.cells #[v1, v2, v3, v4, v5] 22)) (.slice (some ⟨b, 0, none⟩) 5 5) [x1, x2, x3, x4, x5] := by
  refine Bss.litn W [v1, v2, v3, v4, v5] [x1, x2, x3, x4, x5] 5 b rfl (by omega) rfl hb ?_
  intro i u xs hu hx
  match i with
  | 0 => simp at hu hx; subst hu; subst hx; exact h1
  | 1 => simp at hu hx; subst hu; subst hx; exact h2
  | 2 => simp at hu hx; subst hu; subst hx; exact h3
  | 3 => simp at hu hx; subst hu; subst hx; exact h4
  | 4 => simp at hu hx; subst hu; subst hx; exact h5
  | i + 5 => simp at hu

theorem Uint_wrapped (n : Nat) (hb : n < 18446744073709551616) (w : World) : Calls Tryd.prog 47 #[.int .u64 (IntKind.u64.wrap (n : Int))] w (Gives w (uvar n)) := by
  have h := u64_div n 1 (Lib.hid hb)
  rw [Nat.div_one] at h
  have h2 : ((n : Int) / ((1 : Nat) : Int)) = n := by omega
  rw [h2] at h
  rw [h]; exact Uint_any n hb w

theorem chainD {wr w1 : World} (h : Below wr.drew.heap.size wr.drew w1) : Below wr.heap.size wr w1 := (Below.refl _ wr).drew.trans h
theorem chainA {wr W w1 : World} {o : Obj} (h0 : Below wr.heap.size wr W) (h : Below (W.alloc o).heap.size (W.alloc o) w1) : Below wr.heap.size wr w1 := (h0.alloc h0.size o).trans (h.mono (h0.alloc h0.size o).size)
theorem chainC {wr W w1 : World} (h0 : Below wr.heap.size wr W) (h : Below W.heap.size W w1) : Below wr.heap.size wr w1 := h0.trans (h.mono h0.size)
theorem chainDA {wr w1 : World} {o : Obj} (h : Below (wr.alloc o).drew.heap.size (wr.alloc o).drew w1) : Below wr.heap.size wr w1 := chainC (((Below.refl _ wr).alloc (Nat.le_refl _) o).drew) h

theorem parts (wr W : World) (v80 vs x1 x2 vp : Value) (sm u1 u2 pt : List UInt8) (b : Nat) (hb : Below wr.heap.size wr W) (hbl : b = W.heap.size) (h80 : Bs W v80 [80]) (hs : Bs wr vs sm) (h1 : Bs W x1 u1) (h2 : Bs W x2 u2) (hp : Bs wr vp pt) (ht : Tab wr)
    (hl : sm.length + u1.length + u2.length + pt.length ≤ 70000) :
    Calls Tryd.prog 46 #[.slice (some ⟨b, 0, none⟩) 5 5] (W.alloc (.cells #[v80, vs, x1, x2, vp] 22)) fun e w3 => ∃ x3, e = .returned (.tuple #[x3, .int .i64 0]) ∧ Ob w3 wr.heap.size x3 (frame (80 :: sm ++ u1 ++ u2 ++ pt)) ∧ Below wr.heap.size wr w3 := by
  have hf : [[80], sm, u1, u2, pt].flatten = 80 :: sm ++ u1 ++ u2 ++ pt := by simp [List.append_assoc]
  have hb' := hb.alloc hb.size (.cells #[v80, vs, x1, x2, vp] 22)
  refine (Frame_any _ [[80], sm, u1, u2, pt] (by rw [hf]; simp) (by rw [hf]; simp only [List.length_append, List.length_cons]; omega) _ (ht.below hb') (Bss.lit5 W v80 vs x1 x2 vp [80] sm u1 u2 pt b hbl h80 (hs.below hb) h1 h2 (hp.below hb))).mono ?_
  rintro e w3 ⟨x3, rfl, h3, h4⟩
  rw [hf] at h3
  exact ⟨x3, rfl, own_mono h3 hb'.size, hb'.trans (h4.mono hb'.size)⟩

theorem lit80 (W : World) (b : Nat) (hb : b = W.heap.size) : Bs (W.alloc (.cells #[.int .u8 80] 5)) (.slice (some ⟨b, 0, none⟩) 1 1) [80] := Bs.litn W #[.int .u8 80] [80] 1 b (by rfl) rfl (by omega) hb

/-- While a piece is put together: the two boxes lie as they lay, and all else that lay. -/
theorem piece_keep {wr W W' : World} {pn ps : Nat} {vn vs : Value} (h : W.cell? ⟨pn, 0, none⟩ = some vn ∧ W.cell? ⟨ps, 0, none⟩ = some vs ∧ Below wr.heap.size wr W) (hb : Below W.heap.size W W') :
    W'.cell? ⟨pn, 0, none⟩ = some vn ∧ W'.cell? ⟨ps, 0, none⟩ = some vs ∧ Below wr.heap.size wr W' := ⟨cellBelow hb h.1, cellBelow hb h.2.1, h.2.2.trans (hb.mono h.2.2.size)⟩

set_option maxRecDepth 100000 in
set_option maxHeartbeats 4000000 in
theorem cutHands (n B pn pw pz ps : Nat) (b : List UInt8) (s : Nat) :
    Hands Fence.wide n Tryd.prog 45 #[.pointer (some ⟨pn, 0, none⟩), .pointer (some ⟨pw, 0, none⟩), .pointer (some ⟨pz, 0, none⟩), .pointer (some ⟨ps, 0, none⟩)] (cutN b.length s) (piece b s) (fun w => CutBoxes w B pn pw pz ps b s) := by
  intro l J Jx W hW hY h0
  refine callsIn_wide.2 ?_
  show Calls Tryd.prog 45 #[.func (.yield l) #[] #[], .pointer (some ⟨pn, 0, none⟩), .pointer (some ⟨pw, 0, none⟩), .pointer (some ⟨pz, 0, none⟩), .pointer (some ⟨ps, 0, none⟩)] W _
  have hb := hW
  have hN0 := hb.n
  obtain ⟨hs0, hs3, hN4, hx⟩ := hb.pos
  have HBX := Lib.hid hb
  have HY := Lib.hid hY
  clear hb hY
  generalize hN : cutN b.length s = N at hN0 hN4 HY
  have HN := Lib.hid hN
  clear hN
  go_enter Tryd.func45, Tryd.ntmps45
  go_wp2_with fail
  go_loopw [11] (fun i wr => ∃ k : Nat, k ≤ N ∧ i = .int .i64 k ∧ J k wr ∧ CutBoxes wr B pn pw pz ps b s) (fun i _ => N - (intOf i).toNat)
  case atStart => exact ⟨0, Nat.zero_le _, rfl, h0, hW⟩
  case round =>
    obtain ⟨k, hk, rfl, hJ, hB1⟩ := hrel
    by_cases hlt : k < N
    · have hbr := hB1
      have hK := (cutN_mul hs0 (k := k) (by rw [HN.out]; exact hlt)).1
      have hpl := part_len b s k
      obtain ⟨hi, hh1, hh2, hh3, hh4, hpd⟩ := part_hi (b := b) hK
      obtain ⟨Aw, cw, hw1, hw2o⟩ := hbr.whole
      obtain ⟨As, cs, hs1, hs2o⟩ := hbr.sum
      have hw2 := hw2o.bs
      have hs2 := hs2o.bs
      clear hw2o hs2o
      have hn1 := hbr.n
      have hz1 := hbr.size
      rw [HN.out] at hn1
      obtain ⟨Ap, cp, hsl, hpb⟩ := slice_lh hw2 (k * s) hi hh1 hh2
      rw [← hpd] at hpb
      have HPD := Lib.hid hpd
      have HBR := Lib.hid hbr
      clear hpd hbr
      have hm1 : ∀ x : Int, x = (k : Int) → wrap64 (x * (s : Int)) = ((k * s : Nat) : Int) := by rintro x rfl; exact wrap_mul hK (Nat.lt_of_le_of_lt hx (by decide))
      have hm2 : ∀ x : Int, x = (k : Int) → wrap64 ((x + 1) * (s : Int)) = ((k * s + s : Nat) : Int) := by rintro x rfl; exact wrap_mul1 hK hx hs3
      generalize hpt : part b s k = pt at hpb hpl
      have HPT := Lib.hid hpt
      clear hpt
      generalize hks : k * s = ks at hm1 hm2 hsl hK hh1 hh3 hh4 hpb
      clear hks
      have hcw := hw2.len.2.1
      go_upto_region 3 with fail
      go_cut [7] (fun p wx => wr = wx ∧ ∃ A1 c1, p = .slice A1 pt.length c1 ∧ Bs wr p pt)
      case first =>
        have hcase : (b.length ≤ ks + s ∧ hi = b.length) ∨ (ks + s < b.length ∧ hi = ks + s) := (Decidable.em (b.length ≤ ks + s)).imp (fun h => ⟨h, (Decidable.em (b.length < ks + s)).elim (fun h' => hh3 h') (fun h' => by rw [hh4 h']; omega)⟩) (fun h => ⟨Nat.not_le.1 h, hh4 (fun h' => h (Nat.le_of_lt h'))⟩)
        clear hh3 hh4
        have hlq := hpb.len.1
        have HPB := Lib.hid (show Bs wr (.slice Ap pt.length cp) pt by rw [← hlq]; exact hpb)
        clear hpb
        rcases hcase with ⟨hend, rfl⟩ | ⟨hend, rfl⟩
        · rw [hlq] at hsl
          go_wp2_with fail
          go_meet
          exact ⟨rfl, _, _, rfl, HPB.out⟩
        · rw [hlq] at hsl
          simp only [Int.natCast_add] at hsl
          have hsl2 : ∀ W x y, x = (ks : Int) → y = (ks : Int) + (s : Int) → (Instr.slice 22 (.slice Aw b.length cw) (some (.int .i64 x)) (some (.int .i64 y)) none).run Tryd.prog W = .ok (.slice Ap pt.length cp) W := by rintro W x y rfl rfl; exact hsl W
          go_wp2_with fail
          go_meet
          exact ⟨rfl, _, _, rfl, HPB.out⟩
      obtain ⟨rfl, A1, c1, rfl, hp1⟩ := hcut
      clear hm1 hm2 hsl hh3 hh4 hpb hw1 hw2 hz1
      go_upto_region 4 with fail
      go_cut [8] (fun v wx => Below wr.heap.size wr wx ∧ Ob wx wr.heap.size v (piece b s k))
      case first =>
        have hS : wr.cell? ⟨pn, 0, none⟩ = some (.int .i64 (N : Int)) ∧ wr.cell? ⟨ps, 0, none⟩ = some (.slice As 4 cs) ∧ Below wr.heap.size wr wr := ⟨hn1, hs1, Below.refl _ _⟩
        have hkb := Uint_wrapped k (by omega)
        have HTB := HBR.out.tab
        have hlen : (le32 (crc b)).length + (uvar k).length + (uvar N).length + pt.length ≤ 70000 := by have h1 := uvar_len10 (n := k) (by omega); have h2 := uvar_len10 (n := N) (by omega); have h3 : (le32 (crc b)).length = 4 := rfl; omega
        have hNb := Uint_wrapped N (by omega)
        go_region_held3 (fun w' => w'.cell? ⟨pn, 0, none⟩ = some (.int .i64 (N : Int)) ∧ w'.cell? ⟨ps, 0, none⟩ = some (.slice As 4 cs) ∧ Below wr.heap.size wr w')
          (first | exact piece_keep hS hb3 | exact piece_keep hS hb2 | exact piece_keep hS (hb2.alloc hb2.size _) | exact piece_keep hS ((hb2.alloc hb2.size _).alloc (hb2.alloc hb2.size _).size _) | exact piece_keep hS hb1 | exact piece_keep hS (hb1.alloc hb1.size _) | exact piece_keep hS ((Below.refl _ _).drew.alloc (Nat.le_refl _) _) | exact piece_keep hS (Below.refl _ _).drew)
          (first
            | (go_simp; (with_reducible refine (hkb _).mono ?_); rintro e w1 ⟨x1, rfl, HX1, HB1⟩; have hb1 : Below wr.heap.size wr w1 := (by first | exact chainDA HB1 | exact chainD HB1); obtain ⟨A3, c3, rfl⟩ := HX1.slice; dsimp only)
            | (go_simp; (with_reducible refine (hNb _).mono ?_); rintro e w2 ⟨x2, rfl, HX2, HB2⟩; have hb2 : Below wr.heap.size wr w2 := (by first | exact chainC hb1 HB2 | exact chainA hb1 HB2); obtain ⟨A4, c4, rfl⟩ := HX2.slice; dsimp only)
            | (go_simp; refine (parts wr w2 _ _ _ _ _ (le32 (crc b)) (uvar k) (uvar N) pt _ hb2 (by first | rfl | simp) (((lit80 wr _ rfl).below (Below.refl _ _).drew).below HB1 |>.below HB2) hs2 (HX1.bs.below HB2) HX2.bs hp1 HTB hlen).mono ?_; rintro e w3 ⟨x3, rfl, HX3, hb3⟩; dsimp only)
            | (go_simp; refine (parts wr w2 _ _ _ _ _ (le32 (crc b)) (uvar k) (uvar N) pt _ hb2 (by first | rfl | simp) ((lit80 w1 _ rfl).below HB2) hs2 ((HX1.bs.below ((Below.refl _ w1).alloc (Nat.le_refl _) _)).below HB2) HX2.bs hp1 HTB hlen).mono ?_; rintro e w3 ⟨x3, rfl, HX3, hb3⟩; dsimp only)
            | (go_simp; refine (parts wr _ _ _ _ _ _ (le32 (crc b)) (uvar k) (uvar N) pt _ (hb2.alloc hb2.size _) (by first | rfl | simp) (lit80 w2 _ rfl) hs2 ((HX1.bs.below HB2).below ((Below.refl _ w2).alloc (Nat.le_refl _) _)) (HX2.bs.below ((Below.refl _ w2).alloc (Nat.le_refl _) _)) hp1 HTB hlen).mono ?_; rintro e w3 ⟨x3, rfl, HX3, hb3⟩; dsimp only))
        all_goals
          go_wp2_with fail
          go_meet
          refine ⟨hb3, ?_⟩
          have hfr : piece b s k = frame (80 :: le32 (crc b) ++ uvar k ++ uvar N ++ pt) := by unfold piece; rw [HN.out, HPT.out]
          rw [hfr]; exact HX3
      obtain ⟨hbx, hox⟩ := hcut
      go_upto_region 5 with fail
      obtain ⟨fn, tmps, assign, body, hy, hR⟩ := HY.out k u8 wr wc hlt hJ hbx hox
      refine (wpIn_wide (n := n)).1 ?_
      gi_wp2
      refine ⟨fun h => (by cases h), hR.mono ?_⟩
      rintro e W3 (⟨rfl, hJ3, hk3⟩ | ⟨rfl, hJx3⟩)
      · gi_wp2
        go_wp2
        go_roundw
        case rel => exact ⟨k + 1, by omega, by go_num, hJ3, hk3⟩
        case measure => simp [intOf]; omega
      · gi_wp2
        go_wp2
        refine bodyPost_ret (results_none rfl _ _ _) rfl ?_
        exact ⟨⟨_, rfl⟩, .inr ⟨k, hlt, hJx3⟩⟩
    · obtain rfl : k = N := by omega
      go_wp2
      go_end0
      exact ⟨⟨_, rfl⟩, .inl hJ⟩
end Go.Proofs.YtfmlkagcmkbebaaDoor
