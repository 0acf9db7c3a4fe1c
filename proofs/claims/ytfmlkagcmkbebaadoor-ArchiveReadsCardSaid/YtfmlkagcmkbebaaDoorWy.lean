/- Of these: Wa Wi Wj. -/
import Derived.Test.YtfmlkagcmkbebaaDoorLc
import Derived.Test.YtfmlkagcmkbebaaDoorPa
import Derived.Deep.CutBlock
import Derived.Test.YtfmlkagcmkbebaaDoorWh
import Derived.Lib.SlBytesConst
import Derived.ArgAppend

/- (*writer).frame. -/
namespace Go.Proofs.YtfmlkagcmkbebaaDoor
open Go.RowKit

/-- The writer's box, its bytes. -/
structure Wr (w : World) (B g : Nat) (v : Value) (xs : List UInt8) : Prop where
  blk : w.heap[g]? = some (.cells #[v, .int .i64 0] 89 (0, 0))
  ob : Ob w B v xs
  lo : B ≤ g
  ne : v.ownBlock ≠ some g
theorem Wr.lt {w : World} {B g : Nat} {v : Value} {xs : List UInt8} (h : Wr w B g v xs) : g < w.heap.size := (Array.getElem?_eq_some_iff.1 h.blk).1
theorem Wr.below {w w' : World} {B g : Nat} {v : Value} {xs : List UInt8} (h : Wr w B g v xs) (hb : Below w.heap.size w w') : Wr w' B g v xs :=
  ⟨by rw [hb.block g h.lt]; exact h.blk, h.ob.below hb, h.lo, h.ne⟩
theorem Wr.c0 {w : World} {B g : Nat} {v : Value} {xs : List UInt8} (h : Wr w B g v xs) : w.cell? ⟨g, 0, none⟩ = some v := by rw [cell_of_row w g 0 _ _ _ h.blk]; rfl
theorem Wr.c1 {w : World} {B g : Nat} {v : Value} {xs : List UInt8} (h : Wr w B g v xs) : w.cell? ⟨g, 1, none⟩ = some (.int .i64 0) := by rw [cell_of_row w g 1 _ _ _ h.blk]; rfl
theorem Wr.fr {w w2 : World} {B g : Nat} {v : Value} {xs : List UInt8} (h : Wr w B g v xs) (hg : w.grownBy w2 v.ownBlock) : w2.frozen? ⟨g, 0, none⟩ = false := by
  have hblk : w2.heap[g]? = some (.cells #[v, .int .i64 0] 89 (0, 0)) := by rw [hg.block g h.lt (fun e => h.ne e.symm)]; exact h.blk
  simp [World.frozen?, hblk]
/-- Its bytes have grown, and stand in it. -/
theorem Wr.put {w w1 w2 : World} {B g : Nat} {v v2 : Value} {xs ys : List UInt8} (h : Wr w B g v xs) (hb : Below w.heap.size w w1) (HO : Ob w2 B v2 ys) (hg : w1.grownBy w2 v.ownBlock)
    (ha : v2.ownBlock = v.ownBlock ∨ ∃ b, v2.ownBlock = some b ∧ w1.heap.size ≤ b) (hB : B ≤ w.heap.size) : Wr (w2.setCell ⟨g, 0, none⟩ v2) B g v2 ys ∧ Below B w (w2.setCell ⟨g, 0, none⟩ v2) := by
  have hlt := h.lt
  have s1 := hb.size
  have h1 := h.below hb
  have hblk : w2.heap[g]? = some (.cells #[v, .int .i64 0] 89 (0, 0)) := by
    rw [hg.block g h1.lt (fun e => h.ne e.symm)]; exact h1.blk
  have hlt2 : g < w2.heap.size := (Array.getElem?_eq_some_iff.1 hblk).1
  have hv := (Array.getElem?_eq_some_iff.1 hblk).2
  have hne : v2.ownBlock ≠ some g := by
    rcases ha with e | ⟨b, e, hb2⟩
    · rw [e]; exact h.ne
    · rw [e]; intro e2; injection e2 with e2; have := h1.lt; omega
  refine ⟨⟨?_, own_kp HO (Kp.set _ _) (fun k hk e => ?_), h.lo, hne⟩, ?_⟩
  · simp only [World.setCell]
    rw [Array.getElem?_eq_getElem (by simpa using hlt2), Array.getElem_modify]
    simp [hv]
  · simp at e; subst e; exact hne hk
  · have hB1 : Below B w w2 := (hb.mono hB).grown hg (by omega) (own_base h1.ob)
    exact hB1.trans (by refine (Below.refl _ _).setCell h.lo _)

set_option maxRecDepth 100000 in
set_option maxHeartbeats 2000000 in
theorem wframe_any (B g : Nat) (v pv : Value) (xs : List UInt8) (xss : List (List UInt8)) (w : World) (hT : Tab w) (hW : Wr w B g v xs) (hP : Bss w pv xss) (h0 : 0 < xss.flatten.length) (h1 : xss.flatten.length ≤ 1048576)
    (hx : xs.length ≤ 1099511627776) (hB : B ≤ w.heap.size) :
    Calls Tryd.prog 50 #[.pointer (some ⟨g, 0, none⟩), pv] w fun e w' => e = .returned (.tuple #[]) ∧ ∃ v', Wr w' B g v' (xs ++ frame xss.flatten) ∧ Below B w w' := by
  have HC := Lib.hid (Frame_any pv xss h0 h1 w hT hP)
  obtain ⟨A, c, rfl⟩ := hW.ob.slice
  have hc0 := hW.c0
  have hc1 := hW.c1
  have hfl : (frame xss.flatten).length ≤ 1048601 := by
    have := uvar_len10 (n := xss.flatten.length) (by omega)
    simp only [frame, List.length_append, le32, List.length_cons, List.length_nil]; omega
  have HW := Lib.hid hW
  clear hT hP hW
  go_enter Tryd.func50, Tryd.ntmps50
  go_wp2_with fail
  refine HC.out.mono ?_
  rintro e w1 ⟨x, rfl, HX, hb⟩
  have HW1 := Lib.hid (HW.out.below hb)
  have d0 := HW1.out.c0
  have d1 := HW1.out.c1
  have s1 := hb.size
  have HXs := HX.bs
  have HO1 := HW1.out.ob
  go_wp2_with (at_builtin; refine appB B rfl (.tmp 26) _ rfl _ xs _ (frame xss.flatten) rfl rfl HO1 HXs (by omega) (hb.mono hB) (by omega) ?_; intro v2 w2 HO2 hb2 hg2 ha2; have HR := Lib.hid (HW.out.put hb HO2 hg2 ha2 hB); have e0 : w2.cell? ⟨g, 0, none⟩ = some (.slice A xs.length c) := (hg2.cell d0 (fun e => HW1.out.ne e.symm)); have e1 := HW1.out.fr hg2; clear hg2 ha2; obtain ⟨A2, c2, rfl⟩ := HO2.slice)
  go_end0
  have h := HR.out; rw [List.length_append] at h
  exact ⟨rfl, _, h.1, h.2⟩
end Go.Proofs.YtfmlkagcmkbebaaDoor

/- annalsref17.Pack. -/
namespace Go.Proofs.YtfmlkagcmkbebaaDoor
open Go.RowKit

set_option maxRecDepth 100000 in
/-- Onto a slice without room. -/
theorem appG {ops : Array Oper} {rest : List Oper} {o : Oper} {a : Act} {Q : Exit → Act → World → Prop} {W : World} (hgd : o.guard = none) (s x : Operand)
    (ho : o.op = .call { callee := .builtin .append, args := #[s, x], argTypes := #[22, 22] })
    (b n : Nat) (xs : List UInt8) (y : Value) (ys : List UInt8) (hs : a.eval s = .slice (some ⟨b, 0, none⟩) n n) (hx : a.eval x = y)
    (HO : Bs W (.slice (some ⟨b, 0, none⟩) n n) xs) (hR : Bs W y ys) (hl : xs.length + ys.length ≤ 140737488355328) (h0 : 0 < ys.length)
    (h : ∀ v1 w1, Ob w1 W.heap.size v1 (xs ++ ys) → Below W.heap.size W w1 → wpList Tryd.prog ops Q rest (a.put o.dst v1) w1) :
    wpList Tryd.prog ops Q (o :: rest) a W := by
  obtain ⟨i0, hi, hz0, hz1, hz2⟩ := info_parts info_u8
  obtain ⟨hn, _, _⟩ := HO.len
  obtain ⟨A, c, rfl, hm, hc, hr⟩ := hR.form
  obtain ⟨A2, c2, e2, _, _, hr2⟩ := HO.form
  injection e2 with e2 _ _
  obtain ⟨ab, ao, e3, _⟩ := hr 0 h0
  subst e3
  obtain ⟨v1, w1, hr1, h2, h3⟩ := run_append_arg_grows (P := Tryd.prog) W 22 o.type 5 i0 (.int .u8 0) 1 1 Tryd.underlying22 hi hz0 hz1 hz2 rfl (by decide) ⟨b, 0, none⟩ n n (bys xs)
    (by rw [bys_length, hn]; simp) (fun j u hj => by
      have hj' : j < xs.length := by have := (List.getElem?_eq_some_iff.1 hj).1; rwa [bys_length] at this
      obtain ⟨b', o', e, h⟩ := hr2 j hj'
      rw [← e2] at e; injection e with e; injection e with e4 e5 _
      subst e4; subst e5
      rw [add_plain, h, ← hj]; simp [bys, hj']) ⟨ab, ao, none⟩ ys.length c (bys ys) (by rw [bys_length]; simp) (fun j u hj => by
      have hj' : j < ys.length := by have := (List.getElem?_eq_some_iff.1 hj).1; rwa [bys_length] at this
      obtain ⟨b', o', e, h⟩ := hr j hj'
      injection e with e; injection e with e4 e5 _
      subst e4; subst e5
      rw [add_plain, h, ← hj]; simp [bys, hj']) (by omega) (by unfold maxLen; omega) (by omega)
  refine wpList_plain hgd fun K hK => ?_
  unfold Oper.wp execOp
  simp only [ho, resolve, invoke, builtin, Sem.run_bind, Sem.run_pure, Result.andThen_ok, List.map_toArray, List.map_cons, List.map_nil, hs, hx, hr1]
  refine hK _ _ (h v1 w1 ?_ ⟨h3.os, h3.tape, h3.output, h3.size, fun k hk => h3.block k hk (by simp)⟩)
  unfold Ob; rw [List.length_append, bys_append, ← hn]; exact h2

theorem lit82 (n : Nat) (h : n < 256) : (#[.int .u8 82, .int .u8 (n : Int)] : Array Value).toList = bys [82, UInt8.ofNat n] := by
  simp [bys, byt, Nat.mod_eq_of_lt h]
/-- An archive's box. -/
structure ABox (w : World) (b : Nat) (top : Int) (rv : Value) : Prop where
  c0 : w.cell? ⟨b, 0, none⟩ = some (.int .i64 top)
  c1 : w.cell? ⟨b, 1, none⟩ = some rv
theorem ABox.below {w w' : World} {B b : Nat} {top : Int} {rv : Value} (h : ABox w b top rv) (hb : Below B w w') (hB : b < B) : ABox w' b top rv :=
  ⟨(hb.cell (p := ⟨b, 0, none⟩) hB).trans h.c0, (hb.cell (p := ⟨b, 1, none⟩) hB).trans h.c1⟩
theorem ABox.new (w : World) (top : Int) (rv : Value) (b : Nat) (hb : b = w.heap.size) : ABox (w.alloc (.cells #[.int .i64 top, rv] 53)) b top rv := by
  subst hb; exact ⟨by rw [cell_of_row _ _ _ _ _ _ (heap_alloc_new w _)]; rfl, by rw [cell_of_row _ _ _ _ _ _ (heap_alloc_new w _)]; rfl⟩
theorem chkF_drop {l : List Rc} : ∀ {k : Nat} (hk : k < l.length), checkC l[k] = 0 → chkF (l.drop k) = chkF (l.drop (k + 1)) := by
  intro k hk h
  rw [List.drop_eq_getElem_cons hk]; simp [chkF, h]
theorem chkF_bad {l : List Rc} {k : Nat} (hk : k < l.length) (h : checkC l[k] ≠ 0) : chkF (l.drop k) = checkC l[k] := by
  rw [List.drop_eq_getElem_cons hk]; simp [chkF, h]
theorem chkF_good : ∀ {l : List Rc}, chkF l = 0 → ∀ r ∈ l, r.Good
  | [], _, r, hr => by simp at hr
  | x :: l, h, r, hr => by
    unfold chkF at h
    split at h
    · rename_i hx
      rcases List.mem_cons.1 hr with rfl | hr
      · exact ⟨hx⟩
      · exact chkF_good h r hr
    · exact absurd h ‹_›
theorem recsF_take_le (l : List Rc) (k : Nat) : (recsF (l.take k)).length ≤ (recsF l).length := by
  have : recsF l = recsF (l.take k) ++ recsF (l.drop k) := by
    unfold recsF; rw [← List.flatten_append, ← List.map_append, List.take_append_drop]
  rw [this, List.length_append]; omega
theorem recsF_succ {l : List Rc} {k : Nat} (hk : k < l.length) : recsF (l.take (k + 1)) = recsF (l.take k) ++ recF l[k] := by
  unfold recsF; rw [List.take_succ_eq_append_getElem hk, List.map_append, List.flatten_append]; simp only [List.map_cons, List.map_nil, List.flatten_cons, List.flatten_nil, List.append_nil]

set_option maxRecDepth 100000 in
set_option maxHeartbeats 4000000 in
theorem rPack_any (top : Int) (rv : Value) (l : List Rec) (hl : l.length ≤ 1048576) (htop : -9223372036854775808 ≤ top ∧ top ≤ 9223372036854775807) (hN : ∀ p, p ∈ l → p.1.Nums) (hF : ∀ p, p ∈ l → p.1.Fit)
    (w : World) (hT : TabQ w) (hp : Rs w rv l) : Calls Tryd.prog 25 #[.agg #[.int .i64 top, rv]] w (PackE w top (l.map Prod.fst)) := by
  obtain ⟨A, c, rfl, hn, hc, hr⟩ := hp.form
  obtain ⟨ht1, ht2⟩ := htop
  by_cases h0 : top < 0
  · have HC := Lib.hid (show packC top (l.map Prod.fst) = 86 by unfold packC; rw [if_pos h0])
    clear hr hp hT hN hF hc
    go_enter Tryd.func25, Tryd.ntmps25
    go_wp2_with fail
    go_ret2
    refine ⟨(Below.refl _ w).alloc (Nat.le_refl _) _, .inl ⟨by rw [HC.out]; decide, by rw [HC.out]; rfl⟩⟩
  · obtain ⟨tn, rfl⟩ := Int.eq_ofNat_of_zero_le (by omega : 0 ≤ top)
    have HR := Lib.hid hr
    have HP := Lib.hid hp
    have HN := Lib.hid hN
    have HF := Lib.hid hF
    have HT := Lib.hid hT
    obtain ⟨W0, hW0⟩ : ∃ W0, (w.alloc (.cells #[.int .i64 (tn : Int), .slice A l.length c] 53)).alloc (.cells #[.int .u8 65, .int .u8 78, .int .u8 65, .int .u8 82, .int .u8 1] 5 (5, 6)) = W0 := ⟨_, rfl⟩
    have hbox : ABox W0 w.heap.size (tn : Int) (.slice A l.length c) := by
      rw [← hW0]; exact (ABox.new w (tn : Int) (.slice A l.length c) _ rfl).below ((Below.refl (w.heap.size + 1) _).alloc (by simp) _) (Nat.lt_succ_self _)
    have hbs : Bs W0 (.slice (some ⟨w.heap.size + 1, 0, none⟩) 5 5) packHead := by
      rw [← hW0]
      refine ⟨_, _, rfl, by rfl, Nat.le_refl _, by unfold maxLen; omega, fun j u hj => ⟨w.heap.size + 1, 0, rfl, ?_⟩⟩
      have := cell_of_row ((w.alloc (.cells #[.int .i64 (tn : Int), .slice A l.length c] 53)).alloc (.cells #[.int .u8 65, .int .u8 78, .int .u8 65, .int .u8 82, .int .u8 1] 5 (5, 6))) (w.heap.size + 1) (0 + j) _ _ _ (by have := heap_alloc_new (w.alloc (.cells #[.int .i64 (tn : Int), .slice A l.length c] 53)) (.cells #[.int .u8 65, .int .u8 78, .int .u8 65, .int .u8 82, .int .u8 1] 5 (5, 6)); simpa using this)
      rw [this, Nat.zero_add, ← Array.getElem?_toList]; exact hj
    have hB0 : Below w.heap.size w W0 := by rw [← hW0]; exact ((Below.refl _ w).alloc (Nat.le_refl _) _).alloc (by simp) _
    have hz0 : W0.heap.size = w.heap.size + 2 := by rw [← hW0]; simp
    have kc := Lib.run_convert_bytes_const (P := Tryd.prog) (w.alloc (.cells #[.int .i64 (tn : Int), .slice A l.length c] 53)) 22 5 #[.int .u8 65, .int .u8 78, .int .u8 65, .int .u8 82, .int .u8 1] 5 5 Tryd.underlying22 Tryd.underlying5
    rw [show (#[.int .u8 65, .int .u8 78, .int .u8 65, .int .u8 82, .int .u8 1] : Array Value).size = 5 from rfl, hW0, World.size_alloc] at kc
    clear hW0 hr hp hT hN hF hc
    have c0 := hbox.c0
    have c1 := hbox.c1
    go_enter Tryd.func25, Tryd.ntmps25
    go_wp2_with fail
    refine (first_any tn l.length (by omega) (by omega) W0).mono ?_
    rintro e w1 ⟨x1, rfl, HX1, hb1⟩
    have hbs1 := hbs.below hb1
    have HXs := HX1.bs
    have htf : (topF tn l.length).length ≤ 100 ∧ 0 < (topF tn l.length).length := by
      have := topF_len (top := tn) (n := l.length) (by omega) (by omega)
      have h2 := uvar_len10 (n := ([84] ++ uvar tn ++ uvar l.length).length) (by omega)
      unfold topF; rw [frame_len]; omega
    have s1 := hb1.size
    clear kc
    go_wp2_with (at_builtin; refine appG rfl (.tmp 18) _ rfl (w.heap.size + 1) 5 packHead _ (topF tn l.length) rfl rfl hbs1 HXs (by simp [packHead]; omega) htf.2 ?_; intro v2 w2 HO2 hb2)
    have s2 := hb2.size
    have hB2 : Below W0.heap.size W0 w2 := hb1.trans (hb2.mono s1)
    have HOO := own_mono HO2 s1
    obtain ⟨T, hTT⟩ : ∃ T, packHead ++ topF tn l.length = T := ⟨_, rfl⟩
    have hTl : T.length ≤ 105 := by rw [← hTT, List.length_append]; have : packHead.length = 5 := rfl; omega
    rw [hTT] at HO2 HOO
    have HTT := Lib.hid hTT
    obtain ⟨Ao, co, rfl⟩ := HO2.slice
    have HBX := Lib.hid hbox
    have HB0 := Lib.hid hB0
    clear hTT HX1 HXs hbs hbs1 hb1 hb2 htf c0 c1 hbox hB0
    go_loopw [5, 6] (fun i _ wr => ∃ k : Nat, k ≤ l.length ∧ i = .int .i64 (k : Int) ∧ chkF ((l.map Prod.fst).drop k) = chkF (l.map Prod.fst) ∧ Ob wr W0.heap.size (.slice Ao T.length co) T ∧ Below W0.heap.size W0 wr) (fun i _ _ => l.length - (intOf i).toNat)
    case atStart => exact ⟨0, Nat.zero_le _, rfl, rfl, HOO, hB2⟩
    case round =>
      obtain ⟨k, hk, rfl, hck, HOr, hb⟩ := hrel
      have HCK := Lib.hid hck
      clear hck
      have sr := hb.size
      have hbx := HBX.out.below hb (by omega)
      have c1 := hbx.c1
      by_cases hlt : k < l.length
      · obtain ⟨b, o, rfl, hcell⟩ := HR.out k hlt
        have hbw := HB0.out.trans (hb.mono (by omega))
        have g1 := rangeAt_below hcell hbw
        have d1 := (HP.out.da _ (List.getElem_mem hlt)).below hbw
        have hfit := HF.out _ (List.getElem_mem hlt)
        have hkm : k < (l.map Prod.fst).length := by simpa using hlt
        have hgm : (l.map Prod.fst)[k]'hkm = (l[k]'hlt).1 := by simp
        have hdr := chkF_drop (l := l.map Prod.fst) hkm
        have hbd := chkF_bad (l := l.map Prod.fst) hkm
        rw [hgm] at hdr hbd
        clear hcell hgm
        generalize l[k]'hlt = p1 at g1 d1 hfit hdr hbd
        obtain ⟨r, dv⟩ := p1
        replace d1 : Bs wr dv r.da := d1
        replace hfit : r.Fit := hfit
        replace hdr : checkC r = 0 → _ := hdr
        replace hbd : checkC r ≠ 0 → _ = checkC r := hbd
        obtain ⟨Ad, cd, rfl, _⟩ := d1.form
        have G1 := Lib.hid g1
        have hi1 : (k : Int) < (l.length : Int) := by omega
        have HT1 := HT.out.below hbw
        have HCC := Lib.hid (rCheck_any r (.slice Ad r.da.length cd) hfit wr HT1 d1)
        clear g1
        by_cases hc0 : checkC r = 0
        · have HD1 := Lib.hid (hdr hc0)
          rw [hc0] at HCC
          clear hdr hbd hc0
          go_wp2_with (refine ld_lit (by exact rfl) (by exact rfl) b (o + k * 12) (by exact rfl) #[.int .i64 r.v, .int .i64 r.kd, .int .i64 r.sg, .int .i64 r.st, .int .i64 r.tr, .int .i64 r.tm, .int .i64 r.la, .int .i64 r.co, .int .i64 r.cn, .int .i64 r.pv, .string r.nm, .slice Ad r.da.length cd].toList (by exact rfl) (by exact G1.out) ?_)
          refine HCC.out.mono ?_
          rintro e w3 ⟨rfl, hb3⟩
          have HO3 := HOr.below hb3
          go_wp2_with fail
          go_roundw
          case rel => exact ⟨k + 1, by omega, by go_num, by rw [← HD1.out]; exact HCK.out, HO3, hb.trans (hb3.mono sr)⟩
          case measure => simp [intOf]; omega
        · have HCB := Lib.hid (show packC (tn : Int) (l.map Prod.fst) = checkC r ∧ checkC r ≠ 0 by
            have : chkF (l.map Prod.fst) = checkC r := by rw [← HCK.out]; exact hbd hc0
            exact ⟨by unfold packC; rw [if_neg (by omega), if_pos (by rw [this]; exact hc0), this], hc0⟩)
          have t1 : (checkC r != 0) = true := by rw [bne_iff_ne]; exact hc0
          generalize checkC r = cr at HCC HCB t1
          clear hdr hbd hc0
          go_wp2_with (refine ld_lit (by exact rfl) (by exact rfl) b (o + k * 12) (by exact rfl) #[.int .i64 r.v, .int .i64 r.kd, .int .i64 r.sg, .int .i64 r.st, .int .i64 r.tr, .int .i64 r.tm, .int .i64 r.la, .int .i64 r.co, .int .i64 r.cn, .int .i64 r.pv, .string r.nm, .slice Ad r.da.length cd].toList (by exact rfl) (by exact G1.out) ?_)
          refine HCC.out.mono ?_
          rintro e w3 ⟨rfl, hb3⟩
          go_wp2_with fail
          go_ret2
          exact ⟨hbw.trans (hb3.mono hbw.size), .inl ⟨by rw [HCB.out.1]; exact HCB.out.2, by rw [HCB.out.1]; rfl⟩⟩
      · obtain rfl : k = l.length := by omega
        have hgood := chkF_good (l := l.map Prod.fst) (by rw [← HCK.out, List.drop_of_length_le (by simp)]; rfl)
        have hck0 : chkF (l.map Prod.fst) = 0 := by rw [← HCK.out, List.drop_of_length_le (by simp)]; rfl
        have HGD := Lib.hid hgood
        have HC0 := Lib.hid hck0
        clear hgood hck0
        go_wp2_with fail
        have HXT := Lib.hid (show T ++ recsF ((l.map Prod.fst).take 0) = T by simp [recsF])
        go_loopw [4, 7, 8, 9, 10, 11, 12] (fun out i _ _ _ _ _ wr => ∃ k : Nat, k ≤ l.length ∧ i = .int .i64 (k : Int) ∧ Ob wr W0.heap.size out (T ++ recsF ((l.map Prod.fst).take k)) ∧ (T ++ recsF ((l.map Prod.fst).take k)).length ≤ 8588608 ∧ Below W0.heap.size W0 wr) (fun _ i _ _ _ _ _ _ => l.length - (intOf i).toNat)
        case atStart => exact ⟨0, Nat.zero_le _, rfl, by rw [HXT.out]; exact HOr, by rw [HXT.out]; omega, hb⟩
        case round =>
          obtain ⟨k, hk, rfl, HOr, hXl, hb⟩ := hrel
          have sr := hb.size
          have hbx := HBX.out.below hb (by omega)
          have c1 := hbx.c1
          have hbw := HB0.out.trans (hb.mono (by omega))
          have hpre := recsF_take_le (l.map Prod.fst) k
          by_cases hgo : k < l.length ∧ (T ++ recsF ((l.map Prod.fst).take k)).length ≤ 8388608
          · obtain ⟨hlt, hXg⟩ := hgo
            obtain ⟨b, o, rfl, hcell⟩ := HR.out k hlt
            have g1 := rangeAt_below hcell hbw
            have d1 := (HP.out.da _ (List.getElem_mem hlt)).below hbw
            have hfit := HF.out _ (List.getElem_mem hlt)
            have hnum := HN.out _ (List.getElem_mem hlt)
            have hkm : k < (l.map Prod.fst).length := by simpa using hlt
            have hgm : (l.map Prod.fst)[k]'hkm = (l[k]'hlt).1 := by simp
            have hgd := HGD.out _ (List.getElem_mem hkm)
            have hsx := recsF_succ hkm
            rw [hgm] at hgd hsx
            clear hcell hgm
            generalize l[k]'hlt = p1 at g1 d1 hfit hnum hgd hsx
            obtain ⟨r, dv⟩ := p1
            replace d1 : Bs wr dv r.da := d1
            replace hfit : r.Fit := hfit
            replace hnum : r.Nums := hnum
            replace hgd : r.Good := hgd
            replace hsx : recsF ((l.map Prod.fst).take (k + 1)) = recsF ((l.map Prod.fst).take k) ++ recF r := hsx
            obtain ⟨Ad, cd, rfl, _⟩ := d1.form
            have G1 := Lib.hid g1
            have HSX := Lib.hid (show T ++ recsF ((l.map Prod.fst).take (k + 1)) = (T ++ recsF ((l.map Prod.fst).take k)) ++ recF r by rw [hsx, List.append_assoc])
            have hi1 : (k : Int) < (l.length : Int) := by omega
            have hxg2 : ((T ++ recsF ((l.map Prod.fst).take k)).length : Int) ≤ 8388608 := by omega
            have HENC := Lib.hid (rEncode_ok r (.slice Ad r.da.length cd) hgd hnum hfit wr (HT.out.below hbw) d1)
            have hel := encB_len hgd hnum
            obtain ⟨⟨hv1, hv3⟩, _⟩ := hgd.all
            obtain ⟨vn, hvn⟩ := Int.eq_ofNat_of_zero_le (show 0 ≤ r.v by omega)
            have HVN := Lib.hid hvn
            rw [hvn] at hv1 hv3
            have HRF := Lib.hid (show recF r = frame ([82, UInt8.ofNat vn] ++ encB r) by unfold recF; rw [hvn]; rfl)
            generalize T ++ recsF ((l.map Prod.fst).take k) = X at HOr hXl hXg hxg2 HSX
            clear g1 hsx hpre hgd hnum hfit hvn
            obtain ⟨Ax, cx, rfl⟩ := HOr.slice
            generalize encB r = eb at HENC hel HRF
            go_wp2_with (refine ld_lit (by exact rfl) (by exact rfl) b (o + k * 12) (by exact rfl) #[.int .i64 r.v, .int .i64 r.kd, .int .i64 r.sg, .int .i64 r.st, .int .i64 r.tr, .int .i64 r.tm, .int .i64 r.la, .int .i64 r.co, .int .i64 r.cn, .int .i64 r.pv, .string r.nm, .slice Ad r.da.length cd].toList (by exact rfl) (by exact G1.out) ?_)
            refine HENC.out.mono ?_
            rintro e w3 ⟨x3, rfl, HX3, hb3⟩
            have f0 : w3.cell? ⟨b, o + k * 12, none⟩ = some (.int .i64 (vn : Int)) := by
              have := rangeAt_below G1.out hb3 0 _ rfl
              rw [HVN.out] at this; exact this
            have hbx3 := hbx.below hb3 (by omega)
            have c3 := hbx3.c1
            have HO3 := HOr.below hb3
            have s3 := hb3.size
            have HX3b := HX3.bs
            have hb03 := hb.trans (hb3.mono sr)
            clear c1
            have HLV := Lib.hid (lit82 vn (by omega))
            go_wp2_with (at_builtin; refine appB w3.heap.size rfl (.tmp 71) _ rfl _ [82, UInt8.ofNat vn] _ eb rfl rfl (Ob.litn w3 _ [82, UInt8.ofNat vn] 2 _ _ HLV.out rfl (by omega) rfl (Nat.le_refl _)) (HX3b.below ((Below.refl _ _).alloc (Nat.le_refl _) _)) (by simp only [List.length_cons, List.length_nil]; omega) ((Below.refl w3.heap.size w3).alloc (Nat.le_refl _) _) (by simp) ?_; intro v4 w4 HO4 hb4 _ _)
            have s4 := hb4.size
            have hbl : ([82, UInt8.ofNat vn] ++ eb).length ≤ 180347 ∧ 0 < ([82, UInt8.ofNat vn] ++ eb).length := by simp only [List.length_append, List.length_cons, List.length_nil]; omega
            refine (rFrame_any _ ([82, UInt8.ofNat vn] ++ eb) hbl.2 (by omega) w4 HO4.bs).mono ?_
            rintro e w5 ⟨x5, rfl, HX5, hb5⟩
            have hb45 := hb4.trans (hb5.mono s4)
            have HO5 := HO3.below hb45
            have hb05 := hb03.trans (hb45.mono (by omega))
            have s5 := hb5.size
            have hfl : (frame ([82, UInt8.ofNat vn] ++ eb)).length ≤ 180362 := by
              have h2 := uvar_len10 (n := ([82, UInt8.ofNat vn] ++ eb).length) (by omega)
              rw [frame_len]; omega
            rw [← HRF.out] at HX5 hfl
            have HX5b := HX5.bs
            generalize recF r = rf at HX5b hfl HSX
            go_wp2_with (at_builtin; refine appB W0.heap.size rfl (.tmp 79) _ rfl _ X _ rf rfl rfl HO5 HX5b (by omega) hb05 (by omega) ?_; intro v6 w6 HO6 hb6 _ _)
            go_roundw
            case rel => exact ⟨k + 1, by omega, by go_num, by rw [HSX.out]; exact HO6, by rw [HSX.out, List.length_append]; omega, hb6⟩
            case measure => simp [intOf]; omega
          · have hX : (T ++ recsF ((l.map Prod.fst).take k)).length ≤ (T ++ recsF (l.map Prod.fst)).length := by rw [List.length_append, List.length_append]; omega
            have hbody : bodyP tn (l.map Prod.fst).length (l.map Prod.fst) = T ++ recsF (l.map Prod.fst) := by unfold bodyP; rw [List.length_map, HTT.out]
            by_cases hbig : 8388597 < (T ++ recsF ((l.map Prod.fst).take k)).length
            · have HCB := Lib.hid (show packC (tn : Int) (l.map Prod.fst) = 2 by
                unfold packC; rw [if_neg (by omega), if_neg (by rw [HC0.out]; simp), if_pos (by rw [Int.toNat_natCast, hbody]; omega)])
              have hb1 : (8388597 : Int) < ((T ++ recsF ((l.map Prod.fst).take k)).length : Int) := by omega
              clear hbody hX hpre hXl
              by_cases hkn : k < l.length
              · have hb2 : ¬ ((T ++ recsF ((l.map Prod.fst).take k)).length : Int) ≤ 8388608 := by have := fun h => hgo ⟨hkn, h⟩; omega
                have hi1 : (k : Int) < (l.length : Int) := by omega
                generalize T ++ recsF ((l.map Prod.fst).take k) = X at HOr hb1 hb2 hbig hgo
                obtain ⟨Ax, cx, rfl⟩ := HOr.slice
                clear hgo
                go_wp2_with fail
                go_ret2
                exact ⟨hbw, .inl ⟨by rw [HCB.out]; decide, by rw [HCB.out]; rfl⟩⟩
              · have he : k = l.length := by omega
                clear hgo hkn
                generalize T ++ recsF ((l.map Prod.fst).take k) = X at HOr hb1 hbig
                obtain ⟨Ax, cx, rfl⟩ := HOr.slice
                go_wp2_with fail
                go_ret2
                exact ⟨hbw, .inl ⟨by rw [HCB.out]; decide, by rw [HCB.out]; rfl⟩⟩
            · have he : k = l.length := by
                rcases Nat.lt_or_ge k l.length with h | h
                · exact absurd ⟨h, by omega⟩ hgo
                · omega
              have htk : (l.map Prod.fst).take k = l.map Prod.fst := List.take_of_length_le (by simp; omega)
              rw [htk] at HOr hbig
              have HCB := Lib.hid (show packC (tn : Int) (l.map Prod.fst) = 0 by
                unfold packC; rw [if_neg (by omega), if_neg (by rw [HC0.out]; simp), if_neg (by rw [Int.toNat_natCast, hbody]; omega)])
              have HPB := Lib.hid (show packB ((tn : Int)).toNat (l.map Prod.fst) = (T ++ recsF (l.map Prod.fst)) ++ lastF (T ++ recsF (l.map Prod.fst)) by
                unfold packB; rw [Int.toNat_natCast, hbody])
              clear hbody hX hpre hXl hgo htk
              generalize T ++ recsF (l.map Prod.fst) = X at HOr hbig HPB
              have hbi : (X.length : Int) ≤ 8388597 := by omega
              obtain ⟨Ax, cx, rfl⟩ := HOr.slice
              go_wp2_with fail
              refine (last_any _ X wr HOr.bs).mono ?_
              rintro e w5 ⟨x5, rfl, HX5, hb5⟩
              have HO5 := HOr.below hb5
              have hb05 := hb.trans (hb5.mono sr)
              have s5 := hb5.size
              have HX5b := HX5.bs
              have hll := lastF_len X
              generalize lastF X = lf at HX5b HPB hll
              go_wp2_with (at_builtin; refine appB W0.heap.size rfl (.tmp 85) _ rfl _ X _ lf rfl rfl HO5 HX5b (by omega) hb05 (by omega) ?_; intro v6 w6 HO6 hb6 _ _)
              go_ret2
              exact ⟨HB0.out.trans (hb6.mono (by omega)), .inr ⟨HCB.out, _, rfl, by rw [HPB.out]; exact own_mono HO6 (by omega)⟩⟩
end Go.Proofs.YtfmlkagcmkbebaaDoor

/- The writer's first frame. -/
namespace Go.Proofs.YtfmlkagcmkbebaaDoor
open Go.RowKit

/-- The writer's box while its bytes are the head itself. -/
structure Wr0 (w : World) (B g b n : Nat) (xs : List UInt8) : Prop where
  blk : w.heap[g]? = some (.cells #[.slice (some ⟨b, 0, none⟩) n n, .int .i64 0] 89 (0, 0))
  bs : Bs w (.slice (some ⟨b, 0, none⟩) n n) xs
  lo : B ≤ g
theorem Wr0.lt {w : World} {B g b n : Nat} {xs : List UInt8} (h : Wr0 w B g b n xs) : g < w.heap.size := (Array.getElem?_eq_some_iff.1 h.blk).1
theorem Wr0.below {w w' : World} {B g b n : Nat} {xs : List UInt8} (h : Wr0 w B g b n xs) (hb : Below w.heap.size w w') : Wr0 w' B g b n xs :=
  ⟨by rw [hb.block g h.lt]; exact h.blk, h.bs.below hb, h.lo⟩
theorem Wr0.c0 {w : World} {B g b n : Nat} {xs : List UInt8} (h : Wr0 w B g b n xs) : w.cell? ⟨g, 0, none⟩ = some (.slice (some ⟨b, 0, none⟩) n n) := by rw [cell_of_row w g 0 _ _ _ h.blk]; rfl
theorem Wr0.c1 {w : World} {B g b n : Nat} {xs : List UInt8} (h : Wr0 w B g b n xs) : w.cell? ⟨g, 1, none⟩ = some (.int .i64 0) := by rw [cell_of_row w g 1 _ _ _ h.blk]; rfl
theorem Wr0.put {w w1 w2 : World} {B g b n : Nat} {v2 : Value} {xs ys : List UInt8} (h : Wr0 w B g b n xs) (hb : Below w.heap.size w w1) (hb2 : Below w1.heap.size w1 w2) (HO : Ob w2 w1.heap.size v2 ys) (hB : B ≤ w.heap.size) :
    w2.cell? ⟨g, 0, none⟩ = some (.slice (some ⟨b, 0, none⟩) n n) ∧ w2.frozen? ⟨g, 0, none⟩ = false ∧ Wr (w2.setCell ⟨g, 0, none⟩ v2) B g v2 ys ∧ Below B w (w2.setCell ⟨g, 0, none⟩ v2) := by
  have hlt := h.lt
  have s1 := hb.size
  have hblk : w2.heap[g]? = some (.cells #[.slice (some ⟨b, 0, none⟩) n n, .int .i64 0] 89 (0, 0)) := (hb2.block g (by omega)).trans ((hb.block g hlt).trans h.blk)
  have hlt2 : g < w2.heap.size := (Array.getElem?_eq_some_iff.1 hblk).1
  have hv := (Array.getElem?_eq_some_iff.1 hblk).2
  have hne : ∀ k, v2.ownBlock = some k → w1.heap.size ≤ k := fun k hk => (HO.lt k hk).1
  refine ⟨by rw [cell_of_row w2 g 0 _ _ _ hblk]; rfl, by simp [World.frozen?, hblk], ⟨?_, own_mono (own_kp HO (Kp.set _ _) (fun k hk e => ?_)) (by omega), h.lo, fun e => ?_⟩, ?_⟩
  · simp only [World.setCell]
    rw [Array.getElem?_eq_getElem (by simpa using hlt2), Array.getElem_modify]
    simp [hv]
  · simp at e; have := hne k hk; omega
  · have := hne g e; omega
  · exact ((hb.mono hB).trans (hb2.mono (by omega))).setCell h.lo _

set_option maxRecDepth 100000 in
set_option maxHeartbeats 2000000 in
theorem wframe0_any (B g b n : Nat) (pv : Value) (xs : List UInt8) (xss : List (List UInt8)) (w : World) (hT : Tab w) (hW : Wr0 w B g b n xs) (hP : Bss w pv xss) (h0 : 0 < xss.flatten.length) (h1 : xss.flatten.length ≤ 1048576)
    (hx : xs.length ≤ 1099511627776) (hB : B ≤ w.heap.size) :
    Calls Tryd.prog 50 #[.pointer (some ⟨g, 0, none⟩), pv] w fun e w' => e = .returned (.tuple #[]) ∧ ∃ v', Wr w' B g v' (xs ++ frame xss.flatten) ∧ Below B w w' := by
  have HC := Lib.hid (Frame_any pv xss h0 h1 w hT hP)
  have hc0 := hW.c0
  have hc1 := hW.c1
  have hfl : (frame xss.flatten).length ≤ 1048601 ∧ 0 < (frame xss.flatten).length := by
    have := uvar_len10 (n := xss.flatten.length) (by omega)
    rw [frame_len]; omega
  have HW := Lib.hid hW
  clear hT hP hW
  go_enter Tryd.func50, Tryd.ntmps50
  go_wp2_with fail
  refine HC.out.mono ?_
  rintro e w1 ⟨x, rfl, HX, hb⟩
  have HW1 := Lib.hid (HW.out.below hb)
  have d0 := HW1.out.c0
  have d1 := HW1.out.c1
  have s1 := hb.size
  have HXs := HX.bs
  have HO1 := HW1.out.bs
  go_wp2_with (at_builtin; refine appG rfl (.tmp 26) _ rfl b n xs _ (frame xss.flatten) rfl rfl HO1 HXs (by omega) hfl.2 ?_; intro v2 w2 HO2 hb2; obtain ⟨e0, e1, hW2, hB2⟩ := HW.out.put hb hb2 HO2 hB; have HR := Lib.hid (And.intro hW2 hB2); clear hW2 hB2; obtain ⟨A2, c2, rfl⟩ := HO2.slice)
  go_end0
  have h := HR.out; rw [List.length_append] at h
  exact ⟨rfl, _, h.1, h.2⟩
end Go.Proofs.YtfmlkagcmkbebaaDoor
