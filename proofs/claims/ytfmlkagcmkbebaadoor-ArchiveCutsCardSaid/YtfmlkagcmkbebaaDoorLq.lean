/- given. -/
import Derived.Test.YtfmlkagcmkbebaaDoorLo
import Derived.Deep.RegionHeld3
import Derived.Deep.DeepCutAuto
import Derived.Sort.CutIn
namespace Go.Proofs.YtfmlkagcmkbebaaDoor
open Go.RowKit Go.Shelf
attribute [local go_sem] Oper.semAt_some

/-- What given answers. -/
def Given (w : World) (bk : Nat) (L : List Value) (b : List UInt8) (size stop : Int) (e : Ending) (w' : World) : Prop :=
  ∃ vo m vL' vM' L' M', e = .returned (.tuple #[vo, .int .i64 (cutCode b.length size), .bool true]) ∧ Obs w' w.heap.size vo ((List.range m).map (piece b size.toNat)) ∧
    Book1 w' bk w'.heap.size vL' vM' L' M' ∧ L'.length ≤ L.length + 4096 ∧ Below bk w w' ∧
    (((m : Int) = stop ∧ m < cutCount b.length size) ∨ (m = cutCount b.length size ∧ ∀ j : Nat, j < cutCount b.length size → (j : Int) ≠ stop))

theorem eqlFunc (gf : FuncId) (lb : Array Value) (w : World) : (binOp .eql 45 (.func (.func gf) #[] lb) .nilFunc).run Tryd.prog w = .ok (.bool false) w := by
  have h : ∀ d : Nat, (Op.equalIn (d + 1) 45 (.func (.func gf) #[] lb) .nilFunc).run Tryd.prog w = .ok false w := fun d => by
    simp [Op.equalIn, run_underlying Tryd.underlying45]
  simp only [binOp]
  simp [Op.equal, Op.maxDepth, h 9999]
theorem heapNew (W : World) (o : Obj) (b : Nat) (hb : b = W.heap.size) : (W.alloc o).heap[b]? = some o := by subst hb; exact World.alloc_heap_new W o
theorem heapOld {W : World} {k : Nat} {x : Obj} (o : Obj) (h : W.heap[k]? = some x) : (W.alloc o).heap[k]? = some x := (Below.heap_alloc W o k (Array.getElem?_eq_some_iff.1 h).1).trans h
theorem fiveBoxes (w : World) (o0 o1 o2 o3 o4 : Obj) : ∃ w5, (((((w.alloc o0).alloc o1).alloc o2).alloc o3).alloc o4) = w5 ∧ Below w.heap.size w w5 ∧ w5.heap.size = w.heap.size + 5 ∧ w5.heap[w.heap.size]? = some o0 ∧ w5.heap[w.heap.size + 1]? = some o1 ∧
    w5.heap[w.heap.size + 1 + 1]? = some o2 ∧ w5.heap[w.heap.size + 1 + 1 + 1]? = some o3 ∧ w5.heap[w.heap.size + 1 + 1 + 1 + 1]? = some o4 :=
  ⟨_, rfl, (((((Below.refl _ w).alloc (Nat.le_refl _) _).alloc (by simp) _).alloc (by simp; omega) _).alloc (by simp; omega) _).alloc (by simp; omega) _, by simp,
    heapOld _ (heapOld _ (heapOld _ (heapOld _ (heapNew w o0 _ rfl)))), heapOld _ (heapOld _ (heapOld _ (heapNew _ o1 _ (by simp)))), heapOld _ (heapOld _ (heapNew _ o2 _ (by simp))), heapOld _ (heapNew _ o3 _ (by simp)), heapNew _ o4 _ (by simp)⟩

theorem OutC.get {w : World} {B m k : Nat} {A : Option Addr} {c : Nat} {ps : Nat → List UInt8} {C : Nat → Prop} (h : OutC w B (.slice A m c) ((List.range m).map ps) C) (hk : k < m) :
    ∃ g A1 c1, A = some ⟨g, 0, none⟩ ∧ w.cell? ⟨g, k, none⟩ = some (.slice A1 (ps k).length c1) ∧ Bs w (.slice A1 (ps k).length c1) (ps k) := by
  obtain ⟨vs, h1, h2, h3, _, _⟩ := h
  rw [List.length_map, List.length_range] at h1 h2
  have hget : vs[k]? = some vs[k] := List.getElem?_eq_getElem (by omega)
  have ho := h3 k vs[k] (ps k) hget (by rw [List.getElem?_map, List.getElem?_range hk]; rfl)
  obtain ⟨A1, c1, e1⟩ := ho.slice
  obtain ⟨A0, c0, e, _, _, _, hr⟩ := Rd.of_own h1
  injection e with e2 e3 e4
  subst e2
  obtain ⟨b, o, e5, hc⟩ := hr k vs[k] hget
  rcases h1.2 with ⟨e6, _⟩ | ⟨g, cap, cur, e6, _⟩
  · injection e6 with e6; rw [e6] at e5; cases e5
  · injection e6 with e6; rw [e6] at e5; injection e5 with e5; injection e5 with e7 e8; subst e7; subst e8
    rw [Nat.zero_add] at hc
    exact ⟨_, A1, c1, e6, by rw [hc, e1], by rw [← e1]; exact ho.bs⟩

/-- Between two rounds of given's second loop: all lies as it lay, but the count. -/
def In2 (Wp : World) (k : Nat) (W : World) : Prop := Below Wp.heap.size Wp W ∧ W.heap[Wp.heap.size]? = some (.cells #[.int .i64 (k : Int)] 3 (0, 0))
theorem In2.abides {Wp : World} {k : Nat} : Abides (Wp.heap.size + 1) (In2 Wp k) := by
  rintro W l o o' ⟨h1, h2⟩ hl hlo ho _
  exact ⟨below_nc h1 (by omega), nc_block hlo ho h2 rfl⟩
theorem In2.below {Wp W W' : World} {k : Nat} (h : In2 Wp k W) (hb : Below W.heap.size W W') : In2 Wp k W' :=
  ⟨h.1.trans (hb.mono h.1.size), (hb.block _ (Array.getElem?_eq_some_iff.1 h.2).1).trans h.2⟩

theorem In2.next {Wp W1 w9 : World} {k : Nat} (h : In2 Wp k W1) (hb : Below W1.heap.size W1 w9) : KeepsOthers W1 (w9.setCell ⟨Wp.heap.size, 0, none⟩ (.int .i64 ((k : Int) + 1))) ∧ In2 Wp (k + 1) (w9.setCell ⟨Wp.heap.size, 0, none⟩ (.int .i64 ((k : Int) + 1))) := by
  obtain ⟨h1, h2⟩ := h.below hb
  refine ⟨KeepsOthers.trans ⟨hb.size, fun j o hj _ => (hb.block j (Array.getElem?_eq_some_iff.1 hj).1).trans hj⟩ (KeepsOthers.setCell _ _ _), h1.trans ((Kp.set _ _).below h1.size (fun j e => by simp at e; omega)), ?_⟩
  have hlt := (Array.getElem?_eq_some_iff.1 h2).1
  have hv := (Array.getElem?_eq_some_iff.1 h2).2
  simp only [World.setCell]
  rw [Array.getElem?_eq_getElem (by simpa using hlt), Array.getElem_modify]
  simp [hv]

theorem piece_len {b : List UInt8} {size : Int} {k : Nat} (hk : k < cutCount b.length size) : (piece b size.toNat k).length ≤ 100000 := by
  unfold cutCount at hk
  split at hk
  · omega
  · rename_i h
    unfold cutBad at h
    have hp := part_len b size.toNat k
    have h1 := uvar_len10 (n := k) (by omega)
    have h2 := uvar_len10 (n := cutN b.length size.toNat) (by omega)
    have h3 : (le32 (crc b)).length = 4 := rfl
    have hl : (80 :: le32 (crc b) ++ uvar k ++ uvar (cutN b.length size.toNat) ++ part b size.toNat k).length ≤ 70000 := by
      simp only [List.length_append, List.length_cons]; omega
    unfold piece frame
    generalize 80 :: le32 (crc b) ++ uvar k ++ uvar (cutN b.length size.toNat) ++ part b size.toNat k = bd at hl
    have h4 := uvar_len10 (n := bd.length) (by omega)
    have h5 : (le32 (crc (uvar bd.length ++ bd))).length = 4 := rfl
    simp only [List.length_append, List.length_cons, List.length_nil]; omega

/-- An operation of a drawn region taken first, its slot written out. -/
theorem takeD {P : Program} {ops : Array Oper} {Q : Exit → Act → World → Prop} {md : Region.Mode} {S : World → Prop} {i : Nat} {oi : Oper} {d : Option Tmp} {v : Value} {fuel : Nat} {listed : Array Bool} {a : Act} {w : World} (hi : ops[i]? = some oi) (hd : oi.dst = d)
    (hs : Region.noSelect ops = true) (hf : Region.free md ops listed i = true) (hr : (Region.ready md ops listed).contains i = true)
    (hQ : ∀ c a w, Q (.panic c) (a.put d v) w → Q (.panic c) a w) (hy : YieldsIf P ops S oi v a) (hS : S w)
    (h : wpAnyH P md ops Q S fuel (listed.setIfInBounds i true) (a.put d v) w) : wpAnyH P md ops Q S (fuel + 1) listed a w := by
  subst hd; exact wpAnyH_take hi hs hf hr hQ hy hS h

theorem threeSets {W : World} {p q r : Nat} {x y z u v t : Value} (h2 : W.cell? ⟨p, 0, none⟩ = some x) (h3 : W.cell? ⟨q, 0, none⟩ = some y) (h4 : W.cell? ⟨r, 0, none⟩ = some z) (n23 : p ≠ q) (n24 : p ≠ r) (n34 : q ≠ r) :
    ((((W.setCell ⟨p, 0, none⟩ u).setCell ⟨q, 0, none⟩ v).setCell ⟨r, 0, none⟩ t).drew).cell? ⟨p, 0, none⟩ = some u ∧ ((((W.setCell ⟨p, 0, none⟩ u).setCell ⟨q, 0, none⟩ v).setCell ⟨r, 0, none⟩ t).drew).cell? ⟨q, 0, none⟩ = some v ∧
    ((((W.setCell ⟨p, 0, none⟩ u).setCell ⟨q, 0, none⟩ v).setCell ⟨r, 0, none⟩ t).drew).cell? ⟨r, 0, none⟩ = some t ∧ Kp W ((((W.setCell ⟨p, 0, none⟩ u).setCell ⟨q, 0, none⟩ v).setCell ⟨r, 0, none⟩ t).drew) (fun j => j = p ∨ j = q ∨ j = r) := by
  have k1 : Kp W (W.setCell ⟨p, 0, none⟩ u) (fun j => j = p) := Kp.set _ _
  have k2 : Kp (W.setCell ⟨p, 0, none⟩ u) ((W.setCell ⟨p, 0, none⟩ u).setCell ⟨q, 0, none⟩ v) (fun j => j = q) := Kp.set _ _
  have k3 : Kp ((W.setCell ⟨p, 0, none⟩ u).setCell ⟨q, 0, none⟩ v) (((W.setCell ⟨p, 0, none⟩ u).setCell ⟨q, 0, none⟩ v).setCell ⟨r, 0, none⟩ t) (fun j => j = r) := Kp.set _ _
  refine ⟨?_, ?_, ?_, ?_⟩
  · exact k3.cell (k2.cell (World.cell?_setCell_same _ _ _ h2) n23) n24
  · exact k3.cell (World.cell?_setCell_same _ _ _ (k1.cell h3 (Ne.symm n23))) n34
  · exact World.cell?_setCell_same _ _ _ (k2.cell (k1.cell h4 (Ne.symm n24)) (Ne.symm n34))
  · have k := ((k1.mono (S' := fun j => j = p ∨ j = q ∨ j = r) (fun k e => .inl e)).trans k2 (fun k _ e => .inr (.inl e))).trans k3 (fun k _ e => .inr (.inr e))
    exact ⟨k.os, k.tape, k.output, k.size, k.block⟩

theorem given_close {w wr W W2 W3 : World} {bk m D D2 : Nat} {L L' : List Value} {M' b : List UInt8} {size stop : Int} {vL' vM' vo : Value} {e2 e1 : Obj} (hbw : bk < w.heap.size) (_hbx : w.heap.size ≤ wr.heap.size) (hne : w.heap.size + 1 + 1 + 1 + 1 < wr.heap.size) (hlW : wr.heap.size < W.heap.size) (hmm : m ≤ 1024)
    (h1 : Book1 W bk W.heap.size vL' vM' L' M') (h2 : L'.length = L.length + 4 * m) (h4 : OutC W (wr.heap.size + 1) vo ((List.range m).map (piece b size.toNat)) (Clear bk vL' vM' L')) (h5 : ∀ j, w.heap.size ≤ j → j ≤ wr.heap.size → Clear bk vL' vM' L' j) (h7 : Below bk w W) (t0 : Below W.heap.size W W2)
    (hK : Kp W2 W3 (fun j => j = w.heap.size + 1 + 1 ∨ j = w.heap.size + 1 + 1 + 1 ∨ j = w.heap.size + 1 + 1 + 1 + 1)) (hD2 : W3.heap[D2]? = some e2) (he2 : e2.isCells = false) (hD : (W3.putObj D2 (.deferred none)).heap[D]? = some e1) (he1 : e1.isCells = false) (hbD : bk ≤ D) (hbD2 : bk ≤ D2)
    (hm : ((m : Int) = stop ∧ m < cutCount b.length size) ∨ (m = cutCount b.length size ∧ ∀ j : Nat, j < cutCount b.length size → (j : Int) ≠ stop)) :
    Given w bk L b size stop (.returned (.tuple #[vo, .int .i64 (cutCode b.length size), .bool true])) ((W3.putObj D2 (.deferred none)).putObj D (.deferred none)) := by
  have hw := h7.size
  have ht := t0.size
  have hk := hK.size
  have h4' : OutC W3 (wr.heap.size + 1) vo ((List.range m).map (piece b size.toNat)) (fun _ => True) := by
    obtain ⟨vs, g1, g2, g3, g4, g5⟩ := h4
    refine OutC.kp (C := fun j => wr.heap.size < j) ⟨vs, own_below g1 t0, g2, fun i u xs a c => (g3 i u xs a c).below t0, fun k e => ⟨by have := (g1.lt k e).1; omega, by have := (g4 k e).2; omega⟩, fun u hu k e => ?_⟩ hK (fun k _ hc => ⟨by omega, trivial⟩)
    obtain ⟨i, hi⟩ := List.getElem?_of_mem hu
    have hl : i < ((List.range m).map (piece b size.toNat)).length := by rw [← g2]; exact (List.getElem?_eq_some_iff.1 hi).1
    have := ((g3 i u _ hi (List.getElem?_eq_getElem hl)).lt k e)
    exact ⟨by omega, by omega⟩
  have hB2 : Book1 W2 bk W.heap.size vL' vM' L' M' := h1.below (Nat.le_refl _) t0
  have hB3 : Book1 W3 bk W.heap.size vL' vM' L' M' := hB2.keep ht hK (fun j e => h5 j (by omega) (by omega))
  have hb3 : Below bk w W3 := (h7.trans (t0.mono (by omega))).trans (hK.below (by omega) (fun j e => by omega))
  refine ⟨vo, m, vL', vM', L', M', rfl, ?_, ?_, by omega, below_nc (below_nc hb3 hbD2) hbD, hm⟩
  · exact ((h4'.nc hD2 he2).nc hD he1).obs.mono (by omega)
  · exact ((hB3.nc hD2 he2).nc hD he1).mono (by simp; omega)

set_option maxRecDepth 100000 in
set_option maxHeartbeats 4000000 in
theorem given_any (bk : Nat) (vL vM vb : Value) (L : List Value) (M b : List UInt8) (size stop : Int) (w : World) (ht : Tab w) (htb : 0 < bk) (hbook : Book1 w bk w.heap.size vL vM L M) (hL : L.length ≤ 1000000)
    (hb : Bs w vb b) (hx : b.length ≤ 262144) : Calls Tryd.prog 11 #[vb, .int .i64 size, .int .i64 stop, .pointer (some ⟨bk, 0, none⟩)] w (Given w bk L b size stop) := by
  obtain ⟨A, c, rfl, hn, hc, hr⟩ := hb.form
  have HP := Lib.hid hb
  have HT := Lib.hid ht
  have HBK := Lib.hid hbook
  clear hb hr hc ht hbook
  refine (callsIn_wide (n := 4)).1 ?_
  refine callsIn_of_wp_marks Tryd.func11 rfl trivial ?_ rfl
  refine wpIn_wide.2 ?_
  simp only [Tryd.ntmps11, List.size_toArray, List.length_cons, List.length_nil, Nat.reduceAdd, Nat.reduceSub, Array.replicate_succ, Array.replicate_zero, List.push_toArray, List.append_toArray, List.nil_append, List.cons_append]
  go_wp2_with fail
  obtain ⟨w5, hw5, hB5, hz5, c0, c1, c2, c3, c4⟩ := fiveBoxes w (.cells #[.int .i64 stop] 3) (.cells #[.pointer (some ⟨bk, 0, none⟩)] 27) (.cells #[.slice none 0 0] 24) (.cells #[.int .i64 0] 3) (.cells #[.bool false] 4)
  rw [hw5]
  clear hw5
  refine (laid_any _ b (by omega) w5 (HP.out.below hB5)).mono ?_
  rintro e w6 ⟨g, cap, rfl, HOin, HB6⟩
  go_wp2_with fail
  have hB6 := hB5.trans (HB6.mono hB5.size)
  have hin : Bs w6 (.slice (some ⟨g, 0, none⟩) b.length cap) b := by
    have := HOin.bs.take (m := b.length) (by simp)
    rwa [List.take_left] at this
  refine (aCut_any _ b size hx w6 (HT.out.below hB6) hin).mono ?_
  rintro e w7 hcut
  obtain ⟨gf, lb, rfl, hh, heg⟩ := hcut.hands
  have HB7 := hcut.1
  have hB7 := hB6.trans (HB7.mono hB6.size)
  have HH := Lib.hid hh
  clear hcut hh
  have hfn := eqlFunc gf lb
  go_wp2_with fail
  refine (intact_any (some ⟨g, 0, none⟩) cap (.slice A b.length c) b (by omega) w7 (HOin.bs.below HB7) (HP.out.below hB7)).mono ?_
  rintro e w8 ⟨rfl, m8, hm8⟩
  have HB8 : Below w7.heap.size w7 w8 := by rw [hm8]; exact below_drewN _ _
  have hB8 := hB7.trans (HB8.mono hB7.size)
  have hz8 : w8.heap.size = w7.heap.size := by rw [hm8]; rfl
  have HO8 : Ob w8 w5.heap.size (.slice (some ⟨g, 0, none⟩) (b.length + 5) cap) (b ++ marks5) := (HOin.below HB7).below HB8
  have s6 := HB6.size
  have s7 := HB7.size
  have hg6 : w5.heap.size ≤ g ∧ g < w6.heap.size := HOin.lt g rfl
  clear hm8 HOin hin hfn
  go_wp2_with fail
  go_loopw [14] (fun i wr => ∃ (k : Nat) (ys : List UInt8), k ≤ b.length ∧ ys.length = b.length + 5 ∧ i = .int .i64 k ∧ Ob wr w5.heap.size (.slice (some ⟨g, 0, none⟩) (b.length + 5) cap) ys ∧ w8.grownBy wr (some g)) (fun i _ => b.length - (intOf i).toNat)
  case atStart => exact ⟨0, b ++ marks5, Nat.zero_le _, by simp [marks5], rfl, HO8, grownBy_refl _ _⟩
  case round =>
    obtain ⟨k, ys, hk, hyl, rfl, HO9, hg9⟩ := hrel
    by_cases hlt : k < b.length
    · obtain ⟨hcell, hfr⟩ := HO9.cell (k := k) (by omega)
      obtain ⟨HO10, hg10⟩ := HO9.put (k := k) (by omega) (UInt8.ofNat (ys[k].toNat + 1))
      rw [byt_ofNat] at HO10 hg10
      have hv : (((ys[k].toNat + 1) % 256 : Nat) : Int) = ((ys[k].toNat : Int) + 1) % 256 := by omega
      rw [hv] at HO10 hg10
      clear hv
      unfold byt at hcell
      have H10 := Lib.hid HO10
      have G10 := Lib.hid hg10
      clear HO10 hg10
      go_wp2_with fail
      go_roundw
      case rel => exact ⟨k + 1, _, by omega, by rw [List.length_set]; exact hyl, by go_num, H10.out, hg9.trans G10.out⟩
      case measure => simp [intOf]; omega
    · obtain rfl : k = b.length := by omega
      have hB9 : Below w.heap.size w wr := hB8.grown hg9 hB8.size (fun j e => by injection e with e; subst e; omega)
      have hgs := hg9.size
      have hbw := HBK.out.lt
      have hbx : w.heap.size ≤ wr.heap.size := hB9.size
      have hA : Agree (CutRange w6.heap.size w7.heap.size) w7 wr := ((Agree.refl _ w7).below HB8 (fun i hi => by rcases hi with hi | hi <;> omega)).kp (Kp.of_grown hg9) (fun i hi => ⟨by rcases hi with hi | hi <;> omega, fun e => by injection e with e; rcases hi with hi | hi <;> omega⟩)
      have hBa : Below w.heap.size w (wr.alloc (.cells #[.slice none 0 0] 24)) := hB9.alloc hbx _
      have hI0 : In1 w wr bk L.length (piece b size.toNat) stop 0 (wr.alloc (.cells #[.slice none 0 0] 24)) := by
        refine ⟨vL, vM, L, M, .slice none 0 0, (HBK.out.below (Nat.le_refl _) hBa).mono hBa.size, rfl, heapNew _ _ _ rfl, ⟨[], World.ownsRow_nil _ _ _ _, rfl, fun i u xs a => by simp at a, fun k e => by simp [Value.ownBlock] at e, fun u hu => by simp at hu⟩, fun j hj _ => HBK.out.fresh hj,
          (Agree.refl _ wr).below ((Below.refl _ wr).alloc (Nat.le_refl _) _) (fun i hi => by rcases hi with hi | hi <;> omega), hBa.mono (by omega), fun j hj => by omega⟩
      have carry : ∀ {j : Nat} {x : Obj}, w5.heap[j]? = some x → j < w5.heap.size → wr.heap[j]? = some x := fun {j x} hj hlt => by
        rw [hg9.block j (by omega) (fun e => by injection e with e; omega), HB8.block j (by omega), HB7.block j (by omega), HB6.block j hlt]; exact hj
      have C0 := Lib.hid (carry c0 (by omega))
      have C1 := Lib.hid (carry c1 (by omega))
      have C2 := Lib.hid (carry c2 (by omega))
      have C3 := Lib.hid (carry c3 (by omega))
      have C4 := Lib.hid (carry c4 (by omega))
      clear carry c0 c1 c2 c3 c4
      have HA := Lib.hid hA
      have HI0 := Lib.hid hI0
      clear hA hI0
      go_wp2_with fail
      refine (wpIn_wide (n := 4)).1 ?_
      refine wpIn_over rfl (by omega) (gf := gf) (lb := lb) rfl trivial heg (HH.out (4 - 1)) (In1 w wr bk L.length (piece b size.toNat) stop)
        (fun c j W => c = .exit 2 ∧ ∃ k, j = k + 1 ∧ (k : Int) = stop ∧ In1 w wr bk L.length (piece b size.toNat) stop k W) ?iok ?ab1 ?ab2 ?h0 ?a1 ?assign ?body ?done ?stop
      case iok =>
        rintro k W ⟨_, _, _, _, _, _, _, _, _, _, h6, _⟩
        exact HA.out.trans (h6.mono (fun i hi => hi.imp (fun x => ⟨by omega, by omega⟩) id))
      case ab1 => intro k; rw [World.size_alloc]; exact In1.abides hbw hbx htb
      case ab2 =>
        rintro c j W l o o' ⟨hc, k, hk, hs, hi⟩ h1 h2 h3 h4
        exact ⟨hc, k, hk, hs, In1.abides hbw hbx htb _ _ _ _ hi (by rw [World.size_alloc] at h1; exact h1) h2 h3 h4⟩
      case h0 => intro o o'; exact (HI0.out.below hbw hbx htb ((Below.refl _ _).alloc (Nat.le_refl _) _)).below hbw hbx htb ((Below.refl _ _).alloc (Nat.le_refl _) _)
      case assign =>
        intro l v W K hK
        gi_wp2
        exact hK
      case body =>
        intro l k v Wa W1 hkN hsz hIa hbel hob
        rw [World.size_alloc] at hsz
        obtain ⟨vL', vM', L', M', vo, h1, h2, h3, h4, h5, h6, h7, h8⟩ := id hIa
        obtain ⟨vs, o1, o2, o3, o4, o5⟩ := h4
        rw [List.length_map, List.length_range] at o1 o2
        obtain ⟨Ao, co, rfl, hco, hcm, _⟩ := Rd.of_own o1
        have hIA := Lib.hid hIa
        have b1 := (hbel.block _ (by omega)).trans h3
        have b0 := (hbel.block _ (by omega)).trans ((h6.2 w.heap.size (.inl ⟨Nat.le_refl _, by omega⟩)).trans C0.out)
        have b2 := (hbel.block _ (by omega)).trans ((h6.2 (w.heap.size + 1) (.inl ⟨by omega, by omega⟩)).trans C1.out)
        have q1 : W1.cell? ⟨wr.heap.size, 0, none⟩ = some (.slice Ao k co) := by rw [cell_of_row W1 _ 0 _ _ _ b1]; rfl
        have q0 : W1.cell? ⟨w.heap.size, 0, none⟩ = some (.int .i64 stop) := by rw [cell_of_row W1 _ 0 _ _ _ b0]; rfl
        have q2 : W1.cell? ⟨w.heap.size + 1, 0, none⟩ = some (.pointer (some ⟨bk, 0, none⟩)) := by rw [cell_of_row W1 _ 0 _ _ _ b2]; rfl
        have hf1 : W1.frozen? ⟨wr.heap.size, 0, none⟩ = false := by simp [World.frozen?, b1]
        have hkm : k ≤ 1024 := by have := @cutCount_le b.length size; omega
        by_cases hst : (k : Int) = stop
        · have hst2 : ((k : Int) == stop) = true := by rw [beq_iff_eq]; exact hst
          gi_wp2_with fail
          exact ⟨KeepsOthers.refl _, rfl, k, rfl, hst, hIA.out.below hbw hbx htb hbel⟩
        · have hst2 : ((k : Int) == stop) = false := by rw [beq_eq_false_iff_ne]; exact hst
          gi_wp2_with fail
          have hpl := piece_len hkN
          generalize hpz : piece b size.toNat k = pz at hob hpl
          have HPZ := Lib.hid hpz
          clear hpz
          have hrd : Rd W1.drew 1 v pz.length (bys pz) := hob.bs.below (Below.refl _ _).drew
          have HOB := Lib.hid hob
          clear hob
          gi_cut [] from 51 (fun wx => Mid2 w wr Wa W1 bk L.length k (piece b size.toNat) v wx)
          case first =>
            refine wpIn_region_any (by kernel_rfl) ?_
            change wpAnyIn _ _ _ _ _ _ _ _ _ (World.drew _)
            refine wpAnyIn_ready (rs := [0, 1]) (by kernel_rfl) (by simp) (AllReadyIn.cons rfl (fun K hK => ?_) (AllReadyIn.cons rfl (fun K hK => ?_) AllReadyIn.nil))
            · go_simp
              refine hK _ _ ?_
              clear hK K
              refine wpAnyIn_ready (rs := [1]) (by kernel_rfl) (by simp) (AllReadyIn.cons rfl (fun K hK => ?_) AllReadyIn.nil)
              · go_simp
                refine hK _ _ ?_
                clear hK K
                refine wpAnyIn_ready (rs := [2]) (by kernel_rfl) (by simp) (AllReadyIn.cons rfl (fun K hK => ?_) AllReadyIn.nil)
                · refine stepIn_app W1.heap.size rfl (.const (.slice none 0 0)) _ 22 5 (.int .u8 0) 1 1 rfl Tryd.underlying22 info_u8 rfl (by decide) _ 0 [] v pz.length (bys pz) rfl rfl (Ob.nil _ _) hrd (bys_one _) (by unfold maxLen; omega) (by omega) (Nat.le_refl _) ?_
                  intro cv w2 gc1 gc2 gc3
                  obtain ⟨Ac, cc, rfl, hb2, hoc, q1b, q1c, o1b⟩ := copied hbel gc1 gc2 q1 o1
                  refine hK _ _ ?_
                  clear hK K
                  refine wpAnyIn_ready (rs := [3]) (by kernel_rfl) (by simp) (AllReadyIn.cons rfl (fun K hK => ?_) AllReadyIn.nil)
                  · go_simp
                    refine hK _ _ ?_
                    clear hK K
                    refine wpAnyIn_ready (rs := [4]) (by kernel_rfl) (by simp) (AllReadyIn.cons rfl (fun K hK => ?_) AllReadyIn.nil)
                    · refine stepIn_app (wr.heap.size + 1) rfl (.tmp 55) (.tmp 58) 24 22 (.slice none 0 0) 1 24 rfl Tryd.underlying24 info_bs rfl (by decide) (.slice Ao k co) k vs (.slice (some ⟨w2.heap.size, 0, none⟩) 1 1) 1 [.slice Ac pz.length cc] rfl rfl (o1b _) (Rd.litv w2 _ [.slice Ac pz.length cc] 1 rfl (by omega)) (fun u hu => by rw [List.mem_singleton] at hu; subst hu; rfl) (by unfold maxLen; omega) (by omega) (by have := hb2.size; have := hbel.size; simp; omega) ?_
                      intro v1 w3 g1 g2 g3
                      obtain ⟨A9, c9, rfl, hm2, q9, f9, g9⟩ := put9 g1 g2 g3 b1 hb2 hbel o1
                      refine hK _ _ ?_
                      clear hK K
                      refine wpAnyIn_ready (rs := [5]) (by kernel_rfl) (by simp) (AllReadyIn.cons rfl (fun K hK => ?_) AllReadyIn.nil)
                      · go_simp
                        refine hK _ _ ?_
                        clear hK K
                        refine wpAnyIn_done (by kernel_rfl) ?_ _
                        gi_wp2_with fail
                        gi_meet
                        exact Mid2.mk hbw hbx htb h1 h2 h3 o1 o2 o3 o4 o5 h5 h6 h7 hbel (by rw [HPZ.out]; exact HOB.out) (by rw [HPZ.out]; exact hoc) hb2 g1 hm2 g9
            · go_simp
              refine hK _ _ ?_
              clear hK K
              refine wpAnyIn_ready (rs := [0, 2]) (by kernel_rfl) (by simp) (AllReadyIn.cons rfl (fun K hK => ?_) (AllReadyIn.cons rfl (fun K hK => ?_) AllReadyIn.nil))
              · go_simp
                refine hK _ _ ?_
                clear hK K
                refine wpAnyIn_ready (rs := [2]) (by kernel_rfl) (by simp) (AllReadyIn.cons rfl (fun K hK => ?_) AllReadyIn.nil)
                · refine stepIn_app W1.heap.size rfl (.const (.slice none 0 0)) _ 22 5 (.int .u8 0) 1 1 rfl Tryd.underlying22 info_u8 rfl (by decide) _ 0 [] v pz.length (bys pz) rfl rfl (Ob.nil _ _) hrd (bys_one _) (by unfold maxLen; omega) (by omega) (Nat.le_refl _) ?_
                  intro cv w2 gc1 gc2 gc3
                  obtain ⟨Ac, cc, rfl, hb2, hoc, q1b, q1c, o1b⟩ := copied hbel gc1 gc2 q1 o1
                  refine hK _ _ ?_
                  clear hK K
                  refine wpAnyIn_ready (rs := [3]) (by kernel_rfl) (by simp) (AllReadyIn.cons rfl (fun K hK => ?_) AllReadyIn.nil)
                  · go_simp
                    refine hK _ _ ?_
                    clear hK K
                    refine wpAnyIn_ready (rs := [4]) (by kernel_rfl) (by simp) (AllReadyIn.cons rfl (fun K hK => ?_) AllReadyIn.nil)
                    · refine stepIn_app (wr.heap.size + 1) rfl (.tmp 55) (.tmp 58) 24 22 (.slice none 0 0) 1 24 rfl Tryd.underlying24 info_bs rfl (by decide) (.slice Ao k co) k vs (.slice (some ⟨w2.heap.size, 0, none⟩) 1 1) 1 [.slice Ac pz.length cc] rfl rfl (o1b _) (Rd.litv w2 _ [.slice Ac pz.length cc] 1 rfl (by omega)) (fun u hu => by rw [List.mem_singleton] at hu; subst hu; rfl) (by unfold maxLen; omega) (by omega) (by have := hb2.size; have := hbel.size; simp; omega) ?_
                      intro v1 w3 g1 g2 g3
                      obtain ⟨A9, c9, rfl, hm2, q9, f9, g9⟩ := put9 g1 g2 g3 b1 hb2 hbel o1
                      refine hK _ _ ?_
                      clear hK K
                      refine wpAnyIn_ready (rs := [5]) (by kernel_rfl) (by simp) (AllReadyIn.cons rfl (fun K hK => ?_) AllReadyIn.nil)
                      · go_simp
                        refine hK _ _ ?_
                        clear hK K
                        refine wpAnyIn_done (by kernel_rfl) ?_ _
                        gi_wp2_with fail
                        gi_meet
                        exact Mid2.mk hbw hbx htb h1 h2 h3 o1 o2 o3 o4 o5 h5 h6 h7 hbel (by rw [HPZ.out]; exact HOB.out) (by rw [HPZ.out]; exact hoc) hb2 g1 hm2 g9
              · refine stepIn_app W1.heap.size rfl (.const (.slice none 0 0)) _ 22 5 (.int .u8 0) 1 1 rfl Tryd.underlying22 info_u8 rfl (by decide) _ 0 [] v pz.length (bys pz) rfl rfl (Ob.nil _ _) hrd (bys_one _) (by unfold maxLen; omega) (by omega) (Nat.le_refl _) ?_
                intro cv w2 gc1 gc2 gc3
                obtain ⟨Ac, cc, rfl, hb2, hoc, q1b, q1c, o1b⟩ := copied hbel gc1 gc2 q1 o1
                refine hK _ _ ?_
                clear hK K
                refine wpAnyIn_ready (rs := [0, 3]) (by kernel_rfl) (by simp) (AllReadyIn.cons rfl (fun K hK => ?_) (AllReadyIn.cons rfl (fun K hK => ?_) AllReadyIn.nil))
                · go_simp
                  refine hK _ _ ?_
                  clear hK K
                  refine wpAnyIn_ready (rs := [3]) (by kernel_rfl) (by simp) (AllReadyIn.cons rfl (fun K hK => ?_) AllReadyIn.nil)
                  · go_simp
                    refine hK _ _ ?_
                    clear hK K
                    refine wpAnyIn_ready (rs := [4]) (by kernel_rfl) (by simp) (AllReadyIn.cons rfl (fun K hK => ?_) AllReadyIn.nil)
                    · refine stepIn_app (wr.heap.size + 1) rfl (.tmp 55) (.tmp 58) 24 22 (.slice none 0 0) 1 24 rfl Tryd.underlying24 info_bs rfl (by decide) (.slice Ao k co) k vs (.slice (some ⟨w2.heap.size, 0, none⟩) 1 1) 1 [.slice Ac pz.length cc] rfl rfl (o1b _) (Rd.litv w2 _ [.slice Ac pz.length cc] 1 rfl (by omega)) (fun u hu => by rw [List.mem_singleton] at hu; subst hu; rfl) (by unfold maxLen; omega) (by omega) (by have := hb2.size; have := hbel.size; simp; omega) ?_
                      intro v1 w3 g1 g2 g3
                      obtain ⟨A9, c9, rfl, hm2, q9, f9, g9⟩ := put9 g1 g2 g3 b1 hb2 hbel o1
                      refine hK _ _ ?_
                      clear hK K
                      refine wpAnyIn_ready (rs := [5]) (by kernel_rfl) (by simp) (AllReadyIn.cons rfl (fun K hK => ?_) AllReadyIn.nil)
                      · go_simp
                        refine hK _ _ ?_
                        clear hK K
                        refine wpAnyIn_done (by kernel_rfl) ?_ _
                        gi_wp2_with fail
                        gi_meet
                        exact Mid2.mk hbw hbx htb h1 h2 h3 o1 o2 o3 o4 o5 h5 h6 h7 hbel (by rw [HPZ.out]; exact HOB.out) (by rw [HPZ.out]; exact hoc) hb2 g1 hm2 g9
                · go_simp
                  refine hK _ _ ?_
                  clear hK K
                  refine wpAnyIn_ready (rs := [0]) (by kernel_rfl) (by simp) (AllReadyIn.cons rfl (fun K hK => ?_) AllReadyIn.nil)
                  · go_simp
                    refine hK _ _ ?_
                    clear hK K
                    refine wpAnyIn_ready (rs := [4]) (by kernel_rfl) (by simp) (AllReadyIn.cons rfl (fun K hK => ?_) AllReadyIn.nil)
                    · refine stepIn_app (wr.heap.size + 1) rfl (.tmp 55) (.tmp 58) 24 22 (.slice none 0 0) 1 24 rfl Tryd.underlying24 info_bs rfl (by decide) (.slice Ao k co) k vs (.slice (some ⟨w2.heap.size, 0, none⟩) 1 1) 1 [.slice Ac pz.length cc] rfl rfl (o1b _) (Rd.litv w2 _ [.slice Ac pz.length cc] 1 rfl (by omega)) (fun u hu => by rw [List.mem_singleton] at hu; subst hu; rfl) (by unfold maxLen; omega) (by omega) (by have := hb2.size; have := hbel.size; simp; omega) ?_
                      intro v1 w3 g1 g2 g3
                      obtain ⟨A9, c9, rfl, hm2, q9, f9, g9⟩ := put9 g1 g2 g3 b1 hb2 hbel o1
                      refine hK _ _ ?_
                      clear hK K
                      refine wpAnyIn_ready (rs := [5]) (by kernel_rfl) (by simp) (AllReadyIn.cons rfl (fun K hK => ?_) AllReadyIn.nil)
                      · go_simp
                        refine hK _ _ ?_
                        clear hK K
                        refine wpAnyIn_done (by kernel_rfl) ?_ _
                        gi_wp2_with fail
                        gi_meet
                        exact Mid2.mk hbw hbx htb h1 h2 h3 o1 o2 o3 o4 o5 h5 h6 h7 hbel (by rw [HPZ.out]; exact HOB.out) (by rw [HPZ.out]; exact hoc) hb2 g1 hm2 g9
          case rest =>
            obtain ⟨vL2, vM2, L2, M2, v1, k1, k2, k3, k4, k5, k6, k7, k8, k9, k10, k11⟩ := hcut
            have bq : wc.cell? ⟨w.heap.size + 1, 0, none⟩ = some (.pointer (some ⟨bk, 0, none⟩)) := by rw [cell_of_row wc _ 0 _ _ _ ((k6.2 (w.heap.size + 1) (.inl ⟨by omega, by omega⟩)).trans C1.out)]; rfl
            have hpl2 : (piece b size.toNat k).length ≤ 1099511627000 := by rw [HPZ.out]; omega
            have hL2 : L2.length ≤ 1073741824 := by omega
            have K1 := Lib.hid (take_any bk Wa.heap.size vL2 vM2 v L2 M2 (piece b size.toNat k) wc k1 k10 k8 hpl2 hL2)
            have hstp : ∀ j : Nat, j < k + 1 → (j : Int) ≠ stop := fun j hj => by
              rcases Nat.lt_or_eq_of_le (Nat.le_of_lt_succ hj) with h | h
              · exact h8 j h
              · rw [h]; exact hst
            have KS := Lib.hid (fun W3 (ht : Took wc bk vL2 vM2 v L2 W3) => In1.step hbw hbx htb (show wr.heap.size < Wa.heap.size by omega) hbel.size k1 k2 k3 k4 k5 k6 k7 k8 k9 k10 k11 ht hstp)
            clear k1 k2 k3 k4 k5 k6 k7 k8 k9 k10 k11 hpl2 hL2
            gi_wp2_with (refine ⟨trivial, ?_⟩; gi_at_call 18; refine (CallsIn.inRound l (callsIn_wide.2 K1.out)).mono ?_; rintro e w9 ⟨rfl, htook⟩)
            exact ⟨(KS.out _ htook).2, (KS.out _ htook).1⟩
      case' done =>
        rintro D W hD hIN hdef
        have hI : ∃ m, In1 w wr bk L.length (piece b size.toNat) stop m W ∧ (((m : Int) = stop ∧ m < cutCount b.length size) ∨ (m = cutCount b.length size ∧ ∀ j : Nat, j < cutCount b.length size → (j : Int) ≠ stop)) :=
          ⟨_, hIN, .inr ⟨rfl, by obtain ⟨_, _, _, _, _, _, _, _, _, _, _, _, h8⟩ := hIN; exact h8⟩⟩
        clear hIN
      case' stop =>
        rintro D cj k0 W hD hk0 ⟨rfl, k, hkk, hks, hIN⟩ hdef
        have hI : ∃ m, In1 w wr bk L.length (piece b size.toNat) stop m W ∧ (((m : Int) = stop ∧ m < cutCount b.length size) ∨ (m = cutCount b.length size ∧ ∀ j : Nat, j < cutCount b.length size → (j : Int) ≠ stop)) :=
          ⟨k, hIN, .inl ⟨hks, by omega⟩⟩
        clear hIN hkk hks hk0
        gi_wp2_with fail
      all_goals
        obtain ⟨m, hI, hm⟩ := hI
        go_wp2_with fail
        have hI1 := Lib.hid hI
        obtain ⟨vL', vM', L', M', vo, h1, h2, h3, h4, h5, h6, h7, h8⟩ := hI
        obtain ⟨Ao, co, rfl⟩ := h4.obs.slice
        rw [List.length_map, List.length_range] at h3 h4
        have hmm : m ≤ 1024 := by have := @cutCount_le b.length size; omega
        have hA2 := Lib.hid (HA.out.trans (h6.mono (fun i hi => hi.imp (fun x => ⟨(by omega : w.heap.size ≤ i), (by omega : i < wr.heap.size)⟩) id)))
        have hlW : wr.heap.size < W.heap.size := (Array.getElem?_eq_some_iff.1 h3).1
        refine (wpIn_wide (n := 4)).1 ?_
        refine wpIn_over rfl (by omega) (gf := gf) (lb := lb) rfl trivial heg (HH.out (4 - 1)) (In2 W) (fun _ _ _ => False) ?_ ?_ ?_ ?_ ?_ ?_ ?_ ?_ ?_
        · rintro k W2 ⟨g1, _⟩; exact hA2.out.below g1 (fun i hi => by rcases hi with hi | hi <;> omega)
        · intro k; rw [World.size_alloc]; exact In2.abides
        · rintro c j W2 l o o' h; exact h.elim
        · intro o o'; exact (In2.below (In2.below ⟨(Below.refl _ W).alloc (Nat.le_refl _) _, heapNew _ _ _ rfl⟩ ((Below.refl _ _).alloc (Nat.le_refl _) _)) ((Below.refl _ _).alloc (Nat.le_refl _) _))
        rotate_left
        · intro l v W2 K hK
          gi_wp2
          exact hK
        · intro l k v Wa W1 hkN hsz hIa hbel hob
          rw [World.size_alloc] at hsz
          have hI2 := hIa.below hbel
          have t0 := hI2.1
          have b1 := (t0.block _ hlW).trans h3
          have b2 := hI2.2
          have q1 : W1.cell? ⟨wr.heap.size, 0, none⟩ = some (.slice Ao m co) := by rw [cell_of_row W1 _ 0 _ _ _ b1]; rfl
          have q2 : W1.cell? ⟨W.heap.size, 0, none⟩ = some (.int .i64 (k : Int)) := by rw [cell_of_row W1 _ 0 _ _ _ b2]; rfl
          have f2 : W1.frozen? ⟨W.heap.size, 0, none⟩ = false := by simp [World.frozen?, b2]
          have hkm1 : k ≤ 1024 := by have := @cutCount_le b.length size; omega
          have hNX := Lib.hid (fun w9 (hb : Below W1.heap.size W1 w9) => hI2.next hb)
          by_cases hkm : k < m
          · obtain ⟨g9, A1, c1, rfl, u1, u2⟩ := h4.get hkm
            have u3 := cellBelow t0 u1
            have SB := Lib.hid (sameBytes_any v _ _ _ W1 hob.bs (u2.below t0))
            clear u1 u2
            gi_wp2_with (refine ⟨trivial, ?_⟩; gi_at_call 12; refine (CallsIn.inRound l (callsIn_wide.2 SB.out)).mono ?_; rintro e w9 ⟨rfl, m9, hm9⟩; have hb9 : Below W1.heap.size W1 w9 := (by rw [hm9]; exact below_drewN _ _); have q9 := cellBelow hb9 q2; have f9 : w9.frozen? ⟨W.heap.size, 0, none⟩ = false := (by rw [hm9]; exact f2))
            first | exact hNX.out _ hb9 | exact hNX.out _ (below_drewN _ _)
          · gi_wp2_with fail
            refine ⟨trivial, ?_⟩
            gi_wp2_with fail
            exact hNX.out _ (Below.refl _ _)
        · rintro D2 W2 hD2 hI2 hdef2
          obtain ⟨t0, b2⟩ := hI2
          have b1 := (t0.block _ hlW).trans h3
          have hag := h6.below t0 (fun i hi => by rcases hi with hi | hi <;> omega)
          have e0 := (hag.2 w.heap.size (.inl ⟨Nat.le_refl _, by omega⟩)).trans C0.out
          have e2 := (hag.2 (w.heap.size + 1 + 1) (.inl ⟨by omega, by omega⟩)).trans C2.out
          have e3 := (hag.2 (w.heap.size + 1 + 1 + 1) (.inl ⟨by omega, by omega⟩)).trans C3.out
          have e4 := (hag.2 (w.heap.size + 1 + 1 + 1 + 1) (.inl ⟨by omega, by omega⟩)).trans C4.out
          have r0 : W2.cell? ⟨w.heap.size, 0, none⟩ = some (.int .i64 stop) := by rw [cell_of_row W2 _ 0 _ _ _ e0]; rfl
          have r1 : W2.cell? ⟨wr.heap.size, 0, none⟩ = some (.slice Ao m co) := by rw [cell_of_row W2 _ 0 _ _ _ b1]; rfl
          have rk : W2.cell? ⟨W.heap.size, 0, none⟩ = some (.int .i64 (cutCount b.length size : Nat)) := by rw [cell_of_row W2 _ 0 _ _ _ b2]; rfl
          have r2 : W2.cell? ⟨w.heap.size + 1 + 1, 0, none⟩ = some (.slice none 0 0) ∧ W2.frozen? ⟨w.heap.size + 1 + 1, 0, none⟩ = false := ⟨by rw [cell_of_row W2 _ 0 _ _ _ e2]; rfl, by simp [World.frozen?, e2]⟩
          have r3 : W2.cell? ⟨w.heap.size + 1 + 1 + 1, 0, none⟩ = some (.int .i64 0) ∧ W2.frozen? ⟨w.heap.size + 1 + 1 + 1, 0, none⟩ = false := ⟨by rw [cell_of_row W2 _ 0 _ _ _ e3]; rfl, by simp [World.frozen?, e3]⟩
          have r4 : W2.cell? ⟨w.heap.size + 1 + 1 + 1 + 1, 0, none⟩ = some (.bool false) ∧ W2.frozen? ⟨w.heap.size + 1 + 1 + 1 + 1, 0, none⟩ = false := ⟨by rw [cell_of_row W2 _ 0 _ _ _ e4]; rfl, by simp [World.frozen?, e4]⟩
          go_wp2_with fail
          have hne : w.heap.size + 1 + 1 + 1 + 1 < wr.heap.size := by omega
          have hmN : (m : Int) ≤ (cutCount b.length size : Nat) := by rcases hm with h | h <;> omega
          have hm2 := Lib.hid hm
          clear hm
          have HF := Lib.hid (And.intro h1 (And.intro h2 (And.intro h4 (And.intro h5 h7))))
          clear hI1 HH HA HI0 C0 C1 C2 C3 C4 HBK HP HT h1 h2 h4 h5 h6 h7 h8
          by_cases hs0 : 0 ≤ stop
          · refine wp_region_noPanic ?_
            refine wp_region_held_drew (S := fun w' => w'.cell? ⟨w.heap.size, 0, none⟩ = some (.int .i64 stop) ∧ w'.cell? ⟨wr.heap.size, 0, none⟩ = some (.slice Ao m co) ∧ w'.cell? ⟨W.heap.size, 0, none⟩ = some (.int .i64 (cutCount b.length size : Nat))) (by kernel_rfl) ⟨r0, r1, rk⟩ (fun hHeld => ?_)
            refine takeD (i := 0) (d := some 80) (v := (.slice Ao m co)) (by simp only [List.getElem?_toArray, List.getElem?_cons_zero]; rfl) (by rfl) (by kernel_rfl) (by kernel_rfl) (by kernel_rfl) (fun _ _ _ h => h) (Or.inl ⟨by rfl, ?_⟩) hHeld ?_
            · intro wS hSw; obtain ⟨hS1, hS2, hS3⟩ := hSw; go_simp
            simp only [Act.put, List.setIfInBounds_toArray, List.set_cons_zero, List.set_cons_succ]
            refine takeD (i := 1) (d := some 81) (v := (.int .i64 (cutCode b.length size))) (by simp only [List.getElem?_toArray, List.getElem?_cons_succ, List.getElem?_cons_zero]; rfl) (by rfl) (by kernel_rfl) (by kernel_rfl) (by kernel_rfl) (fun _ _ _ h => h) (Or.inl ⟨by rfl, ?_⟩) hHeld ?_
            · intro wS hSw; obtain ⟨hS1, hS2, hS3⟩ := hSw; go_simp
            simp only [Act.put, List.setIfInBounds_toArray, List.set_cons_zero, List.set_cons_succ]
            refine takeD (i := 2) (d := some 82) (v := (.int .i64 ((cutCount b.length size : Nat) : Int))) (by simp only [List.getElem?_toArray, List.getElem?_cons_succ, List.getElem?_cons_zero]; rfl) (by rfl) (by kernel_rfl) (by kernel_rfl) (by kernel_rfl) (fun _ _ _ h => h) (Or.inl ⟨by rfl, ?_⟩) hHeld ?_
            · intro wS hSw; obtain ⟨hS1, hS2, hS3⟩ := hSw; go_simp
            simp only [Act.put, List.setIfInBounds_toArray, List.set_cons_zero, List.set_cons_succ]
            refine takeD (i := 3) (d := some 83) (v := (.slice Ao m co)) (by simp only [List.getElem?_toArray, List.getElem?_cons_succ, List.getElem?_cons_zero]; rfl) (by rfl) (by kernel_rfl) (by kernel_rfl) (by kernel_rfl) (fun _ _ _ h => h) (Or.inl ⟨by rfl, ?_⟩) hHeld ?_
            · intro wS hSw; obtain ⟨hS1, hS2, hS3⟩ := hSw; go_simp
            simp only [Act.put, List.setIfInBounds_toArray, List.set_cons_zero, List.set_cons_succ]
            refine takeD (i := 4) (d := some 84) (v := (.int .i64 (m : Int))) (by simp only [List.getElem?_toArray, List.getElem?_cons_succ, List.getElem?_cons_zero]; rfl) (by rfl) (by kernel_rfl) (by kernel_rfl) (by kernel_rfl) (fun _ _ _ h => h) (Or.inl ⟨by rfl, ?_⟩) hHeld ?_
            · intro wS hSw; obtain ⟨hS1, hS2, hS3⟩ := hSw; go_simp
            simp only [Act.put, List.setIfInBounds_toArray, List.set_cons_zero, List.set_cons_succ]
            refine takeD (i := 5) (d := some 85) (v := (.bool true)) (by simp only [List.getElem?_toArray, List.getElem?_cons_succ, List.getElem?_cons_zero]; rfl) (by rfl) (by kernel_rfl) (by kernel_rfl) (by kernel_rfl) (fun _ _ _ h => h) (Or.inl ⟨by rfl, ?_⟩) hHeld ?_
            · intro wS hSw; obtain ⟨hS1, hS2, hS3⟩ := hSw; go_simp
            simp only [Act.put, List.setIfInBounds_toArray, List.set_cons_zero, List.set_cons_succ]
            refine takeD (i := 6) (d := some 86) (v := (.bool true)) (by simp only [List.getElem?_toArray, List.getElem?_cons_succ, List.getElem?_cons_zero]; rfl) (by rfl) (by kernel_rfl) (by kernel_rfl) (by kernel_rfl) (fun _ _ _ h => h) (Or.inl ⟨by rfl, ?_⟩) hHeld ?_
            · intro wS hSw; obtain ⟨hS1, hS2, hS3⟩ := hSw; go_simp
            simp only [Act.put, List.setIfInBounds_toArray, List.set_cons_zero, List.set_cons_succ]
            refine takeD (i := 7) (d := some 87) (v := (.int .i64 stop)) (by simp only [List.getElem?_toArray, List.getElem?_cons_succ, List.getElem?_cons_zero]; rfl) (by rfl) (by kernel_rfl) (by kernel_rfl) (by kernel_rfl) (fun _ _ _ h => h) (Or.inl ⟨by rfl, ?_⟩) hHeld ?_
            · intro wS hSw; obtain ⟨hS1, hS2, hS3⟩ := hSw; go_simp
            simp only [Act.put, List.setIfInBounds_toArray, List.set_cons_zero, List.set_cons_succ]
            refine takeD (i := 8) (d := some 88) (v := (.bool true)) (by simp only [List.getElem?_toArray, List.getElem?_cons_succ, List.getElem?_cons_zero]; rfl) (by rfl) (by kernel_rfl) (by kernel_rfl) (by kernel_rfl) (fun _ _ _ h => h) (Or.inl ⟨by rfl, ?_⟩) hHeld ?_
            · intro wS hSw; obtain ⟨hS1, hS2, hS3⟩ := hSw; go_simp
            simp only [Act.put, List.setIfInBounds_toArray, List.set_cons_zero, List.set_cons_succ]
            refine takeD (i := 9) (d := some 89) (v := (.bool true)) (by simp only [List.getElem?_toArray, List.getElem?_cons_succ, List.getElem?_cons_zero]; rfl) (by rfl) (by kernel_rfl) (by kernel_rfl) (by kernel_rfl) (fun _ _ _ h => h) (Or.inl ⟨by rfl, ?_⟩) hHeld ?_
            · intro wS hSw; obtain ⟨hS1, hS2, hS3⟩ := hSw; go_simp
            simp only [Act.put, List.setIfInBounds_toArray, List.set_cons_zero, List.set_cons_succ]
            refine takeD (i := 10) (d := some 90) (v := undef) (by simp only [List.getElem?_toArray, List.getElem?_cons_succ, List.getElem?_cons_zero]; rfl) (by rfl) (by kernel_rfl) (by kernel_rfl) (by kernel_rfl) (fun _ _ _ h => h) (Or.inr ⟨by rfl, rfl⟩) hHeld ?_
            simp only [Act.put, List.setIfInBounds_toArray, List.set_cons_zero, List.set_cons_succ]
            refine takeD (i := 11) (d := some 91) (v := undef) (by simp only [List.getElem?_toArray, List.getElem?_cons_succ, List.getElem?_cons_zero]; rfl) (by rfl) (by kernel_rfl) (by kernel_rfl) (by kernel_rfl) (fun _ _ _ h => h) (Or.inr ⟨by rfl, rfl⟩) hHeld ?_
            simp only [Act.put, List.setIfInBounds_toArray, List.set_cons_zero, List.set_cons_succ]
            refine takeD (i := 12) (d := some 92) (v := undef) (by simp only [List.getElem?_toArray, List.getElem?_cons_succ, List.getElem?_cons_zero]; rfl) (by rfl) (by kernel_rfl) (by kernel_rfl) (by kernel_rfl) (fun _ _ _ h => h) (Or.inr ⟨by rfl, rfl⟩) hHeld ?_
            simp only [Act.put, List.setIfInBounds_toArray, List.set_cons_zero, List.set_cons_succ]
            refine takeD (i := 13) (d := some 93) (v := undef) (by simp only [List.getElem?_toArray, List.getElem?_cons_succ, List.getElem?_cons_zero]; rfl) (by rfl) (by kernel_rfl) (by kernel_rfl) (by kernel_rfl) (fun _ _ _ h => h) (Or.inr ⟨by rfl, rfl⟩) hHeld ?_
            simp only [Act.put, List.setIfInBounds_toArray, List.set_cons_zero, List.set_cons_succ]
            refine takeD (i := 14) (d := some 94) (v := (.bool true)) (by simp only [List.getElem?_toArray, List.getElem?_cons_succ, List.getElem?_cons_zero]; rfl) (by rfl) (by kernel_rfl) (by kernel_rfl) (by kernel_rfl) (fun _ _ _ h => h) (Or.inl ⟨by rfl, ?_⟩) hHeld ?_
            · intro wS hSw; obtain ⟨hS1, hS2, hS3⟩ := hSw; go_simp
            simp only [Act.put, List.setIfInBounds_toArray, List.set_cons_zero, List.set_cons_succ]
            refine takeD (i := 15) (d := some 95) (v := (.bool true)) (by simp only [List.getElem?_toArray, List.getElem?_cons_succ, List.getElem?_cons_zero]; rfl) (by rfl) (by kernel_rfl) (by kernel_rfl) (by kernel_rfl) (fun _ _ _ h => h) (Or.inl ⟨by rfl, ?_⟩) hHeld ?_
            · intro wS hSw; obtain ⟨hS1, hS2, hS3⟩ := hSw; go_simp
            simp only [Act.put, List.setIfInBounds_toArray, List.set_cons_zero, List.set_cons_succ]
            refine wpAnyH_ready (rs := [16]) (by kernel_rfl) (by simp) (AllReadyH.cons rfl (fun K hK => ?_) AllReadyH.nil)
            go_simp
            refine hK.out _ _ ?_ (fun hHeld => ?_)
            · obtain ⟨hS1, hS2, hS3⟩ := hHeld; exact ⟨(Kp.set _ _).cell hS1 (by simp; omega), (Kp.set _ _).cell hS2 (by simp; omega), (Kp.set _ _).cell hS3 (by simp; omega)⟩
            clear hK K
            refine wpAnyH_ready (rs := [17]) (by kernel_rfl) (by simp) (AllReadyH.cons rfl (fun K hK => ?_) AllReadyH.nil)
            go_simp
            refine hK.out _ _ ?_ (fun hHeld => ?_)
            · obtain ⟨hS1, hS2, hS3⟩ := hHeld; exact ⟨(Kp.set _ _).cell hS1 (by simp; omega), (Kp.set _ _).cell hS2 (by simp; omega), (Kp.set _ _).cell hS3 (by simp; omega)⟩
            clear hK K
            refine wpAnyH_ready (rs := [18]) (by kernel_rfl) (by simp) (AllReadyH.cons rfl (fun K hK => ?_) AllReadyH.nil)
            go_simp
            refine hK.out _ _ ?_ (fun hHeld => ?_)
            · obtain ⟨hS1, hS2, hS3⟩ := hHeld; exact ⟨(Kp.set _ _).cell hS1 (by simp; omega), (Kp.set _ _).cell hS2 (by simp; omega), (Kp.set _ _).cell hS3 (by simp; omega)⟩
            clear hK K
            refine wpAnyH_done (by kernel_rfl) ?_ _
            refine NoPanic.normal ?_
            obtain ⟨W3, hW3⟩ : ∃ W3, (((W2.setCell { block := w.heap.size + 1 + 1, off := 0 } (Value.slice Ao m co)).setCell { block := w.heap.size + 1 + 1 + 1, off := 0 } (Value.int IntKind.i64 (cutCode b.length size))).setCell { block := w.heap.size + 1 + 1 + 1 + 1, off := 0 } (Value.bool true)).drew = W3 := ⟨_, rfl⟩
            have H3 := threeSets (u := Value.slice Ao m co) (v := Value.int IntKind.i64 (cutCode b.length size)) (t := Value.bool true) r2.1 r3.1 r4.1 (by omega) (by omega) (by omega)
            rw [hW3] at H3 ⊢
            clear hW3
            obtain ⟨z2, z3, z4, hK3⟩ := H3
            rw [World.size_alloc] at hD hD2
            have hDW : D < W.heap.size := (Array.getElem?_eq_some_iff.1 hdef).1
            have dd2 : W3.heap[D2]? = some (.deferred (some [])) := (hK3.block D2 (Array.getElem?_eq_some_iff.1 hdef2).1 (by omega)).trans hdef2
            have dd1 : (W3.putObj D2 (.deferred none)).heap[D]? = some (.deferred (some [])) := (World.putObj_heap_other (by omega)).trans ((hK3.block D (by have := t0.size; omega) (by omega)).trans ((t0.block D hDW).trans hdef))
            have DD := Lib.hid (And.intro dd1 (And.intro dd2 (And.intro z2 (And.intro z3 z4))))
            clear dd1 dd2 z2 z3 z4 r0 r1 r2 r3 r4 rk
            go_wp2_with fail
            obtain ⟨dd1, dd2, z2, z3, z4⟩ := DD.out
            refine ⟨by simp, .inl ⟨_, _, rfl, run_takeDeferred dd2, ?_⟩⟩
            refine ⟨by simp, .inl ⟨_, _, rfl, run_takeDeferred dd1, ?_⟩⟩
            have y2 := nc_cell (o' := .deferred none) dd1 rfl (nc_cell (o' := .deferred none) dd2 rfl z2)
            have y3 := nc_cell (o' := .deferred none) dd1 rfl (nc_cell (o' := .deferred none) dd2 rfl z3)
            have y4 := nc_cell (o' := .deferred none) dd1 rfl (nc_cell (o' := .deferred none) dd2 rfl z4)
            obtain ⟨h1, h2, h4, h5, h7⟩ := HF.out
            have hcl := given_close (stop := stop) hbw hbx hne hlW hmm h1 h2 h4 h5 h7 t0 hK3 dd2 rfl dd1 rfl (by omega) (by omega) hm2.out
            clear h1 h2 h4 h5 h7 dd1 dd2 z2 z3 z4
            refine ⟨.tuple #[.slice Ao m co, .int .i64 (cutCode b.length size), .bool true], ?_, hcl⟩
            clear hcl
            simp [results, Tryd.results11, go_sem, y2, y3, y4]
          · have hq : (((cutCount b.length size : Nat) : Int) == (m : Int)) = true := by rw [beq_iff_eq]; rcases hm2.out with h | h <;> omega
            refine wp_region_noPanic ?_
            refine wp_region_held_drew (S := fun w' => w'.cell? ⟨w.heap.size, 0, none⟩ = some (.int .i64 stop) ∧ w'.cell? ⟨wr.heap.size, 0, none⟩ = some (.slice Ao m co) ∧ w'.cell? ⟨W.heap.size, 0, none⟩ = some (.int .i64 (cutCount b.length size : Nat))) (by kernel_rfl) ⟨r0, r1, rk⟩ (fun hHeld => ?_)
            refine takeD (i := 0) (d := some 80) (v := (.slice Ao m co)) (by simp only [List.getElem?_toArray, List.getElem?_cons_zero]; rfl) (by rfl) (by kernel_rfl) (by kernel_rfl) (by kernel_rfl) (fun _ _ _ h => h) (Or.inl ⟨by rfl, ?_⟩) hHeld ?_
            · intro wS hSw; obtain ⟨hS1, hS2, hS3⟩ := hSw; go_simp
            simp only [Act.put, List.setIfInBounds_toArray, List.set_cons_zero, List.set_cons_succ]
            refine takeD (i := 1) (d := some 81) (v := (.int .i64 (cutCode b.length size))) (by simp only [List.getElem?_toArray, List.getElem?_cons_succ, List.getElem?_cons_zero]; rfl) (by rfl) (by kernel_rfl) (by kernel_rfl) (by kernel_rfl) (fun _ _ _ h => h) (Or.inl ⟨by rfl, ?_⟩) hHeld ?_
            · intro wS hSw; obtain ⟨hS1, hS2, hS3⟩ := hSw; go_simp
            simp only [Act.put, List.setIfInBounds_toArray, List.set_cons_zero, List.set_cons_succ]
            refine takeD (i := 2) (d := some 82) (v := (.int .i64 ((cutCount b.length size : Nat) : Int))) (by simp only [List.getElem?_toArray, List.getElem?_cons_succ, List.getElem?_cons_zero]; rfl) (by rfl) (by kernel_rfl) (by kernel_rfl) (by kernel_rfl) (fun _ _ _ h => h) (Or.inl ⟨by rfl, ?_⟩) hHeld ?_
            · intro wS hSw; obtain ⟨hS1, hS2, hS3⟩ := hSw; go_simp
            simp only [Act.put, List.setIfInBounds_toArray, List.set_cons_zero, List.set_cons_succ]
            refine takeD (i := 3) (d := some 83) (v := (.slice Ao m co)) (by simp only [List.getElem?_toArray, List.getElem?_cons_succ, List.getElem?_cons_zero]; rfl) (by rfl) (by kernel_rfl) (by kernel_rfl) (by kernel_rfl) (fun _ _ _ h => h) (Or.inl ⟨by rfl, ?_⟩) hHeld ?_
            · intro wS hSw; obtain ⟨hS1, hS2, hS3⟩ := hSw; go_simp
            simp only [Act.put, List.setIfInBounds_toArray, List.set_cons_zero, List.set_cons_succ]
            refine takeD (i := 4) (d := some 84) (v := (.int .i64 (m : Int))) (by simp only [List.getElem?_toArray, List.getElem?_cons_succ, List.getElem?_cons_zero]; rfl) (by rfl) (by kernel_rfl) (by kernel_rfl) (by kernel_rfl) (fun _ _ _ h => h) (Or.inl ⟨by rfl, ?_⟩) hHeld ?_
            · intro wS hSw; obtain ⟨hS1, hS2, hS3⟩ := hSw; go_simp
            simp only [Act.put, List.setIfInBounds_toArray, List.set_cons_zero, List.set_cons_succ]
            refine takeD (i := 5) (d := some 85) (v := (.bool true)) (by simp only [List.getElem?_toArray, List.getElem?_cons_succ, List.getElem?_cons_zero]; rfl) (by rfl) (by kernel_rfl) (by kernel_rfl) (by kernel_rfl) (fun _ _ _ h => h) (Or.inl ⟨by rfl, ?_⟩) hHeld ?_
            · intro wS hSw; obtain ⟨hS1, hS2, hS3⟩ := hSw; go_simp
            simp only [Act.put, List.setIfInBounds_toArray, List.set_cons_zero, List.set_cons_succ]
            refine takeD (i := 6) (d := some 86) (v := (.bool true)) (by simp only [List.getElem?_toArray, List.getElem?_cons_succ, List.getElem?_cons_zero]; rfl) (by rfl) (by kernel_rfl) (by kernel_rfl) (by kernel_rfl) (fun _ _ _ h => h) (Or.inl ⟨by rfl, ?_⟩) hHeld ?_
            · intro wS hSw; obtain ⟨hS1, hS2, hS3⟩ := hSw; go_simp
            simp only [Act.put, List.setIfInBounds_toArray, List.set_cons_zero, List.set_cons_succ]
            refine takeD (i := 7) (d := some 87) (v := (.int .i64 stop)) (by simp only [List.getElem?_toArray, List.getElem?_cons_succ, List.getElem?_cons_zero]; rfl) (by rfl) (by kernel_rfl) (by kernel_rfl) (by kernel_rfl) (fun _ _ _ h => h) (Or.inl ⟨by rfl, ?_⟩) hHeld ?_
            · intro wS hSw; obtain ⟨hS1, hS2, hS3⟩ := hSw; go_simp
            simp only [Act.put, List.setIfInBounds_toArray, List.set_cons_zero, List.set_cons_succ]
            refine takeD (i := 8) (d := some 88) (v := (.bool false)) (by simp only [List.getElem?_toArray, List.getElem?_cons_succ, List.getElem?_cons_zero]; rfl) (by rfl) (by kernel_rfl) (by kernel_rfl) (by kernel_rfl) (fun _ _ _ h => h) (Or.inl ⟨by rfl, ?_⟩) hHeld ?_
            · intro wS hSw; obtain ⟨hS1, hS2, hS3⟩ := hSw; go_simp
            simp only [Act.put, List.setIfInBounds_toArray, List.set_cons_zero, List.set_cons_succ]
            refine takeD (i := 9) (d := some 89) (v := (.bool false)) (by simp only [List.getElem?_toArray, List.getElem?_cons_succ, List.getElem?_cons_zero]; rfl) (by rfl) (by kernel_rfl) (by kernel_rfl) (by kernel_rfl) (fun _ _ _ h => h) (Or.inl ⟨by rfl, ?_⟩) hHeld ?_
            · intro wS hSw; obtain ⟨hS1, hS2, hS3⟩ := hSw; go_simp
            simp only [Act.put, List.setIfInBounds_toArray, List.set_cons_zero, List.set_cons_succ]
            refine takeD (i := 10) (d := some 90) (v := (.int .i64 ((cutCount b.length size : Nat) : Int))) (by simp only [List.getElem?_toArray, List.getElem?_cons_succ, List.getElem?_cons_zero]; rfl) (by rfl) (by kernel_rfl) (by kernel_rfl) (by kernel_rfl) (fun _ _ _ h => h) (Or.inl ⟨by rfl, ?_⟩) hHeld ?_
            · intro wS hSw; obtain ⟨hS1, hS2, hS3⟩ := hSw; go_simp
            simp only [Act.put, List.setIfInBounds_toArray, List.set_cons_zero, List.set_cons_succ]
            refine takeD (i := 11) (d := some 91) (v := (.slice Ao m co)) (by simp only [List.getElem?_toArray, List.getElem?_cons_succ, List.getElem?_cons_zero]; rfl) (by rfl) (by kernel_rfl) (by kernel_rfl) (by kernel_rfl) (fun _ _ _ h => h) (Or.inl ⟨by rfl, ?_⟩) hHeld ?_
            · intro wS hSw; obtain ⟨hS1, hS2, hS3⟩ := hSw; go_simp
            simp only [Act.put, List.setIfInBounds_toArray, List.set_cons_zero, List.set_cons_succ]
            refine takeD (i := 12) (d := some 92) (v := (.int .i64 (m : Int))) (by simp only [List.getElem?_toArray, List.getElem?_cons_succ, List.getElem?_cons_zero]; rfl) (by rfl) (by kernel_rfl) (by kernel_rfl) (by kernel_rfl) (fun _ _ _ h => h) (Or.inl ⟨by rfl, ?_⟩) hHeld ?_
            · intro wS hSw; obtain ⟨hS1, hS2, hS3⟩ := hSw; go_simp
            simp only [Act.put, List.setIfInBounds_toArray, List.set_cons_zero, List.set_cons_succ]
            refine takeD (i := 13) (d := some 93) (v := (.bool true)) (by simp only [List.getElem?_toArray, List.getElem?_cons_succ, List.getElem?_cons_zero]; rfl) (by rfl) (by kernel_rfl) (by kernel_rfl) (by kernel_rfl) (fun _ _ _ h => h) (Or.inl ⟨by rfl, ?_⟩) hHeld ?_
            · intro wS hSw; obtain ⟨hS1, hS2, hS3⟩ := hSw; go_simp
            simp only [Act.put, List.setIfInBounds_toArray, List.set_cons_zero, List.set_cons_succ]
            refine takeD (i := 14) (d := some 94) (v := (.bool true)) (by simp only [List.getElem?_toArray, List.getElem?_cons_succ, List.getElem?_cons_zero]; rfl) (by rfl) (by kernel_rfl) (by kernel_rfl) (by kernel_rfl) (fun _ _ _ h => h) (Or.inl ⟨by rfl, ?_⟩) hHeld ?_
            · intro wS hSw; obtain ⟨hS1, hS2, hS3⟩ := hSw; go_simp
            simp only [Act.put, List.setIfInBounds_toArray, List.set_cons_zero, List.set_cons_succ]
            refine takeD (i := 15) (d := some 95) (v := (.bool true)) (by simp only [List.getElem?_toArray, List.getElem?_cons_succ, List.getElem?_cons_zero]; rfl) (by rfl) (by kernel_rfl) (by kernel_rfl) (by kernel_rfl) (fun _ _ _ h => h) (Or.inl ⟨by rfl, ?_⟩) hHeld ?_
            · intro wS hSw; obtain ⟨hS1, hS2, hS3⟩ := hSw; go_simp
            simp only [Act.put, List.setIfInBounds_toArray, List.set_cons_zero, List.set_cons_succ]
            refine wpAnyH_ready (rs := [16]) (by kernel_rfl) (by simp) (AllReadyH.cons rfl (fun K hK => ?_) AllReadyH.nil)
            go_simp
            refine hK.out _ _ ?_ (fun hHeld => ?_)
            · obtain ⟨hS1, hS2, hS3⟩ := hHeld; exact ⟨(Kp.set _ _).cell hS1 (by simp; omega), (Kp.set _ _).cell hS2 (by simp; omega), (Kp.set _ _).cell hS3 (by simp; omega)⟩
            clear hK K
            refine wpAnyH_ready (rs := [17]) (by kernel_rfl) (by simp) (AllReadyH.cons rfl (fun K hK => ?_) AllReadyH.nil)
            go_simp
            refine hK.out _ _ ?_ (fun hHeld => ?_)
            · obtain ⟨hS1, hS2, hS3⟩ := hHeld; exact ⟨(Kp.set _ _).cell hS1 (by simp; omega), (Kp.set _ _).cell hS2 (by simp; omega), (Kp.set _ _).cell hS3 (by simp; omega)⟩
            clear hK K
            refine wpAnyH_ready (rs := [18]) (by kernel_rfl) (by simp) (AllReadyH.cons rfl (fun K hK => ?_) AllReadyH.nil)
            go_simp
            refine hK.out _ _ ?_ (fun hHeld => ?_)
            · obtain ⟨hS1, hS2, hS3⟩ := hHeld; exact ⟨(Kp.set _ _).cell hS1 (by simp; omega), (Kp.set _ _).cell hS2 (by simp; omega), (Kp.set _ _).cell hS3 (by simp; omega)⟩
            clear hK K
            refine wpAnyH_done (by kernel_rfl) ?_ _
            refine NoPanic.normal ?_
            obtain ⟨W3, hW3⟩ : ∃ W3, (((W2.setCell { block := w.heap.size + 1 + 1, off := 0 } (Value.slice Ao m co)).setCell { block := w.heap.size + 1 + 1 + 1, off := 0 } (Value.int IntKind.i64 (cutCode b.length size))).setCell { block := w.heap.size + 1 + 1 + 1 + 1, off := 0 } (Value.bool true)).drew = W3 := ⟨_, rfl⟩
            have H3 := threeSets (u := Value.slice Ao m co) (v := Value.int IntKind.i64 (cutCode b.length size)) (t := Value.bool true) r2.1 r3.1 r4.1 (by omega) (by omega) (by omega)
            rw [hW3] at H3 ⊢
            clear hW3
            obtain ⟨z2, z3, z4, hK3⟩ := H3
            rw [World.size_alloc] at hD hD2
            have hDW : D < W.heap.size := (Array.getElem?_eq_some_iff.1 hdef).1
            have dd2 : W3.heap[D2]? = some (.deferred (some [])) := (hK3.block D2 (Array.getElem?_eq_some_iff.1 hdef2).1 (by omega)).trans hdef2
            have dd1 : (W3.putObj D2 (.deferred none)).heap[D]? = some (.deferred (some [])) := (World.putObj_heap_other (by omega)).trans ((hK3.block D (by have := t0.size; omega) (by omega)).trans ((t0.block D hDW).trans hdef))
            have DD := Lib.hid (And.intro dd1 (And.intro dd2 (And.intro z2 (And.intro z3 z4))))
            clear dd1 dd2 z2 z3 z4 r0 r1 r2 r3 r4 rk
            go_wp2_with fail
            obtain ⟨dd1, dd2, z2, z3, z4⟩ := DD.out
            refine ⟨by simp, .inl ⟨_, _, rfl, run_takeDeferred dd2, ?_⟩⟩
            refine ⟨by simp, .inl ⟨_, _, rfl, run_takeDeferred dd1, ?_⟩⟩
            have y2 := nc_cell (o' := .deferred none) dd1 rfl (nc_cell (o' := .deferred none) dd2 rfl z2)
            have y3 := nc_cell (o' := .deferred none) dd1 rfl (nc_cell (o' := .deferred none) dd2 rfl z3)
            have y4 := nc_cell (o' := .deferred none) dd1 rfl (nc_cell (o' := .deferred none) dd2 rfl z4)
            obtain ⟨h1, h2, h4, h5, h7⟩ := HF.out
            have hcl := given_close (stop := stop) hbw hbx hne hlW hmm h1 h2 h4 h5 h7 t0 hK3 dd2 rfl dd1 rfl (by omega) (by omega) hm2.out
            clear h1 h2 h4 h5 h7 dd1 dd2 z2 z3 z4
            refine ⟨.tuple #[.slice Ao m co, .int .i64 (cutCode b.length size), .bool true], ?_, hcl⟩
            clear hcl
            simp [results, Tryd.results11, go_sem, y2, y3, y4]
        · rintro D2 c j W2 hD2 hj h; exact h.elim
end Go.Proofs.YtfmlkagcmkbebaaDoor
