/- ArchiveCuts. -/
import Derived.Test.YtfmlkagcmkbebaaDoorLq
import Derived.Test.YtfmlkagcmkbebaaDoorLg
import Derived.Lib.SlBytesConst
import Derived.Deep.QuietTactic
import Derived.BigQuiet
namespace Go.Proofs.YtfmlkagcmkbebaaDoor
open Go.RowKit Go.Shelf
attribute [local go_sem] Oper.semAt_some

/-- The law's answer: true, and all that was there is as it was. -/
def Yes (w : World) (e : Ending) (w' : World) : Prop := e = .returned (.bool true) ∧ Below w.heap.size w w'

theorem Bss.cell {w : World} {A : Option Addr} {n c : Nat} {xss : List (List UInt8)} (h : Bss w (.slice A n c) xss) {k : Nat} (hk : k < xss.length) :
    ∃ b o A1 c1, A = some ⟨b, o, none⟩ ∧ w.cell? ⟨b, o + k, none⟩ = some (.slice A1 xss[k].length c1) ∧ Bs w (.slice A1 xss[k].length c1) xss[k] := by
  obtain ⟨vs, ⟨A0, c0, e, hl, _, _, hr⟩, h2, h3⟩ := h
  injection e with e1 e2 e3
  subst e1
  have hkv : k < vs.length := by omega
  obtain ⟨b, o, e, hc⟩ := hr k _ (List.getElem?_eq_getElem hkv)
  have hb := h3 k _ _ (List.getElem?_eq_getElem hkv) (List.getElem?_eq_getElem hk)
  obtain ⟨A1, c1, e4, _⟩ := hb.form
  rw [e4] at hc hb
  exact ⟨b, o, A1, c1, e, hc, hb⟩

theorem Bs.litf (W : World) (t : TypeId) (fr : Nat × Nat) (cs : Array Value) (xs : List UInt8) (n b : Nat) (h : cs.toList = bys xs) (hn : n = xs.length) (hm : n ≤ 9223372036854775807) (hb : b = W.heap.size) :
    Bs (W.alloc (.cells cs t fr)) (.slice (some ⟨b, 0, none⟩) n n) xs := by
  subst hn; subst hb
  refine ⟨_, _, rfl, by simp [bys], Nat.le_refl _, by unfold maxLen; omega, fun j u hj => ⟨_, 0, rfl, ?_⟩⟩
  rw [cell_of_row _ _ _ _ _ _ (heap_alloc_new W _), Nat.zero_add, ← Array.getElem?_toList, h]; exact hj

theorem Obs.getp {w : World} {B m k : Nat} {A : Option Addr} {n c : Nat} {ps : Nat → List UInt8} (h : Obs w B (.slice A n c) ((List.range m).map ps)) (hk : k < m) :
    ∃ g A1 c1, A = some ⟨g, 0, none⟩ ∧ g < w.heap.size ∧ w.cell? ⟨g, k, none⟩ = some (.slice A1 (ps k).length c1) ∧ Bs w (.slice A1 (ps k).length c1) (ps k) := by
  obtain ⟨vs, h1, h2, h3⟩ := h
  rw [List.length_map, List.length_range] at h1 h2
  have hget : vs[k]? = some vs[k] := List.getElem?_eq_getElem (by omega)
  have ho := h3 k vs[k] (ps k) hget (by rw [List.getElem?_map, List.getElem?_range hk]; rfl)
  obtain ⟨A1, c1, e1⟩ := ho.slice
  rcases h1.2 with ⟨e6, e7⟩ | ⟨g, cap, cur, e6, _⟩
  · simp at e6; omega
  · have hc := h1.cells (g := g) (by rw [e6]; rfl) k _ hget
    rw [add_plain, Nat.zero_add] at hc
    injection e6 with e6
    have hlt := (h1.lt g (by rw [e6]; rfl)).2
    exact ⟨g, A1, c1, e6, hlt, by rw [hc, e1], by rw [← e1]; exact ho.bs⟩

theorem same_yes {w : World} {u v : Value} {xs : List UInt8} (n : Nat) (hu : Bs w u xs) (hv : Bs w v xs) : Calls Tryd.prog 12 #[u, v] (w.drewN n) fun e w'' => e = .returned (.bool true) ∧ ∃ m, w'' = w.drewN m := by
  refine Calls.quiet_of ?_
  have h := sameBytes_any u v xs xs (w.drewN n) (hu.below (below_drewN _ _)) (hv.below (below_drewN _ _))
  rw [decide_eq_true rfl] at h
  exact h

theorem cuts_abc : cutCount 3 2 = 2 := by decide

set_option maxRecDepth 100000 in
set_option maxHeartbeats 4000000 in
theorem archiveCuts_any (vb : Value) (x : List UInt8) (size stop : Int) (hx : x.length ≤ 140737488351232) (w : World) (ht : Tab w) (hp : Bs w vb x) :
    Calls Tryd.prog 3 #[vb, .int .i64 size, .int .i64 stop] w (Yes w) := by
  have htb : 0 < w.heap.size := World.block_lt_of_cell? w _ (ht 0 (by decide))
  have HT := Lib.hid ht
  have HP := Lib.hid hp
  clear ht hp
  have kc := fun (w : World) (C : Array Value) (n c : Nat) => Lib.run_convert_bytes_const (P := Tryd.prog) w 22 5 C n c Tryd.underlying22 Tryd.underlying5
  have kc2 := fun (W : World) (o : Obj) (C : Array Value) (n c : Nat) => kc (W.alloc o) C n c
  simp only [World.size_alloc] at kc2
  go_enter Tryd.func3, Tryd.ntmps3
  go_wp2_with fail
  refine (cutBytes_any vb x hx w HP.out).mono ?_
  rintro e w1 ⟨v1, rfl, HO1, HB1⟩
  have hbl : (x.take 262144).length ≤ 262144 := List.length_take_le _ _
  generalize x.take 262144 = b at HO1 hbl
  go_wp2_with fail
  refine (rCut_any v1 b size hbl w1 HO1.bs).mono ?_
  rintro e w2 hc
  obtain ⟨HB2, v2, rfl, HW2⟩ := hc.cuts
  clear hc
  have hB2 := HB1.trans (HB2.mono HB1.size)
  go_wp2_with fail
  refine (rCut_any _ [97, 98, 99] 2 (by decide) _ (Bs.litf w2 _ _ _ [97, 98, 99] 3 _ rfl rfl (by omega) rfl)).mono ?_
  rintro e w3 hc
  obtain ⟨HB3, v3, rfl, HW3⟩ := hc.cuts
  clear hc
  go_wp2_with fail
  clear kc kc2
  have hbkE : Book1 (w3.alloc (.cells #[.slice none 0 0, .slice none 0 0] 29)) w3.heap.size (w3.heap.size + 1) (.slice none 0 0) (.slice none 0 0) [] [] :=
    ⟨heap_alloc_new w3 _, by omega, World.ownsRow_nil _ _ _ _, Ob.nil _ _, fun k e => by simp [Value.ownBlock] at e, fun k e => by simp [Value.ownBlock] at e, rfl, fun i u m a => by simp at a, fun u hu => by simp at hu⟩
  have s1 := HB1.size
  have s2 := HB2.size
  have s3 := HB3.size
  rw [World.size_alloc] at s3
  have HBW : Below w.heap.size w (w3.alloc (.cells #[.slice none 0 0, .slice none 0 0] 29)) :=
    ((hB2.alloc (by omega) _).trans (HB3.mono (by simp; omega))).alloc (by omega) _
  obtain ⟨w4, hw4⟩ : ∃ w4, w3.alloc (.cells #[.slice none 0 0, .slice none 0 0] 29) = w4 := ⟨_, rfl⟩
  have hz4 : w4.heap.size = w3.heap.size + 1 := by rw [← hw4, World.size_alloc]
  have HB4 : Below w3.heap.size w3 w4 := by rw [← hw4]; exact (Below.refl _ _).alloc (Nat.le_refl _) _
  rw [hw4] at hbkE HBW ⊢
  clear hw4
  rw [← hz4] at hbkE
  have HBK := Lib.hid hbkE
  clear hbkE
  have hz4' := Lib.hid hz4
  clear hz4
  have hlt4 : w3.heap.size < w4.heap.size := by have := hz4'.out; omega
  obtain ⟨w5, hw5⟩ : ∃ w5, w4.alloc (.cells #[.int .u8 97, .int .u8 98, .int .u8 99] 5 (3, 4)) = w5 := ⟨_, rfl⟩
  have HB5 : Below w4.heap.size w4 w5 := by rw [← hw5]; exact (Below.refl _ _).alloc (Nat.le_refl _) _
  have habc : Bs w5 (.slice (some ⟨w3.heap.size + 1, 0, none⟩) 3 3) [97, 98, 99] := by rw [← hw5]; exact Bs.litf w4 _ _ _ [97, 98, 99] 3 _ rfl rfl (by omega) hz4'.out.symm
  rw [hw5]
  clear hw5
  have s5 := HB5.size
  have HBW5 := HBW.trans (HB5.mono (by have := HBW.size; omega))
  refine (given_any w3.heap.size (.slice none 0 0) (.slice none 0 0) _ [] [] [97, 98, 99] 2 (-1) w5 (HT.out.below HBW5) (by omega) ((HBK.out.below (Nat.le_refl _) HB5).mono s5) (by simp) habc (by simp)).mono ?_
  rintro e w6 ⟨vo, m, vL1, vM1, L1, M1, rfl, HG, HBK1, hL1, HB6, hm⟩
  have hm2 : m = 2 := by
    rcases hm with ⟨h, _⟩ | ⟨h, _⟩
    · omega
    · rw [h]; exact cuts_abc
  subst hm2
  clear hm
  have e3 : cuts [97, 98, 99] 2 = (List.range 2).map (piece [97, 98, 99] (2 : Int).toNat) := by unfold cuts; rw [show ([97, 98, 99] : List UInt8).length = 3 from rfl, cuts_abc]
  rw [e3] at HW3
  clear e3
  have e4 : cutCode ([97, 98, 99] : List UInt8).length 2 = 0 := by decide
  rw [e4]
  clear e4
  have HW36 := HW3.below (HB4.trans ((HB5.mono (by omega)).trans (HB6.mono (Nat.le_refl _))))
  obtain ⟨Av3, cv3, rfl⟩ := HW3.slice
  obtain ⟨Avo, cvo, rfl⟩ := HG.slice
  rw [List.length_map, List.length_range] at HW36 HG
  obtain ⟨ga, Aa, ca, rfl, _, qa, ba⟩ := HG.getp (k := 0) (by omega)
  obtain ⟨gb, Ab, cb, eb, _, qb, bb⟩ := HG.getp (k := 1) (by omega)
  injection eb with eb; injection eb with eb; subst eb
  obtain ⟨gc, Ac, cc, rfl, _, qc, bc⟩ := HW36.getp (k := 0) (by omega)
  obtain ⟨gd, Ad, cd, ed, _, qd, bd⟩ := HW36.getp (k := 1) (by omega)
  injection ed with ed; injection ed with ed; subst ed
  have HBa := Lib.hid ba
  have HBb := Lib.hid bb
  have HBc := Lib.hid bc
  have HBd := Lib.hid bd
  clear ba bb bc bd
  generalize piece [97, 98, 99] (2 : Int).toNat 0 = p0 at *
  generalize piece [97, 98, 99] (2 : Int).toNat 1 = p1 at *
  go_wp2_with fail
  go_quiet ((go_at_call 12; first | with_reducible exact same_yes _ HBa.out HBc.out | with_reducible exact same_yes _ HBb.out HBd.out))
  go_wp2_with fail
  obtain ⟨w7, hw7⟩ : ∃ w7, w6.drewN nq = w7 := ⟨_, rfl⟩
  have hz7 : w7.heap.size = w6.heap.size := by rw [← hw7]; rfl
  have HB7 : ∀ B, Below B w6 w7 := fun B => by rw [← hw7]; exact below_drewN _ _
  rw [hw7]
  clear hw7 HBa HBb HBc HBd qa qb qc qd HW36 HG
  have HB37 : Below w3.heap.size w3 w7 := HB4.trans ((HB5.mono (by omega)).trans (HB6.trans (HB7 _)))
  have HB27 : Below w2.heap.size w2 w7 := ((Below.refl _ _).alloc (Nat.le_refl _) _).trans ((HB3.mono (by simp)).trans (HB37.mono (by omega)))
  have HB17 : Below w1.heap.size w1 w7 := HB2.trans (HB27.mono s2)
  have HBW7 : Below w.heap.size w w7 := HB1.trans (HB17.mono s1)
  have hv1 : Bs w7 v1 b := HO1.bs.below HB17
  refine (given_any w3.heap.size vL1 vM1 v1 L1 M1 b size stop w7 (HT.out.below HBW7) (by omega) ((HBK1.below (Nat.le_refl _) (HB7 _)).mono (by omega)) (by simp at hL1; omega) hv1 hbl).mono ?_
  rintro e w8 ⟨vo2, m, vL2, vM2, L2, M2, rfl, HG2, HBK2, hL2, HB8, hm⟩
  clear hv1
  have HW28 := HW2.below (HB27.trans (HB8.mono (by omega)))
  have HBW8 := HBW7.trans (HB8.mono (by omega))
  have hlen : (cuts b size).length = cutCount b.length size := by simp [cuts]
  obtain ⟨Av, cv, rfl⟩ := HW28.slice
  obtain ⟨Ag, cg, rfl⟩ := HG2.slice
  rw [List.length_map, List.length_range] at HG2 ⊢
  rw [hlen] at HW28 ⊢
  unfold cuts at HW28
  have hle := @cutCount_le b.length size
  generalize cutCount b.length size = N at *
  generalize cutCode b.length size = cod at *
  have ecc : (cod != cod) = false := by simp
  have HLE := Lib.hid hlen
  clear hlen
  go_upto_region 11 with fail
  go_cut [94] (fun t wx => w8 = wx ∧ t = .bool (decide (0 ≤ stop ∧ stop < (N : Int))))
  case first =>
    by_cases hs1 : 0 ≤ stop
    · go_wp2
      go_meet
      exact ⟨rfl, congrArg Value.bool (by rw [Bool.eq_iff_iff]; simp; omega)⟩
    · go_wp2
      go_meet
      exact ⟨rfl, congrArg Value.bool (by rw [Bool.eq_iff_iff]; simp; omega)⟩
  obtain ⟨rfl, rfl⟩ := hcut
  go_upto_if 94 with fail
  go_cut [7] (fun t wx => w8 = wx ∧ t = .slice Av m cv)
  case first =>
    by_cases hs : 0 ≤ stop ∧ stop < (N : Int)
    · obtain rfl : (m : Int) = stop := by
        rcases hm with ⟨h, _⟩ | ⟨_, h⟩
        · exact h
        · exact absurd (Int.toNat_of_nonneg hs.1) (h stop.toNat (by omega))
      rw [decide_eq_true hs]
      obtain ⟨hs1, hs2⟩ := hs
      have hN0 : m < N := by omega
      obtain ⟨g0, A0, c0, rfl, hg0, q0, b0⟩ := HW28.getp hN0
      have hcc : N ≤ cv := by obtain ⟨_, h1, _⟩ := HW28; obtain ⟨A9, c9, e9, _, h9, _⟩ := Rd.of_own h1; injection e9 with _ e91 e92; rw [List.length_map, List.length_range] at h9; omega
      clear hm q0 b0
      go_wp2
      go_meet
      exact ⟨rfl, rfl⟩
    · obtain rfl : m = N := by
        rcases hm with ⟨h, h2⟩ | ⟨h, _⟩
        · exact absurd ⟨by omega, by omega⟩ hs
        · exact h
      rw [decide_eq_false hs]
      go_wp2
      go_meet
      exact ⟨rfl, rfl⟩
  case rest =>
    obtain ⟨rfl, rfl⟩ := hcut
    have hmN : m ≤ N := by rcases hm with ⟨_, h⟩ | ⟨h, _⟩ <;> omega
    clear hm
    have HG := Lib.hid HG2
    have HW := Lib.hid HW28
    clear HG2 HW28
    have emm : ((m : Int) != (m : Int)) = false := by simp
    go_wp2_with fail
    go_loopw [15] (fun i wr => ∃ k d : Nat, k ≤ m ∧ i = .int .i64 k ∧ wr = w8.drewN d) (fun i _ => m - (intOf i).toNat)
    case atStart => exact ⟨0, 0, Nat.zero_le _, rfl, rfl⟩
    case round =>
      obtain ⟨k, d, hk, rfl, hwr⟩ := hrel
      have hbd : ∀ B, Below B w8 wr := fun B => by rw [hwr]; exact below_drewN _ _
      have hWR := Lib.hid hwr
      clear hwr
      by_cases hlt : k < m
      · obtain ⟨ga, Aa, ca, rfl, _, qa, ba⟩ := (HG.out.below (hbd _)).getp hlt
        obtain ⟨gc, Ac, cc, rfl, _, qc, bc⟩ := (HW.out.below (hbd _)).getp (Nat.lt_of_lt_of_le hlt hmN)
        have HBa := Lib.hid ba
        have HBc := Lib.hid bc
        clear ba bc
        generalize piece b size.toNat k = p at *
        go_wp2_with fail
        go_quiet ((go_at_call 12; with_reducible exact same_yes _ HBa.out HBc.out))
        go_wp2_with fail
        go_roundw
        case rel => exact ⟨k + 1, d + nq, by omega, by go_num, by rw [hWR.out, World.drewN_drewN]⟩
        case measure => simp [intOf]; omega
      · obtain rfl : k = m := by omega
        go_wp2_with fail
        refine (whole_any w3.heap.size _ vL2 vM2 L2 M2 wr (HBK2.below (Nat.le_refl _) (hbd _))).mono ?_
        rintro e w9 ⟨rfl, d9, rfl⟩
        go_wp2_with fail
        go_ret
        exact ⟨rfl, (HBW8.trans (hbd _)).trans (below_drewN _ _)⟩
end Go.Proofs.YtfmlkagcmkbebaaDoor
