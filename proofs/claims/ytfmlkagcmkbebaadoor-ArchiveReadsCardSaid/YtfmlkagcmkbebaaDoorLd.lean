/- Walks: byte strings compared, cloned, laid with marks behind them, lengthened. -/
import Derived.Test.YtfmlkagcmkbebaaDoorLc
namespace Go.Proofs.YtfmlkagcmkbebaaDoor
open Go.RowKit

/-- It looks, and answers v. -/
def Quiet (w : World) (v : Value) (e : Ending) (w' : World) : Prop := e = .returned v ∧ ∃ m, w' = w.drewN m
theorem below_drewN {B : Nat} (w : World) (n : Nat) : Below B w (w.drewN n) := ⟨rfl, rfl, rfl, Nat.le_refl _, fun _ _ => rfl⟩

theorem ne_u8 {x y : UInt8} (h : x ≠ y) : ((x.toNat : Int) != (y.toNat : Int)) = true := by
  rw [bne_iff_ne]; intro e; exact h (UInt8.toNat_inj.1 (by omega))

set_option maxRecDepth 100000 in
set_option maxHeartbeats 400000 in
theorem sameBytes_any (u v : Value) (xs ys : List UInt8) (w : World) (hu : Bs w u xs) (hv : Bs w v ys) : Calls Tryd.prog 12 #[u, v] w (Quiet w (.bool (decide (xs = ys)))) := by
  obtain ⟨A, c, rfl, hn, hc, hr⟩ := hu.form
  obtain ⟨A2, c2, rfl, hn2, hc2, hr2⟩ := hv.form
  have hm : xs.length ≤ 9223372036854775807 := by unfold maxLen at hc; omega
  have HR := Lib.hid hr
  have HR2 := Lib.hid hr2
  clear hr hr2 hu hv hc hc2
  by_cases hlen : xs.length = ys.length
  · have t1 : ((xs.length : Int) != (ys.length : Int)) = false := by rw [bne_eq_false_iff_eq]; omega
    have HL := Lib.hid hlen
    have hlen' : xs.length ≤ ys.length := by omega
    clear hlen
    go_enter Tryd.func12, Tryd.ntmps12
    go_wp2
    go_loopw [5] (fun i wr => ∃ k m : Nat, k ≤ xs.length ∧ i = .int .i64 k ∧ wr = w.drewN m ∧ xs.take k = ys.take k) (fun i _ => xs.length - (intOf i).toNat)
    case atStart => exact ⟨0, 0, Nat.zero_le _, rfl, rfl, rfl⟩
    case round =>
      obtain ⟨k, m, hk, rfl, rfl, he⟩ := hrel
      have HE := Lib.hid he
      clear he
      by_cases hlt : k < xs.length
      · obtain ⟨b, o, rfl, hcell⟩ := HR.out k hlt
        obtain ⟨b2, o2, rfl, hcell2⟩ := HR2.out k (by omega)
        unfold byt at hcell hcell2
        have hk2 : k < ys.length := by omega
        by_cases hxy : xs[k] = ys[k]
        · have HXY := Lib.hid hxy
          rw [← hxy] at hcell2
          clear hxy
          generalize hz : xs[k] = z at hcell hcell2
          clear hz
          go_wp2
          go_quiet (fail)
          go_wp2
          go_roundw
          case rel =>
            refine ⟨k + 1, _, by omega, by go_num, rfl, ?_⟩
            rw [List.take_succ_eq_append_getElem hlt, List.take_succ_eq_append_getElem hk2, HE.out, HXY.out]
          case measure => simp [intOf]; omega
        · have HXY : Hid (xs ≠ ys) := fun e => hxy (by subst e; rfl)
          have t2 := ne_u8 hxy
          clear hxy
          generalize xs[k] = z at hcell t2
          generalize ys[k] = z2 at hcell2 t2
          go_wp2
          go_quiet (fail)
          go_wp2
          go_ret
          exact ⟨by rw [decide_eq_false HXY.out]; rfl, _, World.drewN_drewN ..⟩
      · have hfin : xs = ys := by
          have hk' : k = xs.length := by omega
          have := HE.out
          rw [hk', List.take_length, HL.out, List.take_length] at this
          exact this
        have HF := Lib.hid hfin
        clear hfin
        go_wp2
        go_ret
        exact ⟨by rw [decide_eq_true HF.out]; rfl, _, rfl⟩
  · have t1 : ((xs.length : Int) != (ys.length : Int)) = true := by rw [bne_iff_ne]; omega
    have HL : Hid (xs ≠ ys) := fun e => hlen (by rw [e])
    clear hlen
    go_enter Tryd.func12, Tryd.ntmps12
    go_wp2
    go_ret
    exact ⟨by rw [decide_eq_false HL.out]; rfl, 0, rfl⟩

theorem Ob.lit0 (W : World) : Ob (W.alloc (.cells #[] 5)) W.heap.size (.slice (some ⟨W.heap.size, 0, none⟩) 0 0) [] :=
  ⟨rfl, .inr ⟨W.heap.size, 0, #[], rfl, Nat.le_refl _, heap_alloc_new W _, Nat.le_refl _, by unfold maxLen; omega, rfl, rfl⟩⟩
theorem Bs.nil_of_none {w : World} {n c : Nat} {xs : List UInt8} (h : Bs w (.slice none n c) xs) : xs = [] := by
  rcases Nat.eq_zero_or_pos xs.length with h0 | h0
  · exact List.eq_nil_of_length_eq_zero h0
  · obtain ⟨b, o, e⟩ := h.addr h0; cases e

set_option maxRecDepth 100000 in
/-- bytes.Clone -/
theorem Clone_any (v : Value) (xs : List UInt8) (hx : xs.length ≤ 1099511627776) (w : World) (hp : Bs w v xs) : Calls Tryd.prog 44 #[v] w (Gives w xs) := by
  obtain ⟨A, c, rfl, hn, hc, hr⟩ := hp.form
  have hm : xs.length ≤ 9223372036854775807 := by omega
  have HP := Lib.hid hp
  clear hp hr hc
  cases A with
  | none =>
    obtain rfl := HP.out.nil_of_none
    have hnil := fun w => Lib.run_eql_slice_nil (P := Tryd.prog) w 22 5 none 0 c 0 0 Tryd.underlying22
    go_enter Tryd.func44, Tryd.ntmps44
    go_wp2
    go_ret
    exact ⟨_, rfl, Ob.nil _ _, Below.refl _ w⟩
  | some a =>
    have hnil := fun w => Lib.run_eql_slice_nil (P := Tryd.prog) w 22 5 (some a) xs.length c 0 0 Tryd.underlying22
    go_enter Tryd.func44, Tryd.ntmps44
    go_wp2_with (at_builtin; refine appB w.heap.size rfl _ _ rfl _ [] _ xs rfl rfl (Ob.lit0 _) (HP.out.below ((Below.refl _ w).alloc (Nat.le_refl _) _)) (by simp only [List.length_nil]; omega) ((Below.refl _ w).alloc (Nat.le_refl _) _) (by simp) ?_; intro v1 w1 HO1 HB1 _ _)
    go_ret
    exact ⟨_, rfl, HO1, HB1⟩

set_option maxRecDepth 100000 in
theorem cutBytes_any (v : Value) (xs : List UInt8) (hx : xs.length ≤ 140737488351232) (w : World) (hp : Bs w v xs) : Calls Tryd.prog 9 #[v] w (Gives w (xs.take 262144)) := by
  obtain ⟨A, c, rfl, hn, hc, hr⟩ := hp.form
  have hm : xs.length ≤ 9223372036854775807 := by omega
  unfold maxLen at hc
  by_cases hl : 262144 < xs.length
  · obtain ⟨b, o, rfl⟩ := hp.addr (by omega)
    have HP := Lib.hid (hp.take (m := 262144) (by omega))
    clear hp hr
    go_enter Tryd.func9, Tryd.ntmps9
    go_wp2_with (at_builtin; refine appB w.heap.size rfl _ _ rfl _ [] _ (xs.take 262144) rfl rfl (Ob.nil _ _) HP.out (by simp only [List.length_nil, List.length_take]; omega) (Below.refl _ w) (Nat.le_refl _) ?_; intro v1 w1 HO1 HB1 _ _)
    go_ret
    exact ⟨_, rfl, HO1, HB1⟩
  · have HP := Lib.hid hp
    clear hp hr
    go_enter Tryd.func9, Tryd.ntmps9
    go_wp2_with (at_builtin; refine appB w.heap.size rfl _ _ rfl _ [] _ xs rfl rfl (Ob.nil _ _) HP.out (by simp only [List.length_nil]; omega) (Below.refl _ w) (Nat.le_refl _) ?_; intro v1 w1 HO1 HB1 _ _)
    go_ret
    exact ⟨_, rfl, by rw [List.take_of_length_le (by omega)]; exact HO1, HB1⟩

/-- Five marks stand behind what is laid. -/
def marks5 : List UInt8 := [201, 202, 203, 204, 205]
def Laid (w : World) (xs : List UInt8) (e : Ending) (w' : World) : Prop :=
  ∃ g cap, e = .returned (.slice (some ⟨g, 0, none⟩) xs.length cap) ∧ Ob w' w.heap.size (.slice (some ⟨g, 0, none⟩) (xs.length + 5) cap) (xs ++ marks5) ∧ Below w.heap.size w w'

set_option maxRecDepth 100000 in
theorem laid_any (v : Value) (xs : List UInt8) (hx : xs.length ≤ 1099511627776) (w : World) (hp : Bs w v xs) : Calls Tryd.prog 16 #[v] w (Laid w xs) := by
  obtain ⟨A, c, rfl, hn, hc, hr⟩ := hp.form
  have hm : xs.length ≤ 9223372036854775807 := by omega
  have HP := Lib.hid hp
  clear hp hr hc
  go_enter Tryd.func16, Tryd.ntmps16
  go_wp2_with (first | (at_builtin; refine appB w.heap.size rfl (.tmp 4) _ rfl _ [] _ xs rfl rfl (Ob.nil _ _) HP.out (by simp only [List.length_nil]; omega) (Below.refl _ w) (Nat.le_refl _) ?_; intro v1 w1 HO1 HB1 _ _; rw [List.nil_append] at HO1; have hsz1 := HB1.size) | (at_builtin; refine appB w.heap.size rfl (.tmp 7) _ rfl _ xs _ marks5 rfl rfl (HO1.below ((Below.refl _ _).alloc (Nat.le_refl _) _)) (Bs.litn _ _ marks5 5 _ (by rfl) (by rfl) (by omega) (by simp)) (by simp only [marks5, List.length_cons, List.length_nil]; omega) (HB1.alloc hsz1 _) (by simp; omega) ?_; intro v2 w2 HO2 HB2 _ _; have hsz2 := HB2.size; obtain ⟨g, c2, rfl, _, _, hcap⟩ := HO2.form (by simp [marks5]); simp only [List.length_append, marks5, List.length_cons, List.length_nil, Nat.reduceAdd] at hcap))
  go_ret
  exact ⟨g, c2, rfl, by rw [List.length_append] at HO2; exact HO2, HB2⟩

set_option maxRecDepth 100000 in
set_option maxHeartbeats 400000 in
theorem intact_any (A : Option Addr) (c : Nat) (v : Value) (xs : List UInt8) (hx : xs.length ≤ 1099511627776) (w : World) (hu : Bs w (.slice A (xs.length + 5) c) (xs ++ marks5)) (hv : Bs w v xs) :
    Calls Tryd.prog 19 #[.slice A xs.length c, v] w (Quiet w (.bool true)) := by
  obtain ⟨A2, c2, rfl, hn2, hc2, hr2⟩ := hv.form
  obtain ⟨-, hcap, hcm⟩ := hu.len
  have hm : xs.length ≤ 9223372036854775807 := by omega
  obtain ⟨b, o, rfl⟩ := hu.addr (by simp [marks5])
  have hu2 : Bs w (.slice (some ⟨b, o, none⟩) xs.length c) xs := by
    have := hu.take (m := xs.length) (by simp)
    rwa [List.take_left] at this
  have hr : ∀ j (hj : j < 5), w.cell? ⟨b, o + (xs.length + j), none⟩ = some (.int .u8 ((201 + j : Nat) : Int)) := by
    intro j hj
    obtain ⟨A', c', e, _, _, h⟩ := hu.form
    injection e with e1 e2 e3
    obtain ⟨b', o', e, h⟩ := h (xs.length + j) (by simp [marks5]; omega)
    rw [← e1] at e
    injection e with e
    injection e with e4 e5 _
    subst e4; subst e5
    rw [h]
    simp only [List.getElem_append_right (Nat.le_add_right xs.length j), Nat.add_sub_cancel_left]
    match j, hj with
    | 0, _ => rfl
    | 1, _ => rfl
    | 2, _ => rfl
    | 3, _ => rfl
    | 4, _ => rfl
  have HR := Lib.hid hr
  have HU := Lib.hid hu2
  have HV := Lib.hid hv
  have t1 : ((xs.length : Int) != (xs.length : Int)) = false := by simp
  unfold maxLen at hcm
  clear hr hu hu2 hv hr2 hc2
  go_enter Tryd.func19, Tryd.ntmps19
  go_wp2_with fail
  refine (sameBytes_any _ _ xs xs _ HU.out HV.out).mono ?_
  rintro e w1 ⟨rfl, m, rfl⟩
  rw [decide_eq_true rfl]
  go_wp2
  go_loopw [6] (fun i wr => ∃ k m : Nat, k ≤ 5 ∧ i = .int .i64 k ∧ wr = w.drewN m) (fun i _ => 5 - (intOf i).toNat)
  case atStart => exact ⟨0, m, Nat.zero_le _, rfl, rfl⟩
  case round =>
    obtain ⟨k, m2, hk, rfl, rfl⟩ := hrel
    by_cases hlt : k < 5
    · have hcell := HR.out k hlt
      have t2 : (((201 + k : Nat) : Int) != ((201 + k : Nat) : Int)) = false := by simp
      go_wp2
      go_roundw
      case rel => exact ⟨k + 1, m2, by omega, by go_num, rfl⟩
      case measure => simp [intOf]; omega
    · go_wp2
      go_ret
      exact ⟨rfl, m2, rfl⟩
end Go.Proofs.YtfmlkagcmkbebaaDoor
