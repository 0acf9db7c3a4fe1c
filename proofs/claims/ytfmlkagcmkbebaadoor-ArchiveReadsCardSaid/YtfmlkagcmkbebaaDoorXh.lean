/- awake of the law. -/
import Derived.Test.YtfmlkagcmkbebaaDoorXg
import Derived.Test.YtfmlkagcmkbebaaDoorWk
import Derived.Test.YtfmlkagcmkbebaaDoorWx
namespace Go.Proofs.YtfmlkagcmkbebaaDoor
open Go.RowKit

/-- All tables that packing and reading look at. -/
structure TabA (w : World) : Prop where
  q : TabQ w
  t : Tab w
  r : TabR w
  m : TabM w
theorem TabA.below {w w' : World} (h : TabA w) (hb : Below w.heap.size w w') : TabA w' := ⟨h.q.below hb, h.t.below hb, h.r.below hb, h.m.below hb⟩
theorem packC_none (t : Nat) (ht : t < 9223372036854775808) : packC (t : Int) [] = 0 := by
  have h1 := topF_len (top := t) (n := 0) (by omega) (by omega)
  have h2 := uvar_len10 (n := ([84] ++ uvar t ++ uvar 0).length) (by omega)
  have h3 : packHead.length = 5 := rfl
  unfold packC
  rw [if_neg (by omega), if_neg (by simp [chkF]), if_neg]
  rw [Int.toNat_natCast]
  unfold bodyP
  rw [List.length_append, List.length_append]
  show ¬ 8388597 < packHead.length + (topF t 0).length + (recsF []).length
  unfold topF; rw [frame_len]
  have h4 : (recsF []).length = 0 := rfl
  omega
theorem PackE.none {w w' : World} {t : Nat} {e : Ending} (h : PackE w (t : Int) [] e w') (ht : t < 9223372036854775808) : ∃ v, e = .returned (.tuple #[v, .int .i64 0]) ∧ Ob w' w.heap.size v (packB t []) ∧ Below w.heap.size w w' := by
  obtain ⟨hb, h | h⟩ := h
  · exact absurd (packC_none t ht) h.1
  · obtain ⟨_, v, e, ho⟩ := h
    rw [Int.toNat_natCast] at ho
    exact ⟨v, e, ho, hb⟩
theorem Rs.nil (w : World) : Rs w (.slice none 0 0) [] := ⟨Rd.nil _ _, fun p hp => by simp at hp⟩
theorem Pack_none (t : Nat) (ht : t < 9223372036854775808) (w : World) (hT : TabA w) : Calls Tryd.prog 24 #[.agg #[.int .i64 (t : Int), .slice none 0 0]] w fun e w' => ∃ v, e = .returned (.tuple #[v, .int .i64 0]) ∧ Ob w' w.heap.size v (packB t []) ∧ Below w.heap.size w w' :=
  (Pack_any t (.slice none 0 0) [] (by simp) (by omega) (fun p hp => by simp at hp) (fun p hp => by simp at hp) w hT.t hT.r hT.m (Rs.nil w)).mono fun _ _ h => PackE.none h ht
theorem rPack_none (t : Nat) (ht : t < 9223372036854775808) (w : World) (hT : TabA w) : Calls Tryd.prog 25 #[.agg #[.int .i64 (t : Int), .slice none 0 0]] w fun e w' => ∃ v, e = .returned (.tuple #[v, .int .i64 0]) ∧ Ob w' w.heap.size v (packB t []) ∧ Below w.heap.size w w' :=
  (rPack_any t (.slice none 0 0) [] (by simp) (by omega) (fun p hp => by simp at hp) (fun p hp => by simp at hp) w hT.q (Rs.nil w)).mono fun _ _ h => PackE.none h ht

set_option maxRecDepth 100000 in
set_option maxHeartbeats 2000000 in
theorem awake_any (w : World) (hT : TabA w) : Calls Tryd.prog 22 #[] w fun e w' => e = .returned (.bool true) ∧ Below w.heap.size w w' := by
  have HT := Lib.hid hT
  have HC1 := Lib.hid (rPack_none 0 (by omega) w hT)
  clear hT
  go_enter Tryd.func22, Tryd.ntmps22
  go_wp2_with fail
  refine HC1.out.mono ?_
  rintro e w1 ⟨v1, rfl, HO1, hb1⟩
  have HC2 := Lib.hid (Pack_none 0 (by omega) w1 (HT.out.below hb1))
  have s1 := hb1.size
  go_wp2_with fail
  refine HC2.out.mono ?_
  rintro e w2 ⟨v2, rfl, HO2, hb2⟩
  have hb12 := hb1.trans (hb2.mono s1)
  have hbs1 := (HO1.below hb2).bs
  have HS := Lib.hid hbs1
  rw [none0_eq] at hbs1
  have HC3 := Lib.hid (Read_none v1 w2 (HT.out.below hb12).t hbs1)
  have HB2 := HO2.bs
  clear hbs1 HO1 HO2
  go_wp2_with fail
  refine HC3.out.mono ?_
  rintro e w3 ⟨rfl, hb3⟩
  have hb13 := hb12.trans (hb3.mono hb12.size)
  have hal : Below w3.heap.size w3 (w3.alloc (.cells #[.int .i64 0, .slice none 0 0] 53)) := (Below.refl _ _).alloc (Nat.le_refl _) _
  have HSB := sameBytes_any v2 v1 (packB 0 []) (packB 0 []) (w3.alloc (.cells #[.int .i64 0, .slice none 0 0] 53)) ((HB2.below hb3).below hal) ((HS.out.below hb3).below hal)
  rw [decide_eq_true rfl] at HSB
  have HSS := Lib.hid HSB
  clear HSB
  go_wp2_with fail
  refine HSS.out.mono ?_
  rintro e w5 ⟨rfl, m, rfl⟩
  have k0 := Lib.hid (show (w3.alloc (.cells #[.int .i64 0, .slice none 0 0] 53)).heap[w3.heap.size]? = _ from heap_alloc_new w3 (.cells #[.int .i64 0, .slice none 0 0] 53))
  generalize hw4 : (w3.alloc (.cells #[.int .i64 0, .slice none 0 0] 53)).drewN m = w4
  have k1 : w4.heap[w3.heap.size]? = some (.cells #[.int .i64 0, .slice none 0 0] 53 (0, 0)) := by rw [← hw4]; exact heap_alloc_new w3 (.cells #[.int .i64 0, .slice none 0 0] 53)
  have HB4 := Lib.hid (show Below w.heap.size w w4 by rw [← hw4]; exact (hb13.trans (hal.mono hb13.size)).trans (below_drewN _ _))
  have q0 : w4.cell? ⟨w3.heap.size, 0, none⟩ = some (.int .i64 0) := by rw [cell_of_row w4 _ 0 _ _ _ k1]; rfl
  have q1 : w4.cell? ⟨w3.heap.size, 1, none⟩ = some (.slice none 0 0) := by rw [cell_of_row w4 _ 1 _ _ _ k1]; rfl
  clear hw4 k1 k0 hal hb13 hb12 hb3 hb2 hb1 HB2
  go_wp2_with fail
  go_ret
  exact ⟨rfl, HB4.out⟩
end Go.Proofs.YtfmlkagcmkbebaaDoor
