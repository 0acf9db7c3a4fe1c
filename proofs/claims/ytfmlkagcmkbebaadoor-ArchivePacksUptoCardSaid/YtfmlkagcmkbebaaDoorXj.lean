/- The law ArchivePacks. -/
import Derived.Test.YtfmlkagcmkbebaaDoorXh
import Derived.Test.YtfmlkagcmkbebaaDoorXi
import Derived.Test.YtfmlkagcmkbebaaDoorLg
import Derived.Deep.QuietTactic
import Derived.BigQuiet
namespace Go.Proofs.YtfmlkagcmkbebaaDoor
open Go.RowKit

/-- The bytes that Pack answers. -/
def packR (top : Int) (l : List Rc) : List UInt8 := if packC top l = 0 then packB top.toNat l else []
theorem packB_none_len (t : Nat) (ht : t < 9223372036854775808) : (packB t []).length ≤ 8388608 := by
  have h1 := topF_len (top := t) (n := 0) (by omega) (by omega)
  have h2 := uvar_len10 (n := ([84] ++ uvar t ++ uvar 0).length) (by omega)
  have h3 : packHead.length = 5 := rfl
  have h4 : (recsF []).length = 0 := rfl
  unfold packB
  rw [List.length_append, lastF_len]
  unfold bodyP
  rw [List.length_append, List.length_append]
  show packHead.length + (topF t 0).length + (recsF []).length + 11 ≤ _
  unfold topF; rw [frame_len]
  omega
theorem below_kp {w w' : World} {S : Nat → Prop} {B : Nat} (h : Kp w w' S) (hB : B ≤ w.heap.size) (hs : ∀ k, S k → B ≤ k) : Below B w w' :=
  ⟨h.os, h.tape, h.output, h.size, fun k hk => h.block k (by omega) (fun e => by have := hs k e; omega)⟩
theorem PackE.un {w w' : World} {top : Int} {l : List Rc} {e : Ending} (h : PackE w top l e w') : ∃ v, e = .returned (.tuple #[v, .int .i64 (packC top l)]) ∧ Ob w' w.heap.size v (packR top l) ∧ Below w.heap.size w w' := by
  obtain ⟨hb, ⟨h1, rfl⟩ | ⟨h1, v, rfl, ho⟩⟩ := h
  · exact ⟨_, rfl, by unfold packR; rw [if_neg h1]; exact Ob.nil _ _, hb⟩
  · exact ⟨v, by rw [h1], by unfold packR; rw [if_pos h1]; exact ho, hb⟩
theorem packR_len (top : Int) (l : List Rc) : (packR top l).length ≤ 8388608 := by
  unfold packR
  split
  · rename_i h
    unfold packC at h
    split at h
    · omega
    · split at h
      · rename_i h2; exact absurd h h2
      · split at h
        · omega
        · unfold packB; rw [List.length_append, lastF_len]; omega
  · simp
/-- What the law asks of the records. -/
structure RecsOk (l : List Rec) : Prop where
  len : l.length ≤ 1048576
  nums : ∀ p, p ∈ l → p.1.Nums
  fit : ∀ p, p ∈ l → p.1.Fit
  da : ∀ p, p ∈ l → p.1.da.length ≤ 1099511627776
theorem RecsOk.of {l l' : List Rec} (h : RecsOk l) (he : ∀ r, r ∈ l'.map Prod.fst → r ∈ l.map Prod.fst) (hl : l'.length ≤ 1048576) : RecsOk l' := by
  have key : ∀ p, p ∈ l' → ∃ q, q ∈ l ∧ q.1 = p.1 := fun p hp => by
    have := he p.1 (List.mem_map_of_mem hp)
    obtain ⟨q, hq, e⟩ := List.mem_map.1 this
    exact ⟨q, hq, e⟩
  refine ⟨hl, fun p hp => ?_, fun p hp => ?_, fun p hp => ?_⟩
  · obtain ⟨q, hq, e⟩ := key p hp; rw [← e]; exact h.nums q hq
  · obtain ⟨q, hq, e⟩ := key p hp; rw [← e]; exact h.fit q hq
  · obtain ⟨q, hq, e⟩ := key p hp; rw [← e]; exact h.da q hq
/-- The law's answer: true, and all that was there is as it was. -/
def YesP (w : World) (e : Ending) (w' : World) : Prop := e = .returned (.bool true) ∧ Below w.heap.size w w'

set_option maxRecDepth 100000 in
set_option maxHeartbeats 4000000 in
theorem archivePacks_any (top : Int) (rv : Value) (l : List Rec) (htop : -9223372036854775808 ≤ top ∧ top ≤ 9223372036854775807) (hok : RecsOk l) (w : World) (hT : TabA w) (hp : Rs w rv l) :
    Calls Tryd.prog 6 #[.int .i64 top, rv] w (YesP w) := by
  have HT := Lib.hid hT
  have HOK := Lib.hid hok
  have HTOP := Lib.hid htop
  have HC1 := Lib.hid (cutRecs_any rv l hok.len hok.da w hp)
  clear hT hok hp htop
  go_enter Tryd.func6, Tryd.ntmps6
  go_wp2_with fail
  refine HC1.out.mono ?_
  rintro e w1 ⟨v1, l1, rfl, HO1, he1, hb1⟩
  have hok1 : RecsOk l1 := HOK.out.of (fun r hr => by rw [he1] at hr; exact List.mem_of_mem_take (by rw [← List.map_take]; exact hr)) (by have := congrArg List.length he1; simp at this; omega)
  have HOK1 := Lib.hid hok1
  obtain ⟨A1, c1, rfl⟩ := HO1.slice
  have s1 := hb1.size
  clear he1
  have HC2 := Lib.hid (awake_any w1 (HT.out.below hb1))
  clear hok1
  go_wp2_with fail
  refine HC2.out.mono ?_
  rintro e w2 ⟨rfl, hb2⟩
  have s2 := hb2.size
  have HR2 := Lib.hid (HO1.below hb2).rs
  have HC3 := Lib.hid (laidRecs_any _ l1 HOK1.out.len HOK1.out.da w2 HR2.out)
  have hbw2 := hb1.trans (hb2.mono s1)
  go_wp2_with fail
  refine HC3.out.mono ?_
  rintro e w3 ⟨v3, l3, rfl, HL3, he3, hb3⟩
  have s3 := hb3.size
  have hbw3 := hbw2.trans (hb3.mono hbw2.size)
  obtain ⟨A3, c3, rfl⟩ : ∃ A c, v3 = .slice A l3.length c := by obtain ⟨A, c, e, _⟩ := HL3.own; exact ⟨A, c, e⟩
  have hok3 : RecsOk l3 := HOK1.out.of (fun r hr => by rw [he3] at hr; exact hr) (by have := congrArg List.length he3; have := HOK1.out.len; simp at *; omega)
  have HOK3 := Lib.hid hok3
  have HL := Lib.hid HL3
  have HE3 := Lib.hid he3
  have HC4 := Lib.hid (Pack_any top _ l3 hok3.len HTOP.out hok3.nums hok3.fit w3 (HT.out.below hbw3).t (HT.out.below hbw3).r (HT.out.below hbw3).m HL3.rs)
  clear hok3 HL3
  go_wp2_with fail
  refine HC4.out.mono ?_
  rintro e w4 hP4
  rw [he3] at hP4
  obtain ⟨v4, rfl, HO4, hb4⟩ := hP4.un
  have s4 := hb4.size
  have hbw4 := hbw3.trans (hb4.mono hbw3.size)
  have hr4 := (HR2.out.below hb3).below hb4
  have HR4 := Lib.hid hr4
  have HC5 := Lib.hid (rPack_any top _ l1 HOK1.out.len HTOP.out HOK1.out.nums HOK1.out.fit w4 (HT.out.below hbw4).q hr4)
  clear hP4 hr4
  go_wp2_with fail
  refine HC5.out.mono ?_
  rintro e w5 hP5
  obtain ⟨v5, rfl, HO5, hb5⟩ := hP5.un
  clear hP5
  clear he3
  have hCC : (packC top (l1.map Prod.fst) != packC top (l1.map Prod.fst)) = false := by simp
  obtain ⟨P, hR⟩ : ∃ P, packR top (l1.map Prod.fst) = P := ⟨_, rfl⟩
  have hPl : P.length ≤ 8388608 := by rw [← hR]; exact packR_len _ _
  rw [hR] at HO4 HO5
  have HPR := Lib.hid hR
  clear hR
  obtain ⟨cc, hcc⟩ : ∃ cc, packC top (l1.map Prod.fst) = cc := ⟨_, rfl⟩
  rw [hcc]
  have HCC := Lib.hid hcc
  clear hcc hCC
  have s5 := hb5.size
  have hbw5 := hbw4.trans (hb5.mono hbw4.size)
  have HO45 := Lib.hid (HO4.below hb5)
  have HV4 := Lib.hid (fun k (e : v4.ownBlock = some k) => HO4.lt k e)
  have HSB := sameBytes_any v4 v5 P P w5 (HO4.below hb5).bs HO5.bs
  rw [decide_eq_true rfl] at HSB
  have HSS := Lib.hid HSB
  have HB5 := Lib.hid HO5
  clear HSB HO4 HO5
  go_wp2_with fail
  refine HSS.out.mono ?_
  rintro e wz ⟨rfl, m5, rfl⟩
  have hd5 : Below w5.heap.size w5 (w5.drewN m5) := below_drewN _ _
  have hb35 := (hb4.trans (hb5.mono s4)).trans (hd5.mono (by omega))
  have HIN := Lib.hid (intactRecs_any (.slice A3 l3.length c3) (.slice A1 l1.length c1) w2.heap.size l3 l1 HOK3.out.len HOK3.out.da HE3.out (w5.drewN m5) (HL.out.below hb35) (((HR4.out.below hb5).below hd5)))
  go_wp2_with fail
  refine HIN.out.mono ?_
  rintro e w6 ⟨rfl, hb6⟩
  have hb36 := hb35.trans (hb6.mono (by have := hb35.size; omega))
  have hb56 : Below w5.heap.size w5 w6 := hd5.trans hb6
  have s6 := hb56.size
  have hbw6 := hbw5.trans (hb56.mono hbw5.size)
  have hb46 := hb5.trans (hb56.mono s5)
  clear hb6 hd5 hb35 HIN HSS
  go_wp2_with fail
  obtain ⟨W6, hW6⟩ : ∃ W6, w6.alloc (.cells #[.slice none 0 0, .slice none 0 0] 29) = W6 := ⟨_, rfl⟩
  have hal6 : Below w6.heap.size w6 W6 := by rw [← hW6]; exact (Below.refl _ _).alloc (Nat.le_refl _) _
  have hz6 : W6.heap.size = w6.heap.size + 1 := by rw [← hW6, World.size_alloc]
  have hbk : Book1 W6 w6.heap.size W6.heap.size (.slice none 0 0) (.slice none 0 0) [] [] := by
    rw [← hW6]
    exact ⟨heap_alloc_new w6 _, by rw [World.size_alloc]; omega, World.ownsRow_nil _ _ _ _, Ob.nil _ _, fun k e => by simp [Value.ownBlock] at e, fun k e => by simp [Value.ownBlock] at e, rfl, fun i u m a => by simp at a, fun u hu => by simp at hu⟩
  have hO6 : Ob W6 0 v4 P := own_mono ((HO45.out.below hb56).below hal6) (Nat.zero_le _)
  have hO56 := ((HB5.out.below hb56).below hal6)
  rw [hW6]
  clear hW6
  have hb4W := hb46.trans (hal6.mono (by omega))
  have hb3W := hb36.trans (hal6.mono (by omega))
  have hbwW := hbw6.trans (hal6.mono hbw6.size)
  have HLW := Lib.hid (HL.out.below hb3W)
  have HRW := Lib.hid (HR4.out.below hb4W)
  refine (B2.take_any w6.heap.size W6.heap.size (.slice none 0 0) (.slice none 0 0) v4 [] [] P W6 hbk (Nat.le_refl _) hO6 (fun k e => ⟨by have := (HV4.out k e).2; omega, by simp [Value.ownBlock], by simp [Value.ownBlock], by simp⟩) (by omega) (by simp)).mono ?_
  rintro e w7 ⟨rfl, vL, vM, L, M, hbk7, hL4, hk7, hf7, _⟩
  have hS7 : ∀ k, (Foot w6.heap.size (.slice none 0 0) (.slice none 0 0) k ∨ some k = v4.ownBlock) → w3.heap.size ≤ k ∧ (k < w4.heap.size ∨ w6.heap.size ≤ k) := fun k h => by
    rcases h with (h | h | h) | h
    · omega
    · simp [Value.ownBlock] at h
    · simp [Value.ownBlock] at h
    · have := HV4.out k h.symm; omega
  have hb7 : Below w3.heap.size W6 w7 := below_kp hk7 (by omega) (fun k h => (hS7 k h).1)
  have hO57 : Ob w7 w4.heap.size v5 P := own_kp hO56 hk7 (fun k hk h => by
    have h1 := hS7 k h
    have h2 := HB5.out.lt k hk
    omega)
  have hf7' : ∀ k, Foot w6.heap.size vL vM k → w6.heap.size ≤ k := fun k h => by
    rcases hf7 k h with (h | h | h) | h
    · omega
    · simp [Value.ownBlock] at h
    · simp [Value.ownBlock] at h
    · omega
  have s7 := hk7.size
  have hbw7 : Below w.heap.size w w7 := hbwW.trans (hb7.mono hbw3.size)
  have hb37 : Below w3.heap.size w3 w7 := hb3W.trans hb7
  have HBK7 := Lib.hid hbk7
  have HL4 := Lib.hid hL4
  have HO57 := Lib.hid hO57
  have HF7 := Lib.hid hf7'
  clear hk7 hf7 hf7' hS7 hbk7 hL4 hO57 hO56 hO6 hbk
  have HC7 := Lib.hid (Pack_none 5 (by omega) w7 (HT.out.below hbw7))
  go_wp2_with fail
  refine HC7.out.mono ?_
  rintro e w8 ⟨x, rfl, HOx, hb8⟩
  have s8 := hb8.size
  have hbw8 := hbw7.trans (hb8.mono hbw7.size)
  have HC8 := Lib.hid (rPack_none 5 (by omega) w8 (HT.out.below hbw8))
  have hX := packB_none_len 5 (by omega)
  generalize packB 5 [] = X at HOx HC8 hX
  go_wp2_with fail
  refine HC8.out.mono ?_
  rintro e w9 ⟨y, rfl, HOy, hb9⟩
  have s9 := hb9.size
  have hbw9 := hbw8.trans (hb9.mono hbw8.size)
  have HOx9 := HOx.below hb9
  have HSB9 := sameBytes_any x y X X w9 HOx9.bs HOy.bs
  rw [decide_eq_true rfl] at HSB9
  have HSS9 := Lib.hid HSB9
  have HX9 := Lib.hid HOx9
  clear HSB9 HOx HOy HOx9
  go_wp2_with fail
  refine HSS9.out.mono ?_
  rintro e wz ⟨rfl, m9, rfl⟩
  obtain ⟨w10, hw10⟩ : ∃ w10, w9.drewN m9 = w10 := ⟨_, rfl⟩
  have hb10 : Below w9.heap.size w9 w10 := by rw [← hw10]; exact below_drewN _ _
  have hz10 : w10.heap.size = w9.heap.size := by rw [← hw10]; rfl
  rw [hw10]
  clear hw10 HSS9
  have hb710 : Below w7.heap.size w7 w10 := (hb8.trans (hb9.mono s8)).trans (hb10.mono (by omega))
  have hbk10 : Book1 w10 w6.heap.size w7.heap.size vL vM L M := HBK7.out.below (Nat.le_refl _) hb710
  have HX10 := HX9.out.below hb10
  have hO510 := HO57.out.below hb710
  go_wp2_with fail
  refine (B2.take_any w6.heap.size w7.heap.size vL vM x L M X w10 hbk10 (by omega) (own_mono HX10 (Nat.zero_le _)) (fun k e => hbk10.fresh (HX10.lt k e).1) (by omega) (by have := HL4.out; simp at this; omega)).mono ?_
  rintro e w11 ⟨rfl, vL', vM', L', M', hbk11, _, hk11, _, _⟩
  have hS11 : ∀ k, (Foot w6.heap.size vL vM k ∨ some k = x.ownBlock) → w6.heap.size ≤ k := fun k h => by
    rcases h with h | h
    · exact HF7.out k h
    · have := (HX10.lt k h.symm).1; omega
  have hb11 : Below w6.heap.size w10 w11 := below_kp hk11 (by omega) hS11
  have hO511 : Ob w11 w4.heap.size v5 P := own_kp hO510 hk11 (fun k hk h => by
    have h1 := hS11 k h
    have h2 := HB5.out.lt k hk
    omega)
  have s11 := hk11.size
  have hb311 : Below w3.heap.size w3 w11 := (hb37.trans (hb710.mono (by omega))).trans (hb11.mono (by omega))
  have hbw11 : Below w.heap.size w w11 := hbw3.trans (hb311.mono hbw3.size)
  have hT11 := HT.out.below hbw11
  have HC11 := Lib.hid (Pack_any top _ l3 HOK3.out.len HTOP.out HOK3.out.nums HOK3.out.fit w11 hT11.t hT11.r hT11.m (HL.out.below hb311).rs)
  have HBK11 := Lib.hid hbk11
  have HO511 := Lib.hid hO511
  clear hk11 hS11 hbk11 hO511 hO510 hbk10 HX10 hT11
  go_wp2_with fail
  refine HC11.out.mono ?_
  rintro e w12 hP12
  rw [HE3.out] at hP12
  obtain ⟨v12, rfl, HO12, hb12⟩ := hP12.un
  rw [HPR.out] at HO12
  rw [HCC.out]
  have s12 := hb12.size
  have HSB12 := sameBytes_any v12 v5 P P w12 HO12.bs (HO511.out.below hb12).bs
  rw [decide_eq_true rfl] at HSB12
  have HSS12 := Lib.hid HSB12
  have hbk12 := HBK11.out.below (Nat.le_refl _) hb12
  have hbw12 := hbw11.trans (hb12.mono hbw11.size)
  clear hP12 HSB12 HO12
  go_wp2_with fail
  refine HSS12.out.mono ?_
  rintro e wz ⟨rfl, m12, rfl⟩
  have hd12 : Below w12.heap.size w12 (w12.drewN m12) := below_drewN _ _
  have HWH := Lib.hid (whole_any w6.heap.size w11.heap.size vL' vM' L' M' (w12.drewN m12) (hbk12.below s12 (hd12.mono s12)))
  go_wp2_with fail
  refine HWH.out.mono ?_
  rintro e wz ⟨rfl, m13, rfl⟩
  go_wp2_with fail
  go_ret
  exact ⟨rfl, hbw12.trans (below_drewN _ _)⟩
end Go.Proofs.YtfmlkagcmkbebaaDoor
