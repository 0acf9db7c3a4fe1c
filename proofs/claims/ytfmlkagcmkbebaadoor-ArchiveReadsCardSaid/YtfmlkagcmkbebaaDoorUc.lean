/- record: bounds and Check, walked. -/
import Derived.Test.YtfmlkagcmkbebaaDoorUb
import Derived.Laws.Cells
import Derived.Laws.BytesString
import Derived.Deep.DeepCutAuto
namespace Go.Proofs.YtfmlkagcmkbebaaDoor
open Go.RowKit

theorem fold_push (xs : List UInt8) (s : ByteArray) : (xs.map fun x : UInt8 => (x.toNat : Int)).foldl (fun r n => r.push (UInt8.ofNat n.toNat)) s = ⟨s.data ++ xs.toArray⟩ := by
  induction xs generalizing s with
  | nil => simp
  | cons x xs ih =>
    rw [List.map_cons, List.foldl_cons, ih]
    have e : (s.push (UInt8.ofNat ((x.toNat : Int)).toNat)).data = s.data.push x := by simp [ByteArray.push]
    rw [e]; simp
/-- 'string(b)'. -/
theorem conv_bs {w : World} {v : Value} {xs : List UInt8} (h : Bs w v xs) : (convert 22 9 v).run Tryd.prog w = .ok (.string ⟨xs.toArray⟩) w := by
  obtain ⟨A, c, rfl, hn, hc, hr⟩ := h.form
  rw [run_convert_bytes_string w 22 9 5 A xs.length c Tryd.underlying22 Tryd.underlying5 Tryd.underlying9]
  cases A with
  | none =>
    have := h.nil_of_none
    subst this
    simp [Conv.bytesToString, Sem.run_pure]; rfl
  | some a =>
    have hl : (loadCells a xs.length).run Tryd.prog w = .ok ((xs.map fun x : UInt8 => (x.toNat : Int)).map (Value.int .u8)).toArray w := by
      have := run_loadCells_list (P := Tryd.prog) (w := w) a (bys xs) (fun j v hj => by
        have hj' : j < xs.length := by have := (List.getElem?_eq_some_iff.1 hj).1; simpa [bys] using this
        obtain ⟨b, o, e, hcell⟩ := hr j hj'
        injection e with e
        subst e
        rw [add_plain, hcell, ← hj]
        simp [bys, hj'])
      rw [bys_length] at this
      rw [this]
      simp [bys, byt, List.map_map, Function.comp_def]
    rw [run_bytesToString w a xs.length c _ hl, fold_push, show ByteArray.empty.data = #[] from rfl, Array.empty_append]

/-- What a record in memory is: its cells, its data. -/
structure RecIn (w : World) (b : Nat) (r : Rc) (dv : Value) : Prop where
  at_ : RecAt w b r dv
  da : Bs w dv r.da
theorem RecIn.below {w w' : World} {b : Nat} {r : Rc} {dv : Value} (h : RecIn w b r dv) (hb : Below w.heap.size w w') : RecIn w' b r dv := ⟨h.at_.below hb, h.da.below hb⟩
/-- What stays within the model's bounds. -/
structure Rc.Fit (r : Rc) : Prop where
  nm : r.nm.size ≤ 1099511627776
  da : r.da.length ≤ 1099511627776
  tm : r.tm ≤ 9223372036854775807
/-- The tables that package text reads. -/
structure TabR (w : World) : Prop where
  t : TabT w
  u : TabU w
theorem TabR.below {w w' : World} (h : TabR w) (hb : Below w.heap.size w w') : TabR w' := ⟨h.t.below hb, h.u.below hb⟩

theorem within_is {n lo hi c : Int} (h : Hid (withinC n lo hi = c)) (w : World) : Calls Tryd.prog 113 #[.int .i64 n, .int .i64 lo, .int .i64 hi] w fun e w' => e = .returned (.int .i64 c) ∧ w = w' := by
  have := within_any n lo hi w; rw [h.out] at this; exact this

set_option maxRecDepth 100000 in
set_option maxHeartbeats 4000000 in
theorem bounds_any (b : Nat) (r : Rc) (dv : Value) (t : Nat) (h3 : 3 ≤ t) (h11 : t ≤ 11) (hf : r.Fit) (w : World) (hT : TabR w) (hr : RecIn w b r dv) :
    Calls Tryd.prog 78 #[.pointer (some ⟨b, 0, none⟩), .int .i64 (t : Int)] w fun e w' => e = .returned (.int .i64 (boundsC r t)) ∧ Below w.heap.size w w' := by
  obtain ⟨A, c, rfl, hn, hc, _⟩ := hr.da.form
  have HR := Lib.hid hr
  have HT := Lib.hid hT
  have HF := Lib.hid hf
  have c0 := hr.at_.c0
  have c1 := hr.at_.c1
  clear hT hf
  go_enter Tryd.func78, Tryd.ntmps78
  go_upto_region 1 with fail
  go_cut [5] (fun o wx => w = wx ∧ o = .bool (oldB r))
  case first =>
    by_cases hv : r.v = 1
    · by_cases hk : r.kd = 1
      · have e1 : (r.v == 1) = true := by rw [hv]; rfl
        have e2 : (r.kd == 1) = true := by rw [hk]; rfl
        have e3 := Lib.hid (show oldB r = true by unfold oldB; rw [e1, e2]; rfl)
        clear hv hk
        go_wp2
        go_meet
        exact ⟨rfl, by rw [e3.out]⟩
      · have e1 : (r.v == 1) = true := by rw [hv]; rfl
        have e2 : (r.kd == 1) = false := by rw [beq_eq_false_iff_ne]; exact hk
        have e3 := Lib.hid (show oldB r = false by unfold oldB; rw [e1, e2]; rfl)
        clear hv hk
        go_wp2
        go_meet
        exact ⟨rfl, by rw [e3.out]⟩
    · have e1 : (r.v == 1) = false := by rw [beq_eq_false_iff_ne]; exact hv
      have e3 := Lib.hid (show oldB r = false by unfold oldB; rw [e1]; rfl)
      clear hv
      go_wp2
      go_meet
      exact ⟨rfl, by rw [e3.out]⟩
  case rest =>
    obtain ⟨rfl, rfl⟩ := hcut
    clear c0 c1
    rcases (by omega : t = 3 ∨ t = 4 ∨ t = 5 ∨ t = 6 ∨ t = 7 ∨ t = 8 ∨ t = 9 ∨ t = 10 ∨ t = 11) with rfl | rfl | rfl | rfl | rfl | rfl | rfl | rfl | rfl
    · have c3 := hr.at_.c3
      clear hr
      cases ho : oldB r with
      | true =>
        have e := Lib.hid (show boundsC r 3 = withinC r.st 1 32 by unfold boundsC; rw [if_pos rfl, ho]; rfl)
        clear ho
        go_wp2_with fail
        refine (within_any r.st 1 32 w).mono ?_
        rintro e w1 ⟨rfl, rfl⟩
        go_wp2_with fail
        go_ret
        exact ⟨by rw [e.out]; rfl, Below.refl _ _⟩
      | false =>
        have e := Lib.hid (show boundsC r 3 = withinC r.st 0 31 by unfold boundsC; rw [if_pos rfl, ho]; rfl)
        clear ho
        go_wp2_with fail
        refine (within_any r.st 0 31 w).mono ?_
        rintro e w1 ⟨rfl, rfl⟩
        go_wp2_with fail
        go_ret
        exact ⟨by rw [e.out]; rfl, Below.refl _ _⟩
    · have c4 := hr.at_.c4
      clear hr
      generalize oldB r = o
      go_wp2_with fail
      refine (within_any r.tr 1 1000 w).mono ?_
      rintro e w1 ⟨rfl, rfl⟩
      go_wp2_with fail
      go_ret
      exact ⟨rfl, Below.refl _ _⟩
    · have c5 := hr.at_.c5
      clear hr
      generalize oldB r = o
      go_wp2_with fail
      refine (within_any r.tm 0 _ w).mono ?_
      rintro e w1 ⟨rfl, rfl⟩
      go_wp2_with fail
      go_ret
      exact ⟨rfl, Below.refl _ _⟩
    · have c6 := hr.at_.c6
      clear hr
      generalize oldB r = o
      go_wp2_with fail
      refine (within_any r.la 0 1 w).mono ?_
      rintro e w1 ⟨rfl, rfl⟩
      go_wp2_with fail
      go_ret
      exact ⟨rfl, Below.refl _ _⟩
    · have c1 := hr.at_.c1
      have c7 := hr.at_.c7
      clear hr
      generalize oldB r = o
      by_cases hk : r.kd = 7
      · have e := Lib.hid (show boundsC r 7 = withinC r.co 0 2 by simp [boundsC, hk])
        have e2 : (r.kd == 7) = true := by rw [hk]; rfl
        clear hk
        go_wp2_with fail
        refine (within_any r.co 0 2 w).mono ?_
        rintro e w1 ⟨rfl, rfl⟩
        go_wp2_with fail
        go_ret
        exact ⟨by rw [e.out]; rfl, Below.refl _ _⟩
      · have e := Lib.hid (show boundsC r 7 = 0 by simp [boundsC, hk])
        have e2 : (r.kd == 7) = false := by rw [beq_eq_false_iff_ne]; exact hk
        clear hk
        go_wp2_with fail
        go_ret
        exact ⟨by rw [e.out]; rfl, Below.refl _ _⟩
    · have c8 := hr.at_.c8
      clear hr
      generalize oldB r = o
      go_wp2_with fail
      refine (within_any r.cn 1 32 w).mono ?_
      rintro e w1 ⟨rfl, rfl⟩
      go_wp2_with fail
      go_ret
      exact ⟨rfl, Below.refl _ _⟩
    · have c8 := hr.at_.c8
      have c9 := hr.at_.c9
      clear hr
      generalize oldB r = o
      go_wp2_with fail
      go_quiet ((go_at_call 113; exact q_same (within_any _ _ _ _)))
      go_wp2_with fail
      go_ret
      exact ⟨rfl, below_drewN _ _⟩
    · have c10 := hr.at_.c10
      clear hr
      generalize oldB r = o
      go_wp2_with fail
      refine (label_any r.nm (by have := HF.out.nm; unfold maxLen; omega) w HT.out.t HT.out.u).mono ?_
      rintro e w1 ⟨rfl, hb⟩
      go_wp2_with fail
      go_ret
      exact ⟨rfl, hb⟩
    · have c11 := hr.at_.c11
      have hcv := conv_bs hr.da
      clear hr
      by_cases hd : 16384 < r.da.length
      · have e := Lib.hid (show boundsC r 11 = 36 by simp [boundsC, hd])
        have hd2 : (16384 : Int) < r.da.length := by omega
        generalize oldB r = o
        go_wp2_with fail
        go_ret
        exact ⟨by rw [e.out]; rfl, Below.refl _ _⟩
      · have hd2 : ¬ (16384 : Int) < r.da.length := by omega
        cases ho : oldB r with
        | true =>
          have e := Lib.hid (show boundsC r 11 = labelC ⟨r.da.toArray⟩ by simp [boundsC, hd, ho])
          clear ho
          go_wp2_with fail
          refine (label_any ⟨r.da.toArray⟩ (by have := HF.out.da; unfold maxLen; show r.da.toArray.size ≤ _; simp; omega) w HT.out.t HT.out.u).mono ?_
          rintro e w1 ⟨rfl, hb⟩
          go_wp2_with fail
          go_ret
          exact ⟨by rw [e.out]; rfl, hb⟩
        | false =>
          have e := Lib.hid (show boundsC r 11 = 0 by simp [boundsC, hd, ho])
          clear ho
          go_wp2_with fail
          go_ret
          exact ⟨by rw [e.out]; rfl, Below.refl _ _⟩
end Go.Proofs.YtfmlkagcmkbebaaDoor
