/- text.Name and record.label. -/
import Derived.Test.YtfmlkagcmkbebaaDoorTb
namespace Go.Proofs.YtfmlkagcmkbebaaDoor
open Go.RowKit

theorem inName_is {r : Int} {b : Bool} (h : Hid (inName r = b)) (w : World) (ht : TabT w) : Calls Tryd.prog 132 #[.int .i32 r] w fun e w' => e = .returned (.bool b) ∧ ∃ m, w' = w.drewN m := by
  have := inName_any r w ht; rw [h.out] at this; exact this
theorem Letter_is {r : Int} {b : Bool} (h : Hid (letter r = b)) (w : World) (ht : TabT w) : Calls Tryd.prog 133 #[.int .i32 r] w fun e w' => e = .returned (.bool b) ∧ ∃ m, w' = w.drewN m := by
  have := Letter_any r w ht; rw [h.out] at this; exact this
theorem stray_no {s : ByteArray} {i : Nat} {r : Int} (h : r ≠ 65533) (hi : i ≤ s.size) (hs : s.size ≤ maxLen) (w : World) (ht : TabU w) : Calls Tryd.prog 131 #[.string s, .int .i64 (i : Int), .int .i32 r] w fun e w' => e = .returned (.bool false) ∧ w = w' :=
  (stray_any s i r hi hs w ht).mono fun _ _ ⟨b, he, _, hb⟩ => by obtain ⟨rfl, hw⟩ := hb h; exact ⟨he, hw⟩

/-- What Name answers: no error just where the text is a name. -/
def NameSaid (s : ByteArray) (w : World) (e : Ending) (w' : World) : Prop := ∃ c p : Int, e = .returned (.tuple #[.int .i64 c, .int .i64 p]) ∧ (c = 0 ↔ nameOk s = true) ∧ Below w.heap.size w w'
theorem TabT.below {w w' : World} (h : TabT w) (hb : Below w.heap.size w w') : TabT w' := fun i hi => by
  obtain ⟨h1, h2⟩ := h i hi
  exact ⟨(hb.cell (World.block_lt_of_cell? w _ h1)).trans h1, (hb.cell (World.block_lt_of_cell? w _ h2)).trans h2⟩

theorem TabU.below {w w' : World} (h : TabU w) (hb : Below w.heap.size w w') : TabU w' := by
  obtain ⟨h1, h2⟩ := h
  refine ⟨fun c hc => (hb.cell (World.block_lt_of_cell? w _ (h1 c hc))).trans (h1 c hc), fun i hi => ?_⟩
  obtain ⟨h3, h4⟩ := h2 i hi
  exact ⟨(hb.cell (World.block_lt_of_cell? w _ h3)).trans h3, (hb.cell (World.block_lt_of_cell? w _ h4)).trans h4⟩
theorem below_drewN {B : Nat} (w : World) (n : Nat) : Below B w (w.drewN n) := ⟨rfl, rfl, rfl, Nat.le_refl _, fun _ _ => rfl⟩

theorem iter_drew {w wd : World} {d x p : Nat} {s : ByteArray} (h : w.drewN d = wd) : (wd.iter s p).drewN x = (w.drewN (d + x)).iter s p := by
  subst h; rw [← World.drewN_drewN]; rfl
theorem iter_down {wd : World} {s : ByteArray} {pos n x h : Nat} (hz : wd.heap.size = h) (hn : 1 ≤ n) (hp : pos < s.size) : s.size - ((wd.iter s (pos + n)).drewN x).iterPos h < s.size - (wd.iter s pos).iterPos h := by
  subst hz
  have e1 : ((wd.iter s (pos + n)).drewN x).iterPos wd.heap.size = pos + n := World.iterPos_iter wd s (pos + n)
  rw [e1, World.iterPos_iter]; omega
set_option maxRecDepth 100000 in
set_option maxHeartbeats 2000000 in
theorem Name_any (s : ByteArray) (hs : s.size ≤ maxLen) (w : World) (ht : TabT w) (hu : TabU w) : Calls Tryd.prog 124 #[.string s] w (NameSaid s w) := by
  have HT := Lib.hid ht
  have HU := Lib.hid hu
  have HS := Lib.hid hs
  unfold maxLen at hs
  clear ht hu
  go_enter Tryd.func124, Tryd.ntmps124
  go_wp2
  go_loopw [4] (fun n w' => ∃ (pos b k d : Nat), w' = (w.drewN d).iter s pos ∧ n = .int .i64 (k : Int) ∧ nameF s b pos k = nameOk s ∧ s.size ≤ pos + b ∧ k ≤ 48) (fun _ w' => s.size - w'.iterPos w.heap.size)
  case atStart => exact ⟨0, s.size, 0, 0, rfl, rfl, rfl, by omega, by omega⟩
  case round =>
    obtain ⟨pos, b, k, d, rfl, rfl, hc, hb, hk⟩ := hrel
    obtain ⟨wd, hwd⟩ : ∃ wd, w.drewN d = wd := ⟨_, rfl⟩
    have HWD := Lib.hid hwd
    have hbd : Below w.heap.size w wd := by rw [← hwd]; exact below_drewN _ _
    have hzd := Lib.hid (show wd.heap.size = w.heap.size by rw [← hwd]; rfl)
    rw [hwd]
    clear hwd
    have HC := Lib.hid hc
    clear hc
    by_cases hp : pos < s.size
    · have hwd := decode_width s pos hp
      have hst : ∃ b', b = b' + 1 ∧ nameF s b pos k = (decide (k < 48) && inName (runeAt s pos) && (decide (0 < k) || letter (runeAt s pos)) && nameF s b' (pos + (Utf8.decode s pos).2) (k + 1)) := by
        cases b with
        | zero => omega
        | succ b => exact ⟨b, rfl, by simp [nameF, hp]⟩
      obtain ⟨b', hb', hst⟩ := hst
      rw [inName_rune, letter_rune] at hst
      have HST := Lib.hid hst
      have HB := Lib.hid hb'
      clear hst hb'
      have hd1 := decode_le s pos
      obtain ⟨r, hr⟩ : ∃ r, (Utf8.decode s pos).1 = r := ⟨_, rfl⟩
      obtain ⟨n, hn⟩ : ∃ n, (Utf8.decode s pos).2 = n := ⟨_, rfl⟩
      have HE := Lib.hid (show nameOk s = (decide (k < 48) && inName (r : Int) && (decide (0 < k) || letter (r : Int)) && nameF s b' (pos + n) (k + 1)) by rw [← HC.out, HST.out, hr, hn])
      have hnx2 : ∀ ty, (Instr.next (.pointer (some ⟨w.heap.size, 0, none⟩)) true ty).run Tryd.prog (wd.iter s pos) = .ok (.tuple #[.bool true, .int .i64 (pos : Int), .int .i32 (r : Int)]) (wd.iter s (pos + n)) := fun ty => by
        have := run_next_any (P := Tryd.prog) wd s pos ty hp
        rw [hzd.out, hr, hn] at this; exact this
      rw [hr] at hd1
      rw [hn] at hwd
      clear hr hn HST HC
      have hbi : Below w.heap.size w (wd.iter s (pos + n)) := hbd.alloc (by rw [hzd.out]; omega) _
      have hsz : (wd.iter s (pos + n)).heap.size = w.heap.size + 1 := by rw [← hzd.out]; exact World.size_alloc _ _
      have HSZ := Lib.hid hsz
      have HT1 : Hid (TabT (wd.iter s (pos + n))) := Lib.hid (HT.out.below hbi)
      have HU1 : Hid (TabU (wd.iter s (pos + n))) := Lib.hid (TabU.below HU.out hbi)
      clear hsz
      by_cases hk48 : k = 48
      · subst hk48
        have hno := Lib.hid (show nameOk s = false by rw [HE.out]; rfl)
        go_wp2_with fail
        go_ret2
        exact ⟨_, _, rfl, by rw [hno.out]; simp, hbi⟩
      · have hk3 : ((k : Int) == 48) = false := by rw [beq_eq_false_iff_ne]; omega
        have hk4 : k < 48 := by omega
        by_cases hr3 : r = 65533
        · have hno := Lib.hid (show nameOk s = false by rw [HE.out, hr3]; rw [show ((65533 : Nat) : Int) = 65533 from rfl, inName_err]; simp)
          have hni : Hid (inName (r : Int) = false) := Lib.hid (by rw [hr3]; exact inName_err)
          clear hr3
          go_wp2_with fail
          refine (stray_any s pos _ (by omega) HS.out _ HU1.out).mono ?_
          rintro e w2 ⟨b2, rfl, hb2, _⟩
          have hbb := hbi.trans (hb2.mono (by rw [HSZ.out]; omega))
          have HT2 := HT1.out.below hb2
          have HT3 := Lib.hid HT2
          clear HT2
          cases b2 with
          | true =>
            go_wp2_with fail
            go_ret2
            exact ⟨_, _, rfl, by rw [hno.out]; simp, hbb⟩
          | false =>
            go_wp2_with fail
            refine (inName_is hni _ HT3.out).mono ?_
            rintro e w3 ⟨rfl, m, rfl⟩
            go_wp2_with fail
            go_ret2
            exact ⟨_, _, rfl, by rw [hno.out]; simp, hbb.trans (below_drewN _ _)⟩
        · have hr4 : (r : Int) ≠ 65533 := by omega
          go_wp2_with fail
          refine (stray_no hr4 (by omega) HS.out _ HU1.out).mono ?_
          rintro e w2 ⟨rfl, rfl⟩
          cases hin : inName (r : Int) with
          | false =>
            have hno := Lib.hid (show nameOk s = false by rw [HE.out, hin]; simp)
            have HIN := Lib.hid hin
            clear hin
            go_wp2_with fail
            refine (inName_is HIN _ HT1.out).mono ?_
            rintro e w3 ⟨rfl, m, rfl⟩
            go_wp2_with fail
            go_ret2
            exact ⟨_, _, rfl, by rw [hno.out]; simp, hbi.trans (below_drewN _ _)⟩
          | true =>
            have HIN := Lib.hid hin
            clear hin
            by_cases hk0 : k = 0
            · subst hk0
              cases hlt : letter (r : Int) with
              | false =>
                have hno := Lib.hid (show nameOk s = false by rw [HE.out, hlt]; simp)
                have HLT := Lib.hid hlt
                clear hlt
                go_wp2_with fail
                refine (inName_is HIN _ HT1.out).mono ?_
                rintro e w3 ⟨rfl, m, rfl⟩
                go_wp2_with fail
                refine (Letter_is HLT _ (HT1.out.below (below_drewN _ _))).mono ?_
                rintro e w4 ⟨rfl, m2, rfl⟩
                go_wp2_with fail
                go_ret2
                exact ⟨_, _, rfl, by rw [hno.out]; simp, hbi.trans (below_drewN _ _)⟩
              | true =>
                have HLT := Lib.hid hlt
                clear hlt
                go_wp2_with fail
                refine (inName_is HIN _ HT1.out).mono ?_
                rintro e w3 ⟨rfl, m, rfl⟩
                go_wp2_with fail
                refine (Letter_is HLT _ (HT1.out.below (below_drewN _ _))).mono ?_
                rintro e w4 ⟨rfl, m2, rfl⟩
                go_wp2_with fail
                go_roundw
                case rel => exact ⟨pos + n, b', 1, d + (m + m2), iter_drew HWD.out, rfl, by rw [HE.out, HIN.out, HLT.out]; rfl, by have := HB.out; omega, by omega⟩
                case measure => exact iter_down hzd.out (by omega) hp
            · have hk1 : ((k : Int) == 0) = false := by rw [beq_eq_false_iff_ne]; omega
              go_wp2_with fail
              refine (inName_is HIN _ HT1.out).mono ?_
              rintro e w3 ⟨rfl, m, rfl⟩
              go_wp2_with fail
              go_roundw
              case rel => exact ⟨pos + n, b', k + 1, d + m, iter_drew HWD.out, by go_num, by rw [HE.out, HIN.out, decide_eq_true hk4, decide_eq_true (by omega : 0 < k)]; simp, by have := HB.out; omega, by omega⟩
              case measure => exact iter_down hzd.out (by omega) hp
    · have hnx2 : ∀ ty, (Instr.next (.pointer (some ⟨w.heap.size, 0, none⟩)) true ty).run Tryd.prog (wd.iter s pos) = .ok (.tuple #[.bool false]) (wd.iter s pos) := fun ty => by
        have := run_next_end (P := Tryd.prog) wd s pos ty hp
        rw [hzd.out] at this; exact this
      have hbi : Below w.heap.size w (wd.iter s pos) := hbd.alloc (by rw [hzd.out]; omega) _
      have HE := Lib.hid (show nameOk s = decide (0 < k) by rw [← HC.out]; exact nameF_end s b pos k hp)
      by_cases hk0 : k = 0
      · subst hk0
        go_wp2_with fail
        go_ret2
        exact ⟨_, _, rfl, by rw [HE.out]; simp, hbi⟩
      · have hk1 : ((k : Int) == 0) = false := by rw [beq_eq_false_iff_ne]; omega
        go_wp2_with fail
        go_ret2
        exact ⟨_, _, rfl, by rw [HE.out, decide_eq_true (by omega : 0 < k)]; simp, hbi⟩

/-- record.label: 0 just for a name. -/
def labelC (s : ByteArray) : Int := if nameOk s = true then 0 else 35
set_option maxRecDepth 100000 in
theorem label_any (s : ByteArray) (hs : s.size ≤ maxLen) (w : World) (ht : TabT w) (hu : TabU w) : Calls Tryd.prog 114 #[.string s] w fun e w' => e = .returned (.int .i64 (labelC s)) ∧ Below w.heap.size w w' := by
  have HT := Lib.hid ht
  have HU := Lib.hid hu
  clear ht hu
  go_enter Tryd.func114, Tryd.ntmps114
  go_wp2_with fail
  refine (Name_any s hs w HT.out HU.out).mono ?_
  rintro e w1 ⟨c, p, rfl, hc, hb⟩
  by_cases h0 : c = 0
  · have hl := Lib.hid (show labelC s = 0 by unfold labelC; rw [if_pos (hc.1 h0)])
    subst h0
    clear hc
    go_wp2_with fail
    go_ret
    exact ⟨by rw [hl.out]; rfl, hb⟩
  · have hl := Lib.hid (show labelC s = 35 by unfold labelC; rw [if_neg (fun h => h0 (hc.2 h))])
    have h1 : (c != 0) = true := by rw [bne_iff_ne]; exact h0
    clear hc
    go_wp2_with fail
    go_ret
    exact ⟨by rw [hl.out]; rfl, hb⟩
end Go.Proofs.YtfmlkagcmkbebaaDoor
