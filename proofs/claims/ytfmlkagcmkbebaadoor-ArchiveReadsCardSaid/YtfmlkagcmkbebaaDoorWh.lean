/- annalsref17.first, last, Pack. -/
import Derived.Test.YtfmlkagcmkbebaaDoorWg
namespace Go.Proofs.YtfmlkagcmkbebaaDoor
open Go.RowKit

def packHead : List UInt8 := [65, 78, 65, 82, 1]
def topF (top n : Nat) : List UInt8 := frame ([84] ++ uvar top ++ uvar n)
def recF (r : Rc) : List UInt8 := frame ([82, UInt8.ofNat r.v.toNat] ++ encB r)
def recsF (l : List Rc) : List UInt8 := (l.map recF).flatten
def bodyP (top : Nat) (n : Nat) (l : List Rc) : List UInt8 := packHead ++ topF top n ++ recsF l
def lastF (b : List UInt8) : List UInt8 := frame ([69] ++ le32 (crc b))
def packB (top : Nat) (l : List Rc) : List UInt8 := bodyP top l.length l ++ lastF (bodyP top l.length l)
/-- The first record's code that is none's. -/
def chkF : List Rc → Int
  | [] => 0
  | r :: l => if checkC r = 0 then chkF l else checkC r
def packC (top : Int) (l : List Rc) : Int := if top < 0 then 86 else if chkF l ≠ 0 then chkF l else if 8388597 < (bodyP top.toNat l.length l).length then 2 else 0
/-- What Pack answers. -/
def PackE (w : World) (top : Int) (l : List Rc) (e : Ending) (w' : World) : Prop := Below w.heap.size w w' ∧
  ((packC top l ≠ 0 ∧ e = .returned (.tuple #[.slice none 0 0, .int .i64 (packC top l)])) ∨ (packC top l = 0 ∧ ∃ v, e = .returned (.tuple #[v, .int .i64 0]) ∧ Ob w' w.heap.size v (packB top.toNat l)))
theorem frame_len {xs : List UInt8} : (frame xs).length = (uvar xs.length).length + xs.length + 5 := by
  simp only [frame, List.length_append, le32, List.length_cons, List.length_nil]
theorem lastF_len (b : List UInt8) : (lastF b).length = 11 := by
  have e : ([69] ++ le32 (crc b)).length = 5 := rfl
  unfold lastF
  rw [frame_len, e, uvar_lt (by omega)]; rfl
theorem topF_len {top n : Nat} (h1 : top < 18446744073709551616) (h2 : n < 18446744073709551616) : ([84] ++ uvar top ++ uvar n).length ≤ 21 ∧ 0 < ([84] ++ uvar top ++ uvar n).length := by
  have := uvar_len10 h1
  have := uvar_len10 h2
  simp only [List.length_append, List.length_cons, List.length_nil]; omega

set_option maxRecDepth 100000 in
theorem first_any (top n : Nat) (ht : top < 9223372036854775808) (hn : n < 9223372036854775808) (w : World) : Calls Tryd.prog 52 #[.int .i64 (top : Int), .int .i64 (n : Int)] w (Gives w (topF top n)) := by
  have h1 := uvar_len10 (n := top) (by omega)
  have h2 := uvar_len10 (n := n) (by omega)
  have HL := Lib.hid (topF_len (top := top) (n := n) (by omega) (by omega))
  obtain ⟨W0, hW0⟩ : ∃ W0, w.alloc (.cells #[.int .u8 84] 5) = W0 := ⟨_, rfl⟩
  have HO0 : Ob W0 w.heap.size (.slice (some ⟨w.heap.size, 0, none⟩) 1 1) [84] := by
    rw [← hW0]; exact Ob.litn _ _ [84] 1 _ _ (by rfl) rfl (by omega) rfl (Nat.le_refl _)
  have hb0 : Below w.heap.size w W0 := by rw [← hW0]; exact (Below.refl _ w).alloc (Nat.le_refl _) _
  have s0 := hb0.size
  have HW := Lib.hid hW0
  clear hW0
  go_enter Tryd.func52, Tryd.ntmps52
  go_wp2_with fail
  rw [HW.out]
  refine (rUint_any top (by omega) _).mono ?_
  rintro e w1 ⟨x1, rfl, HX1, hb1⟩
  have HO1 := HO0.below hb1
  have HXB1 := HX1.bs
  have hB1 := hb0.trans (hb1.mono s0)
  have s1 := hB1.size
  go_wp2_with (at_builtin; refine appB w.heap.size rfl (.tmp 9) _ rfl _ [84] _ (uvar top) rfl rfl HO1 HXB1 (by simp; omega) hB1 s1 ?_; intro v2 w2 HO2 hB2 _ _)
  have s2 := hB2.size
  refine (rUint_any n (by omega) _).mono ?_
  rintro e w3 ⟨x3, rfl, HX3, hb3⟩
  have HO3 := HO2.below hb3
  have HXB3 := HX3.bs
  have hB3 := hB2.trans (hb3.mono s2)
  have s3 := hB3.size
  go_wp2_with (at_builtin; refine appB w.heap.size rfl (.tmp 14) _ rfl _ ([84] ++ uvar top) _ (uvar n) rfl rfl HO3 HXB3 (by simp; omega) hB3 s3 ?_; intro v4 w4 HO4 hB4 _ _)
  have s4 := hB4.size
  refine (rFrame_any _ ([84] ++ uvar top ++ uvar n) HL.out.2 (by have := HL.out.1; omega) w4 HO4.bs).mono ?_
  rintro e w5 ⟨x5, rfl, HX5, hb5⟩
  go_wp2_with fail
  go_ret
  exact ⟨_, rfl, own_mono HX5 s4, hB4.trans (hb5.mono s4)⟩

set_option maxRecDepth 100000 in
theorem last_any (v : Value) (b : List UInt8) (w : World) (hp : Bs w v b) : Calls Tryd.prog 54 #[v] w (Gives w (lastF b)) := by
  obtain ⟨W0, hW0⟩ : ∃ W0, w.alloc (.cells #[.int .u8 69] 5) = W0 := ⟨_, rfl⟩
  have HO0 : Ob W0 w.heap.size (.slice (some ⟨w.heap.size, 0, none⟩) 1 1) [69] := by
    rw [← hW0]; exact Ob.litn _ _ [69] 1 _ _ (by rfl) rfl (by omega) rfl (Nat.le_refl _)
  have hb0 : Below w.heap.size w W0 := by rw [← hW0]; exact (Below.refl _ w).alloc (Nat.le_refl _) _
  have s0 := hb0.size
  have HW := Lib.hid hW0
  have HP := Lib.hid (hp.below hb0)
  have e5 : ([69] ++ le32 (crc b)).length = 5 := rfl
  clear hW0 hp
  go_enter Tryd.func54, Tryd.ntmps54
  go_wp2_with fail
  rw [HW.out]
  refine (rSum_any v b W0 HP.out).mono ?_
  rintro e w0 ⟨rfl, rfl⟩
  go_wp2_with fail
  refine (rlow_any (crc b) W0).mono ?_
  rintro e w1 ⟨x1, rfl, HX1, hb1⟩
  have HO1 := HO0.below hb1
  have HXB1 := HX1.bs
  have hB1 := hb0.trans (hb1.mono s0)
  have s1 := hB1.size
  go_wp2_with (at_builtin; refine appB w.heap.size rfl (.tmp 7) _ rfl _ [69] _ (le32 (crc b)) rfl rfl HO1 HXB1 (by simp [le32]) hB1 s1 ?_; intro v2 w2 HO2 hB2 _ _)
  have s2 := hB2.size
  refine (rFrame_any _ ([69] ++ le32 (crc b)) (by omega) (by omega) w2 HO2.bs).mono ?_
  rintro e w5 ⟨x5, rfl, HX5, hb5⟩
  go_wp2_with fail
  go_ret
  exact ⟨_, rfl, own_mono HX5 s2, hB2.trans (hb5.mono s2)⟩
end Go.Proofs.YtfmlkagcmkbebaaDoor
