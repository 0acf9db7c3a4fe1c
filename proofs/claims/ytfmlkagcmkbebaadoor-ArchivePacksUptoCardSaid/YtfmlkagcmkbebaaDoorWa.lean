/- (*writer).frame. -/
import Derived.Test.YtfmlkagcmkbebaaDoorLc
import Derived.Test.YtfmlkagcmkbebaaDoorPa
import Derived.Deep.CutBlock
namespace Go.Proofs.YtfmlkagcmkbebaaDoor
open Go.RowKit

/-- The writer's box, its bytes. -/
structure Wr (w : World) (B g : Nat) (v : Value) (xs : List UInt8) : Prop where
  blk : w.heap[g]? = some (.cells #[v, .int .i64 0] 89 (0, 0))
  ob : Ob w B v xs
  lo : B ≤ g
  ne : v.ownBlock ≠ some g
theorem Wr.lt {w : World} {B g : Nat} {v : Value} {xs : List UInt8} (h : Wr w B g v xs) : g < w.heap.size := (Array.getElem?_eq_some_iff.1 h.blk).1
theorem Wr.below {w w' : World} {B g : Nat} {v : Value} {xs : List UInt8} (h : Wr w B g v xs) (hb : Below w.heap.size w w') : Wr w' B g v xs :=
  ⟨by rw [hb.block g h.lt]; exact h.blk, h.ob.below hb, h.lo, h.ne⟩
theorem Wr.c0 {w : World} {B g : Nat} {v : Value} {xs : List UInt8} (h : Wr w B g v xs) : w.cell? ⟨g, 0, none⟩ = some v := by rw [cell_of_row w g 0 _ _ _ h.blk]; rfl
theorem Wr.c1 {w : World} {B g : Nat} {v : Value} {xs : List UInt8} (h : Wr w B g v xs) : w.cell? ⟨g, 1, none⟩ = some (.int .i64 0) := by rw [cell_of_row w g 1 _ _ _ h.blk]; rfl
theorem Wr.fr {w w2 : World} {B g : Nat} {v : Value} {xs : List UInt8} (h : Wr w B g v xs) (hg : w.grownBy w2 v.ownBlock) : w2.frozen? ⟨g, 0, none⟩ = false := by
  have hblk : w2.heap[g]? = some (.cells #[v, .int .i64 0] 89 (0, 0)) := by rw [hg.block g h.lt (fun e => h.ne e.symm)]; exact h.blk
  simp [World.frozen?, hblk]
/-- Its bytes have grown, and stand in it. -/
theorem Wr.put {w w1 w2 : World} {B g : Nat} {v v2 : Value} {xs ys : List UInt8} (h : Wr w B g v xs) (hb : Below w.heap.size w w1) (HO : Ob w2 B v2 ys) (hg : w1.grownBy w2 v.ownBlock)
    (ha : v2.ownBlock = v.ownBlock ∨ ∃ b, v2.ownBlock = some b ∧ w1.heap.size ≤ b) (hB : B ≤ w.heap.size) : Wr (w2.setCell ⟨g, 0, none⟩ v2) B g v2 ys ∧ Below B w (w2.setCell ⟨g, 0, none⟩ v2) := by
  have hlt := h.lt
  have s1 := hb.size
  have h1 := h.below hb
  have hblk : w2.heap[g]? = some (.cells #[v, .int .i64 0] 89 (0, 0)) := by
    rw [hg.block g h1.lt (fun e => h.ne e.symm)]; exact h1.blk
  have hlt2 : g < w2.heap.size := (Array.getElem?_eq_some_iff.1 hblk).1
  have hv := (Array.getElem?_eq_some_iff.1 hblk).2
  have hne : v2.ownBlock ≠ some g := by
    rcases ha with e | ⟨b, e, hb2⟩
    · rw [e]; exact h.ne
    · rw [e]; intro e2; injection e2 with e2; have := h1.lt; omega
  refine ⟨⟨?_, own_kp HO (Kp.set _ _) (fun k hk e => ?_), h.lo, hne⟩, ?_⟩
  · simp only [World.setCell]
    rw [Array.getElem?_eq_getElem (by simpa using hlt2), Array.getElem_modify]
    simp [hv]
  · simp at e; subst e; exact hne hk
  · have hB1 : Below B w w2 := (hb.mono hB).grown hg (by omega) (own_base h1.ob)
    exact hB1.trans (by refine (Below.refl _ _).setCell h.lo _)

set_option maxRecDepth 100000 in
set_option maxHeartbeats 2000000 in
theorem wframe_any (B g : Nat) (v pv : Value) (xs : List UInt8) (xss : List (List UInt8)) (w : World) (hT : Tab w) (hW : Wr w B g v xs) (hP : Bss w pv xss) (h0 : 0 < xss.flatten.length) (h1 : xss.flatten.length ≤ 1048576)
    (hx : xs.length ≤ 1099511627776) (hB : B ≤ w.heap.size) :
    Calls Tryd.prog 50 #[.pointer (some ⟨g, 0, none⟩), pv] w fun e w' => e = .returned (.tuple #[]) ∧ ∃ v', Wr w' B g v' (xs ++ frame xss.flatten) ∧ Below B w w' := by
  have HC := Lib.hid (Frame_any pv xss h0 h1 w hT hP)
  obtain ⟨A, c, rfl⟩ := hW.ob.slice
  have hc0 := hW.c0
  have hc1 := hW.c1
  have hfl : (frame xss.flatten).length ≤ 1048601 := by
    have := uvar_len10 (n := xss.flatten.length) (by omega)
    simp only [frame, List.length_append, le32, List.length_cons, List.length_nil]; omega
  have HW := Lib.hid hW
  clear hT hP hW
  go_enter Tryd.func50, Tryd.ntmps50
  go_wp2_with fail
  refine HC.out.mono ?_
  rintro e w1 ⟨x, rfl, HX, hb⟩
  have HW1 := Lib.hid (HW.out.below hb)
  have d0 := HW1.out.c0
  have d1 := HW1.out.c1
  have s1 := hb.size
  have HXs := HX.bs
  have HO1 := HW1.out.ob
  go_wp2_with (at_builtin; refine appB B rfl (.tmp 26) _ rfl _ xs _ (frame xss.flatten) rfl rfl HO1 HXs (by omega) (hb.mono hB) (by omega) ?_; intro v2 w2 HO2 hb2 hg2 ha2; have HR := Lib.hid (HW.out.put hb HO2 hg2 ha2 hB); have e0 : w2.cell? ⟨g, 0, none⟩ = some (.slice A xs.length c) := (hg2.cell d0 (fun e => HW1.out.ne e.symm)); have e1 := HW1.out.fr hg2; clear hg2 ha2; obtain ⟨A2, c2, rfl⟩ := HO2.slice)
  go_end0
  have h := HR.out; rw [List.length_append] at h
  exact ⟨rfl, _, h.1, h.2⟩
end Go.Proofs.YtfmlkagcmkbebaaDoor
