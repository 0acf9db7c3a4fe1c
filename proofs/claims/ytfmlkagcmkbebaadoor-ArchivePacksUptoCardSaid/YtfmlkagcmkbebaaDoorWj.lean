/- The writer's first frame. -/
import Derived.Test.YtfmlkagcmkbebaaDoorWa
import Derived.Test.YtfmlkagcmkbebaaDoorWi
namespace Go.Proofs.YtfmlkagcmkbebaaDoor
open Go.RowKit

/-- The writer's box while its bytes are the head itself. -/
structure Wr0 (w : World) (B g b n : Nat) (xs : List UInt8) : Prop where
  blk : w.heap[g]? = some (.cells #[.slice (some ⟨b, 0, none⟩) n n, .int .i64 0] 89 (0, 0))
  bs : Bs w (.slice (some ⟨b, 0, none⟩) n n) xs
  lo : B ≤ g
theorem Wr0.lt {w : World} {B g b n : Nat} {xs : List UInt8} (h : Wr0 w B g b n xs) : g < w.heap.size := (Array.getElem?_eq_some_iff.1 h.blk).1
theorem Wr0.below {w w' : World} {B g b n : Nat} {xs : List UInt8} (h : Wr0 w B g b n xs) (hb : Below w.heap.size w w') : Wr0 w' B g b n xs :=
  ⟨by rw [hb.block g h.lt]; exact h.blk, h.bs.below hb, h.lo⟩
theorem Wr0.c0 {w : World} {B g b n : Nat} {xs : List UInt8} (h : Wr0 w B g b n xs) : w.cell? ⟨g, 0, none⟩ = some (.slice (some ⟨b, 0, none⟩) n n) := by rw [cell_of_row w g 0 _ _ _ h.blk]; rfl
theorem Wr0.c1 {w : World} {B g b n : Nat} {xs : List UInt8} (h : Wr0 w B g b n xs) : w.cell? ⟨g, 1, none⟩ = some (.int .i64 0) := by rw [cell_of_row w g 1 _ _ _ h.blk]; rfl
theorem Wr0.put {w w1 w2 : World} {B g b n : Nat} {v2 : Value} {xs ys : List UInt8} (h : Wr0 w B g b n xs) (hb : Below w.heap.size w w1) (hb2 : Below w1.heap.size w1 w2) (HO : Ob w2 w1.heap.size v2 ys) (hB : B ≤ w.heap.size) :
    w2.cell? ⟨g, 0, none⟩ = some (.slice (some ⟨b, 0, none⟩) n n) ∧ w2.frozen? ⟨g, 0, none⟩ = false ∧ Wr (w2.setCell ⟨g, 0, none⟩ v2) B g v2 ys ∧ Below B w (w2.setCell ⟨g, 0, none⟩ v2) := by
  have hlt := h.lt
  have s1 := hb.size
  have hblk : w2.heap[g]? = some (.cells #[.slice (some ⟨b, 0, none⟩) n n, .int .i64 0] 89 (0, 0)) := (hb2.block g (by omega)).trans ((hb.block g hlt).trans h.blk)
  have hlt2 : g < w2.heap.size := (Array.getElem?_eq_some_iff.1 hblk).1
  have hv := (Array.getElem?_eq_some_iff.1 hblk).2
  have hne : ∀ k, v2.ownBlock = some k → w1.heap.size ≤ k := fun k hk => (HO.lt k hk).1
  refine ⟨by rw [cell_of_row w2 g 0 _ _ _ hblk]; rfl, by simp [World.frozen?, hblk], ⟨?_, own_mono (own_kp HO (Kp.set _ _) (fun k hk e => ?_)) (by omega), h.lo, fun e => ?_⟩, ?_⟩
  · simp only [World.setCell]
    rw [Array.getElem?_eq_getElem (by simpa using hlt2), Array.getElem_modify]
    simp [hv]
  · simp at e; have := hne k hk; omega
  · have := hne g e; omega
  · exact ((hb.mono hB).trans (hb2.mono (by omega))).setCell h.lo _

set_option maxRecDepth 100000 in
set_option maxHeartbeats 2000000 in
theorem wframe0_any (B g b n : Nat) (pv : Value) (xs : List UInt8) (xss : List (List UInt8)) (w : World) (hT : Tab w) (hW : Wr0 w B g b n xs) (hP : Bss w pv xss) (h0 : 0 < xss.flatten.length) (h1 : xss.flatten.length ≤ 1048576)
    (hx : xs.length ≤ 1099511627776) (hB : B ≤ w.heap.size) :
    Calls Tryd.prog 50 #[.pointer (some ⟨g, 0, none⟩), pv] w fun e w' => e = .returned (.tuple #[]) ∧ ∃ v', Wr w' B g v' (xs ++ frame xss.flatten) ∧ Below B w w' := by
  have HC := Lib.hid (Frame_any pv xss h0 h1 w hT hP)
  have hc0 := hW.c0
  have hc1 := hW.c1
  have hfl : (frame xss.flatten).length ≤ 1048601 ∧ 0 < (frame xss.flatten).length := by
    have := uvar_len10 (n := xss.flatten.length) (by omega)
    rw [frame_len]; omega
  have HW := Lib.hid hW
  clear hT hP hW
  go_enter Tryd.func50, Tryd.ntmps50
  go_wp2_with fail
  refine HC.out.mono ?_
  rintro e w1 ⟨x, rfl, HX, hb⟩
  have HW1 := Lib.hid (HW.out.below hb)
  have d0 := HW1.out.c0
  have d1 := HW1.out.c1
  have s1 := hb.size
  have HXs := HX.bs
  have HO1 := HW1.out.bs
  go_wp2_with (at_builtin; refine appG rfl (.tmp 26) _ rfl b n xs _ (frame xss.flatten) rfl rfl HO1 HXs (by omega) hfl.2 ?_; intro v2 w2 HO2 hb2; obtain ⟨e0, e1, hW2, hB2⟩ := HW.out.put hb hb2 HO2 hB; have HR := Lib.hid (And.intro hW2 hB2); clear hW2 hB2; obtain ⟨A2, c2, rfl⟩ := HO2.slice)
  go_end0
  have h := HR.out; rw [List.length_append] at h
  exact ⟨rfl, _, h.1, h.2⟩
end Go.Proofs.YtfmlkagcmkbebaaDoor
