/- annalsref3: numbers, zeros, the fields that may stand. -/
import Derived.Test.YtfmlkagcmkbebaaDoorUe
namespace Go.Proofs.YtfmlkagcmkbebaaDoor
open Go.RowKit

set_option maxRecDepth 100000 in
set_option maxHeartbeats 4000000 in
theorem rnumber_any (r : Rc) (dv : Value) (t : Nat) (h1 : 1 ≤ t) (h9 : t ≤ 9) (w : World) :
    Calls Tryd.prog 90 #[r.val dv, .int .i64 (t : Int)] w fun e w' => e = .returned (.int .i64 (r.num t)) ∧ Below w.heap.size w w' := by
  rw [val_eq]
  rcases (by omega : t = 1 ∨ t = 2 ∨ t = 3 ∨ t = 4 ∨ t = 5 ∨ t = 6 ∨ t = 7 ∨ t = 8 ∨ t = 9) with rfl | rfl | rfl | rfl | rfl | rfl | rfl | rfl | rfl
  all_goals
    go_enter Tryd.func90, Tryd.ntmps90
    go_wp2
    go_ret
    exact ⟨rfl, ((Below.refl _ _).alloc (Nat.le_refl _) _).alloc (by simp) _⟩

set_option maxRecDepth 100000 in
set_option maxHeartbeats 4000000 in
theorem rzero_any (r : Rc) (dv : Value) (t : Nat) (h1 : 1 ≤ t) (h11 : t ≤ 11) (w : World) (hd : Bs w dv r.da) :
    Calls Tryd.prog 64 #[r.val dv, .int .i64 (t : Int)] w fun e w' => e = .returned (.bool (zeroB r t)) ∧ Below w.heap.size w w' := by
  obtain ⟨A, c, rfl, _⟩ := hd.form
  clear hd
  rw [val_eq]
  by_cases h10 : t = 10
  · subst h10
    go_enter Tryd.func64, Tryd.ntmps64
    go_wp2
    go_ret
    exact ⟨rfl, (Below.refl _ _).alloc (Nat.le_refl _) _⟩
  · by_cases h12 : t = 11
    · subst h12
      go_enter Tryd.func64, Tryd.ntmps64
      go_wp2
      go_ret
      exact ⟨rfl, (Below.refl _ _).alloc (Nat.le_refl _) _⟩
    · have e := Lib.hid (show zeroB r t = (r.num t == 0) by unfold zeroB; rw [if_neg h10, if_neg h12])
      have e1 : ((t : Int) == 10) = false := by rw [beq_eq_false_iff_ne]; omega
      have e2 : ((t : Int) == 11) = false := by rw [beq_eq_false_iff_ne]; omega
      have hn := rnumber_any r (.slice A r.da.length c) t h1 (by omega)
      rw [val_eq] at hn
      have HN := Lib.hid hn
      clear hn
      go_enter Tryd.func64, Tryd.ntmps64
      go_wp2_with fail
      refine (HN.out _).mono ?_
      rintro e w1 ⟨rfl, hb⟩
      go_wp2_with fail
      go_ret
      exact ⟨by rw [e.out]; rfl, ((Below.refl _ _).alloc (Nat.le_refl _) _).trans (hb.mono (by simp))⟩

/-- The rows of annalsref3: by kind, by version. -/
def rowsTab : List (List UInt8) := [[97, 98, 99, 107], [97, 98, 101, 104, 106, 107], [97, 98, 101, 104, 105, 106, 107], [97, 98, 99], [97, 98, 99, 100, 101], [97, 98, 99, 100, 101], [97, 98, 99, 107], [97, 98, 99, 101, 107], [97, 98, 99, 101, 107], [97, 98, 99, 107], [97, 98, 99, 101, 102, 107], [97, 98, 99, 101, 102, 103, 107], [97, 98, 99], [97, 98, 99, 100, 101], [97, 98, 99, 100, 101], [97, 98, 99, 107], [97, 98, 99, 101, 107], [97, 98, 99, 101, 107], [97, 98], [97, 98, 101], [97, 98, 101, 103]]
def TabF (w : World) : Prop := ∀ i, i < 21 → w.cell? ⟨3, i, none⟩ = some (.string ⟨(rowsTab.getD i []).toArray⟩)
theorem TabF.below {w w' : World} (h : TabF w) (hb : Below w.heap.size w w') : TabF w' := fun i hi => (hb.cell (World.block_lt_of_cell? w _ (h i hi))).trans (h i hi)

/-- A list of ints of the call's own. -/
def Oi (w : World) (B : Nat) (v : Value) (l : List Int) : Prop := w.ownsRow B 3 1 v l.length (l.map (Value.int .i64))
theorem Oi.slice {w : World} {B : Nat} {v : Value} {l : List Int} (h : Oi w B v l) : ∃ A c, v = .slice A l.length c := by
  obtain ⟨A, c, e, _⟩ := Rd.of_own h; exact ⟨A, c, e⟩
theorem Oi.cell {w : World} {B : Nat} {A : Option Addr} {n c : Nat} {l : List Int} (h : Oi w B (.slice A n c) l) {k : Nat} (hk : k < l.length) : ∃ g, A = some ⟨g, 0, none⟩ ∧ w.cell? ⟨g, k, none⟩ = some (.int .i64 (l[k]'hk)) := by
  rcases h.2 with ⟨e6, e7⟩ | ⟨g, cap, cur, e6, _⟩
  · omega
  · injection e6 with e6
    subst e6
    refine ⟨g, rfl, ?_⟩
    have := World.ownsRow.cells h (g := g) rfl k (.int .i64 (l[k]'hk)) (by simp [hk])
    rw [add_plain] at this; simpa using this
theorem info_int : (Tryd.prog.info? 3).map (fun i => (i.zero, i.size, i.bytes)) = some (some (.int .i64 0), 1, 8) := by kernel_rfl

/-- The tags that a row's letters name. -/
def tagsIn (s : ByteArray) (n : Nat) : List Int := (List.range n).map fun i => ((b0 s i : Nat) : Int) - 96

end Go.Proofs.YtfmlkagcmkbebaaDoor
