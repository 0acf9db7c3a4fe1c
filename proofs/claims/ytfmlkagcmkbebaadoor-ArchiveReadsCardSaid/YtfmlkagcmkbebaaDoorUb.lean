/- record: what stands in a record, walked. -/
import Derived.Test.YtfmlkagcmkbebaaDoorUa
import Derived.Test.YtfmlkagcmkbebaaDoorLd
namespace Go.Proofs.YtfmlkagcmkbebaaDoor
open Go.RowKit

/-- The record r lies in block b from cell o on. -/
structure RecAt (w : World) (b : Nat) (r : Rc) (dv : Value) : Prop where
  c0 : w.cell? ⟨b, 0, none⟩ = some (.int .i64 r.v)
  c1 : w.cell? ⟨b, 1, none⟩ = some (.int .i64 r.kd)
  c2 : w.cell? ⟨b, 2, none⟩ = some (.int .i64 r.sg)
  c3 : w.cell? ⟨b, 3, none⟩ = some (.int .i64 r.st)
  c4 : w.cell? ⟨b, 4, none⟩ = some (.int .i64 r.tr)
  c5 : w.cell? ⟨b, 5, none⟩ = some (.int .i64 r.tm)
  c6 : w.cell? ⟨b, 6, none⟩ = some (.int .i64 r.la)
  c7 : w.cell? ⟨b, 7, none⟩ = some (.int .i64 r.co)
  c8 : w.cell? ⟨b, 8, none⟩ = some (.int .i64 r.cn)
  c9 : w.cell? ⟨b, 9, none⟩ = some (.int .i64 r.pv)
  c10 : w.cell? ⟨b, 10, none⟩ = some (.string r.nm)
  c11 : w.cell? ⟨b, 11, none⟩ = some dv
theorem RecAt.new (W : World) (r : Rc) (dv : Value) (t : TypeId) (b : Nat) (hb : b = W.heap.size) : RecAt (W.alloc (.cells (r.cells dv) t)) b r dv := by
  subst hb
  have h : ∀ j, (W.alloc (.cells (r.cells dv) t)).cell? ⟨W.heap.size, j, none⟩ = (r.cells dv)[j]? := fun j => cell_of_row _ _ _ _ _ _ (heap_alloc_new W _)
  exact ⟨(h 0).trans rfl, (h 1).trans rfl, (h 2).trans rfl, (h 3).trans rfl, (h 4).trans rfl, (h 5).trans rfl, (h 6).trans rfl, (h 7).trans rfl, (h 8).trans rfl, (h 9).trans rfl, (h 10).trans rfl, (h 11).trans rfl⟩
theorem RecAt.keep {w w' : World} {b : Nat} {r : Rc} {dv : Value} (h : RecAt w b r dv) (hk : ∀ j v, w.cell? ⟨b, j, none⟩ = some v → w'.cell? ⟨b, j, none⟩ = some v) : RecAt w' b r dv :=
  ⟨hk _ _ h.c0, hk _ _ h.c1, hk _ _ h.c2, hk _ _ h.c3, hk _ _ h.c4, hk _ _ h.c5, hk _ _ h.c6, hk _ _ h.c7, hk _ _ h.c8, hk _ _ h.c9, hk _ _ h.c10, hk _ _ h.c11⟩
theorem RecAt.below {w w' : World} {b : Nat} {r : Rc} {dv : Value} (h : RecAt w b r dv) (hb : Below w.heap.size w w') : RecAt w' b r dv :=
  h.keep fun _ _ hc => (hb.cell (World.block_lt_of_cell? w _ hc)).trans hc

set_option maxRecDepth 100000 in
set_option maxHeartbeats 2000000 in
theorem number_any (b : Nat) (t : Nat) (h1 : 1 ≤ t) (h9 : t ≤ 9) (w : World) : Calls Tryd.prog 81 #[.pointer (some ⟨b, 0, none⟩), .int .i64 (t : Int)] w fun e w' => e = .returned (.pointer (some ⟨b, t, none⟩)) ∧ w = w' := by
  have ht : t = 1 ∨ t = 2 ∨ t = 3 ∨ t = 4 ∨ t = 5 ∨ t = 6 ∨ t = 7 ∨ t = 8 ∨ t = 9 := by omega
  clear h1 h9
  rcases ht with rfl | rfl | rfl | rfl | rfl | rfl | rfl | rfl | rfl
  all_goals
    go_enter Tryd.func81, Tryd.ntmps81
    go_wp2
    go_ret
    exact ⟨rfl, rfl⟩

set_option maxRecDepth 100000 in
theorem within_any (n lo hi : Int) (w : World) : Calls Tryd.prog 113 #[.int .i64 n, .int .i64 lo, .int .i64 hi] w fun e w' => e = .returned (.int .i64 (withinC n lo hi)) ∧ w = w' := by
  by_cases h1 : n < lo
  · have e : withinC n lo hi = 34 := if_pos (.inl h1)
    rw [e]
    go_enter Tryd.func113, Tryd.ntmps113
    go_wp2
    go_ret
    exact ⟨rfl, rfl⟩
  · by_cases h2 : hi < n
    · have e : withinC n lo hi = 34 := if_pos (.inr h2)
      rw [e]
      go_enter Tryd.func113, Tryd.ntmps113
      go_wp2
      go_ret
      exact ⟨rfl, rfl⟩
    · have e : withinC n lo hi = 0 := if_neg (by omega)
      rw [e]
      go_enter Tryd.func113, Tryd.ntmps113
      go_wp2
      go_ret
      exact ⟨rfl, rfl⟩

theorem RecAt.at {w : World} {b : Nat} {r : Rc} {dv : Value} (h : RecAt w b r dv) {t : Nat} (ht : t ≤ 9) : w.cell? ⟨b, t, none⟩ = some (.int .i64 (r.num t)) := by
  rcases (by omega : t = 0 ∨ t = 1 ∨ t = 2 ∨ t = 3 ∨ t = 4 ∨ t = 5 ∨ t = 6 ∨ t = 7 ∨ t = 8 ∨ t = 9) with rfl | rfl | rfl | rfl | rfl | rfl | rfl | rfl | rfl | rfl
  · exact h.c0
  · exact h.c1
  · exact h.c2
  · exact h.c3
  · exact h.c4
  · exact h.c5
  · exact h.c6
  · exact h.c7
  · exact h.c8
  · exact h.c9

set_option maxRecDepth 100000 in
set_option maxHeartbeats 2000000 in
theorem zero_any (b : Nat) (r : Rc) (A : Option Addr) (n c : Nat) (hn : n = r.da.length) (t : Nat) (h1 : 1 ≤ t) (h11 : t ≤ 11) (w : World) (hr : RecAt w b r (.slice A n c)) :
    Calls Tryd.prog 77 #[.pointer (some ⟨b, 0, none⟩), .int .i64 (t : Int)] w fun e w' => e = .returned (.bool (zeroB r t)) ∧ w = w' := by
  have hn := Lib.hid hn
  by_cases h10 : t = 10
  · subst h10
    have c10 := hr.c10
    go_enter Tryd.func77, Tryd.ntmps77
    go_wp2
    go_ret
    exact ⟨rfl, rfl⟩
  · by_cases h12 : t = 11
    · subst h12
      rw [hn.out] at hr
      have c11 := hr.c11
      go_enter Tryd.func77, Tryd.ntmps77
      go_wp2
      go_ret
      exact ⟨rfl, rfl⟩
    · have e := Lib.hid (show zeroB r t = (r.num t == 0) by unfold zeroB; rw [if_neg h10, if_neg h12])
      have ca := hr.at (t := t) (by omega)
      have e1 : ((t : Int) == 10) = false := by rw [beq_eq_false_iff_ne]; omega
      have e2 : ((t : Int) == 11) = false := by rw [beq_eq_false_iff_ne]; omega
      go_enter Tryd.func77, Tryd.ntmps77
      go_wp2_with fail
      refine (number_any b t h1 (by omega) w).mono ?_
      rintro e w1 ⟨rfl, rfl⟩
      go_wp2_with fail
      go_ret
      exact ⟨by rw [e.out]; rfl, rfl⟩

theorem bit_eq (m : Nat) (k : Nat) (K : Int) (hK : K = k) (hm : m < 65536) : (bits .and .u16 ((m : Int) / K) 1 == 1) = decide (m / k % 2 = 1) := by
  subst hK
  rw [← Int.natCast_ediv, show (1 : Int) = ((1 : Nat) : Int) from rfl, u16_and_nat _ _ (Nat.lt_of_le_of_lt (Nat.div_le_self _ _) hm) (by decide), Nat.and_one_is_mod, Bool.eq_iff_iff]
  simp only [beq_iff_eq, decide_eq_true_eq]
  omega

set_option maxRecDepth 100000 in
set_option maxHeartbeats 2000000 in
theorem stands_any (m t : Nat) (hm : m < 65536) (h1 : 3 ≤ t) (h11 : t ≤ 11) (w : World) : Calls Tryd.prog 76 #[.int .u16 (m : Int), .int .i64 (t : Int)] w fun e w' => e = .returned (.bool (bitB m t)) ∧ w = w' := by
  rcases (by omega : t = 3 ∨ t = 4 ∨ t = 5 ∨ t = 6 ∨ t = 7 ∨ t = 8 ∨ t = 9 ∨ t = 10 ∨ t = 11) with rfl | rfl | rfl | rfl | rfl | rfl | rfl | rfl | rfl
  all_goals
    go_enter Tryd.func76, Tryd.ntmps76
    go_wp2
    go_ret
  · exact ⟨congrArg (fun b => Ending.returned (.bool b)) (bit_eq m 8 8 rfl hm), rfl⟩
  · exact ⟨congrArg (fun b => Ending.returned (.bool b)) (bit_eq m 16 16 rfl hm), rfl⟩
  · exact ⟨congrArg (fun b => Ending.returned (.bool b)) (bit_eq m 32 32 rfl hm), rfl⟩
  · exact ⟨congrArg (fun b => Ending.returned (.bool b)) (bit_eq m 64 64 rfl hm), rfl⟩
  · exact ⟨congrArg (fun b => Ending.returned (.bool b)) (bit_eq m 128 128 rfl hm), rfl⟩
  · exact ⟨congrArg (fun b => Ending.returned (.bool b)) (bit_eq m 256 256 rfl hm), rfl⟩
  · exact ⟨congrArg (fun b => Ending.returned (.bool b)) (bit_eq m 512 512 rfl hm), rfl⟩
  · exact ⟨congrArg (fun b => Ending.returned (.bool b)) (bit_eq m 1024 1024 rfl hm), rfl⟩
  · exact ⟨congrArg (fun b => Ending.returned (.bool b)) (bit_eq m 2048 2048 rfl hm), rfl⟩
end Go.Proofs.YtfmlkagcmkbebaaDoor
