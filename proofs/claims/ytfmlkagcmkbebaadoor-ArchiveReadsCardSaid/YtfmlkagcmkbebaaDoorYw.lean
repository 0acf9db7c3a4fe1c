/- Of these: Ya Yb Yc Yd. -/
import Derived.Test.YtfmlkagcmkbebaaDoorRa
import Derived.OpenShut
import Derived.ChangeSame
import Derived.Test.YtfmlkagcmkbebaaDoorXh
import Derived.Test.YtfmlkagcmkbebaaDoorCards
import Derived.Deep.Slices

/- What a row's laid tables say. -/
namespace Go.Proofs.YtfmlkagcmkbebaaDoor
open Go.RowKit Go.ChangeShapes Go.WideShapes Go.ChangeAt
section
variable {H : Type} {enc : TypeId × Value → H} {P : Program} {w : World} {base : Nat} {sp : Nat → Bool} {held : Bool}

def G1 : DataW H → List Value
  | .lit (.int k z) => [.int k z]
  | .lit (.string s) => [.string ⟨s.toArray⟩]
  | _ => []
def G2 : DataW H → List Value
  | .agg l => (l.map G1).flatten
  | _ => []
def G3 : DataW H → List Value
  | .agg l => (l.map G2).flatten
  | _ => []
def GA (G : DataW H → List Value) : DataW H → List Value
  | .agg l => (l.map G).flatten
  | _ => []
/-- What reads as d holds G d's cells. -/
def Says (enc : TypeId × Value → H) (P : Program) (w : World) (base : Nat) (sp : Nat → Bool) (held : Bool) (G : DataW H → List Value) (t : TypeId) : Prop :=
  ∀ fuel cs x, DataW.trod enc P w base sp held fuel t cs = some x → cs = G x.1
theorem says_int {t : TypeId} {k : IntKind} (ht : P.underlying t = some (.int k)) : Says enc P w base sp held G1 t := fun fuel cs x h => by
  obtain ⟨n, rfl, rfl, _⟩ := DataW.trod_int ht h; rfl
theorem says_string {t : TypeId} (ht : P.underlying t = some .string) : Says enc P w base sp held G1 t := fun fuel cs x h => by
  obtain ⟨s, rfl, rfl, _⟩ := DataW.trod_string ht h; simp [G1]
theorem chunks {α : Type} {m : Nat} : ∀ (ls : List (List α)) (cs : List α), cs.length = ls.length * m → (∀ i (h : i < ls.length), (cs.drop (i * m)).take m = ls[i]) → cs = ls.flatten
  | [], cs, hl, _ => by
    have : cs = [] := List.eq_nil_of_length_eq_zero (by simpa using hl)
    subst this; rfl
  | x :: ls, cs, hl, h => by
    have h0 := h 0 (by simp)
    simp only [Nat.zero_mul, List.drop_zero, List.getElem_cons_zero] at h0
    have hl' : cs.length = (ls.length + 1) * m := by simpa using hl
    have ih := chunks (m := m) ls (cs.drop m) (by rw [List.length_drop, hl', Nat.add_mul]; omega) (fun i hi => by
      have := h (i + 1) (by simpa using hi)
      simp only [List.getElem_cons_succ] at this
      rw [← this, List.drop_drop]; congr 2; rw [Nat.add_mul]; omega)
    rw [List.flatten_cons, ← h0, ← ih, List.take_append_drop]
theorem says_array {t e : TypeId} {n m : Nat} {G : DataW H → List Value} (ht : P.underlying t = some (.array n e)) (he : P.cellsOf e = m) (hct : P.cellsOf t = n * m) (hs : Says enc P w base sp held G e) :
    Says enc P w base sp held (GA G) t := fun fuel cs x h => by
  obtain ⟨xs, q, _, rfl, hl, hn, hf⟩ := DataW.trod_array ht h
  show cs = ((xs.map (·.1)).map G).flatten
  refine chunks (m := m) _ cs (by rw [hl, hct]; simp [hn]) (fun i hi => ?_)
  have hi' : i < n := by simpa [hn] using hi
  have h1 := hf i hi'
  rw [he, List.getElem?_eq_getElem (by omega)] at h1
  have := hs _ _ _ h1
  rw [this]; simp
theorem says_pair {t : TypeId} {f0 f1 : Field} (ht : P.underlying t = some (.struct #[f0, f1])) (h0 : f0.offset = 0) (h1 : f1.offset = 1) (c0 : P.cellsOf f0.type = 1) (c1 : P.cellsOf f1.type = 1) (hct : P.cellsOf t = 2)
    (s0 : Says enc P w base sp held G1 f0.type) (s1 : Says enc P w base sp held G1 f1.type) : Says enc P w base sp held G2 t := fun fuel cs x h => by
  obtain ⟨y0, y1, n, rfl, hl, t0, t1⟩ := trod_struct2 ht h
  rw [h0, c0] at t0
  rw [h1, c1] at t1
  have e0 := s0 _ _ _ t0
  have e1 := s1 _ _ _ t1
  rw [hct] at hl
  show cs = ([y0.1, y1.1].map G1).flatten
  refine chunks (m := 1) _ cs (by simpa using hl) (fun i hi => ?_)
  match i, hi with
  | 0, _ => simpa using e0
  | 1, _ => simpa using e1
end
end Go.Proofs.YtfmlkagcmkbebaaDoor

/- The seven tables of the rows of ArchivePacks, ArchiveReads, ArchiveOne. -/
namespace Go.Proofs.YtfmlkagcmkbebaaDoor
open Go.RowKit Go.ChangeShapes Go.WideShapes Go.ChangeAt

theorem cells_of_laid {P : Program} {W : World} {name : String} {g g' : Nat} {t t' : TypeId} {d : DataW Unit} {cs : Array Value} {fuel : Nat} {p : List MemPlace} {G : DataW Unit → List Value} (hg : P.globalNamed name = some g) (hty : (P.globals[g]?).map (·.type) = some t)
    (hS : Says (fun _ => ()) P W 0 (fun _ => true) false G t) (hg' : P.globalNamed name = some g') (ht' : (P.globals[g']?).map (·.type) = some t') (hv : W.var? P name = some cs)
    (hd : DataW.trod (fun _ => ()) P W 0 (fun _ => true) false fuel t' cs.toList = some (d, p)) : ∀ i u, (G d)[i]? = some u → W.cell? ⟨g, i, none⟩ = some u := by
  obtain rfl := Option.some.inj (hg.symm.trans hg')
  obtain rfl := Option.some.inj (hty.symm.trans ht')
  intro i u hu
  rw [World.var?_cell hg hv i, ← Array.getElem?_toList, hS _ _ _ hd]; exact hu
section
variable {W : World}
theorem s5 : Says (fun _ => ()) Tryd.prog W 0 (fun _ => true) false (GA G1) 209 := says_array Tryd.underlying209 (by kernel_rfl : Tryd.prog.cellsOf 5 = 1) (by kernel_rfl) (says_int Tryd.underlying5)
theorem s212 : Says (fun _ => ()) Tryd.prog W 0 (fun _ => true) false (GA G2) 212 := says_array Tryd.underlying212 (by kernel_rfl : Tryd.prog.cellsOf 211 = 2) (by kernel_rfl) (says_pair Tryd.underlying211 rfl rfl (by kernel_rfl) (by kernel_rfl) (by kernel_rfl) (says_int Tryd.underlying5) (says_int Tryd.underlying5))
theorem s202 : Says (fun _ => ()) Tryd.prog W 0 (fun _ => true) false (GA (GA G1)) 202 := says_array Tryd.underlying202 (by kernel_rfl : Tryd.prog.cellsOf 201 = 2) (by kernel_rfl) (says_array Tryd.underlying201 (by kernel_rfl : Tryd.prog.cellsOf 3 = 1) (by kernel_rfl) (says_int Tryd.underlying3))
theorem s173 : Says (fun _ => ()) Tryd.prog W 0 (fun _ => true) false (GA (GA G1)) 173 := says_array Tryd.underlying173 (by kernel_rfl : Tryd.prog.cellsOf 172 = 3) (by kernel_rfl) (says_array Tryd.underlying172 (by kernel_rfl : Tryd.prog.cellsOf 9 = 1) (by kernel_rfl) (says_string Tryd.underlying9))
theorem s126 : Says (fun _ => ()) Tryd.prog W 0 (fun _ => true) false (GA G1) 126 := says_array Tryd.underlying126 (by kernel_rfl : Tryd.prog.cellsOf 67 = 1) (by kernel_rfl) (says_int Tryd.underlying67)
theorem s208 : Says (fun _ => ()) Tryd.prog W 0 (fun _ => true) false (GA G2) 208 := says_array Tryd.underlying208 (by kernel_rfl : Tryd.prog.cellsOf 207 = 2) (by kernel_rfl) (says_pair Tryd.underlying207 rfl rfl (by kernel_rfl) (by kernel_rfl) (by kernel_rfl) (says_int Tryd.underlying21) (says_int Tryd.underlying21))
theorem s132 : Says (fun _ => ()) Tryd.prog W 0 (fun _ => true) false (GA (GA G1)) 132 := says_array Tryd.underlying132 (by kernel_rfl : Tryd.prog.cellsOf 131 = 7) (by kernel_rfl) (says_array Tryd.underlying131 (by kernel_rfl : Tryd.prog.cellsOf 130 = 1) (by kernel_rfl) (says_int Tryd.underlying130))
end
theorem ga_numbers (k : IntKind) (l : List Nat) : GA (G1 (H := Unit)) (.agg (Go.Pinned.numbers k l)) = l.map (fun (n : Nat) => Value.int k (n : Int)) := by
  show ((Go.Pinned.numbers k l).map G1).flatten = _
  induction l with
  | nil => rfl
  | cons x l ih =>
    have e : Go.Pinned.numbers k (x :: l) = .lit (.int k (x : Int)) :: Go.Pinned.numbers k l := rfl
    rw [e, List.map_cons, List.flatten_cons, ih]; rfl
theorem first_at (c : Nat) (hc : c < 256) : (GA G1 Rows.laid_unicode_utf8_first)[c]? = some (.int .u8 (Lib.firstT c)) := by
  have e : GA G1 Rows.laid_unicode_utf8_first = Go.Pinned.utf8FirstZ.map (fun (n : Nat) => Value.int .u8 (n : Int)) := ga_numbers .u8 Go.Pinned.utf8FirstZ
  have h : ∀ x : Fin 256, Go.Pinned.utf8FirstZ[x.val]?.map (fun (n : Nat) => (n : Int)) = some (Lib.firstT x.val : Int) := by decide +kernel
  have := h ⟨c, hc⟩
  rw [e, List.getElem?_map]
  simp only at this
  cases hq : Go.Pinned.utf8FirstZ[c]? with
  | none => rw [hq] at this; cases this
  | some n => rw [hq] at this; simp only [Option.map_some, Option.some.injEq] at this ⊢; rw [this]
theorem tables {W : World} (h0 : laidMetH Tryd.prog Rows.archivePacksUptoRow.laid W) : TabA W := by
  have h : laidMet Tryd.prog Rows.archivePacksUptoRow.laid W := h0
  obtain ⟨ps, ⟨g1, t1, c1, f1, p1, q1, a1, b1, v1, d1, ⟨g2, t2, c2, f2, p2, q2, a2, b2, v2, d2, ⟨g3, t3, c3, f3, p3, q3, a3, b3, v3, d3, ⟨g4, t4, c4, f4, p4, q4, a4, b4, v4, d4, ⟨g5, t5, c5, f5, p5, q5, a5, b5, v5, d5, ⟨g6, t6, c6, f6, p6, q6, a6, b6, v6, d6, ⟨g7, t7, c7, f7, p7, q7, a7, b7, v7, d7, _⟩, _⟩, _⟩, _⟩, _⟩, _⟩, _⟩, _⟩ := h
  have e1 := cells_of_laid (g := 7) (by kernel_rfl) (by kernel_rfl) s212 a1 b1 v1 d1
  have e2 := cells_of_laid (g := 4) (by kernel_rfl) (by kernel_rfl) s202 a2 b2 v2 d2
  have e3 := cells_of_laid (g := 3) (by kernel_rfl) (by kernel_rfl) s173 a3 b3 v3 d3
  have e4 := cells_of_laid (g := 0) (by kernel_rfl) (by kernel_rfl) s126 a4 b4 v4 d4
  have e5 := cells_of_laid (g := 5) (by kernel_rfl) (by kernel_rfl) s208 a5 b5 v5 d5
  have e6 := cells_of_laid (g := 1) (by kernel_rfl) (by kernel_rfl) s132 a6 b6 v6 d6
  have e7 := cells_of_laid (g := 6) (by kernel_rfl) (by kernel_rfl) s5 a7 b7 v7 d7
  clear a1 b1 v1 d1 a2 b2 v2 d2 a3 b3 v3 d3 a4 b4 v4 d4 a5 b5 v5 d5 a6 b6 v6 d6 a7 b7 v7 d7 h0
  refine ⟨⟨fun i hi => ?_, fun i hi => ?_⟩, fun i hi => ?_, ⟨fun i hi => ?_, fun c hc => ?_, fun i hi => ?_⟩, fun i hi => ?_⟩
  · rcases (by omega : i = 0 ∨ i = 1 ∨ i = 2 ∨ i = 3 ∨ i = 4 ∨ i = 5 ∨ i = 6 ∨ i = 7 ∨ i = 8 ∨ i = 9 ∨ i = 10 ∨ i = 11 ∨ i = 12 ∨ i = 13 ∨ i = 14 ∨ i = 15 ∨ i = 16 ∨ i = 17 ∨ i = 18 ∨ i = 19 ∨ i = 20 ∨ i = 21) with rfl | rfl | rfl | rfl | rfl | rfl | rfl | rfl | rfl | rfl | rfl | rfl | rfl | rfl | rfl | rfl | rfl | rfl | rfl | rfl | rfl | rfl <;> exact ⟨e2 _ _ rfl, e2 _ _ rfl⟩
  · rcases (by omega : i = 0 ∨ i = 1 ∨ i = 2 ∨ i = 3 ∨ i = 4 ∨ i = 5 ∨ i = 6 ∨ i = 7 ∨ i = 8 ∨ i = 9 ∨ i = 10 ∨ i = 11 ∨ i = 12 ∨ i = 13 ∨ i = 14 ∨ i = 15 ∨ i = 16 ∨ i = 17 ∨ i = 18 ∨ i = 19 ∨ i = 20) with rfl | rfl | rfl | rfl | rfl | rfl | rfl | rfl | rfl | rfl | rfl | rfl | rfl | rfl | rfl | rfl | rfl | rfl | rfl | rfl | rfl <;> exact e3 _ _ rfl
  · rcases (by omega : i = 0 ∨ i = 1 ∨ i = 2 ∨ i = 3 ∨ i = 4 ∨ i = 5 ∨ i = 6 ∨ i = 7 ∨ i = 8 ∨ i = 9 ∨ i = 10 ∨ i = 11 ∨ i = 12 ∨ i = 13 ∨ i = 14 ∨ i = 15) with rfl | rfl | rfl | rfl | rfl | rfl | rfl | rfl | rfl | rfl | rfl | rfl | rfl | rfl | rfl | rfl <;> exact e4 _ _ rfl
  · rcases (by omega : i = 0 ∨ i = 1 ∨ i = 2 ∨ i = 3 ∨ i = 4 ∨ i = 5 ∨ i = 6 ∨ i = 7 ∨ i = 8 ∨ i = 9 ∨ i = 10 ∨ i = 11 ∨ i = 12 ∨ i = 13 ∨ i = 14 ∨ i = 15 ∨ i = 16 ∨ i = 17 ∨ i = 18 ∨ i = 19 ∨ i = 20 ∨ i = 21) with rfl | rfl | rfl | rfl | rfl | rfl | rfl | rfl | rfl | rfl | rfl | rfl | rfl | rfl | rfl | rfl | rfl | rfl | rfl | rfl | rfl | rfl <;> exact ⟨e5 _ _ rfl, e5 _ _ rfl⟩
  · exact e7 c _ (first_at c hc)
  · rcases (by omega : i = 0 ∨ i = 1 ∨ i = 2 ∨ i = 3 ∨ i = 4 ∨ i = 5 ∨ i = 6 ∨ i = 7 ∨ i = 8 ∨ i = 9 ∨ i = 10 ∨ i = 11 ∨ i = 12 ∨ i = 13 ∨ i = 14 ∨ i = 15) with rfl | rfl | rfl | rfl | rfl | rfl | rfl | rfl | rfl | rfl | rfl | rfl | rfl | rfl | rfl | rfl <;> exact ⟨e1 _ _ rfl, e1 _ _ rfl⟩
  · rcases (by omega : i = 0 ∨ i = 1 ∨ i = 2 ∨ i = 3 ∨ i = 4 ∨ i = 5 ∨ i = 6 ∨ i = 7 ∨ i = 8 ∨ i = 9 ∨ i = 10 ∨ i = 11 ∨ i = 12 ∨ i = 13 ∨ i = 14 ∨ i = 15 ∨ i = 16 ∨ i = 17 ∨ i = 18 ∨ i = 19 ∨ i = 20) with rfl | rfl | rfl | rfl | rfl | rfl | rfl | rfl | rfl | rfl | rfl | rfl | rfl | rfl | rfl | rfl | rfl | rfl | rfl | rfl | rfl <;> exact e6 _ _ rfl
end Go.Proofs.YtfmlkagcmkbebaaDoor

/- Records that come in by a row. -/
namespace Go.Proofs.YtfmlkagcmkbebaaDoor
open Go.RowKit Go.ChangeShapes Go.WideShapes Go.ChangeAt

theorem wf_i64 {n : Int} (h : (Lit.int .i64 n).wf = true) : -9223372036854775808 ≤ n ∧ n ≤ 9223372036854775807 := by
  simp [Lit.wf] at h
  have e1 : IntKind.i64.min = -9223372036854775808 := by decide
  have e2 : IntKind.i64.max = 9223372036854775807 := by decide
  omega
set_option maxRecDepth 100000 in
set_option maxHeartbeats 2000000 in
theorem rec_in {H : Type} {enc : TypeId × Value → H} {W : World} {base : Nat} {sp : Nat → Bool} {held : Bool} {fuel : Nat} {cs : List Value} {x : DataW H × List MemPlace}
    (h : DataW.trod enc Tryd.prog W base sp held fuel 62 cs = some x) :
    ∃ r dv ds, cs = recC (r, dv) ∧ Bs W dv r.da ∧ r.Nums ∧ x.1 = .agg ds ∧ (.lit (.string r.nm.data.toList)) ∈ ds ∧ (r.da = [] ∨ ∃ el spare, .slice el spare ∈ ds ∧ el.length = r.da.length) := by
  obtain ⟨xs, n, _, rfl, hl, hn, hf⟩ := DataW.trod_struct Tryd.underlying62 h
  have hl12 : cs.length = 12 := hl.trans (by kernel_rfl)
  have c3 : Tryd.prog.cellsOf 3 = 1 := by kernel_rfl
  have c9 : Tryd.prog.cellsOf 9 = 1 := by kernel_rfl
  have c22 : Tryd.prog.cellsOf 22 = 1 := by kernel_rfl
  match xs, hn with
  | [y0, y1, y2, y3, y4, y5, y6, y7, y8, y9, y10, y11], _ =>
    have k0 : DataW.trod enc Tryd.prog W base sp held n 3 ((cs.drop 0).take 1) = some y0 := by have h := hf 0 _ rfl; change DataW.trod enc Tryd.prog W base sp held n 3 ((cs.drop 0).take (Tryd.prog.cellsOf 3)) = some y0 at h; rw [c3] at h; exact h
    have k1 : DataW.trod enc Tryd.prog W base sp held n 3 ((cs.drop 1).take 1) = some y1 := by have h := hf 1 _ rfl; change DataW.trod enc Tryd.prog W base sp held n 3 ((cs.drop 1).take (Tryd.prog.cellsOf 3)) = some y1 at h; rw [c3] at h; exact h
    have k2 : DataW.trod enc Tryd.prog W base sp held n 3 ((cs.drop 2).take 1) = some y2 := by have h := hf 2 _ rfl; change DataW.trod enc Tryd.prog W base sp held n 3 ((cs.drop 2).take (Tryd.prog.cellsOf 3)) = some y2 at h; rw [c3] at h; exact h
    have k3 : DataW.trod enc Tryd.prog W base sp held n 3 ((cs.drop 3).take 1) = some y3 := by have h := hf 3 _ rfl; change DataW.trod enc Tryd.prog W base sp held n 3 ((cs.drop 3).take (Tryd.prog.cellsOf 3)) = some y3 at h; rw [c3] at h; exact h
    have k4 : DataW.trod enc Tryd.prog W base sp held n 3 ((cs.drop 4).take 1) = some y4 := by have h := hf 4 _ rfl; change DataW.trod enc Tryd.prog W base sp held n 3 ((cs.drop 4).take (Tryd.prog.cellsOf 3)) = some y4 at h; rw [c3] at h; exact h
    have k5 : DataW.trod enc Tryd.prog W base sp held n 3 ((cs.drop 5).take 1) = some y5 := by have h := hf 5 _ rfl; change DataW.trod enc Tryd.prog W base sp held n 3 ((cs.drop 5).take (Tryd.prog.cellsOf 3)) = some y5 at h; rw [c3] at h; exact h
    have k6 : DataW.trod enc Tryd.prog W base sp held n 3 ((cs.drop 6).take 1) = some y6 := by have h := hf 6 _ rfl; change DataW.trod enc Tryd.prog W base sp held n 3 ((cs.drop 6).take (Tryd.prog.cellsOf 3)) = some y6 at h; rw [c3] at h; exact h
    have k7 : DataW.trod enc Tryd.prog W base sp held n 3 ((cs.drop 7).take 1) = some y7 := by have h := hf 7 _ rfl; change DataW.trod enc Tryd.prog W base sp held n 3 ((cs.drop 7).take (Tryd.prog.cellsOf 3)) = some y7 at h; rw [c3] at h; exact h
    have k8 : DataW.trod enc Tryd.prog W base sp held n 3 ((cs.drop 8).take 1) = some y8 := by have h := hf 8 _ rfl; change DataW.trod enc Tryd.prog W base sp held n 3 ((cs.drop 8).take (Tryd.prog.cellsOf 3)) = some y8 at h; rw [c3] at h; exact h
    have k9 : DataW.trod enc Tryd.prog W base sp held n 3 ((cs.drop 9).take 1) = some y9 := by have h := hf 9 _ rfl; change DataW.trod enc Tryd.prog W base sp held n 3 ((cs.drop 9).take (Tryd.prog.cellsOf 3)) = some y9 at h; rw [c3] at h; exact h
    have k10 : DataW.trod enc Tryd.prog W base sp held n 9 ((cs.drop 10).take 1) = some y10 := by have h := hf 10 _ rfl; change DataW.trod enc Tryd.prog W base sp held n 9 ((cs.drop 10).take (Tryd.prog.cellsOf 9)) = some y10 at h; rw [c9] at h; exact h
    have k11 : DataW.trod enc Tryd.prog W base sp held n 22 ((cs.drop 11).take 1) = some y11 := by have h := hf 11 _ rfl; change DataW.trod enc Tryd.prog W base sp held n 22 ((cs.drop 11).take (Tryd.prog.cellsOf 22)) = some y11 at h; rw [c22] at h; exact h
    obtain ⟨n0, e0, rfl, w0⟩ := DataW.trod_int Tryd.underlying3 k0
    obtain ⟨n1, e1, rfl, w1⟩ := DataW.trod_int Tryd.underlying3 k1
    obtain ⟨n2, e2, rfl, w2⟩ := DataW.trod_int Tryd.underlying3 k2
    obtain ⟨n3, e3, rfl, w3⟩ := DataW.trod_int Tryd.underlying3 k3
    obtain ⟨n4, e4, rfl, w4⟩ := DataW.trod_int Tryd.underlying3 k4
    obtain ⟨n5, e5, rfl, w5⟩ := DataW.trod_int Tryd.underlying3 k5
    obtain ⟨n6, e6, rfl, w6⟩ := DataW.trod_int Tryd.underlying3 k6
    obtain ⟨n7, e7, rfl, w7⟩ := DataW.trod_int Tryd.underlying3 k7
    obtain ⟨n8, e8, rfl, w8⟩ := DataW.trod_int Tryd.underlying3 k8
    obtain ⟨n9, e9, rfl, w9⟩ := DataW.trod_int Tryd.underlying3 k9
    obtain ⟨s, e10, rfl, _⟩ := DataW.trod_string Tryd.underlying9 k10
    obtain ⟨dv, e11⟩ : ∃ dv, (cs.drop 11).take 1 = [dv] := by
      have : ((cs.drop 11).take 1).length = 1 := by simp; omega
      exact List.length_eq_one_iff.1 this
    rw [e11] at k11
    obtain ⟨A, len, cap, rfl⟩ : ∃ A len cap, dv = .slice A len cap := by
      rcases DataW.trod_slice Tryd.underlying22 k11 with ⟨e, _⟩ | ⟨a, len, cap, _, _, _, _, e, _⟩
      · injection e with e _; exact ⟨none, 0, 0, e⟩
      · injection e with e _; exact ⟨some a, len, cap, e⟩
    obtain ⟨bs, hbl, hbs, hdat⟩ := bytes_in (a := A) (len := len) (cap := cap) (d := y11.1) (p := y11.2) ⟨n, k11⟩
    refine ⟨⟨n0, n1, n2, n3, n4, n5, n6, n7, n8, n9, s, bs⟩, .slice A len cap, _, ?_, hbs, ?_, rfl, by simp, ?_⟩
    · have := chunks (m := 1) [[.int .i64 n0], [.int .i64 n1], [.int .i64 n2], [.int .i64 n3], [.int .i64 n4], [.int .i64 n5], [.int .i64 n6], [.int .i64 n7], [.int .i64 n8], [.int .i64 n9], [.string s], [.slice A len cap]] cs (by simpa using hl12) (fun i hi => by
        have hi' : i < 12 := by simpa using hi
        rw [Nat.mul_one]
        rcases (by omega : i = 0 ∨ i = 1 ∨ i = 2 ∨ i = 3 ∨ i = 4 ∨ i = 5 ∨ i = 6 ∨ i = 7 ∨ i = 8 ∨ i = 9 ∨ i = 10 ∨ i = 11) with rfl | rfl | rfl | rfl | rfl | rfl | rfl | rfl | rfl | rfl | rfl | rfl
        · exact e0
        · exact e1
        · exact e2
        · exact e3
        · exact e4
        · exact e5
        · exact e6
        · exact e7
        · exact e8
        · exact e9
        · exact e10
        · exact e11)
      rw [this]; rfl
    · intro t ht
      rcases (by omega : t = 0 ∨ t = 1 ∨ t = 2 ∨ t = 3 ∨ t = 4 ∨ t = 5 ∨ t = 6 ∨ t = 7 ∨ t = 8 ∨ t = 9) with rfl | rfl | rfl | rfl | rfl | rfl | rfl | rfl | rfl | rfl
      · exact wf_i64 w0
      · exact wf_i64 w1
      · exact wf_i64 w2
      · exact wf_i64 w3
      · exact wf_i64 w4
      · exact wf_i64 w5
      · exact wf_i64 w6
      · exact wf_i64 w7
      · exact wf_i64 w8
      · exact wf_i64 w9
    · by_cases hA : A = none
      · subst hA
        exact .inl hbs.nil_of_none
      · obtain ⟨el, spare, e, hel⟩ := hdat hA
        exact .inr ⟨el, spare, by rw [← e]; simp, by rw [hel]; exact hbl.symm⟩
end Go.Proofs.YtfmlkagcmkbebaaDoor

/- A list of records that comes in by a row. -/
namespace Go.Proofs.YtfmlkagcmkbebaaDoor
open Go.RowKit Go.ChangeShapes Go.WideShapes Go.ChangeAt

/-- What a record's datum says of its name and its data. -/
def RecD {H : Type} (p : Rec) (d : DataW H) : Prop := ∃ ds, d = .agg ds ∧ (.lit (.string p.1.nm.data.toList)) ∈ ds ∧ (p.1.da = [] ∨ ∃ el spare, .slice el spare ∈ ds ∧ el.length = p.1.da.length)
theorem spot_none {w : World} {a : Addr} {v : Value} (h : w.cell? (a.add 0) = some v) : ∃ b o, a = ⟨b, o, none⟩ := by
  obtain ⟨b, off, spot⟩ := a
  have hspot : spot = none := by simpa [Addr.add] using World.cell?_spot h
  subst hspot; exact ⟨b, off, rfl⟩
theorem pick {α : Type} {P : Nat → α → Prop} : ∀ (n : Nat), (∀ i, i < n → ∃ x, P i x) → ∃ l : List α, l.length = n ∧ ∀ i (h : i < l.length), P i l[i]
  | 0, _ => ⟨[], rfl, fun i h => by simp at h⟩
  | n + 1, h => by
    obtain ⟨l, hl, hp⟩ := pick n (fun i hi => h i (by omega))
    obtain ⟨x, hx⟩ := h n (by omega)
    refine ⟨l ++ [x], by simp [hl], fun i hi => ?_⟩
    by_cases hin : i < l.length
    · rw [List.getElem_append_left hin]; exact hp i hin
    · have : i = l.length := by simp at hi; omega
      subst this; simp [hl]; rw [hl] at *; exact hx
set_option maxRecDepth 100000 in
theorem recs_in {H : Type} {enc : TypeId × Value → H} {W : World} {base : Nat} {sp : Nat → Bool} {held : Bool} {a : Option Addr} {len cap : Nat} {d : DataW H} {p : List MemPlace}
    (h : DataW.Trod enc Tryd.prog W base sp held 49 (.slice a len cap) d p) : ∃ l, l.length = len ∧ Rs W (.slice a len cap) l ∧ (∀ q, q ∈ l → q.1.Nums) ∧
      (l = [] ∨ ∃ elems spare, d = .slice elems spare ∧ elems.length = len ∧ ∀ q, q ∈ l → ∃ e, e ∈ elems ∧ RecD q e) := by
  obtain ⟨fuel, hf⟩ := h
  rcases Go.Deep.open_slice Tryd.underlying49 hf with ⟨hcs, _⟩ | ⟨x, l0, c0, m, n, D, Pl, hcs, _, hlc, hm, hmm, hx, hall⟩
  · simp [Value.cells] at hcs
    obtain ⟨rfl, rfl, rfl⟩ := hcs
    exact ⟨[], rfl, ⟨Rd.nil _ _, fun p hp => by simp at hp⟩, fun q hq => by simp at hq, .inl rfl⟩
  · simp [Value.cells] at hcs
    obtain ⟨rfl, rfl, rfl⟩ := hcs
    have hc12 : Tryd.prog.cellsOf 62 = 12 := by kernel_rfl
    rw [hc12] at hall
    have hlm : len ≤ m := by rw [hmm]; split <;> omega
    obtain ⟨l, hll, hp⟩ := pick (P := fun i (q : Rec) => W.cells? base (x.add (i * 12)) 12 = some (recC q) ∧ Bs W q.2 q.1.da ∧ q.1.Nums ∧ RecD q (D i)) len (fun i hi => by
      obtain ⟨cs', h1, h2⟩ := hall i (by omega)
      obtain ⟨r, dv, ds, e1, e2, e3, e4, e5, e6⟩ := rec_in h2
      exact ⟨(r, dv), by rw [← e1]; exact h1, e2, e3, ds, e4, e5, e6⟩)
    have mem : ∀ q, q ∈ l → ∃ i, i < len ∧ (Bs W q.2 q.1.da ∧ q.1.Nums ∧ RecD q (D i)) := fun q hq => by
      obtain ⟨i, hi, rfl⟩ := List.mem_iff_getElem.1 hq
      exact ⟨i, by omega, (hp i hi).2⟩
    refine ⟨l, hll, ⟨?_, fun q hq => by obtain ⟨_, _, h, _⟩ := mem q hq; exact h⟩, fun q hq => by obtain ⟨_, _, _, h, _⟩ := mem q hq; exact h, .inr ⟨(List.range len).map D, _, by injection hx with h1 _, by simp, fun q hq => by
      obtain ⟨i, hi, _, _, h⟩ := mem q hq
      exact ⟨D i, List.mem_map.2 ⟨i, by simp [hi], rfl⟩, h⟩⟩⟩
    rw [hll]
    refine ⟨_, _, rfl, ?_, hlc, hm, fun j u hj => ?_⟩
    · have hall12 : ∀ r ∈ l.map recC, r.length = 12 := fun r hr => by obtain ⟨q, _, rfl⟩ := List.mem_map.1 hr; rfl
      have := flat_len hall12; rw [List.length_map, hll] at this; exact this
    · have hjl : j < (recCs l).length := (List.getElem?_eq_some_iff.1 hj).1
      have hall12 : ∀ r ∈ l.map recC, r.length = 12 := fun r hr => by obtain ⟨q, _, rfl⟩ := List.mem_map.1 hr; rfl
      have hfl := flat_len hall12
      rw [List.length_map, hll] at hfl
      have hjl2 : j < len * 12 := by rw [← hfl]; exact hjl
      have hk : j / 12 < l.length := by omega
      have hq : j % 12 < 12 := Nat.mod_lt _ (by decide)
      have hj2 : (recC (l[j / 12]'hk))[j % 12]? = some u := by
        rw [← recCs_at hk hq, show j / 12 * 12 + j % 12 = j by omega]; exact hj
      obtain ⟨_, _, hc⟩ := World.cells?_some (hp (j / 12) hk).1
      have h0 := (World.cells?_some (hp 0 (by omega)).1).2.2 0 (by omega)
      rw [Nat.zero_mul] at h0
      obtain ⟨b, o, rfl⟩ : ∃ b o, x = ⟨b, o, none⟩ := by
        obtain ⟨b, off, spot⟩ := x
        have hv : ∃ v, W.cell? (((⟨b, off, spot⟩ : Addr).add 0).add 0) = some v := ⟨_, h0.trans (List.getElem?_eq_getElem (by rw [recC_len]; omega))⟩
        obtain ⟨v, hv⟩ := hv
        have hspot : spot = none := by simpa [Addr.add] using World.cell?_spot hv
        subst hspot; exact ⟨b, off, rfl⟩
      refine ⟨b, o, rfl, ?_⟩
      have := (hc (j % 12) hq).trans hj2
      rw [add_plain, add_plain] at this
      rw [show o + j = o + j / 12 * 12 + j % 12 by omega]; exact this
end Go.Proofs.YtfmlkagcmkbebaaDoor
