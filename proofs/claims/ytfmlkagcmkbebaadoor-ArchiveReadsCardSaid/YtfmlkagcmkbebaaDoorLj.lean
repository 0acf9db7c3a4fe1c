/- A range over a function whose parts are byte strings that it makes in memory: what it hands over is fresh. -/
import Derived.Test.YtfmlkagcmkbebaaDoorLh
import Derived.RangeFuncNested
import Derived.RangeFuncBound
import Derived.RangeFuncCalls
import Derived.RangeFuncLeaves
import Derived.Shelf.Abstract
import Derived.Shelf.RegionOpen
import Derived.WalkKit
import Derived.OwnWalkIn
import Derived.TacticsInMore
import Derived.LoopNIn
import Derived.LoopIn
namespace Go.Proofs.YtfmlkagcmkbebaaDoor
open Go.RowKit Go.Shelf

/-- An iterator's contract: N parts, the k-th the bytes 'ps k', each in memory laid since the round before. Ok: what it asks of the world ahead of each round. -/
def Hands (F : Fence) (n : Nat) (P : Program) (g : FuncId) (lb : Array Value) (N : Nat) (ps : Nat → List UInt8) (Ok : World → Prop) : Prop :=
  ∀ (l : Nat) (J Jx : Nat → World → Prop) (W : World), Ok W →
    (∀ k v Wa W1, k < N → J k Wa → Below Wa.heap.size Wa W1 → Ob W1 Wa.heap.size v (ps k) → YieldAt F (n - 1) P l #[v] W1 fun e W' =>
      (e = .returned (.bool true) ∧ J (k + 1) W' ∧ Ok W') ∨ (e = .returned (.bool false) ∧ Jx (k + 1) W')) →
    J 0 W →
    CallsIn F n P g (#[.func (.yield l) #[] #[]] ++ lb) W fun e W' => (∃ v, e = .returned v) ∧ (J N W' ∨ ∃ k, k < N ∧ Jx (k + 1) W')

/-- Abides the turn of a block of book-keeping from B on. -/
def Abides (B : Nat) (I : World → Prop) : Prop := ∀ W l o o', I W → B ≤ l → W.heap[l]? = some o → o.isCells = false → o'.isCells = false → I (W.putObj l o')

/-- How a round's body is left. -/
def partPost (I : Nat → World → Prop) (Ix : Code → Nat → World → Prop) (k : Nat) (W : World) : Exit → Act → World → Prop
  | .normal, _, W' => KeepsOthers W W' ∧ I k W'
  | .ret, _, W' => KeepsOthers W W' ∧ Ix .ret k W'
  | .exit id, _, W' => KeepsOthers W W' ∧ Ix (.exit id) k W'
  | .goto t, _, W' => KeepsOthers W W' ∧ Ix (.goto t) k W'
  | .panic _, _, _ => False
  | .outgrown, _, _ => False

theorem putObj_twice {Wa W1 : World} {l : Nat} {_o o' : Obj} (h : Below Wa.heap.size Wa W1) : Below (Wa.putObj l o').heap.size (Wa.putObj l o') (W1.putObj l o') := by
  refine ⟨h.os, h.tape, h.output, by simp; exact h.size, fun i hi => ?_⟩
  rw [World.putObj_size] at hi
  by_cases e : i = l
  · subst e
    rw [World.putObj_heap_same hi, World.putObj_heap_same (Nat.lt_of_lt_of_le hi h.size)]
  · rw [World.putObj_heap_other e, World.putObj_heap_other e]; exact h.block i hi

theorem Ob.put_other {W : World} {B l : Nat} {v : Value} {xs : List UInt8} {o o' : Obj} (h : Ob W B v xs) (hl : W.heap[l]? = some o) (ho : o.isCells = false) : Ob (W.putObj l o') B v xs := by
  have hk : Kp W (W.putObj l o') (fun k => k = l) := ⟨rfl, rfl, rfl, by simp, fun k _ hn => World.putObj_heap_other hn⟩
  refine own_kp h hk (fun k hk' e => ?_)
  subst e
  rcases h.2 with ⟨rfl, _⟩ | ⟨g, cap, cur, rfl, _, hh, _⟩
  · simp [Value.ownBlock] at hk'
  · simp only [Value.ownBlock] at hk'; injection hk' with hk'; subst hk'
    rw [hh] at hl; injection hl with hl; subst hl; simp [Obj.isCells] at ho

variable {F : Fence} {n : Nat} {P : Program}

/-- The statement 'for p := range seq { .. }' over such an iterator. -/
theorem wpIn_over {g : Operand} {p : Tmp} {assign body : Code} {Q : Exit → Act → World → Prop} {a : Act} {w : World}
    (hro : F.round = none) (h1 : 1 ≤ n) {gf : Nat} {lb : Array Value} (hg : a.eval g = .func (.func gf) #[] lb) (hFg : F.fn gf) (eg : ∀ args w, (callFunc gf args).run P w = .ok (.enter gf args) w)
    {N : Nat} {ps : Nat → List UInt8} {Ok : World → Prop} (hseq : Hands F (n - 1) P gf lb N ps Ok)
    (I : Nat → World → Prop) (Ix : Code → Nat → World → Prop) (hIOk : ∀ k W, I k W → Ok W) (hI : ∀ k, Abides w.heap.size (I k)) (hIx : ∀ c k, Abides w.heap.size (Ix c k)) (h0 : ∀ o o', I 0 ((w.alloc o).alloc o')) (a₁ : Value → Act)
    (hassign : ∀ (l : Nat) (v : Value) (W : World) (K : Act → World → Prop), K (a₁ v) W →
      assign.wpIn (F.inRound l) (n - 1 - 1) P (Exit.then K (fun _ _ _ => False)) { tmps := ((#[p].zip #[v]).foldl (fun t (p, v) => t.setIfInBounds p v) a.tmps), defers := [] } W)
    (hbody : ∀ (l k : Nat) (v : Value) (Wa W1 : World), k < N → w.heap.size ≤ Wa.heap.size → I k Wa → Below Wa.heap.size Wa W1 → Ob W1 Wa.heap.size v (ps k) → body.wpIn (F.inRound l) (n - 1 - 1) P (partPost I Ix (k + 1) W1) (a₁ v) W1)
    (hdone : ∀ (D : Nat) (W : World), w.heap.size ≤ D → I N W → W.heap[D]? = some (.deferred (some [])) → Q .normal { a with defers := { target := .collected D, args := #[] } :: a.defers } W)
    (hstop : ∀ (D : Nat) (c : Code) (k : Nat) (W : World), w.heap.size ≤ D → k < N → Ix c (k + 1) W → W.heap[D]? = some (.deferred (some [])) → c.wpIn F n P Q { a with defers := { target := .collected D, args := #[] } :: a.defers } W) :
    (Code.rangeFunc g #[p] assign body).wpIn F n P Q a w := by
  refine wpIn_rangeFunc ?_
  intro fn hfn
  rw [hro]
  let rec_ : LoopState → Option Code → Loop := fun st pe => { state := st, pending := pe, fn, tmps := a.tmps, params := #[p], assign, body, defers := w.heap.size }
  obtain ⟨mk, hmk⟩ : ∃ m, m = rec_ := ⟨_, rfl⟩
  obtain ⟨W1, hW1⟩ : ∃ W1, (w.alloc (.deferred (some []))).alloc (.loop (mk .ready none)) = W1 := ⟨_, rfl⟩
  have hL1 : W1.heap[w.heap.size + 1]? = some (.loop (mk .ready none)) := by
    rw [← hW1]; have := World.alloc_heap_new (w.alloc (.deferred (some []))) (.loop (mk .ready none)); rwa [World.size_alloc] at this
  have hK1 : W1.heap[w.heap.size]? = some (.deferred (some [])) := by
    rw [← hW1]; exact (Below.heap_alloc _ _ _ (by simp)).trans (World.alloc_heap_new w _)
  have hI1 : I 0 W1 := by rw [← hW1]; exact h0 _ _
  refine ⟨w.heap.size + 1, [{ target := .collected w.heap.size, args := #[] }], W1, { target := .fn (.func gf) lb, args := #[.func (.yield (w.heap.size + 1)) #[] #[]] }, W1, gf,
    #[.func (.yield (w.heap.size + 1)) #[] #[]] ++ lb, W1, ?_, ?_, ?_, ?_, fun _ => h1, ?_⟩
  · rw [← hW1, hmk]; exact run_enterLoop_outer _ _ _ _ _
  · simp only [resolve, hg]
    simp [go_sem]
  · intro f' hf'; simp [Target.leads] at hf'; subst hf'; exact hFg
  · simp [invoke, go_sem, eg]
  refine (hseq (w.heap.size + 1)
    (fun k W => I k W ∧ W.heap[w.heap.size + 1]? = some (.loop (mk .ready none)) ∧ W.heap[w.heap.size]? = some (.deferred (some [])))
    (fun k W => ∃ c, Ix c k W ∧ W.heap[w.heap.size + 1]? = some (.loop (mk .done (some c))) ∧ W.heap[w.heap.size]? = some (.deferred (some [])))
    W1 (hIOk _ _ hI1) ?round ⟨hI1, hL1, hK1⟩).mono ?behind
  case behind =>
    rintro e W2 ⟨⟨v, rfl⟩, (⟨hi, hl, hk⟩ | ⟨k, hkN, c, hi, hl, hk⟩)⟩
    · exact ⟨none, _, by have := run_endLoop (P := P) hl (by rw [hmk]; simp [rec_]); rw [hmk] at this; exact this, hdone _ _ (Nat.le_refl _) (hI _ _ _ _ _ hi (by omega) hl rfl rfl) ((World.putObj_heap_other (by omega)).trans hk)⟩
    · exact ⟨some c, _, by have := run_endLoop (P := P) hl (by rw [hmk]; simp [rec_]); rw [hmk] at this; exact this, hstop _ c k _ (Nat.le_refl _) hkN (hIx c _ _ _ _ _ hi (by omega) hl rfl rfl) ((World.putObj_heap_other (by omega)).trans hk)⟩
  case round =>
    rintro k v Wa Wb hkN ⟨hi, hla, hka⟩ hbel hob
    have hlta : w.heap.size + 1 < Wa.heap.size := (Array.getElem?_eq_some_iff.1 hla).1
    have hl : Wb.heap[w.heap.size + 1]? = some (.loop (mk .ready none)) := (hbel.block _ hlta).trans hla
    have hk : Wb.heap[w.heap.size]? = some (.deferred (some [])) := (hbel.block _ (by omega)).trans hka
    have hlt : w.heap.size + 1 < Wb.heap.size := (Array.getElem?_eq_some_iff.1 hl).1
    have hy := run_yield (P := P) (args := #[v]) hl (by rw [hmk]; rfl)
    rw [hmk] at hy
    refine ⟨fn, _, assign, body, hy, roundIn_of_wpIn hfn (hassign _ v Wb _ ⟨_, run_beginRound hl (by rw [hmk]), ?_⟩)⟩
    have hl2 : (Wb.putObj (w.heap.size + 1) (.loop { mk .ready none with state := .busy })).heap[w.heap.size + 1]? = some (.loop { mk .ready none with state := .busy }) := World.putObj_heap_same hlt
    have hk2 : (Wb.putObj (w.heap.size + 1) (.loop { mk .ready none with state := .busy })).heap[w.heap.size]? = some (.deferred (some [])) := (World.putObj_heap_other (by omega)).trans hk
    have hba := putObj_twice (l := w.heap.size + 1) (_o := .loop (mk .ready none)) (o' := .loop { mk .ready none with state := .busy }) hbel
    refine wpIn_mono (hbody _ k v (Wa.putObj (w.heap.size + 1) (.loop { mk .ready none with state := .busy })) _ hkN (by simp; omega) (hI _ _ _ _ _ hi (by omega) hla rfl rfl) hba (by rw [World.putObj_size]; exact hob.put_other hl rfl)) ?_
    have fin : ∀ (jump : Option Code) (W3 : World), KeepsOthers (Wb.putObj (w.heap.size + 1) (.loop { mk .ready none with state := .busy })) W3 →
        (Instr.endRound (w.heap.size + 1) jump).run P W3 = .ok (.bool jump.isNone) (W3.putObj (w.heap.size + 1) (.loop (mk (if jump.isNone then .ready else .done) jump))) ∧
        W3.heap[w.heap.size + 1]? = some (.loop { mk .ready none with state := .busy }) ∧
        (W3.putObj (w.heap.size + 1) (.loop (mk (if jump.isNone then .ready else .done) jump))).heap[w.heap.size + 1]? = some (.loop (mk (if jump.isNone then .ready else .done) jump)) ∧
        (W3.putObj (w.heap.size + 1) (.loop (mk (if jump.isNone then .ready else .done) jump))).heap[w.heap.size]? = some (.deferred (some [])) := fun jump W3 hk3 => by
      have hl3 := hk3.same _ _ hl2 rfl
      have := run_endRound (P := P) jump hl3
      rw [hmk] at this ⊢
      exact ⟨this, by rw [hmk] at hl3; exact hl3, World.putObj_heap_same (Array.getElem?_eq_some_iff.1 hl3).1, (World.putObj_heap_other (by omega)).trans (hk3.same _ _ hk2 rfl)⟩
    rintro e a3 W3 hp
    cases e with
    | normal =>
      obtain ⟨hk3, hi3⟩ := hp
      obtain ⟨hr, hl3, hl4, hk4⟩ := fin none W3 hk3
      exact ⟨_, _, hr, .inl ⟨rfl, ⟨hI _ _ _ _ _ hi3 (by omega) hl3 rfl rfl, hl4, hk4⟩, hIOk _ _ (hI _ _ _ _ _ hi3 (by omega) hl3 rfl rfl)⟩⟩
    | ret =>
      obtain ⟨hk3, hi3⟩ := hp
      obtain ⟨hr, hl3, hl4, hk4⟩ := fin (some .ret) W3 hk3
      exact ⟨_, _, hr, .inr ⟨rfl, .ret, hIx _ _ _ _ _ _ hi3 (by omega) hl3 rfl rfl, hl4, hk4⟩⟩
    | exit id =>
      obtain ⟨hk3, hi3⟩ := hp
      obtain ⟨hr, hl3, hl4, hk4⟩ := fin (some (.exit id)) W3 hk3
      exact ⟨_, _, hr, .inr ⟨rfl, .exit id, hIx _ _ _ _ _ _ hi3 (by omega) hl3 rfl rfl, hl4, hk4⟩⟩
    | goto t =>
      obtain ⟨hk3, hi3⟩ := hp
      obtain ⟨hr, hl3, hl4, hk4⟩ := fin (some (.goto t)) W3 hk3
      exact ⟨_, _, hr, .inr ⟨rfl, .goto t, hIx _ _ _ _ _ _ hi3 (by omega) hl3 rfl rfl, hl4, hk4⟩⟩
    | panic ch => exact hp.elim
    | outgrown => exact hp.elim
end Go.Proofs.YtfmlkagcmkbebaaDoor
