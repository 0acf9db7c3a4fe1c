/- What archive.Cut hands back, as one; agreement of two heaps on a set of blocks. -/
import Derived.Test.YtfmlkagcmkbebaaDoorLl
namespace Go.Proofs.YtfmlkagcmkbebaaDoor
open Go.RowKit

/-- The blocks of S lie as they lay. -/
def Agree (S : Nat → Prop) (w W : World) : Prop := w.heap.size ≤ W.heap.size ∧ ∀ k, S k → W.heap[k]? = w.heap[k]?
theorem Agree.refl (S : Nat → Prop) (w : World) : Agree S w w := ⟨Nat.le_refl _, fun _ _ => rfl⟩
theorem Agree.trans {S : Nat → Prop} {a b c : World} (h : Agree S a b) (k : Agree S b c) : Agree S a c := ⟨Nat.le_trans h.1 k.1, fun i hi => (k.2 i hi).trans (h.2 i hi)⟩
theorem Agree.mono {S S' : Nat → Prop} {a b : World} (h : Agree S a b) (hs : ∀ k, S' k → S k) : Agree S' a b := ⟨h.1, fun i hi => h.2 i (hs i hi)⟩
theorem Agree.kp {S T : Nat → Prop} {a b c : World} (h : Agree S a b) (k : Kp b c T) (hs : ∀ i, S i → i < a.heap.size ∧ ¬ T i) : Agree S a c := ⟨Nat.le_trans h.1 k.size, fun i hi => (k.block i (Nat.lt_of_lt_of_le (hs i hi).1 h.1) (hs i hi).2).trans (h.2 i hi)⟩
theorem Agree.below {S : Nat → Prop} {a b c : World} (h : Agree S a b) (k : Below b.heap.size b c) (hs : ∀ i, S i → i < a.heap.size) : Agree S a c := ⟨Nat.le_trans h.1 k.size, fun i hi => (k.block i (Nat.lt_of_lt_of_le (hs i hi) h.1)).trans (h.2 i hi)⟩
theorem Agree.cell {S : Nat → Prop} {w W : World} (h : Agree S w W) {a : Addr} {v : Value} (hc : w.cell? a = some v) (hs : S a.block) : W.cell? a = some v := by
  unfold World.cell? at *
  rw [h.2 _ hs]; exact hc
theorem own_agree {S : Nat → Prop} {w W : World} {base : Nat} {e : TypeId} {size n : Nat} {v : Value} {xs : List Value} (h : w.ownsRow base e size v n xs) (ha : Agree S w W) (hs : ∀ k, v.ownBlock = some k → S k) : W.ownsRow base e size v n xs := by
  obtain ⟨hl, h⟩ := h
  refine ⟨hl, ?_⟩
  rcases h with h | ⟨g, cap, cur, rfl, hb, hh, rest⟩
  · exact .inl h
  · exact .inr ⟨g, cap, cur, rfl, hb, (ha.2 g (hs g rfl)).trans hh, rest⟩

/-- What the iterator reads lies in this range of blocks. -/
def CutRange (lo hi : Nat) (k : Nat) : Prop := (lo ≤ k ∧ k < hi) ∨ k = 0
theorem CutBoxes.agree {w W : World} {B pn pw pz ps : Nat} {b : List UInt8} {s : Nat} (h : CutBoxes w B pn pw pz ps b s) (ha : Agree (CutRange B w.heap.size) w W) : CutBoxes W B pn pw pz ps b s where
  n := ha.cell h.n (.inl ⟨h.ge.1, World.block_lt_of_cell? w _ h.n⟩)
  whole := by
    obtain ⟨A, c, h1, h2⟩ := h.whole
    exact ⟨A, c, ha.cell h1 (.inl ⟨h.ge.2.1, World.block_lt_of_cell? w _ h1⟩), own_agree h2 ha (fun k hk => .inl (h2.lt k hk))⟩
  size := ha.cell h.size (.inl ⟨h.ge.2.2.1, World.block_lt_of_cell? w _ h.size⟩)
  sum := by
    obtain ⟨A, c, h1, h2⟩ := h.sum
    exact ⟨A, c, ha.cell h1 (.inl ⟨h.ge.2.2.2, World.block_lt_of_cell? w _ h1⟩), own_agree h2 ha (fun k hk => .inl (h2.lt k hk))⟩
  pos := h.pos
  tab := fun i hi => ha.cell (h.tab i hi) (.inr rfl)
  ge := h.ge

theorem Hands.mono {F : Fence} {n : Nat} {P : Program} {g : FuncId} {lb : Array Value} {N : Nat} {ps : Nat → List UInt8} {Ok Ok' : World → Prop} (h : Hands F n P g lb N ps Ok) (hs : ∀ w, Ok' w → Ok w) : Hands F n P g lb N ps Ok' :=
  fun l J Jx W hW hY h0 => h l J Jx W (hs W hW) (fun k v Wa W1 h1 h2 h3 h4 => (hY k v Wa W1 h1 h2 h3 h4).mono (fun _e _w hr => hr.imp (fun x => ⟨x.1, x.2.1, hs _ x.2.2⟩) id)) h0

set_option maxRecDepth 100000 in
theorem noneHands (n : Nat) (ps : Nat → List UInt8) (Ok : World → Prop) : Hands Fence.wide n Tryd.prog 43 #[] 0 ps Ok := by
  intro l J Jx W _ _ h0
  refine callsIn_wide.2 ?_
  show Calls Tryd.prog 43 #[.func (.yield l) #[] #[]] W _
  go_enter Tryd.func43, Tryd.ntmps43
  go_wp2
  go_end0
  exact ⟨⟨_, rfl⟩, .inl h0⟩

def cutCount (n : Nat) (size : Int) : Nat := if cutBad n size then 0 else cutN n size.toNat
def cutCode (n : Nat) (size : Int) : Int := if cutBad n size then 1 else 0
/-- The pieces of b, none where the size is refused. -/
def cuts (b : List UInt8) (size : Int) : List (List UInt8) := (List.range (cutCount b.length size)).map (piece b size.toNat)
theorem cutCount_le {n : Nat} {size : Int} : cutCount n size ≤ 1024 := by
  unfold cutCount; split
  · omega
  · rename_i h; unfold cutBad at h; omega

theorem ACut.hands {w w' : World} {b : List UInt8} {size : Int} {e : Ending} (h : ACut w b size e w') : ∃ gf lb, e = .returned (.tuple #[.func (.func gf) #[] lb, .int .i64 (cutCode b.length size)]) ∧
    (∀ n, Hands Fence.wide n Tryd.prog gf lb (cutCount b.length size) (piece b size.toNat) (Agree (CutRange w.heap.size w'.heap.size) w')) ∧ (∀ args W, (callFunc gf args).run Tryd.prog W = .ok (.enter gf args) W) := by
  obtain ⟨_, h1, h2⟩ := h
  unfold cutCount cutCode
  by_cases hb : cutBad b.length size
  · rw [if_pos hb, if_pos hb]
    exact ⟨_, _, h1 hb, fun n => noneHands n _ _, enters_of Tryd.func43 (by kernel_rfl) rfl⟩
  · rw [if_neg hb, if_neg hb]
    obtain ⟨pn, pw, pz, ps, rfl, hc⟩ := h2 hb
    exact ⟨_, _, rfl, fun n => (cutHands n _ pn pw pz ps b size.toNat).mono (fun W hW => hc.agree hW), enters_of Tryd.func45 (by kernel_rfl) rfl⟩
theorem RCut.cuts {w w' : World} {b : List UInt8} {size : Int} {e : Ending} (h : RCut w b size e w') : Below w.heap.size w w' ∧ ∃ v, e = .returned (.tuple #[v, .int .i64 (cutCode b.length size)]) ∧ Obs w' w.heap.size v (cuts b size) := by
  obtain ⟨h0, h1, h2⟩ := h
  refine ⟨h0, ?_⟩
  unfold Go.Proofs.YtfmlkagcmkbebaaDoor.cuts cutCount cutCode
  by_cases hb : cutBad b.length size
  · rw [if_pos hb, if_pos hb]
    exact ⟨_, h1 hb, Obs.nil _ _⟩
  · rw [if_neg hb, if_neg hb]
    obtain ⟨v, e1, h3⟩ := h2 hb
    exact ⟨v, e1, h3⟩
end Go.Proofs.YtfmlkagcmkbebaaDoor
