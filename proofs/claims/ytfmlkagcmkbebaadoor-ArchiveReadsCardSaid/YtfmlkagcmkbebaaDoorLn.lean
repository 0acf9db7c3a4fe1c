/- What given's first loop keeps. -/
import Derived.Test.YtfmlkagcmkbebaaDoorLm
import Derived.Test.YtfmlkagcmkbebaaDoorLf
namespace Go.Proofs.YtfmlkagcmkbebaaDoor
open Go.RowKit

/-- Block k is none of the Book's. -/
def Clear (bk : Nat) (vL vM : Value) (L : List Value) (k : Nat) : Prop := k ≠ bk ∧ some k ≠ vL.ownBlock ∧ some k ≠ vM.ownBlock ∧ ∀ u, u ∈ L → u.ownBlock ≠ some k
theorem Book1.keep {w w' : World} {S : Nat → Prop} {bk T : Nat} {vL vM : Value} {L : List Value} {M : List UInt8} (h : Book1 w bk T vL vM L M) (hT : T ≤ w.heap.size) (hk : Kp w w' S) (hs : ∀ k, S k → Clear bk vL vM L k) : Book1 w' bk T vL vM L M where
  blk := by rw [hk.block bk (by have := h.lt; omega) (fun e => (hs bk e).1 rfl)]; exact h.blk
  lt := h.lt
  ownL := own_kp h.ownL hk (fun k e x => (hs k x).2.1 e.symm)
  ownM := own_kp h.ownM hk (fun k e x => (hs k x).2.2.1 e.symm)
  ltL := h.ltL
  ltM := h.ltM
  len := h.len
  each := fun i u m a b => by
    obtain ⟨n, hn, hb⟩ := h.each i u m a b
    exact ⟨n, hn, hb.kp hk (fun k e x => (hs k x).2.2.2 u (List.mem_of_getElem? a) e)⟩
  apart := h.apart
theorem Book1.fresh {w : World} {bk T : Nat} {vL vM : Value} {L : List Value} {M : List UInt8} (h : Book1 w bk T vL vM L M) {k : Nat} (hk : T ≤ k) : Clear bk vL vM L k :=
  ⟨by have := h.lt; omega, fun e => by have := h.ltL k e.symm; omega, fun e => by have := h.ltM k e.symm; omega, fun u hu e => by have := (h.apart u hu k e).1; omega⟩
theorem Clear.foot {bk : Nat} {vL vM : Value} {L : List Value} {k : Nat} (h : Clear bk vL vM L k) : ¬ Foot bk vL vM k := fun e => by
  rcases e with e | e | e
  · exact h.1 e
  · exact h.2.1 e
  · exact h.2.2.1 e

/-- The turn of a block that is no cells: what holds cells lies as it lay. -/
theorem nc_block {W : World} {l k : Nat} {o o' o2 : Obj} (hl : W.heap[l]? = some o) (ho : o.isCells = false) (hk : W.heap[k]? = some o2) (h2 : o2.isCells = true) : (W.putObj l o').heap[k]? = some o2 := by
  rw [World.putObj_heap_other (fun e => by subst e; rw [hl] at hk; injection hk with hk; subst hk; rw [ho] at h2; cases h2)]; exact hk
theorem nc_cell {W : World} {l : Nat} {o o' : Obj} (hl : W.heap[l]? = some o) (ho : o.isCells = false) {a : Addr} {v : Value} (hc : W.cell? a = some v) : (W.putObj l o').cell? a = some v := by
  have hne : a.block ≠ l := fun e => by
    unfold World.cell? at hc
    rw [e, hl] at hc
    cases o <;> simp_all [Obj.isCells]
  unfold World.cell? at *
  rw [World.putObj_heap_other hne]; exact hc
theorem own_nc {W : World} {l : Nat} {o o' : Obj} (hl : W.heap[l]? = some o) (ho : o.isCells = false) {base : Nat} {e : TypeId} {size n : Nat} {v : Value} {xs : List Value} (h : W.ownsRow base e size v n xs) : (W.putObj l o').ownsRow base e size v n xs := by
  obtain ⟨h0, h⟩ := h
  refine ⟨h0, ?_⟩
  rcases h with h | ⟨g, cap, cur, rfl, hb, hh, rest⟩
  · exact .inl h
  · exact .inr ⟨g, cap, cur, rfl, hb, nc_block hl ho hh rfl, rest⟩
theorem Bs.nc {W : World} {l : Nat} {o o' : Obj} (hl : W.heap[l]? = some o) (ho : o.isCells = false) {v : Value} {xs : List UInt8} (h : Bs W v xs) : Bs (W.putObj l o') v xs := by
  obtain ⟨A, c, e, h1, h2, h3, h4⟩ := h
  exact ⟨A, c, e, h1, h2, h3, fun j u hj => by obtain ⟨b, off, e2, hc⟩ := h4 j u hj; exact ⟨b, off, e2, nc_cell hl ho hc⟩⟩
theorem Book1.nc {W : World} {l : Nat} {o o' : Obj} (hl : W.heap[l]? = some o) (ho : o.isCells = false) {bk T : Nat} {vL vM : Value} {L : List Value} {M : List UInt8} (h : Book1 W bk T vL vM L M) : Book1 (W.putObj l o') bk T vL vM L M where
  blk := nc_block hl ho h.blk rfl
  lt := h.lt
  ownL := own_nc hl ho h.ownL
  ownM := own_nc hl ho h.ownM
  ltL := h.ltL
  ltM := h.ltM
  len := h.len
  each := fun i u m a b => by obtain ⟨n, hn, hb⟩ := h.each i u m a b; exact ⟨n, hn, hb.nc hl ho⟩
  apart := h.apart
theorem below_nc {B : Nat} {w W : World} (h : Below B w W) {l : Nat} {o' : Obj} (hl : B ≤ l) : Below B w (W.putObj l o') := ⟨h.os, h.tape, h.output, by simpa using h.size, fun i hi => by rw [World.putObj_heap_other (by omega)]; exact h.block i hi⟩

/-- A list of byte strings of the call's own, all its blocks in C. -/
def OutC (w : World) (B : Nat) (v : Value) (xss : List (List UInt8)) (C : Nat → Prop) : Prop :=
  ∃ vs, w.ownsRow B 22 1 v xss.length vs ∧ vs.length = xss.length ∧ (∀ (i : Nat) (u : Value) (xs : List UInt8), vs[i]? = some u → xss[i]? = some xs → Ob w B u xs) ∧
    (∀ k, v.ownBlock = some k → C k ∧ k < w.heap.size) ∧ ∀ u, u ∈ vs → ∀ k, u.ownBlock = some k → C k ∧ k < w.heap.size
theorem OutC.obs {w : World} {B : Nat} {v : Value} {xss : List (List UInt8)} {C : Nat → Prop} (h : OutC w B v xss C) : Obs w B v xss := by
  obtain ⟨vs, h1, h2, h3, _⟩ := h; exact ⟨vs, h1, h2, h3⟩
theorem OutC.kp {w w' : World} {S : Nat → Prop} {B : Nat} {v : Value} {xss : List (List UInt8)} {C C' : Nat → Prop} (h : OutC w B v xss C) (hk : Kp w w' S) (hs : ∀ k, k < w.heap.size → C k → ¬ S k ∧ C' k) : OutC w' B v xss C' := by
  obtain ⟨vs, h1, h2, h3, h4, h5⟩ := h
  have hz := hk.size
  exact ⟨vs, own_kp h1 hk (fun k e => (hs k (h4 k e).2 (h4 k e).1).1), h2, fun i u xs a b => own_kp (h3 i u xs a b) hk (fun k e => by have := h5 u (List.mem_of_getElem? a) k e; exact (hs k this.2 this.1).1),
    fun k e => ⟨(hs k (h4 k e).2 (h4 k e).1).2, by have := (h4 k e).2; omega⟩, fun u hu k e => by have := h5 u hu k e; exact ⟨(hs k this.2 this.1).2, by omega⟩⟩
theorem OutC.nc {W : World} {l : Nat} {o o' : Obj} (hl : W.heap[l]? = some o) (ho : o.isCells = false) {B : Nat} {v : Value} {xss : List (List UInt8)} {C : Nat → Prop} (h : OutC W B v xss C) : OutC (W.putObj l o') B v xss C := by
  obtain ⟨vs, h1, h2, h3, h4, h5⟩ := h
  exact ⟨vs, own_nc hl ho h1, h2, fun i u xs a b => own_nc hl ho (h3 i u xs a b), fun k e => by simpa using h4 k e, fun u hu k e => by simpa using h5 u hu k e⟩

/-- Between two rounds of given's first loop, k parts having come. w: where given began; Wx: ahead of out's box. -/
def In1 (w Wx : World) (bk l0 : Nat) (ps : Nat → List UInt8) (stop : Int) (k : Nat) (W : World) : Prop :=
  ∃ vL vM L M vo, Book1 W bk W.heap.size vL vM L M ∧ L.length = l0 + 4 * k ∧ W.heap[Wx.heap.size]? = some (.cells #[vo] 24 (0, 0)) ∧
    OutC W (Wx.heap.size + 1) vo ((List.range k).map ps) (Clear bk vL vM L) ∧ (∀ j, w.heap.size ≤ j → j ≤ Wx.heap.size → Clear bk vL vM L j) ∧
    Agree (CutRange w.heap.size Wx.heap.size) Wx W ∧ Below bk w W ∧ ∀ j : Nat, j < k → (j : Int) ≠ stop

theorem In1.abides {w Wx : World} {bk l0 k : Nat} {ps : Nat → List UInt8} {stop : Int} (hw : bk < w.heap.size) (hx : w.heap.size ≤ Wx.heap.size) (htb : 0 < bk) : Abides (Wx.heap.size + 1) (In1 w Wx bk l0 ps stop k) := by
  rintro W l o o' ⟨vL, vM, L, M, vo, h1, h2, h3, h4, h5, h6, h7, h8⟩ hl hlo ho _
  refine ⟨vL, vM, L, M, vo, by rw [World.putObj_size]; exact h1.nc hlo ho, h2, nc_block hlo ho h3 rfl, h4.nc hlo ho, h5, ⟨by rw [World.putObj_size]; exact h6.1, fun i hi => ?_⟩, below_nc h7 (by omega), h8⟩
  rw [World.putObj_heap_other (by rcases hi with hi | hi <;> omega)]; exact h6.2 i hi

theorem In1.below {w Wx W W' : World} {bk l0 k : Nat} {ps : Nat → List UInt8} {stop : Int} (hw : bk < w.heap.size) (hx : w.heap.size ≤ Wx.heap.size) (htb : 0 < bk) (h : In1 w Wx bk l0 ps stop k W) (hb : Below W.heap.size W W') : In1 w Wx bk l0 ps stop k W' := by
  obtain ⟨vL, vM, L, M, vo, h1, h2, h3, h4, h5, h6, h7, h8⟩ := h
  have hz := hb.size
  have hk : Kp W W' (fun _ => False) := Kp.of_below hb _
  have hlt : Wx.heap.size < W.heap.size := (Array.getElem?_eq_some_iff.1 h3).1
  have hWz := h7.size
  exact ⟨vL, vM, L, M, vo, (h1.below (Nat.le_refl _) hb).mono hz, h2, (hb.block _ hlt).trans h3, h4.kp hk (fun k _ hc => ⟨id, hc⟩), h5, h6.below hb (fun i hi => by rcases hi with hi | hi <;> omega), h7.trans (hb.mono (by omega)), h8⟩
end Go.Proofs.YtfmlkagcmkbebaaDoor
