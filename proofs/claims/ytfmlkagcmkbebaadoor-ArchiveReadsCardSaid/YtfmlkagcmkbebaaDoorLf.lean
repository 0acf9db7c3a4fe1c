/- (*Book).take. -/
import Derived.Test.YtfmlkagcmkbebaaDoorLe
import Derived.Deep.RegionLaw
import Derived.Deep.DeepCutAuto
namespace Go.Proofs.YtfmlkagcmkbebaaDoor
open Go.RowKit

/-- While the four lengths are made: l stands, all that was made holds the mark, nothing else has turned. -/
structure St (wr : World) (l : Value) (T n : Nat) (m : UInt8) (vs : List (Value × Nat)) (W : World) : Prop where
  ob : Ob W T l (List.replicate n m)
  kp : Kp wr W (fun k => some k = l.ownBlock)
  all : ∀ p, p ∈ vs → Bs W p.1 (List.replicate p.2 m) ∧ ∀ k, p.1.ownBlock = some k → some k = l.ownBlock ∨ (wr.heap.size ≤ k ∧ k < W.heap.size)
theorem St.start {wr : World} {l : Value} {T n : Nat} {m : UInt8} (h : Ob wr T l (List.replicate n m)) : St wr l T n m [] wr := ⟨h, Kp.refl _ _, fun p hp => by simp at hp⟩
theorem St.below {wr W W' : World} {l : Value} {T n : Nat} {m : UInt8} {vs : List (Value × Nat)} (h : St wr l T n m vs W) (hb : Below W.heap.size W W') : St wr l T n m vs W' :=
  ⟨h.ob.below hb, h.kp.trans (Kp.of_below hb _) (fun _ _ x => x), fun p hp => ⟨(h.all p hp).1.below hb, fun k hk => ((h.all p hp).2 k hk).imp id (fun x => ⟨x.1, Nat.lt_of_lt_of_le x.2 hb.size⟩)⟩⟩
theorem St.alloc {wr W : World} {l : Value} {T n : Nat} {m : UInt8} {vs : List (Value × Nat)} (h : St wr l T n m vs W) (o : Obj) : St wr l T n m vs (W.alloc o) := h.below ((Below.refl _ W).alloc (Nat.le_refl _) o)
theorem St.drew {wr W : World} {l : Value} {T n : Nat} {m : UInt8} {vs : List (Value × Nat)} (h : St wr l T n m vs W) : St wr l T n m vs W.drew := h.below (Below.refl _ W).drew
/-- A literal of k marks. -/
theorem St.lit {wr W : World} {l : Value} {T n : Nat} {m : UInt8} {vs : List (Value × Nat)} (h : St wr l T n m vs W) (cs : Array Value) (k b : Nat) (hc : cs.toList = bys (List.replicate k m)) (hk : k ≤ 1000) (hb : b = W.heap.size) :
    St wr l T n m ((.slice (some ⟨b, 0, none⟩) k k, k) :: vs) (W.alloc (.cells cs 5)) := by
  have h1 := h.alloc (.cells cs 5)
  have := h.kp.size
  refine ⟨h1.ob, h1.kp, fun p hp => ?_⟩
  rcases List.mem_cons.1 hp with rfl | hp
  · refine ⟨Bs.litn W cs _ k b hc (by simp) (by omega) hb, fun x hx => .inr ?_⟩
    simp only [Value.ownBlock] at hx; injection hx with hx; subst hx; subst hb
    exact ⟨this, by simp⟩
  · exact h1.all p hp
/-- One more is made, by an append onto l. -/
theorem St.app {wr W w1 : World} {l v1 : Value} {T n k : Nat} {m : UInt8} {vs : List (Value × Nat)} (h : St wr l T n m vs W) (hO : Ob w1 T v1 (List.replicate k m)) (hl : Ob w1 T l (List.replicate n m)) (hg : W.grownBy w1 l.ownBlock)
    (ha : v1.ownBlock = l.ownBlock ∨ ∃ b, v1.ownBlock = some b ∧ W.heap.size ≤ b) (ht : Tch W w1 [byt m]) : St wr l T n m ((v1, k) :: vs) w1 := by
  have hs := h.kp.size
  refine ⟨hl, h.kp.trans (Kp.of_grown hg) (fun _ _ x => x), fun p hp => ?_⟩
  rcases List.mem_cons.1 hp with rfl | hp
  · refine ⟨hO.bs, fun x hx => ?_⟩
    rcases ha with e | ⟨b, e, hb⟩
    · exact .inl (by rw [← e]; exact hx.symm)
    · rw [e] at hx; injection hx with hx; subst hx
      exact .inr ⟨by omega, (hO.lt b e).2⟩
  · exact ⟨(h.all p hp).1.tch ht, fun x hx => ((h.all p hp).2 x hx).imp id (fun y => ⟨y.1, Nat.lt_of_lt_of_le y.2 hg.size⟩)⟩

theorem step_mark {ops : Array Oper} {o : Oper} {a : Act} {K : Act → World → Prop} {Q : Exit → Act → World → Prop} {E : Prop} {W wr : World} {l : Value} {T n : Nat} {m : UInt8} {vs : List (Value × Nat)} (hgd : o.guard = none) (s x : Operand)
    (ho : o.op = .call { callee := .builtin .append, args := #[s, x], argTypes := #[22, 22] }) (hs : a.eval s = l) (y : Value) (k : Nat) (hx : a.eval x = y)
    (hst : St wr l T n m vs W) (hmem : (y, k) ∈ vs) (hn : n ≤ 1099511627776) (hk : k ≤ 1000) (hT : T ≤ wr.heap.size)
    (h : ∀ v1 w1, St wr l T n m ((v1, n + k) :: vs) w1 → K (a.put o.dst v1) w1) :
    if Region.wanted o (yielded ops a.tmps) = true then Oper.wp Tryd.prog o a W K Q else E := by
  have hR := (hst.all _ hmem).1
  have hR' : Rd W 1 y k (bys (List.replicate k m)) := by have := hR; unfold Bs at this; simpa using this
  refine step_app T hgd s x 22 5 (.int .u8 0) 1 1 ho Tryd.underlying22 info_u8 rfl (by decide) l n (bys (List.replicate n m)) y k (bys (List.replicate k m)) hs hx
    (by have := hst.ob; unfold Ob at this; simpa using this) hR' (bys_one _) (by unfold maxLen; omega) (by omega) (Nat.le_trans hT hst.kp.size) ?_
  intro v1 w1 h1 h2 h3 h4 h5
  refine h v1 w1 (hst.app ?_ ?_ h2 h3 (h4.mono ?_))
  · unfold Ob; rw [List.length_replicate, ← List.replicate_append_replicate, bys_append]; exact h1
  · unfold Ob; rw [List.length_replicate]; exact h5
  · intro z hz
    simp only [bys, List.map_replicate, List.mem_replicate] at hz
    rw [List.mem_singleton]; exact hz.2

theorem St.form {wr W : World} {l v : Value} {T n k : Nat} {m : UInt8} {vs : List (Value × Nat)} (h : St wr l T n m ((v, k) :: vs) W) : ∃ A c, v = .slice A k c := by
  obtain ⟨A, c, e, _⟩ := (h.all _ (List.Mem.head _)).1.form
  rw [List.length_replicate] at e; exact ⟨A, c, e⟩

theorem longer_st {wr W : World} {l : Value} {T n : Nat} {m : UInt8} {vs : List (Value × Nat)} (h : St wr l T n m vs W) (hn : n ≤ 1099511627776) (hT : T ≤ wr.heap.size) :
    Calls Tryd.prog 42 #[l, .int .u8 (m.toNat : Int)] W fun e w' => ∃ v, e = .returned v ∧ St wr l T n m ((v, n + 200) :: vs) w' := by
  refine (longer_any l n T m hn W h.ob (Nat.le_trans hT h.kp.size)).mono ?_
  rintro e w' ⟨v, rfl, h1, h2, h3, h4, h5⟩
  exact ⟨v, rfl, h.app h1 h5 h2 h4 h3⟩

/-- The Book's own rows while the lengths are made. -/
theorem St.bookL {wr W : World} {l vL vM : Value} {T n bk : Nat} {m : UInt8} {vs : List (Value × Nat)} {L : List Value} {M : List UInt8} (h : St wr l T n m vs W) (hb : Book1 wr bk T vL vM L M) (hl : ∀ k, l.ownBlock = some k → T ≤ k) :
    W.ownsRow (bk + 1) 22 1 vL L.length L ∧ W.heap[bk]? = some (.cells #[vL, vM] 29 (0, 0)) := by
  refine ⟨own_kp hb.ownL h.kp (fun k hk e => ?_), ?_⟩
  · have := hb.ltL k hk; have := hl k e.symm; omega
  · rw [h.kp.block bk (Array.getElem?_eq_some_iff.1 hb.blk).1 (fun e => by have := hb.lt; have := hl bk e.symm; omega)]; exact hb.blk

theorem Rd.litv (W : World) (t : TypeId) (vs : List Value) (n : Nat) (hn : n = vs.length) (hm : n ≤ 1000) : Rd (W.alloc (.cells vs.toArray t)) 1 (.slice (some ⟨W.heap.size, 0, none⟩) n n) n vs := by
  subst hn
  refine ⟨_, _, rfl, by simp, Nat.le_refl _, by unfold maxLen; omega, fun j u hj => ⟨W.heap.size, 0, rfl, ?_⟩⟩
  rw [cell_of_row (W.alloc (.cells vs.toArray t)) W.heap.size (0 + j) vs.toArray t (0, 0) (heap_alloc_new W _), Nat.zero_add]
  simpa using hj
theorem one4 (A1 A2 A3 A4 : Option Addr) (n1 n2 n3 n4 c1 c2 c3 c4 : Nat) : ∀ u ∈ [Value.slice A1 n1 c1, .slice A2 n2 c2, .slice A3 n3 c3, .slice A4 n4 c4], u.oneCell' = true := by
  intro u hu
  simp only [List.mem_cons, List.not_mem_nil, or_false] at hu
  rcases hu with rfl | rfl | rfl | rfl <;> rfl

/-- The four are appended to the Book's lists. -/
theorem step_keep {ops : Array Oper} {o : Oper} {a : Act} {K : Act → World → Prop} {Q : Exit → Act → World → Prop} {E : Prop} {W wr : World} {l vM : Value} {AL : Option Addr} {cL T n bk : Nat} {m : UInt8} {vs : List (Value × Nat)} {L : List Value} {M : List UInt8} (hgd : o.guard = none) (s x : Operand)
    (ho : o.op = .call { callee := .builtin .append, args := #[s, x], argTypes := #[24, 24] }) (hs : a.eval s = .slice AL L.length cL) (hx : a.eval x = .slice (some ⟨W.heap.size, 0, none⟩) 4 4)
    (hst : St wr l T n m vs W) (hb : Book1 wr bk T (.slice AL L.length cL) vM L M) (hl : ∀ k, l.ownBlock = some k → T ≤ k) (hT : T ≤ wr.heap.size) (hL : L.length ≤ 1073741824) (news : List Value) (h4 : 4 = news.length) (h1 : ∀ u ∈ news, u.oneCell' = true)
    (h : ∀ A' c' w4, w4.ownsRow (bk + 1) 22 1 (.slice A' (L.length + 4) c') (L.length + 4) (L ++ news) → W.grownBy w4 (Value.slice AL L.length cL).ownBlock →
      ((Value.slice A' (L.length + 4) c').ownBlock = (Value.slice AL L.length cL).ownBlock ∨ ∃ b, (Value.slice A' (L.length + 4) c').ownBlock = some b ∧ W.heap.size ≤ b) →
      w4.cell? ⟨bk, 0, none⟩ = some (.slice AL L.length cL) → w4.frozen? ⟨bk, 0, none⟩ = false → K (a.put o.dst (.slice A' (L.length + 4) c')) w4) :
    if Region.wanted o (yielded ops a.tmps) = true then Oper.wp Tryd.prog o a (W.alloc (.cells news.toArray 22)) K Q else E := by
  obtain ⟨ho1, ho2⟩ := hst.bookL hb hl
  have hsz := hst.kp.size
  have hlt := hb.lt
  refine step_app (bk + 1) hgd s x 24 22 (.slice none 0 0) 1 24 ho Tryd.underlying24 info_bs rfl (by decide) _ L.length L _ 4 news hs hx
    (own_below ho1 ((Below.refl _ W).alloc (Nat.le_refl _) _)) (Rd.litv W _ news 4 h4 (by omega)) h1 (by unfold maxLen; omega) (by omega) (by simp; omega) ?_
  intro v1 w1 g1 g2 g3 g4 g5
  obtain ⟨A', c', rfl, _⟩ := Rd.of_own g1
  have g2' : W.grownBy w1 (Value.slice AL L.length cL).ownBlock := (World.grownBy_alloc W _ _).trans g2
  have hbk : w1.heap[bk]? = some (.cells #[.slice AL L.length cL, vM] 29 (0, 0)) := by
    rw [g2'.block bk (by omega) (fun e => ?_)]; exact ho2
    have := (hb.ownL.lt bk e.symm).1; omega
  refine h A' c' w1 g1 g2' (g3.imp id (fun ⟨b, e, hb⟩ => ⟨b, e, by simp at hb; omega⟩)) ?_ ?_
  · rw [cell_of_row w1 bk 0 _ _ _ hbk]; rfl
  · simp [World.frozen?, hbk]

/-- Behind the four lengths: the Book's list of lists is longer by four. -/
def Mid (_T : Nat) (w : World) (bk : Nat) (vL vM l : Value) (L : List Value) (n : Nat) (m : UInt8) (wx : World) : Prop :=
  ∃ vL' v1 v2 v3, wx.heap[bk]? = some (.cells #[vL', vM] 29 (0, 0)) ∧ wx.ownsRow (bk + 1) 22 1 vL' (L.length + 4) (L ++ [l, v1, v2, v3]) ∧
    Kp w wx (fun k => some k = l.ownBlock ∨ k = bk ∨ some k = vL.ownBlock) ∧ (∀ k, vL'.ownBlock = some k → (some k = vL.ownBlock ∨ w.heap.size ≤ k) ∧ k < wx.heap.size) ∧
    ∀ p, p ∈ [(l, n), (v1, n + 1), (v2, n + 2), (v3, n + 200)] → Bs wx p.1 (List.replicate p.2 m) ∧ ∀ k, p.1.ownBlock = some k → (some k = l.ownBlock ∨ w.heap.size ≤ k) ∧ k < wx.heap.size ∧ some k ≠ vL'.ownBlock

theorem Mid.mk {W w4 wr : World} {l vM v1 v2 v3 : Value} {AL A' : Option Addr} {cL c' T n bk : Nat} {m : UInt8} {vs : List (Value × Nat)} {L : List Value} {M : List UInt8}
    (hst : St wr l T n m vs W) (hb : Book1 wr bk T (.slice AL L.length cL) vM L M) (hl : ∀ k, l.ownBlock = some k → T ≤ k) (hT : T ≤ wr.heap.size)
    (m1 : (v1, n + 1) ∈ vs) (m2 : (v2, n + 2) ∈ vs) (m3 : (v3, n + 200) ∈ vs)
    (g1 : w4.ownsRow (bk + 1) 22 1 (.slice A' (L.length + 4) c') (L.length + 4) (L ++ [l, v1, v2, v3])) (g2 : W.grownBy w4 (Value.slice AL L.length cL).ownBlock)
    (g3 : (Value.slice A' (L.length + 4) c').ownBlock = (Value.slice AL L.length cL).ownBlock ∨ ∃ b, (Value.slice A' (L.length + 4) c').ownBlock = some b ∧ W.heap.size ≤ b) :
    Mid T wr bk (.slice AL L.length cL) vM l L n m (w4.setCell ⟨bk, 0, none⟩ (.slice A' (L.length + 4) c')) := by
  obtain ⟨ho1, ho2⟩ := hst.bookL hb hl
  have hsz := hst.kp.size
  have hlt := hb.lt
  have hs4 := g2.size
  have hset : Kp w4 (w4.setCell ⟨bk, 0, none⟩ (.slice A' (L.length + 4) c')) (fun k => k = bk) := Kp.set _ _
  have hsz5 : (w4.setCell ⟨bk, 0, none⟩ (Value.slice A' (L.length + 4) c')).heap.size = w4.heap.size := by simp [World.setCell]
  have hbk4 : w4.heap[bk]? = some (.cells #[.slice AL L.length cL, vM] 29 (0, 0)) := by
    rw [g2.block bk (by omega) (fun e => ?_)]; exact ho2
    have := (hb.ownL.lt bk e.symm).1; omega
  have hnew : ∀ k, (Value.slice A' (L.length + 4) c').ownBlock = some k → (some k = (Value.slice AL L.length cL).ownBlock ∨ W.heap.size ≤ k) := fun k hk => by
    rcases g3 with e | ⟨b, e, hb⟩
    · exact .inl (by rw [← e]; exact hk.symm)
    · rw [e] at hk; injection hk with hk; subst hk; exact .inr hb
  refine ⟨_, v1, v2, v3, ?_, own_kp g1 hset (fun k hk e => by have := (g1.lt k hk).1; omega), ?_, fun k hk => ⟨(hnew k hk).imp id (fun x => by omega), by rw [hsz5]; exact (g1.lt k hk).2⟩, fun p hp => ?_⟩
  · have hlt4 : bk < w4.heap.size := (Array.getElem?_eq_some_iff.1 hbk4).1
    have hv : w4.heap[bk] = .cells #[.slice AL L.length cL, vM] 29 (0, 0) := (Array.getElem?_eq_some_iff.1 hbk4).2
    simp only [World.setCell]
    rw [Array.getElem?_eq_getElem (by simpa using hlt4), Array.getElem_modify]
    simp [hv]
  · exact ((hst.kp.mono (fun k e => .inl e)).trans (Kp.of_grown g2) (fun k _ e => .inr (.inr e))).trans hset (fun k _ e => .inr (.inl e))
  · have key : Bs W p.1 (List.replicate p.2 m) ∧ ∀ k, p.1.ownBlock = some k → (some k = l.ownBlock ∨ (wr.heap.size ≤ k ∧ k < W.heap.size)) := by
      simp only [List.mem_cons, List.not_mem_nil, or_false] at hp
      rcases hp with rfl | rfl | rfl | rfl
      · exact ⟨hst.ob.bs, fun k hk => .inl hk.symm⟩
      · exact hst.all _ m1
      · exact hst.all _ m2
      · exact hst.all _ m3
    have hkW : ∀ k, p.1.ownBlock = some k → T ≤ k ∧ k < W.heap.size := fun k hk => by
      rcases key.2 k hk with e | e
      · exact ⟨hl k e.symm, (hst.ob.lt k e.symm).2⟩
      · exact ⟨by omega, e.2⟩
    refine ⟨(key.1.kp (Kp.of_grown g2) (fun k hk e => ?_)).kp hset (fun k hk e => ?_), fun k hk => ⟨(key.2 k hk).imp id (fun x => x.1), ?_, fun e => ?_⟩⟩
    · have := hkW k hk; have := hb.ltL k e.symm; omega
    · have := hkW k hk; omega
    · rw [hsz5]; have := hkW k hk; omega
    · have h1 := hkW k hk
      rcases hnew k e.symm with e1 | e1
      · have := hb.ltL k e1.symm; omega
      · omega

/-- The Book's list of lists is still where it was. -/
theorem bkf {wr W : World} {l vL vM : Value} {T n bk : Nat} {m : UInt8} {vs : List (Value × Nat)} {L : List Value} {M : List UInt8} (h : St wr l T n m vs W) (hb : Book1 wr bk T vL vM L M) (hl : ∀ k, l.ownBlock = some k → T ≤ k) :
    W.cell? ⟨bk, 0, none⟩ = some vL ∧ (∀ o, (W.alloc o).cell? ⟨bk, 0, none⟩ = some vL) ∧ (∀ o o', ((W.alloc o).alloc o').cell? ⟨bk, 0, none⟩ = some vL) := by
  have h1 : ∀ W', St wr l T n m vs W' → W'.cell? ⟨bk, 0, none⟩ = some vL := fun W' h => by
    rw [cell_of_row W' bk 0 _ _ _ (h.bookL hb hl).2]; rfl
  exact ⟨h1 _ h, fun o => h1 _ (h.alloc o), fun o o' => h1 _ ((h.alloc o).alloc o')⟩
/-- Behind the marks too. -/
theorem Took.mk {w wr wc w1 : World} {l vL vM vM' : Value} {T n bk : Nat} {m : UInt8} {L : List Value} {M : List UInt8} (hb : Book1 w bk T vL vM L M) (hT : T ≤ w.heap.size)
    (hkp : Kp w wr (fun k => some k = l.ownBlock)) (hl : ∀ k, l.ownBlock = some k → T ≤ k) (hmid : Mid T wr bk vL vM l L n m wc) (hn : n ≤ 1099511627000) (hM : Ob wc (bk + 1) vM M)
    (hO : Ob w1 (bk + 1) vM' (M ++ [m, m, m, m])) (hg : wc.grownBy w1 vM.ownBlock) (ha : vM'.ownBlock = vM.ownBlock ∨ ∃ b, vM'.ownBlock = some b ∧ wc.heap.size ≤ b) :
    Took w bk vL vM l L (w1.setCell ⟨bk, 1, none⟩ vM') := by
  obtain ⟨vL', v1, v2, v3, h1, h2, h3, h4, h5⟩ := hmid
  have hb1 : Book1 wr bk T vL vM L M := hb.kp hT hkp (fun k hk e => by have := hl k e.symm; omega)
  have hlt := hb.lt
  have hs1 := hkp.size
  have hs3 := h3.size
  have hsg := hg.size
  have hz : (w1.setCell ⟨bk, 1, none⟩ vM').heap.size = w1.heap.size := by simp [World.setCell]
  have hK : Kp wc (w1.setCell ⟨bk, 1, none⟩ vM') (fun k => some k = vM.ownBlock ∨ k = bk) := ((Kp.of_grown hg).mono (fun k e => .inl e)).trans (Kp.set _ _) (fun k _ e => .inr e)
  have hMn : ∀ k, vM'.ownBlock = some k → (some k = vM.ownBlock ∨ wc.heap.size ≤ k) ∧ k < w1.heap.size ∧ bk < k := fun k hk => ⟨by
    rcases ha with e | ⟨b, e, hb⟩
    · exact .inl (by rw [← e]; exact hk.symm)
    · rw [e] at hk; injection hk with hk; subst hk; exact .inr hb, (hO.lt k hk).2, (hO.lt k hk).1⟩
  have hLne : ∀ k, vL'.ownBlock = some k → ¬ (some k = vM.ownBlock ∨ k = bk) := fun k hk e => by
    rcases e with e | e
    · exact own_type_ne h2 hM (by decide) k hk e.symm
    · have := (h2.lt k hk).1; omega
  refine ⟨vL', vM', L ++ [l, v1, v2, v3], M ++ [m, m, m, m], ⟨?_, by rw [hz]; omega, by rw [List.length_append]; exact own_kp h2 hK hLne, own_kp hO (Kp.set _ _) (fun k hk e => by have := (hO.lt k hk).1; simp at e; omega),
    fun k hk => by rw [hz]; have := (h4 k hk).2; omega, fun k hk => by rw [hz]; exact (hMn k hk).2.1, by simp [hb.len], ?_, ?_⟩, by simp, ?_, ?_, ?_⟩
  · have hbk : w1.heap[bk]? = some (.cells #[vL', vM] 29 (0, 0)) := by
      rw [hg.block bk (by omega) (fun e => by have := (hM.lt bk e.symm).1; omega)]; exact h1
    have hlt4 : bk < w1.heap.size := (Array.getElem?_eq_some_iff.1 hbk).1
    have hv := (Array.getElem?_eq_some_iff.1 hbk).2
    simp only [World.setCell]
    rw [Array.getElem?_eq_getElem (by simpa using hlt4), Array.getElem_modify]
    simp [hv]
  · intro i u q hi hq
    by_cases hil : i < L.length
    · rw [List.getElem?_append_left hil] at hi
      rw [List.getElem?_append_left (by rw [← hb.len]; exact hil)] at hq
      obtain ⟨k, hk, hB⟩ := hb1.each i u q hi hq
      have hap := hb.apart u (List.mem_of_getElem? hi)
      refine ⟨k, hk, (hB.kp h3 (fun x hx e => ?_)).kp hK (fun x hx e => ?_)⟩
      · have := hap x hx
        rcases e with e | e | e
        · have := hl x e.symm; omega
        · exact this.2.1 e
        · exact this.2.2.1 e
      · have := hap x hx
        rcases e with e | e
        · exact this.2.2.2 e
        · exact this.2.1 e
    · rw [List.getElem?_append_right (by omega)] at hi
      rw [List.getElem?_append_right (by rw [← hb.len]; omega)] at hq
      have hqm : q = m := by
        have := List.mem_of_getElem? hq
        simpa using this
      subst hqm
      have key : ∀ p, p ∈ [(l, n), (v1, n + 1), (v2, n + 2), (v3, n + 200)] → Bs (w1.setCell ⟨bk, 1, none⟩ vM') p.1 (List.replicate p.2 q) := fun p hp => (h5 p hp).1.kp hK (fun x hx e => by
        have hx1 : T ≤ x := by
          rcases ((h5 p hp).2 x hx).1 with e1 | e1
          · exact hl x e1.symm
          · omega
        rcases e with e | e
        · have := hb.ltM x e.symm; omega
        · omega)
      have hu := List.mem_of_getElem? hi
      simp only [List.mem_cons, List.not_mem_nil, or_false] at hu
      rcases hu with rfl | rfl | rfl | rfl
      · exact ⟨n, by omega, key (u, n) (List.Mem.head _)⟩
      · exact ⟨n + 1, by omega, key (u, n + 1) (List.Mem.tail _ (List.Mem.head _))⟩
      · exact ⟨n + 2, by omega, key (u, n + 2) (List.Mem.tail _ (List.Mem.tail _ (List.Mem.head _)))⟩
      · exact ⟨n + 200, by omega, key (u, n + 200) (List.Mem.tail _ (List.Mem.tail _ (List.Mem.tail _ (List.Mem.head _))))⟩
  · intro u hu k hk
    rw [hz]
    rcases List.mem_append.1 hu with hu | hu
    · have hap := hb.apart u hu k hk
      refine ⟨by omega, hap.2.1, fun e => ?_, fun e => ?_⟩
      · rcases (h4 k e.symm).1 with e1 | e1
        · exact hap.2.2.1 e1
        · omega
      · rcases (hMn k e.symm).1 with e1 | e1
        · exact hap.2.2.2 e1
        · omega
    · have hp : ∃ j, (u, j) ∈ [(l, n), (v1, n + 1), (v2, n + 2), (v3, n + 200)] := by
        simp only [List.mem_cons, List.not_mem_nil, or_false] at hu
        rcases hu with rfl | rfl | rfl | rfl
        · exact ⟨_, List.Mem.head _⟩
        · exact ⟨_, List.Mem.tail _ (List.Mem.head _)⟩
        · exact ⟨_, List.Mem.tail _ (List.Mem.tail _ (List.Mem.head _))⟩
        · exact ⟨_, List.Mem.tail _ (List.Mem.tail _ (List.Mem.tail _ (List.Mem.head _)))⟩
      obtain ⟨j, hj⟩ := hp
      have h6 := (h5 _ hj).2 k hk
      have hx1 : T ≤ k := by
        rcases h6.1 with e1 | e1
        · exact hl k e1.symm
        · omega
      refine ⟨by omega, by omega, h6.2.2, fun e => ?_⟩
      rcases (hMn k e.symm).1 with e1 | e1
      · have := hb.ltM k e1.symm; omega
      · omega
  · refine ((hkp.mono (fun k e => .inr e)).trans h3 (fun k _ e => ?_)).trans hK (fun k _ e => ?_)
    · rcases e with e | e | e
      · exact .inr e
      · exact .inl (.inl e)
      · exact .inl (.inr (.inl e))
    · rcases e with e | e
      · exact .inl (.inr (.inr e))
      · exact .inl (.inl e)
  · rintro k (e | e | e)
    · exact .inl (.inl e)
    · rcases (h4 k e.symm).1 with e1 | e1
      · exact .inl (.inr (.inl e1))
      · exact .inr (by omega)
    · rcases (hMn k e.symm).1 with e1 | e1
      · exact .inl (.inr (.inr e1))
      · exact .inr (by omega)
  · intro u hu
    rcases List.mem_append.1 hu with hu | hu
    · exact .inl hu
    · refine .inr fun k hk => ?_
      have hp : ∃ j, (u, j) ∈ [(l, n), (v1, n + 1), (v2, n + 2), (v3, n + 200)] := by
        simp only [List.mem_cons, List.not_mem_nil, or_false] at hu
        rcases hu with rfl | rfl | rfl | rfl
        · exact ⟨_, List.Mem.head _⟩
        · exact ⟨_, List.Mem.tail _ (List.Mem.head _)⟩
        · exact ⟨_, List.Mem.tail _ (List.Mem.tail _ (List.Mem.head _))⟩
        · exact ⟨_, List.Mem.tail _ (List.Mem.tail _ (List.Mem.tail _ (List.Mem.head _)))⟩
      obtain ⟨j, hj⟩ := hp
      exact ((h5 _ hj).2 k hk).1.imp id (fun x => by omega)
theorem lit2 (m : UInt8) : (#[.int .u8 (m.toNat : Int), .int .u8 (m.toNat : Int)] : Array Value).toList = bys (List.replicate 2 m) := rfl
theorem lit4 (m : UInt8) : (#[.int .u8 (m.toNat : Int), .int .u8 (m.toNat : Int), .int .u8 (m.toNat : Int), .int .u8 (m.toNat : Int)] : Array Value).toList = bys [m, m, m, m] := rfl
theorem lit1m (m : UInt8) : (#[.int .u8 (m.toNat : Int)] : Array Value).toList = bys (List.replicate 1 m) := rfl

set_option maxRecDepth 100000 in
set_option maxHeartbeats 20000000 in
theorem take_any (bk T : Nat) (vL vM l : Value) (L : List Value) (M xs : List UInt8) (w : World) (hb : Book1 w bk T vL vM L M) (hT : T ≤ w.heap.size) (HO : Ob w T l xs)
    (hx : xs.length ≤ 1099511627000) (hL : L.length ≤ 1073741824) : Calls Tryd.prog 18 #[.pointer (some ⟨bk, 0, none⟩), l] w fun e w' => e = .returned (.tuple #[]) ∧ Took w bk vL vM l L w' := by
  obtain ⟨AL, cL, rfl, hLn, hLc⟩ : ∃ A c, vL = .slice A L.length c ∧ L.length ≤ c ∧ c ≤ maxLen := by
    obtain ⟨A, c, e, _, h1, h2, _⟩ := Rd.of_own hb.ownL; exact ⟨A, c, e, h1, h2⟩
  obtain ⟨A, c, rfl⟩ := HO.slice
  have hbk := Lib.hid hb
  have hc0 : w.cell? ⟨bk, 0, none⟩ = some (.slice AL L.length cL) := by rw [cell_of_row w bk 0 _ _ _ hb.blk]; rfl
  have hc1 : w.cell? ⟨bk, 1, none⟩ = some vM := by rw [cell_of_row w bk 1 _ _ _ hb.blk]; rfl
  have hlt := hb.lt
  clear hb hLc
  obtain ⟨m, hm⟩ : ∃ m : UInt8, (L.length : Int) % 200 + 40 = (m.toNat : Int) := ⟨UInt8.ofNat (L.length % 200 + 40), by
    have : (UInt8.ofNat (L.length % 200 + 40)).toNat = (L.length % 200 + 40) % 256 := by simp
    rw [this]; omega⟩
  go_enter Tryd.func18, Tryd.ntmps18
  go_wp2
  clear hm
  have hcells : Hid (∀ k (hk : k < xs.length), ∃ g, A = some ⟨g, 0, none⟩) := fun k hk => by
    obtain ⟨g, cap, e, _⟩ := HO.form (by omega); injection e with e _ _; exact ⟨g, e⟩
  have hxm : xs.length ≤ 9223372036854775807 := by omega
  go_loopw [5] (fun i wr => ∃ k : Nat, k ≤ xs.length ∧ i = .int .i64 k ∧ Ob wr T (.slice A xs.length c) (List.replicate k m ++ xs.drop k) ∧ w.grownBy wr (Value.slice A xs.length c).ownBlock) (fun i _ => xs.length - (intOf i).toNat)
  case atStart => exact ⟨0, Nat.zero_le _, rfl, by simpa using HO, grownBy_refl _ _⟩
  case round =>
    obtain ⟨k, hk, rfl, HO1, hg1⟩ := hrel
    by_cases hlt2 : k < xs.length
    · obtain ⟨g, rfl⟩ := hcells.out k hlt2
      have hkl : k < (List.replicate k m ++ xs.drop k).length := by simp; omega
      obtain ⟨hcell, hfr⟩ := HO1.cell hkl
      obtain ⟨HO2, hg2⟩ := HO1.put hkl m
      have hst := Lib.hid (show (List.replicate k m ++ xs.drop k).set k m = List.replicate (k + 1) m ++ xs.drop (k + 1) by
        rw [List.set_append_right _ _ (by simp), List.length_replicate, Nat.sub_self, List.drop_eq_getElem_cons hlt2, List.set_cons_zero, List.replicate_succ']
        simp)
      generalize (List.replicate k m ++ xs.drop k)[k] = z at hcell
      unfold byt at hcell
      go_wp2
      go_roundw
      case rel => exact ⟨k + 1, by omega, by go_num, by rw [← hst.out]; exact HO2, hg1.trans hg2⟩
      case measure => simp [intOf]; omega
    · obtain rfl : k = xs.length := by omega
      rw [List.drop_length, List.append_nil] at HO1
      have hkp : Kp w wr (fun k => some k = (Value.slice A xs.length c).ownBlock) := Kp.of_grown hg1
      have hol := fun k (e : (Value.slice A xs.length c).ownBlock = some k) => (HO1.lt k e).1
      have hcr0 := hkp.cell hc0 (fun e => by have := hol bk e.symm; omega)
      have hst := St.start HO1
      clear hc0 hc1
      have hTw : T ≤ wr.heap.size := by have := hg1.size; omega
      have hbr : Book1 wr bk T (.slice AL L.length cL) vM L M := hbk.out.kp hT hkp (fun k hk e => by have := hol k e.symm; omega)
      have HBR := Lib.hid hbr
      clear hbr
      obtain ⟨-, hne0, hne1⟩ := bkf hst HBR.out hol
      have hne2 : ∀ o, (wr.alloc o).drew.cell? ⟨bk, 0, none⟩ = some (.slice AL L.length cL) := hne0
      have hne3 : ∀ o o', ((wr.alloc o).alloc o').drew.cell? ⟨bk, 0, none⟩ = some (.slice AL L.length cL) := hne1
      have hn9 : xs.length ≤ 1099511627776 := by omega
      have h1k : (1 : Nat) ≤ 1000 := by omega
      have h2k : (2 : Nat) ≤ 1000 := by omega
      have hA := hst.drew.lit _ 1 wr.heap.size (lit1m m) h1k rfl
      have hC := hA.lit _ 2 (wr.heap.size + 1) (lit2 m) h2k (by simp)
      have hB := (hst.drew.lit _ 2 wr.heap.size (lit2 m) h2k rfl).lit _ 1 (wr.heap.size + 1) (lit1m m) h1k (by simp)
      have hb1 : L.length + 4 ≤ maxLen := by unfold maxLen; omega
      have hb2 : (L.length + 4) * 24 ≤ 140737488355328 := by omega
      go_upto_region 5 with fail
      go_cut [] (fun wx => Mid T wr bk (.slice AL L.length cL) vM (.slice A xs.length c) L xs.length m wx)
      case first =>
        go_region_law (first
          | (refine step_mark rfl (.tmp 30) _ rfl rfl _ 1 rfl hA (List.Mem.head _) hn9 h1k hTw ?_; intro v1 w1 hst1; obtain ⟨q1a, q1b, q1c⟩ := bkf hst1 HBR.out hol)
          | (refine step_mark rfl (.tmp 30) _ rfl rfl _ 1 rfl hB (List.Mem.head _) hn9 h1k hTw ?_; intro v1 w1 hst1; obtain ⟨q1a, q1b, q1c⟩ := bkf hst1 HBR.out hol)
          | (refine step_mark rfl (.tmp 30) _ rfl rfl _ 1 rfl hC (List.Mem.tail _ (List.Mem.head _)) hn9 h1k hTw ?_; intro v1 w1 hst1; obtain ⟨q1a, q1b, q1c⟩ := bkf hst1 HBR.out hol)
          | (refine step_mark rfl (.tmp 34) _ rfl rfl _ 2 rfl (hst1.lit _ 2 _ (lit2 m) h2k rfl) (List.Mem.head _) hn9 h2k hTw ?_; intro v2 w2 hst2; obtain ⟨q2a, q2b, q2c⟩ := bkf hst2 HBR.out hol)
          | (refine step_mark rfl (.tmp 34) _ rfl rfl _ 2 rfl hst1 (List.Mem.tail _ (List.Mem.head _)) hn9 h2k hTw ?_; intro v2 w2 hst2; obtain ⟨q2a, q2b, q2c⟩ := bkf hst2 HBR.out hol)
          | (refine step_mark rfl (.tmp 34) _ rfl rfl _ 2 rfl hst1 (List.Mem.tail _ (List.Mem.tail _ (List.Mem.head _))) hn9 h2k hTw ?_; intro v2 w2 hst2; obtain ⟨q2a, q2b, q2c⟩ := bkf hst2 HBR.out hol)
          | (go_simp; refine (longer_st hst2 hn9 hTw).mono ?_; rintro e w3 ⟨v3, rfl, hst3⟩; obtain ⟨q3a, q3b, q3c⟩ := bkf hst3 HBR.out hol; obtain ⟨A1, c1, rfl⟩ := hst1.form; obtain ⟨A2, c2, rfl⟩ := hst2.form; obtain ⟨A3, c3, rfl⟩ := hst3.form)
          | (refine step_keep rfl (.tmp 28) _ rfl rfl rfl hst3 HBR.out hol hTw hL [_, _, _, _] rfl (one4 _ _ _ _ _ _ _ _ _ _ _ _) ?_; intro A5 c5 w4 g1 g2 g3 hcb hfb))
        all_goals
          go_wp2_with fail
          go_meet
          first
            | exact Mid.mk hst3 HBR.out hol hTw (List.Mem.tail _ (List.Mem.tail _ (List.Mem.head _))) (List.Mem.tail _ (List.Mem.head _)) (List.Mem.head _) g1 g2 g3
            | exact Mid.mk hst3 HBR.out hol hTw (List.Mem.tail _ (List.Mem.tail _ (List.Mem.tail _ (List.Mem.head _)))) (List.Mem.tail _ (List.Mem.head _)) (List.Mem.head _) g1 g2 g3
      case rest =>
        obtain ⟨vL', v1, v2, v3, k1, k2, k3, k4, k5⟩ := id hcut
        have hmid := Lib.hid hcut
        have hM : Ob wc (bk + 1) vM M := own_kp HBR.out.ownM k3 (fun k hk e => by
          rcases e with e | e | e
          · have := hol k e.symm; have := HBR.out.ltM k hk; omega
          · have := (HBR.out.ownM.lt k hk).1; omega
          · exact own_type_ne HBR.out.ownM HBR.out.ownL (by decide) k hk e.symm)
        have hMl := HBR.out.len
        have hbkc : wc.cell? ⟨bk, 1, none⟩ = some vM := by rw [cell_of_row wc bk 1 _ _ _ k1]; rfl
        have hfzc : wc.frozen? ⟨bk, 1, none⟩ = false := by simp [World.frozen?, k1]
        have hszc : bk + 1 ≤ wc.heap.size := by have := k3.size; omega
        obtain ⟨AM, cM, rfl⟩ := hM.slice
        clear k1 k2 k3 k4 k5 hcut hne0 hne1 hne2 hne3 hA hB hC hst hcr0 hcells hb1 hb2
        have HM := Lib.hid hM
        go_wp2_with (at_builtin; refine appB (bk + 1) rfl _ _ rfl _ M _ [m, m, m, m] rfl rfl (HM.out.below ((Below.refl _ _).alloc (Nat.le_refl _) _)) (Bs.litn _ _ [m, m, m, m] 4 _ (lit4 m) rfl (by omega) rfl) (by simp only [List.length_cons, List.length_nil]; omega) ((Below.refl (bk + 1) wc).alloc hszc _) (by simp; omega) ?_; intro v5 w5 HO5 HB5 HG5 HA5; have hc5 := (HB5.cell (p := ⟨bk, 1, none⟩) (Nat.lt_succ_self bk)).trans hbkc; have hf5 := ((bcell HB5).2 bk 1 (Nat.lt_succ_self bk)).trans hfzc; obtain ⟨A5, c5, rfl⟩ : ∃ A c, v5 = .slice A (M.length + 4) c := by have h := HO5.slice; rw [List.length_append] at h; exact h)
        go_end0
        exact ⟨rfl, Took.mk hbk.out hT hkp hol hmid.out (by omega) HM.out HO5 ((World.grownBy_alloc wc _ _).trans HG5) (match HA5 with | .inl e => .inl e | .inr ⟨b, e, hb⟩ => .inr ⟨b, e, by simp at hb; omega⟩)⟩
end Go.Proofs.YtfmlkagcmkbebaaDoor
