/- One round of given's first loop. -/
import Derived.Test.YtfmlkagcmkbebaaDoorLn
namespace Go.Proofs.YtfmlkagcmkbebaaDoor
open Go.RowKit

/-- An append in a region that draws, in a round. -/
theorem stepIn_app {F : Fence} {m0 : Nat} {P : Program} {ops : Array Oper} {o : Oper} {a : Act} {K : Act → World → Prop} {Q : Exit → Act → World → Prop} {E : Prop} {W : World} (base : Nat) (hgd : o.guard = none) (s x : Operand) (t e : TypeId) (z : Value) (sz bytes : Nat)
    (ho : o.op = .call { callee := .builtin .append, args := #[s, x], argTypes := #[t, t] }) (ht : P.underlying t = some (.slice e))
    (hinfo : (P.info? e).map (fun i => (i.zero, i.size, i.bytes)) = some (some z, sz, bytes)) (hz : z.cells.size = sz) (hsz : 0 < sz)
    (v : Value) (n : Nat) (xs : List Value) (y : Value) (m : Nat) (ys : List Value) (hs : a.eval s = v) (hx : a.eval x = y)
    (HO : W.ownsRow base e sz v n xs) (hR : Rd W sz y m ys) (h1 : ∀ u ∈ ys, u.oneCell' = true)
    (h63 : n + m ≤ maxLen) (hl : (n + m) * bytes ≤ 140737488355328) (hbase : base ≤ W.heap.size)
    (h : ∀ v1 w1, w1.ownsRow base e sz v1 (n + m) (xs ++ ys) → W.grownBy w1 v.ownBlock → (v1.ownBlock = v.ownBlock ∨ ∃ b, v1.ownBlock = some b ∧ W.heap.size ≤ b) → K (a.put o.dst v1) w1) :
    if Region.wanted o (yielded ops a.tmps) = true then Oper.wpIn F m0 P o a W K Q else E := by
  have hw : Region.wanted o (yielded ops a.tmps) = true := by simp [Region.wanted, hgd]
  rw [if_pos hw]
  obtain ⟨v1, w1, hr, h2, h3, h4, h5, h6⟩ := run_app (P := P) W base t o.type e z sz bytes ht hinfo hz hsz v n xs HO y m ys hR h1 h63 hl hbase
  unfold Oper.wpIn
  refine ⟨?_, ?_⟩
  · simp [Oper.about, ho, resolve, Target.leads, Sem.run_pure]
  · rw [Oper.semAt_plain F _ _ (by rw [ho]; intro c hc'; cases hc')]
    simp only [execOp, ho, resolve, invoke, builtin, Sem.run_bind, Sem.run_pure, Result.andThen_ok, List.map_toArray, List.map_cons, List.map_nil, hs, hx, hr]
    exact h v1 w1 h2 h3 h4

/-- Ahead of take: the piece has been copied behind the others. -/
def Mid2 (w Wx Wa W1 : World) (bk l0 k : Nat) (ps : Nat → List UInt8) (p : Value) (W2 : World) : Prop :=
  ∃ vL vM L M v1, Book1 W2 bk Wa.heap.size vL vM L M ∧ L.length = l0 + 4 * k ∧ W2.heap[Wx.heap.size]? = some (.cells #[v1] 24 (0, 0)) ∧
    OutC W2 (Wx.heap.size + 1) v1 ((List.range (k + 1)).map ps) (fun j => Clear bk vL vM L j ∧ (j < Wa.heap.size ∨ W1.heap.size ≤ j)) ∧ (∀ j, w.heap.size ≤ j → j ≤ Wx.heap.size → Clear bk vL vM L j) ∧
    Agree (CutRange w.heap.size Wx.heap.size) Wx W2 ∧ Below bk w W2 ∧ Ob W2 Wa.heap.size p (ps k) ∧ KeepsOthers W1 W2 ∧ Wa.heap.size ≤ W2.heap.size ∧ ∀ j, p.ownBlock = some j → j < W1.heap.size

theorem Mid2.mk {w Wx Wa W1 W2a w3 : World} {bk l0 k : Nat} {ps : Nat → List UInt8} {p c v1 vo vL vM : Value} {L vs : List Value} {M : List UInt8} (hw : bk < w.heap.size) (hx : w.heap.size ≤ Wx.heap.size) (htb : 0 < bk)
    (h1 : Book1 Wa bk Wa.heap.size vL vM L M) (h2 : L.length = l0 + 4 * k) (h3 : Wa.heap[Wx.heap.size]? = some (.cells #[vo] 24 (0, 0)))
    (o1 : Wa.ownsRow (Wx.heap.size + 1) 22 1 vo k vs) (o2 : vs.length = k) (o3 : ∀ (i : Nat) (u : Value) (xs : List UInt8), vs[i]? = some u → ((List.range k).map ps)[i]? = some xs → Ob Wa (Wx.heap.size + 1) u xs)
    (o4 : ∀ j, vo.ownBlock = some j → Clear bk vL vM L j ∧ j < Wa.heap.size) (o5 : ∀ u, u ∈ vs → ∀ j, u.ownBlock = some j → Clear bk vL vM L j ∧ j < Wa.heap.size)
    (h5 : ∀ j, w.heap.size ≤ j → j ≤ Wx.heap.size → Clear bk vL vM L j) (h6 : Agree (CutRange w.heap.size Wx.heap.size) Wx Wa) (h7 : Below bk w Wa)
    (hb : Below Wa.heap.size Wa W1) (hp : Ob W1 Wa.heap.size p (ps k)) (hc : Ob W2a W1.heap.size c (ps k)) (hbc : Below W1.heap.size W1 W2a)
    (g1 : w3.ownsRow (Wx.heap.size + 1) 22 1 v1 (k + 1) (vs ++ [c])) (g2 : W2a.grownBy w3 vo.ownBlock) (g3 : v1.ownBlock = vo.ownBlock ∨ ∃ b, v1.ownBlock = some b ∧ W2a.heap.size ≤ b) :
    Mid2 w Wx Wa W1 bk l0 k ps p (w3.setCell ⟨Wx.heap.size, 0, none⟩ v1) := by
  have hlt : Wx.heap.size < Wa.heap.size := (Array.getElem?_eq_some_iff.1 h3).1
  have s1 := hb.size
  have s2 := hbc.size
  have s3 := g2.size
  have sw := h7.size
  have hz : (w3.setCell ⟨Wx.heap.size, 0, none⟩ v1).heap.size = w3.heap.size := by simp [World.setCell]
  have hK : Kp W2a (w3.setCell ⟨Wx.heap.size, 0, none⟩ v1) (fun j => some j = vo.ownBlock ∨ j = Wx.heap.size) := ((Kp.of_grown g2).mono (fun k e => .inl e)).trans (Kp.set _ _) (fun k _ e => .inr e)
  have hbac : Below Wa.heap.size Wa W2a := hb.trans (hbc.mono s1)
  have hS : ∀ j, (some j = vo.ownBlock ∨ j = Wx.heap.size) → Clear bk vL vM L j ∧ j < Wa.heap.size ∧ Wx.heap.size ≤ j := fun j e => by
    rcases e with e | e
    · exact ⟨(o4 j e.symm).1, (o4 j e.symm).2, by have := (o1.lt j e.symm).1; omega⟩
    · exact ⟨h5 j (by omega) (by omega), by omega, by omega⟩
  have hB2a : Book1 W2a bk Wa.heap.size vL vM L M := h1.below (Nat.le_refl _) hbac
  have hv1 : ∀ j, v1.ownBlock = some j → (Clear bk vL vM L j ∧ (j < Wa.heap.size ∨ W1.heap.size ≤ j)) ∧ j < w3.heap.size := fun j e => ⟨by
    rcases g3 with e1 | ⟨b, e1, hb'⟩
    · rw [e1] at e; exact ⟨(o4 j e).1, .inl (o4 j e).2⟩
    · rw [e1] at e; injection e with e; subst e; exact ⟨h1.fresh (by omega), .inr (by omega)⟩, (g1.lt j e).2⟩
  have oa := own_below o1 hbac
  refine ⟨vL, vM, L, M, v1, hB2a.keep (by omega) hK (fun j e => (hS j e).1), h2, ?_, ⟨vs ++ [c], ?_, by simp [o2], ?_, ?_, ?_⟩, h5, ?_, ?_, ?_, ⟨by omega, ?_⟩, by omega, fun j e => (hp.lt j e).2⟩
  · have hbk : w3.heap[Wx.heap.size]? = some (.cells #[vo] 24 (0, 0)) := by
      rw [g2.block _ (by omega) (fun e => by have := (o1.lt _ e.symm).1; omega), hbac.block _ hlt]; exact h3
    have hlt4 := (Array.getElem?_eq_some_iff.1 hbk).1
    have hv := (Array.getElem?_eq_some_iff.1 hbk).2
    simp only [World.setCell]
    rw [Array.getElem?_eq_getElem (by simpa using hlt4), Array.getElem_modify]
    simp [hv]
  · rw [List.length_map, List.length_range]
    exact own_kp g1 (Kp.set _ _) (fun j e x => by have := (g1.lt j e).1; simp at x; omega)
  · intro i u xs a b
    have keep : ∀ u xs, Ob W2a (Wx.heap.size + 1) u xs → Ob (w3.setCell ⟨Wx.heap.size, 0, none⟩ v1) (Wx.heap.size + 1) u xs := fun u xs hu => own_kp hu hK (fun j e x => by
      rcases x with x | x
      · exact own_type_ne hu oa (by decide) j e x.symm
      · have := (hu.lt j e).1; omega)
    by_cases hi : i < k
    · rw [List.getElem?_append_left (by omega)] at a
      refine keep u xs (own_below (o3 i u xs a ?_) hbac)
      rw [List.getElem?_map, List.getElem?_range (by omega)] at b
      rw [List.getElem?_map, List.getElem?_range hi]; exact b
    · have hik : i = k := by
        have := (List.getElem?_eq_some_iff.1 a).1
        simp [o2] at this; omega
      subst hik
      rw [List.getElem?_append_right (by omega), o2, Nat.sub_self] at a
      simp at a
      rw [List.getElem?_map, List.getElem?_range (by omega)] at b
      simp at b
      subst a; subst b
      exact keep _ _ (own_mono hc (by omega))
  · intro j e; rw [hz]; exact hv1 j e
  · intro u hu j e
    rw [hz]
    rcases List.mem_append.1 hu with hu | hu
    · have := o5 u hu j e
      exact ⟨⟨this.1, .inl this.2⟩, by omega⟩
    · rw [List.mem_singleton] at hu; subst hu
      have := hc.lt j e
      exact ⟨⟨h1.fresh (by omega), .inr this.1⟩, by omega⟩
  · exact (h6.below hbac (fun i hi => by rcases hi with hi | hi <;> omega)).kp hK (fun i hi => ⟨by rcases hi with hi | hi <;> omega, fun e => by have := (hS i e).2; rcases hi with hi | hi <;> omega⟩)
  · exact (h7.trans (hbac.mono (by omega))).trans (hK.below (by omega) (fun j e => by have := (hS j e).2; omega))
  · exact own_kp (own_below hp hbc) hK (fun j e x => by have := (hp.lt j e).1; have := (hS j x).2.1; omega)
  · intro j o hj ho
    have hj1 : j < W1.heap.size := (Array.getElem?_eq_some_iff.1 hj).1
    have hj2 : W2a.heap[j]? = some o := (hbc.block j hj1).trans hj
    rw [hK.block j (by omega) (fun e => ?_)]
    · exact hj2
    · rcases e with e | e
      · rcases oa.2 with ⟨rfl, _⟩ | ⟨g, cap, cur, rfl, _, hh, _⟩
        · simp [Value.ownBlock] at e
        · simp only [Value.ownBlock] at e; injection e with e; subst e
          rw [hh] at hj2; injection hj2 with hj2; subst hj2; simp [Obj.isCells] at ho
      · subst e
        have hq := (hbac.block _ hlt).trans h3
        rw [hq] at hj2; injection hj2 with hj2; subst hj2; simp [Obj.isCells] at ho

theorem In1.step {w Wx Wa W1 W2 W3 : World} {bk l0 k : Nat} {ps : Nat → List UInt8} {stop : Int} {p v1 vL vM : Value} {L : List Value} {M : List UInt8} (hw : bk < w.heap.size) (hx : w.heap.size ≤ Wx.heap.size) (htb : 0 < bk) (hbx : Wx.heap.size < Wa.heap.size) (_hs1 : Wa.heap.size ≤ W1.heap.size)
    (h1 : Book1 W2 bk Wa.heap.size vL vM L M) (h2 : L.length = l0 + 4 * k) (h3 : W2.heap[Wx.heap.size]? = some (.cells #[v1] 24 (0, 0)))
    (h4 : OutC W2 (Wx.heap.size + 1) v1 ((List.range (k + 1)).map ps) (fun j => Clear bk vL vM L j ∧ (j < Wa.heap.size ∨ W1.heap.size ≤ j))) (h5 : ∀ j, w.heap.size ≤ j → j ≤ Wx.heap.size → Clear bk vL vM L j)
    (h6 : Agree (CutRange w.heap.size Wx.heap.size) Wx W2) (h7 : Below bk w W2) (hp : Ob W2 Wa.heap.size p (ps k)) (hko : KeepsOthers W1 W2) (hs2 : Wa.heap.size ≤ W2.heap.size) (hpl : ∀ j, p.ownBlock = some j → j < W1.heap.size)
    (ht : Took W2 bk vL vM p L W3) (hst : ∀ j : Nat, j < k + 1 → (j : Int) ≠ stop) : In1 w Wx bk l0 ps stop (k + 1) W3 ∧ KeepsOthers W1 W3 := by
  obtain ⟨vL', vM', L', M', t1, t2, t3, t4, t5⟩ := ht
  have s3 := t3.size
  have sw := h7.size
  have hfoot : ∀ j, Foot bk vL vM j → bk ≤ j := fun j e => by
    rcases e with e | e | e
    · omega
    · have := (h1.ownL.lt j e.symm).1; omega
    · have := (h1.ownM.lt j e.symm).1; omega
  have hnew : ∀ j, Clear bk vL vM L j → some j ≠ p.ownBlock → j < W2.heap.size → Clear bk vL' vM' L' j := fun j hc hpj hj => by
    have hnf : ¬ Foot bk vL' vM' j := fun e => by
      rcases t4 j e with e1 | e1
      · exact hc.foot e1
      · omega
    refine ⟨fun e => hnf (.inl e), fun e => hnf (.inr (.inl e)), fun e => hnf (.inr (.inr e)), fun u hu e => ?_⟩
    rcases t5 u hu with e1 | e1
    · exact hc.2.2.2 u e1 e
    · rcases e1 j e with e2 | e2
      · exact hpj e2
      · omega
  have hpn : ∀ j, j < Wa.heap.size ∨ W1.heap.size ≤ j → some j ≠ p.ownBlock := fun j hj e => by
    have a1 := (hp.lt j e.symm).1
    have a2 := hpl j e.symm
    omega
  refine ⟨⟨vL', vM', L', M', v1, t1, by omega, ?_, h4.kp t3 (fun j hj hc => ⟨fun e => ?_, hnew j hc.1 (hpn j hc.2) hj⟩), fun j a b => hnew j (h5 j a b) (hpn j (.inl (by omega))) (by omega), ?_, ?_, hst⟩, ?_⟩
  · rw [t3.block _ (by omega) (fun e => ?_)]
    · exact h3
    · rcases e with e | e
      · exact (h5 _ (by omega) (Nat.le_refl _)).foot e
      · exact hpn _ (.inl hbx) e
  · rcases e with e | e
    · exact hc.1.foot e
    · exact hpn j hc.2 e
  · refine h6.kp t3 (fun i hi => ⟨by rcases hi with hi | hi <;> omega, fun e => ?_⟩)
    rcases e with e | e
    · rcases hi with hi | hi
      · exact (h5 i hi.1 (by omega)).foot e
      · have := hfoot i e; omega
    · have := (hp.lt i e.symm).1
      rcases hi with hi | hi <;> omega
  · refine h7.trans (t3.below (by omega) (fun j e => ?_))
    rcases e with e | e
    · exact hfoot j e
    · have := (hp.lt j e.symm).1; omega
  · refine hko.trans ⟨s3, fun j o hj ho => ?_⟩
    rw [t3.block j (Array.getElem?_eq_some_iff.1 hj).1 (fun e => ?_)]
    · exact hj
    · have cells : ∀ {e : TypeId} {base sz n : Nat} {v : Value} {xs : List Value}, W2.ownsRow base e sz v n xs → some j = v.ownBlock → False := fun hr e => by
        rcases hr.2 with ⟨rfl, _⟩ | ⟨g, cap, cur, rfl, _, hh, _⟩
        · simp [Value.ownBlock] at e
        · simp only [Value.ownBlock] at e; injection e with e; subst e
          rw [hh] at hj; injection hj with hj; subst hj; simp [Obj.isCells] at ho
      rcases e with (e | e | e) | e
      · subst e; rw [h1.blk] at hj; injection hj with hj; subst hj; simp [Obj.isCells] at ho
      · exact cells h1.ownL e
      · exact cells h1.ownM e
      · exact cells hp e

theorem copied {Wa W1 w2 : World} {ob k : Nat} {cv out : Value} {vs : List Value} {pz : List UInt8} (hbel : Below Wa.heap.size Wa W1) (g1 : w2.ownsRow W1.heap.size 5 1 cv (0 + pz.length) ([] ++ bys pz))
    (g2 : W1.drew.grownBy w2 (Value.slice none 0 0).ownBlock) (q : W1.cell? ⟨ob, 0, none⟩ = some out) (o1 : Wa.ownsRow (ob + 1) 22 1 out k vs) :
    ∃ Ac cc, cv = .slice Ac pz.length cc ∧ Below W1.heap.size W1 w2 ∧ Ob w2 W1.heap.size (.slice Ac pz.length cc) pz ∧ w2.cell? ⟨ob, 0, none⟩ = some out ∧ (∀ o, (w2.alloc o).cell? ⟨ob, 0, none⟩ = some out) ∧ ∀ o, (w2.alloc o).ownsRow (ob + 1) 22 1 out k vs := by
  rw [Nat.zero_add, List.nil_append] at g1
  have hb : Below W1.heap.size W1 w2 := ((Below.refl _ W1).drew).grown g2 (Nat.le_refl _) (fun j e => by simp [Value.ownBlock] at e)
  obtain ⟨A, c, rfl⟩ := Ob.slice (show Ob w2 W1.heap.size cv pz from g1)
  have q2 := cellBelow hb q
  have hx := hbel.trans (hb.mono hbel.size)
  exact ⟨A, c, rfl, hb, g1, q2, fun o => cellOld o q2, fun o => own_below o1 (hx.alloc hx.size o)⟩

theorem put9 {Wa W1 w2 w3 : World} {ob k : Nat} {v1 out u : Value} {t : TypeId} {vs : List Value} (g1 : w3.ownsRow (ob + 1) 22 1 v1 (k + 1) (vs ++ [u])) (g2 : (w2.alloc (.cells #[u] t)).grownBy w3 out.ownBlock)
    (g3 : v1.ownBlock = out.ownBlock ∨ ∃ b, v1.ownBlock = some b ∧ (w2.alloc (.cells #[u] t)).heap.size ≤ b) (b1 : W1.heap[ob]? = some (.cells #[out] 24 (0, 0))) (hb2 : Below W1.heap.size W1 w2) (_hbel : Below Wa.heap.size Wa W1) (o1 : Wa.ownsRow (ob + 1) 22 1 out k vs) :
    ∃ A9 c9, v1 = .slice A9 (k + 1) c9 ∧ w2.grownBy w3 out.ownBlock ∧ w3.cell? ⟨ob, 0, none⟩ = some out ∧ w3.frozen? ⟨ob, 0, none⟩ = false ∧ (v1.ownBlock = out.ownBlock ∨ ∃ b, v1.ownBlock = some b ∧ w2.heap.size ≤ b) := by
  have hg : w2.grownBy w3 out.ownBlock := (World.grownBy_alloc w2 _ _).trans g2
  obtain ⟨A, c, rfl, _⟩ := Rd.of_own g1
  have hlt := (Array.getElem?_eq_some_iff.1 b1).1
  have hb : w3.heap[ob]? = some (.cells #[out] 24 (0, 0)) := by
    rw [hg.block ob (by have := hb2.size; omega) (fun e => by have := (o1.lt ob e.symm).1; omega), hb2.block ob hlt]; exact b1
  exact ⟨A, c, rfl, hg, by rw [cell_of_row w3 ob 0 _ _ _ hb]; rfl, by simp [World.frozen?, hb], g3.imp id (fun ⟨b, e, h⟩ => ⟨b, e, by simp at h; omega⟩)⟩
end Go.Proofs.YtfmlkagcmkbebaaDoor
