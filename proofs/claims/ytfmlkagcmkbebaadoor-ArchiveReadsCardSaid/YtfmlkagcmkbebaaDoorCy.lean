/- Of these: Co Cp Cq. -/
import Derived.Test.YtfmlkagcmkbebaaDoorCn
import Derived.Test.YtfmlkagcmkbebaaDoorXi
import Derived.Test.YtfmlkagcmkbebaaDoorLg
import Derived.Deep.MidRow
import Derived.Laws.CopyOwn
import Derived.Test.YtfmlkagcmkbebaaDoorXh
import Derived.Test.YtfmlkagcmkbebaaDoorCards
import Derived.Test.YtfmlkagcmkbebaaDoorTie
import Derived.Test.YtfmlkagcmkbebaaDoorRa
import Derived.Test.YtfmlkagcmkbebaaDoorYw
import Derived.ProofKit
import Derived.OpenShut
import Derived.Deep.DeepHandedRow
import Derived.ShutString
import Derived.ChangeOld
import Derived.Below
import Derived.SevenTiedAt

/- What the loop of the law ArchiveReads keeps: data are taken into the Book, records are turned to marks. -/
namespace Go.Proofs.YtfmlkagcmkbebaaDoor
open Go.RowKit

theorem splice_app {α : Type} {X Y vs : List α} {o : Nat} (h : o + vs.length ≤ X.length) : splice (X ++ Y) o vs = splice X o vs ++ Y := by
  unfold splice
  rw [List.take_append_of_le_length (by omega), List.drop_append_of_le_length (by omega)]
  simp [List.append_assoc]
theorem splice_mid {α : Type} {X Y Z vs : List α} (h : vs.length = Y.length) : splice (X ++ (Y ++ Z)) X.length vs = X ++ (vs ++ Z) := by
  unfold splice
  rw [List.take_left' rfl, ← List.drop_drop, List.drop_left' rfl, List.drop_left' h.symm]
theorem heap_setCells (g : Nat) (t : TypeId) (fr : Nat × Nat) : ∀ (vs : List Value) (o : Nat) (w : World) (cur : Array Value), w.heap[g]? = some (.cells cur t fr) → o + vs.length ≤ cur.size →
    ∃ cur' : Array Value, (w.setCells g o vs).heap[g]? = some (.cells cur' t fr) ∧ cur'.toList = splice cur.toList o vs
  | [], o, w, cur, h, _ => ⟨cur, h, by simp [splice]⟩
  | v :: vs, o, w, cur, h, hl => by
    simp only [List.length_cons] at hl
    have h1 : (w.setCell ⟨g, o, none⟩ v).heap[g]? = some (.cells (cur.setIfInBounds o v) t fr) := by rw [setCell_eq_setRow w g o cur t fr v h, setRow_heap _ _ _ _ _ _ h]
    obtain ⟨cur', h2, h3⟩ := heap_setCells g t fr vs (o + 1) _ _ h1 (by simp; omega)
    refine ⟨cur', h2, ?_⟩
    have ho : o < cur.toList.length := by simp; omega
    have e1 : (cur.setIfInBounds o v).toList = (cur.toList.take o ++ [v]) ++ cur.toList.drop (o + 1) := by
      rw [Array.toList_setIfInBounds, List.set_eq_take_append_cons_drop, if_pos ho]; simp
    have hlen : (cur.toList.take o ++ [v]).length = o + 1 := by simp; omega
    rw [h3, e1]
    unfold splice
    rw [List.take_left' hlen, ← List.drop_drop (i := vs.length) (j := o + 1), List.drop_left' hlen, List.drop_drop, List.length_cons, show o + (vs.length + 1) = o + 1 + vs.length by omega]
    simp [List.append_assoc]
theorem kp_setCells (g : Nat) : ∀ (vs : List Value) (o : Nat) (w : World), Kp w (w.setCells g o vs) (fun k => k = g)
  | [], _, w => Kp.refl w _
  | v :: vs, o, w => (Kp.set (w := w) ⟨g, o, none⟩ v).trans (kp_setCells g vs (o + 1) (w.setCell ⟨g, o, none⟩ v)) (fun _ _ h => h)
theorem size_setCells' (g : Nat) : ∀ (vs : List Value) (o : Nat) (w : World), (w.setCells g o vs).heap.size = w.heap.size
  | [], _, w => rfl
  | v :: vs, o, w => (size_setCells' g vs (o + 1) (w.setCell ⟨g, o, none⟩ v)).trans (by simp [World.setCell])
/-- A part of an owned row is written over. -/
theorem own_splice {w : World} {B g n cap sz : Nat} {e : TypeId} {xs : List Value} (h : w.ownsRow B e sz (.slice (some ⟨g, 0, none⟩) n cap) n xs) (o : Nat) (vs : List Value) (hl : o + vs.length ≤ xs.length) :
    (w.setCells g o vs).ownsRow B e sz (.slice (some ⟨g, 0, none⟩) n cap) n (splice xs o vs) := by
  refine ⟨by rw [length_splice _ _ _ hl]; exact h.1, ?_⟩
  rcases h.2 with ⟨e1, _⟩ | ⟨g', cap', cur, e1, hB, hg, h1, h2, h3, h4⟩
  · cases e1
  · injection e1 with e1 _ e3
    injection e1 with e1; injection e1 with e1 _ _
    subst e1; subst e3
    have hx := h.1
    have hxl : xs.length ≤ cur.toList.length := by rw [← h4]; simp only [List.length_take]; omega
    obtain ⟨cur', c1, c2⟩ := heap_setCells g e (0, 0) vs o w cur hg (by have e := Array.length_toList (xs := cur); omega)
    have hcur : cur.toList = xs ++ cur.toList.drop (n * sz) := by rw [← h4, List.take_append_drop]
    refine .inr ⟨g, cap, cur', rfl, hB, c1, h1, h2, ?_, ?_⟩
    · rw [← Array.length_toList, c2, length_splice _ _ _ (Nat.le_trans hl hxl), Array.length_toList]; exact h3
    · rw [c2, hcur, splice_app hl, List.take_left' (by rw [length_splice _ _ _ hl]; exact hx)]
theorem own_there {w : World} {B g n cap sz : Nat} {e : TypeId} {xs : List Value} (h : w.ownsRow B e sz (.slice (some ⟨g, 0, none⟩) n cap) n xs) (o m : Nat) (hl : o + m ≤ xs.length) : w.there g o m := by
  rcases h.2 with ⟨e1, _⟩ | ⟨g', cap', cur, e1, hB, hg, h1, h2, h3, h4⟩
  · cases e1
  · injection e1 with e1 _ e3
    injection e1 with e1; injection e1 with e1 _ _
    subst e1; subst e3
    have hxl : xs.length ≤ cur.size := by rw [← h4, List.length_take, Array.length_toList]; omega
    intro j hj
    refine ⟨?_, by simp [World.frozen?, hg]⟩
    rw [cell_of_row w g (o + j) _ _ _ hg, Array.getElem?_eq_getElem (by omega)]; rfl

def mk9 : Rec := markR (-9)
theorem recCs_app (l1 l2 : List Rec) : recCs (l1 ++ l2) = recCs l1 ++ recCs l2 := by simp [recCs]
theorem recCs_len (l : List Rec) : (recCs l).length = l.length * 12 := by
  induction l with
  | nil => rfl
  | cons p l ih => rw [show p :: l = [p] ++ l from rfl, recCs_app, List.length_append, ih]; show 12 + _ = _; simp; omega
theorem recCs_mark {l : List Rec} {j : Nat} (hj : j < l.length) : splice (recCs (List.replicate j mk9 ++ l.drop j)) (j * 12) (recC mk9) = recCs (List.replicate (j + 1) mk9 ++ l.drop (j + 1)) := by
  rw [List.drop_eq_getElem_cons hj, show l[j] :: l.drop (j + 1) = [l[j]] ++ l.drop (j + 1) from rfl, recCs_app, recCs_app]
  have e : (recCs (List.replicate j mk9)).length = j * 12 := by rw [recCs_len, List.length_replicate]
  rw [← e, splice_mid (vs := recC mk9) (Y := recCs [l[j]]) (by simp [recCs, recC_len]), List.replicate_succ', List.append_assoc, recCs_app, recCs_app]
  congr 2

/-- What stands of the records that were read. -/
structure Fixd (va : Value) (l : List Rec) (N3 N4 bk : Nat) : Prop where
  lt : ∀ k, va.ownBlock = some k → N3 ≤ k ∧ k < N4
  dlt : ∀ p, p ∈ l → ∀ k, p.2.ownBlock = some k → N3 ≤ k ∧ k < N4
  sep : l.Pairwise (fun p q => ∀ k, p.2.ownBlock = some k → q.2.ownBlock ≠ some k)
  apart : ∀ p, p ∈ l → ∀ k, p.2.ownBlock = some k → va.ownBlock ≠ some k
  nb : N4 ≤ bk
/-- j records are marks, i data are in the Book. -/
structure Rl (w8 wr : World) (N3 N4 bk : Nat) (va : Value) (l : List Rec) (j i : Nat) (vL vM : Value) (L : List Value) (M : List UInt8) : Prop where
  book : Book1 wr bk wr.heap.size vL vM L M
  len : L.length = 4 * i
  foot : ∀ k, Foot bk vL vM k → bk ≤ k
  old : ∀ u, u ∈ L → ∀ k, u.ownBlock = some k → (∃ p, p ∈ l.take i ∧ p.2.ownBlock = some k) ∨ bk ≤ k
  row : wr.ownsRow N3 62 12 va l.length (recCs (List.replicate j mk9 ++ l.drop j))
  da : ∀ p, p ∈ l.drop i → Ob wr N3 p.2 p.1.da
  kp : Kp w8 wr (fun k => (N3 ≤ k ∧ k < N4) ∨ bk ≤ k)
theorem Rl.took {w8 wr w' : World} {N3 N4 bk j i : Nat} {va vL vM : Value} {l : List Rec} {L : List Value} {M : List UInt8} (h : Rl w8 wr N3 N4 bk va l j i vL vM L M) (fx : Fixd va l N3 N4 bk) (hi : i < l.length) (ht : Took wr bk vL vM (l[i]'hi).2 L w') :
    ∃ vL' vM' L' M', Rl w8 w' N3 N4 bk va l j (i + 1) vL' vM' L' M' := by
  obtain ⟨vL', vM', L', M', hb, hl, hk, hf, hu⟩ := ht
  have hlt := h.book.lt
  have hnb := fx.nb
  have hdrop : l.drop i = l[i] :: l.drop (i + 1) := List.drop_eq_getElem_cons hi
  have hOi := h.da (l[i]) (by rw [hdrop]; exact List.Mem.head _)
  have hmem : l[i] ∈ l := List.getElem_mem hi
  refine ⟨vL', vM', L', M', hb, by rw [hl, h.len]; omega, fun k hk' => ?_, fun u hu' k hk' => ?_, ?_, fun p hp => ?_, ?_⟩
  · rcases hf k hk' with h1 | h1
    · exact h.foot k h1
    · omega
  · have htk : l.take (i + 1) = l.take i ++ [l[i]] := List.take_succ_eq_append_getElem hi
    rcases hu u hu' with h1 | h1
    · rcases h.old u h1 k hk' with ⟨p, hp, e⟩ | h2
      · exact .inl ⟨p, by rw [htk]; exact List.mem_append_left _ hp, e⟩
      · exact .inr h2
    · rcases h1 k hk' with h2 | h2
      · exact .inl ⟨l[i], by rw [htk]; exact List.mem_append_right _ (List.mem_singleton.2 rfl), h2.symm⟩
      · exact .inr (by omega)
  · refine own_kp h.row hk (fun k hk' hS => ?_)
    have h1 := fx.lt k hk'
    rcases hS with h2 | h2
    · have := h.foot k h2; omega
    · exact fx.apart _ hmem k h2.symm hk'
  · have hpl : p ∈ l := List.mem_of_mem_drop hp
    refine own_kp (h.da p (by rw [hdrop]; exact List.mem_cons_of_mem _ hp)) hk (fun k hk' hS => ?_)
    have h1 := fx.dlt p hpl k hk'
    rcases hS with h2 | h2
    · have := h.foot k h2; omega
    · have hs := fx.sep
      rw [← List.take_append_drop i l, hdrop] at hs
      have hs2 := (List.pairwise_append.1 hs).2.1
      exact (List.pairwise_cons.1 hs2).1 p hp k h2.symm hk'
  · refine h.kp.trans hk (fun k _ hS => ?_)
    rcases hS with h2 | h2
    · exact .inr (h.foot k h2)
    · exact .inl (fx.dlt _ hmem k h2.symm)
theorem Rl.clear {w8 wr : World} {N3 N4 bk j i : Nat} {va vL vM : Value} {l : List Rec} {L : List Value} {M : List UInt8} (h : Rl w8 wr N3 N4 bk va l j i vL vM L M) (fx : Fixd va l N3 N4 bk) {k : Nat} (hk : k < N4) (ht : ∀ p, p ∈ l.take i → p.2.ownBlock ≠ some k) : Clear bk vL vM L k := by
  have hnb := fx.nb
  refine ⟨by omega, fun e => ?_, fun e => ?_, fun u hu e => ?_⟩
  · have := h.foot k (.inr (.inl e)); omega
  · have := h.foot k (.inr (.inr e)); omega
  · rcases h.old u hu k e with ⟨p, hp, e2⟩ | h2
    · exact ht p hp e2
    · omega
theorem Rl.clear_da {w8 wr : World} {N3 N4 bk j i : Nat} {va vL vM : Value} {l : List Rec} {L : List Value} {M : List UInt8} (h : Rl w8 wr N3 N4 bk va l j i vL vM L M) (fx : Fixd va l N3 N4 bk) (hi : i < l.length) {k : Nat} (hk : (l[i]'hi).2.ownBlock = some k) : Clear bk vL vM L k := by
  refine h.clear fx (fx.dlt _ (List.getElem_mem hi) k hk).2 (fun p hp e => ?_)
  have hs := fx.sep
  rw [← List.take_append_drop i l] at hs
  exact (List.pairwise_append.1 hs).2.2 p hp (l[i]) (by rw [List.drop_eq_getElem_cons hi]; exact List.Mem.head _) k e hk
theorem Rl.mark {w8 wr : World} {N3 N4 bk j i g o ca : Nat} {vL vM : Value} {l : List Rec} {L : List Value} {M : List UInt8} (h : Rl w8 wr N3 N4 bk (.slice (some ⟨g, 0, none⟩) l.length ca) l j i vL vM L M) (fx : Fixd (.slice (some ⟨g, 0, none⟩) l.length ca) l N3 N4 bk) (hj : j < l.length) (ho : o = 0) :
    Rl w8 (wr.setCells g (o + j * 12) (recC mk9)) N3 N4 bk (.slice (some ⟨g, 0, none⟩) l.length ca) l (j + 1) i vL vM L M := by
  subst ho
  rw [Nat.zero_add]
  have hg := fx.lt g rfl
  have hk := kp_setCells g (recC mk9) (j * 12) wr
  have hz := size_setCells' g (recC mk9) (j * 12) wr
  refine ⟨?_, h.len, h.foot, h.old, ?_, fun p hp => ?_, ?_⟩
  · rw [hz]
    exact h.book.keep (Nat.le_refl _) hk (fun k e => by subst e; exact h.clear fx hg.2 (fun p hp e2 => fx.apart p (List.mem_of_mem_take hp) _ e2 rfl))
  · have := own_splice h.row (j * 12) (recC mk9) (by rw [recCs_len]; simp [recC_len]; omega)
    rw [recCs_mark hj] at this; exact this
  · exact own_kp (h.da p hp) hk (fun k hk' e => by subst e; exact fx.apart p (List.mem_of_mem_drop hp) _ hk' rfl)
  · exact h.kp.trans hk (fun k _ e => by subst e; exact .inl hg)
/-- The cells of the record that comes next. -/
theorem Rl.cell {w8 wr : World} {N3 N4 bk j i g ca : Nat} {vL vM : Value} {l : List Rec} {L : List Value} {M : List UInt8} (h : Rl w8 wr N3 N4 bk (.slice (some ⟨g, 0, none⟩) l.length ca) l j i vL vM L M) (hj : j < l.length) {o : Nat} (ho : o = 0) :
    wr.cell? ⟨g, o + j * 12 + 11, none⟩ = some (l[j]'hj).2 := by
  subst ho
  have hc := h.row.cells (g := g) rfl (j * 12 + 11) (l[j]'hj).2 ?_
  · rw [add_plain] at hc; rw [show 0 + j * 12 + 11 = 0 + (j * 12 + 11) by omega]; exact hc
  · have hl : j < (List.replicate j mk9 ++ l.drop j).length := by simp; omega
    rw [recCs_at hl (by omega)]
    have e : (List.replicate j mk9 ++ l.drop j)[j] = l[j] := by
      rw [List.getElem_append_right (by simp)]; simp
    rw [e]; rfl
/-- Rows that are elsewhere stand. -/
theorem Owd.kp2 {w w' : World} {B : Nat} {v : Value} {l : List Rec} {S : Nat → Prop} (h : Owd w B v l) (hk : Kp w w' S) (hs : ∀ k, B ≤ k → k < w.heap.size → ¬ S k) : Owd w' B v l :=
  ⟨⟨own_kp h.ow.own hk (fun k hk' e => hs k (h.ow.own.lt k hk').1 (h.ow.own.lt k hk').2 e), fun p hp => own_kp (h.ow.da p hp) hk (fun k hk' e => hs k ((h.ow.da p hp).lt k hk').1 ((h.ow.da p hp).lt k hk').2 e)⟩, h.sep⟩

/-! The records of an archive are valid, and not more than its bytes. -/
theorem rdRecs_ok {b : List UInt8} : ∀ (n p : Nat) (l : List Rc), l.length ≤ p → p ≤ b.length → (∀ r, r ∈ l → r.Good ∧ r.Nums) → (rdRecs b n p l).1.length ≤ b.length ∧ ∀ r, r ∈ (rdRecs b n p l).1 → r.Good ∧ r.Nums
  | 0, p, l, h1, h2, h3 => ⟨by show l.length ≤ _; omega, h3⟩
  | n + 1, p, l, h1, h2, h3 => by
    rw [rdRecs]
    split
    · exact ⟨by simp, fun r hr => by simp at hr⟩
    · rename_i h4
      have h4 : (rdRec b p).2 = 0 := Classical.byContradiction h4
      have hfr := rdRec_fr h4
      refine rdRecs_ok n _ _ (by rw [List.length_append, List.length_singleton]; omega) hfr.2 (fun r hr => ?_)
      rcases List.mem_append.1 hr with hr | hr
      · exact h3 r hr
      · rw [List.mem_singleton] at hr; subst hr
        unfold rdRec at h4 ⊢
        split at h4
        · rename_i h5; exact absurd h4 h5
        · rename_i h5
          rw [if_neg h5]
          unfold rdRecB at h4 ⊢
          split at h4
          · simp at h4
          · rename_i h6
            rw [if_neg h6]
            split at h4
            · simp at h4
            · rename_i h7
              rw [if_neg h7]
              have := decC_is (v := (((rdFr b p).1.getD 1 0).toNat : Int)) (b := (rdFr b p).1.drop 2) (r := (decC (((rdFr b p).1.getD 1 0).toNat : Int) ((rdFr b p).1.drop 2)).1) (Prod.ext rfl h4)
              exact ⟨this.2.1, this.2.2.1⟩
theorem rdArch_ok (b : List UInt8) : (rdArch b).2.1.length ≤ b.length ∧ ∀ r, r ∈ (rdArch b).2.1 → r.Good ∧ r.Nums := by
  unfold rdArch
  split
  · exact ⟨by simp, fun r hr => by simp at hr⟩
  · split
    · exact ⟨by simp, fun r hr => by simp at hr⟩
    · split
      · exact ⟨by simp, fun r hr => by simp at hr⟩
      · rename_i h3
        have hfr := rdFr_end (b := b) (p := 5) (Classical.byContradiction h3)
        split
        · exact ⟨by simp, fun r hr => by simp at hr⟩
        · split
          · exact ⟨by simp, fun r hr => by simp at hr⟩
          · split
            · exact ⟨by simp, fun r hr => by simp at hr⟩
            · split
              · exact ⟨by simp, fun r hr => by simp at hr⟩
              · exact rdRecs_ok _ _ [] (by simp) hfr.2.2.2 (fun r hr => by simp at hr)
end Go.Proofs.YtfmlkagcmkbebaaDoor

/- The law ArchiveReads. -/
namespace Go.Proofs.YtfmlkagcmkbebaaDoor
open Go.RowKit

/-- The law's answer: true, and all that was there is as it was. -/
def YesR (w : World) (e : Ending) (w' : World) : Prop := e = .returned (.bool true) ∧ Below w.heap.size w w'

set_option maxRecDepth 100000 in
set_option maxHeartbeats 8000000 in
theorem archiveReads_any (v : Value) (xs : List UInt8) (hx : xs.length ≤ 140737488351232) (w : World) (hT : TabA w) (hp : Bs w v xs) :
    Calls Tryd.prog 7 #[v] w (YesR w) := by
  have HT := Lib.hid hT
  have HC1 := Lib.hid (cutBytes_any v xs hx w hp)
  obtain ⟨Av, cv, rfl, _⟩ := hp.form
  clear hT hp
  go_enter Tryd.func7, Tryd.ntmps7
  go_wp2_with fail
  refine HC1.out.mono ?_
  rintro e w1 ⟨v1, rfl, HO1, hb1⟩
  have hbl : (xs.take 262144).length ≤ 262144 := by simp; omega
  generalize xs.take 262144 = b at HO1 hbl
  obtain ⟨A1, c1, rfl⟩ := HO1.slice
  have s1 := hb1.size
  have HC2 := Lib.hid (awake_any w1 (HT.out.below hb1))
  go_wp2_with fail
  refine HC2.out.mono ?_
  rintro e w2 ⟨rfl, hb2⟩
  have s2 := hb2.size
  have HB2 := Lib.hid (HO1.below hb2).bs
  have HC3 := Lib.hid (laid_any _ b (by omega) w2 HB2.out)
  have hbw2 := hb1.trans (hb2.mono s1)
  go_wp2_with fail
  refine HC3.out.mono ?_
  rintro e w3 ⟨g3, c3, rfl, HL3, hb3⟩
  have s3 := hb3.size
  have hbw3 := hbw2.trans (hb3.mono hbw2.size)
  have hT3 := HT.out.below hbw3
  have hin3 : Bs w3 (.slice (some ⟨g3, 0, none⟩) b.length c3) b := by
    have := HL3.bs.take (m := b.length) (by simp)
    rwa [List.take_left] at this
  have HIN := Lib.hid hin3
  have HL := Lib.hid HL3
  have HC4 := (Read_any _ b (by omega) w3 hT3.t hT3.r hT3.m hin3)
  obtain ⟨hYl, hYg⟩ := rdArch_ok b
  obtain ⟨Y, hY⟩ : ∃ Y, rdArch b = Y := ⟨_, rfl⟩
  rw [hY] at HC4 hYl hYg
  obtain ⟨top, rl, code, place⟩ := Y
  simp only at hYl hYg
  have HC4 := Lib.hid HC4
  have HY := Lib.hid hY
  clear hY
  have HYG := Lib.hid hYg
  clear hYg HL3 hin3 hT3
  go_wp2_with fail
  refine HC4.out.mono ?_
  rintro e w4 ⟨va, l, rfl, HOa, hla, hb4⟩
  simp only at hla
  have hll : l.length = rl.length := by rw [← hla]; simp
  obtain ⟨Aa, ca, rfl⟩ := HOa.ow.slice
  have s4 := hb4.size
  obtain ⟨w4a, hw4a⟩ : ∃ w4a, w4.alloc (.cells #[.int .i64 (top : Int), .slice Aa l.length ca] 53) = w4a := ⟨_, rfl⟩
  have hal4 : Below w4.heap.size w4 w4a := by rw [← hw4a]; exact (Below.refl _ _).alloc (Nat.le_refl _) _
  have hz4 : w4a.heap.size = w4.heap.size + 1 := by rw [← hw4a]; simp
  have hna : w4a.heap[w4.heap.size]? = some (.cells #[.int .i64 (top : Int), .slice Aa l.length ca] 53 (0, 0)) := by rw [← hw4a]; exact heap_alloc_new _ _
  have HW4 := Lib.hid hw4a
  have hb34 := hb4.trans (hal4.mono s4)
  have hbw4 := hbw3.trans (hb34.mono hbw3.size)
  have HLA := Lib.hid hla
  have HLL := Lib.hid hll
  have HC5 := (rRead_any _ b (by omega) w4a (HT.out.below hbw4).q (((HB2.out.below hb3).below hb4).below hal4))
  rw [HY.out] at HC5
  have HC5 := Lib.hid HC5
  clear hw4a hla hll
  go_wp2_with (refine st_narch (by exact rfl) (by exact rfl) w4.heap.size rfl (by exact rfl) #[.int .i64 (top : Int), .slice Aa l.length ca] (by exact rfl) rfl rfl (by simp [Value.oneCell']) ?_; rw [HW4.out])
  refine HC5.out.mono ?_
  rintro e w5 ⟨vb, l2, rfl, HOb, hlb, hb5⟩
  simp only at hlb
  have hll2 : l2.length = rl.length := by rw [← hlb]; simp
  obtain ⟨Ab, cb, rfl⟩ := HOb.ow.slice
  have s5 := hb5.size
  obtain ⟨w5a, hw5a⟩ : ∃ w5a, w5.alloc (.cells #[.int .i64 (top : Int), .slice Ab l2.length cb] 53) = w5a := ⟨_, rfl⟩
  have hal5 : Below w5.heap.size w5 w5a := by rw [← hw5a]; exact (Below.refl _ _).alloc (Nat.le_refl _) _
  have hz5 : w5a.heap.size = w5.heap.size + 1 := by rw [← hw5a]; simp
  have hnw : w5a.heap[w5.heap.size]? = some (.cells #[.int .i64 (top : Int), .slice Ab l2.length cb] 53 (0, 0)) := by rw [← hw5a]; exact heap_alloc_new _ _
  have HW5 := Lib.hid hw5a
  have hb45 := hb5.trans (hal5.mono s5)
  have hb35 := hb34.trans (hb45.mono (by omega))
  have hbw5 := hbw3.trans (hb35.mono hbw3.size)
  have hOa5 := ((HOa.below hal4).below hb45)
  have hOb5 := HOb.below hal5
  have HSA := Lib.hid (rSameAll_eq _ _ l l2 (by have := HLL.out; omega) (by rw [HLA.out, hlb]) w5a hOa5.ow.rs hOb5.ow.rs)
  have hna5 := (hb45.block w4.heap.size (by omega)).trans hna
  have qa0 : w5a.cell? ⟨w4.heap.size, 0, none⟩ = some (.int .i64 (top : Int)) := by rw [cell_of_row w5a _ 0 _ _ _ hna5]; rfl
  have qa1 : w5a.cell? ⟨w4.heap.size, 1, none⟩ = some (.slice Aa l.length ca) := by rw [cell_of_row w5a _ 1 _ _ _ hna5]; rfl
  have qb0 : w5a.cell? ⟨w5.heap.size, 0, none⟩ = some (.int .i64 (top : Int)) := by rw [cell_of_row w5a _ 0 _ _ _ hnw]; rfl
  have qb1 : w5a.cell? ⟨w5.heap.size, 1, none⟩ = some (.slice Ab l2.length cb) := by rw [cell_of_row w5a _ 1 _ _ _ hnw]; rfl
  have HLB := Lib.hid hlb
  have HLL2 := Lib.hid hll2
  have HFX := Lib.hid (fun bk (hbk : w4.heap.size ≤ bk) => (⟨fun k hk => HOa.ow.own.lt k hk, fun p hp k hk => (HOa.ow.da p hp).lt k hk, HOa.sep, fun p hp k hk e => own_type_ne (HOa.ow.da p hp) HOa.ow.own (by decide) k hk e, hbk⟩ : Fixd (.slice Aa l.length ca) l w3.heap.size w4.heap.size bk))
  have HOA5 := Lib.hid hOa5
  have HOB5 := Lib.hid hOb5
  have HNA5 := Lib.hid hna5
  have HNW5 := Lib.hid hnw
  have HZ5 := Lib.hid hz5
  have HZ4 := Lib.hid hz4
  clear hw5a hlb hll2 hOa5 hOb5 hna5 hnw hna hz5 hz4 HOa HOb HO1
  go_wp2_with (refine st_narch (by exact rfl) (by exact rfl) w5.heap.size rfl (by exact rfl) #[.int .i64 (top : Int), .slice Ab l2.length cb] (by exact rfl) rfl rfl (by simp [Value.oneCell']) ?_; rw [HW5.out])
  refine HSA.out.mono ?_
  rintro e w6 ⟨rfl, hb6⟩
  have hb36 := hb35.trans (hb6.mono (by have := hb35.size; omega))
  have HIT := Lib.hid (intact_any (some ⟨g3, 0, none⟩) c3 _ b (by omega) w6 (HL.out.below hb36).bs (HB2.out.below (hb3.trans (hb36.mono s3))))
  clear qa0 qa1 qb0 qb1
  go_wp2_with fail
  refine HIT.out.mono ?_
  rintro e wz ⟨rfl, m6, rfl⟩
  obtain ⟨wq, hwq⟩ : ∃ wq, w6.drewN m6 = wq := ⟨_, rfl⟩
  have hbq : Below w6.heap.size w6 wq := by rw [← hwq]; exact below_drewN _ _
  rw [hwq]
  obtain ⟨w8, hw8⟩ : ∃ w8, wq.alloc (.cells #[.slice none 0 0, .slice none 0 0] 29) = w8 := ⟨_, rfl⟩
  have hal8 : Below wq.heap.size wq w8 := by rw [← hw8]; exact (Below.refl _ _).alloc (Nat.le_refl _) _
  have hz8 : w8.heap.size = wq.heap.size + 1 := by rw [← hw8]; simp
  have hbk0 : Book1 w8 wq.heap.size w8.heap.size (.slice none 0 0) (.slice none 0 0) [] [] := by
    rw [← hw8]
    exact ⟨heap_alloc_new wq _, by rw [World.size_alloc]; omega, World.ownsRow_nil _ _ _ _, Ob.nil _ _, fun k e => by simp [Value.ownBlock] at e, fun k e => by simp [Value.ownBlock] at e, rfl, fun i u m a => by simp at a, fun u hu => by simp at hu⟩
  have sq := hbq.size
  have s6 := hb6.size
  have hb58 : Below w5a.heap.size w5a w8 := hb6.trans ((hbq.trans (hal8.mono sq)).mono s6)
  have hs58 := hb58.size
  have hOa8 := HOA5.out.below hb58
  have hOb8 := HOB5.out.below hb58
  have hna8 := (hb58.block w4.heap.size (by have := HZ5.out; have := HZ4.out; omega)).trans HNA5.out
  have hnw8 := (hb58.block w5.heap.size (by have := HZ5.out; omega)).trans HNW5.out
  have hb38 := hb35.trans (hb58.mono (by have := hb35.size; omega))
  have hbw8 := hbw3.trans (hb38.mono hbw3.size)
  obtain ⟨bk, hbkd⟩ : ∃ bk, wq.heap.size = bk := ⟨_, rfl⟩
  have hN : w3.heap.size ≤ w4.heap.size ∧ w4.heap.size < w5.heap.size ∧ w5.heap.size < bk ∧ bk < w8.heap.size := by
    have := HZ5.out; have := HZ4.out; omega
  have fx := HFX.out bk (by omega)
  rw [hbkd] at hbk0
  have hft0 : ∀ k, Foot bk (.slice none 0 0) (.slice none 0 0) k → bk ≤ k := by
    intro k h
    rcases h with h | h | h
    · omega
    · simp [Value.ownBlock] at h
    · simp [Value.ownBlock] at h
  have hrl0 : Rl w8 w8 w3.heap.size w4.heap.size bk (.slice Aa l.length ca) l 0 0 (.slice none 0 0) (.slice none 0 0) [] [] :=
    ⟨hbk0, rfl, hft0, fun u hu => by simp at hu, by simpa using hOa8.ow.own, fun p hp => hOa8.ow.da p (by simpa using hp), Kp.refl _ _⟩
  have HRL0 := Lib.hid hrl0
  have FX := Lib.hid fx
  have HNA8 := Lib.hid hna8
  have HNW8 := Lib.hid hnw8
  have HOB8 := Lib.hid hOb8
  have HB38 := Lib.hid hb38
  have HB58 := Lib.hid hb58
  have HBK5 := Lib.hid (show w5a.heap.size ≤ bk by omega)
  have HBW8 := Lib.hid hbw8
  have HW8 := Lib.hid hw8
  have HBKD := Lib.hid hbkd
  have HHN := Lib.hid hN
  clear hwq hw8 hbk0 hrl0 fx hna8 hnw8 hOb8 hOa8 hb38 hbw8 hbkd hN hz8 hb58 hs58 hal8 hbq sq
  go_wp2_with fail
  rw [HW8.out, HBKD.out]
  go_loopw [11] (fun i wr => ∃ (j : Nat) (vL vM : Value) (L : List Value) (M : List UInt8), j ≤ l.length ∧ i = .int .i64 (j : Int) ∧ Rl w8 wr w3.heap.size w4.heap.size bk (.slice Aa l.length ca) l j j vL vM L M) (fun i _ => l.length - (intOf i).toNat)
  case atStart => exact ⟨0, _, _, _, _, Nat.zero_le _, rfl, HRL0.out⟩
  case round =>
    obtain ⟨j, vL, vM, L, M, hj, rfl, hrl⟩ := hrel
    obtain ⟨hN1, hN2, hN3, hN4⟩ := HHN.out
    have hlm : l.length ≤ 262144 := by have := HLL.out; omega
    have k4 := (hrl.kp.block w4.heap.size (by omega) (by omega)).trans HNA8.out
    have q1 : wr.cell? ⟨w4.heap.size, 1, none⟩ = some (.slice Aa l.length ca) := by rw [cell_of_row wr _ 1 _ _ _ k4]; rfl
    have K4 := Lib.hid k4
    clear k4
    have HRL := Lib.hid hrl
    clear hrl
    by_cases hlt : j < l.length
    · obtain ⟨g, ca', e, _⟩ := own_form HRL.out.row (by omega)
      injection e with e1 _ e3
      subst e1; subst e3
      obtain ⟨o, ho⟩ : ∃ o : Nat, o = 0 := ⟨0, rfl⟩
      have q1o : wr.cell? ⟨w4.heap.size, 1, none⟩ = some (.slice (some ⟨g, o, none⟩) l.length ca) := by rw [ho]; exact q1
      have q2 := HRL.out.cell hlt ho
      have hmem : l[j] ∈ l := List.getElem_mem hlt
      have hdl : (l[j]).1.da.length ≤ 16384 := (HYG.out (l[j]).1 (by rw [← HLA.out]; exact List.mem_map_of_mem hmem)).1.da
      have hOj := HRL.out.da (l[j]) (by rw [List.drop_eq_getElem_cons hlt]; exact List.Mem.head _)
      have hcl := fun k (hk : (l[j]).2.ownBlock = some k) => HRL.out.clear_da FX.out hlt hk
      have HTK := B2.take_any bk wr.heap.size vL vM (l[j]).2 L M (l[j]).1.da wr HRL.out.book (Nat.le_refl _) (own_mono hOj (Nat.zero_le _)) hcl (by omega) (by rw [HRL.out.len]; have := HLL.out; omega)
      obtain ⟨dj, hdj⟩ : ∃ dj, (l[j]).2 = dj := ⟨_, rfl⟩
      rw [hdj] at q2 HTK
      have HTK := Lib.hid HTK
      have HDJ := Lib.hid hdj
      have HO0 := Lib.hid ho
      have hji : (j : Int) < (l.length : Int) := by omega
      clear q1 hmem hdl hOj hcl hdj ho
      go_wp2_with fail
      refine HTK.out.mono ?_
      rintro e w9 ⟨rfl, htk⟩
      rw [← HDJ.out] at htk
      obtain ⟨vL', vM', L', M', hrl9⟩ := HRL.out.took FX.out hlt htk
      have k49 := (hrl9.kp.block w4.heap.size (by omega) (by omega)).trans HNA8.out
      have q19 : w9.cell? ⟨w4.heap.size, 1, none⟩ = some (.slice (some ⟨g, o, none⟩) l.length ca) := by rw [cell_of_row w9 _ 1 _ _ _ k49, HO0.out]; rfl
      have HTH := Lib.hid (show w9.there g (o + j * 12) 12 by rw [HO0.out, Nat.zero_add]; exact own_there hrl9.row (j * 12) 12 (by rw [recCs_len]; simp; omega))
      obtain ⟨w10, hw10⟩ : ∃ w10, w9.setCells g (o + j * 12) (#[.int .i64 (-9), .int .i64 0, .int .i64 0, .int .i64 0, .int .i64 0, .int .i64 0, .int .i64 0, .int .i64 0, .int .i64 0, .int .i64 0, .string ⟨#[]⟩, .slice none 0 0] : Array Value).toList = w10 := ⟨_, rfl⟩
      have hrl10 := hrl9.mark FX.out hlt HO0.out
      have hrl10 : Rl w8 w10 w3.heap.size w4.heap.size bk (.slice (some ⟨g, 0, none⟩) l.length ca) l (j + 1) (j + 1) vL' vM' L' M' := by rw [← hw10]; exact hrl10
      have HW10 := Lib.hid hw10
      have HR10 := Lib.hid hrl10
      clear hrl9 hrl10 hw10 k49 q1o q2 htk
      go_wp2_with (refine wpList_store_mid rfl 62 (.tmp 83) (.tmp 82) rfl g (o + j * 12) #[.int .i64 (-9), .int .i64 0, .int .i64 0, .int .i64 0, .int .i64 0, .int .i64 0, .int .i64 0, .int .i64 0, .int .i64 0, .int .i64 0, .string ⟨#[]⟩, .slice none 0 0] (by exact rfl) (by exact rfl) (by exact HTH.out) (by kernel_rfl) (by simp [Value.oneCell']) ?_; rw [HW10.out])
      go_roundw
      case rel => exact ⟨j + 1, _, _, _, _, by omega, by go_num, HR10.out⟩
      case measure => simp [intOf]; omega
    · have hje : j = l.length := by omega
      have hji : ¬ (j : Int) < (l.length : Int) := by omega
      have hrow := HRL.out.row
      rw [hje, List.drop_of_length_le (Nat.le_refl _), List.append_nil] at hrow
      have hb3r : Below w3.heap.size w3 wr := HB38.out.trans (HRL.out.kp.below (T := w3.heap.size) (by omega) (fun k h => by omega))
      have hbwr := hbw3.trans (hb3r.mono hbw3.size)
      have hK5r : Kp w5a wr (fun k => (w3.heap.size ≤ k ∧ k < w4.heap.size) ∨ bk ≤ k) := (Kp.of_below HB58.out _).trans HRL.out.kp (fun _ _ h => h)
      have hOBr := HOB5.out.kp2 hK5r (fun k h1 h2 h3 => by have := HZ4.out; have := HBK5.out; omega)
      have knw := (HRL.out.kp.block w5.heap.size (by omega) (by omega)).trans HNW8.out
      have hlit := Rd.lits wr 62 #[.int .i64 (-9), .int .i64 0, .int .i64 0, .int .i64 0, .int .i64 0, .int .i64 0, .int .i64 0, .int .i64 0, .int .i64 0, .int .i64 0, .string ⟨#[]⟩, .slice none 0 0] 12 1 rfl (by omega) wr.heap.size rfl
      have hal : Below wr.heap.size wr (wr.alloc (.cells #[.int .i64 (-9), .int .i64 0, .int .i64 0, .int .i64 0, .int .i64 0, .int .i64 0, .int .i64 0, .int .i64 0, .int .i64 0, .int .i64 0, .string ⟨#[]⟩, .slice none 0 0] 62)) := (Below.refl _ _).alloc (Nat.le_refl _) _
      have hza : (wr.alloc (.cells #[.int .i64 (-9), .int .i64 0, .int .i64 0, .int .i64 0, .int .i64 0, .int .i64 0, .int .i64 0, .int .i64 0, .int .i64 0, .int .i64 0, .string ⟨#[]⟩, .slice none 0 0] 62)).heap.size = wr.heap.size + 1 := World.size_alloc _ _
      have hgl : ∀ k, (Value.slice Aa l.length ca).ownBlock = some k → w3.heap.size ≤ k ∧ k < w4.heap.size := FX.out.lt
      have hbkl := HRL.out.book.lt
      have hcl : ∀ k, some k = (Value.slice Aa l.length ca).ownBlock → Clear bk vL vM L k := fun k hk =>
        HRL.out.clear FX.out (FX.out.lt k hk.symm).2 (fun p hp e => FX.out.apart p (List.mem_of_mem_take hp) k e hk.symm)
      have ROW := Lib.hid (own_below hrow hal)
      have LIT := Lib.hid hlit
      have HAL := Lib.hid hal
      have HZA := Lib.hid hza
      have HGL := Lib.hid hgl
      have HCL := Lib.hid hcl
      have HBK := Lib.hid (HRL.out.book.below (Nat.le_refl _) hal)
      have HOBR := Lib.hid (hOBr.below hal)
      have KNW := Lib.hid ((hal.block w5.heap.size (by omega)).trans knw)
      have HB3R := Lib.hid (hb3r.trans (hal.mono (by have := hb3r.size; omega)))
      have hs3r := hb3r.size
      clear hrow hlit hal hza hgl hcl hOBr knw hb3r hK5r hje
      go_wp2_with (at_builtin; refine wpList_app w3.heap.size rfl (.tmp 85) (.tmp 87) 49 62 _ 12 120 rfl Tryd.underlying49 info_rec rfl (by decide) _ l.length (recCs (List.replicate l.length mk9)) _ 1 (recC mk9) rfl rfl ROW.out LIT.out (recC_one _ _ _ _) (by unfold maxLen; omega) (by omega) (by have := HZA.out; omega) ?_; intro v9 w9 g1 g2 g3' _ _; have hb9 := HB3R.out.grown g2 (by have := HZA.out; omega) (fun k e => (HGL.out k e).1); have hk9 := Kp.of_grown g2; have hs9 := g2.size; rw [HZA.out] at hs9; have hbk9 := HBK.out.keep (by rw [HZA.out]; omega) hk9 HCL.out; have hOB9 := HOBR.out.kp2 hk9 (fun k h1 h2 h3 => by have := HGL.out k h3.symm; have := HZ4.out; omega); have knw9 := (hk9.block w5.heap.size (by rw [HZA.out]; omega) (fun e => by have := HGL.out _ e.symm; omega)).trans KNW.out; obtain ⟨g9, c9, e9, -⟩ := own_form g1 (by omega); obtain ⟨o, ho⟩ : ∃ o : Nat, o = 0 := ⟨0, rfl⟩; have e9' : v9 = .slice (some ⟨g9, o, none⟩) (l.length + 1) c9 := (by rw [ho]; exact e9); have G1 := Lib.hid (show w9.ownsRow w3.heap.size 62 12 (.slice (some ⟨g9, 0, none⟩) (l.length + 1) c9) (l.length + 1) (recCs (List.replicate (l.length + 1) mk9)) by rw [← e9, List.replicate_succ', recCs_app]; exact g1); have HO0 := Lib.hid ho; clear g1 g2 g3' e9 ho; subst e9'; have HB9 := Lib.hid hb9; have HBK9 := Lib.hid hbk9; have HOB9 := Lib.hid hOB9; have KNW9 := Lib.hid knw9; have HR9 := (Read_any _ b (by omega) w9 (HT.out.below (hbw3.trans (hb9.mono hbw3.size))).t (HT.out.below (hbw3.trans (hb9.mono hbw3.size))).r (HT.out.below (hbw3.trans (hb9.mono hbw3.size))).m (HIN.out.below hb9)); rw [HY.out] at HR9; have HR9 := Lib.hid HR9; clear hb9 hbk9 hOB9 knw9 hk9)
      refine HR9.out.mono ?_
      rintro e w10 ⟨vc, l3, rfl, HOc, hlc, hb10⟩
      simp only at hlc
      have hll3 : l3.length = rl.length := by rw [← hlc]; simp
      obtain ⟨Ac, cc, rfl⟩ := HOc.ow.slice
      have s10 := hb10.size
      obtain ⟨wa, hwa⟩ : ∃ wa, w10.alloc (.cells #[.int .i64 (top : Int), .slice Ac l3.length cc] 53) = wa := ⟨_, rfl⟩
      have hala : Below w10.heap.size w10 wa := by rw [← hwa]; exact (Below.refl _ _).alloc (Nat.le_refl _) _
      have hnx : wa.heap[w10.heap.size]? = some (.cells #[.int .i64 (top : Int), .slice Ac l3.length cc] 53 (0, 0)) := by rw [← hwa]; exact heap_alloc_new _ _
      have hb9a : Below w9.heap.size w9 wa := hb10.trans (hala.mono s10)
      have HWA := Lib.hid hwa
      have qx1 : wa.cell? ⟨w10.heap.size, 1, none⟩ = some (.slice Ac l3.length cc) := by rw [cell_of_row wa _ 1 _ _ _ hnx]; rfl
      have qw1 : wa.cell? ⟨w5.heap.size, 1, none⟩ = some (.slice Ab l2.length cb) := by rw [cell_of_row wa _ 1 _ _ _ ((hb9a.block w5.heap.size (by omega)).trans KNW9.out)]; rfl
      have HSB := Lib.hid (rSameAll_eq _ _ l3 l2 (by have := HLL2.out; omega) (by rw [hlc, HLB.out]) wa (HOc.below hala).ow.rs (HOB9.out.below hb9a).ow.rs)
      have HB9A := Lib.hid hb9a
      clear hwa hala hnx hb9a hlc hll3 HOc hb10
      go_wp2_with (refine st_narch (by exact rfl) (by exact rfl) w10.heap.size rfl (by exact rfl) #[.int .i64 (top : Int), .slice Ac l3.length cc] (by exact rfl) rfl rfl (by simp [Value.oneCell']) ?_; rw [HWA.out])
      refine HSB.out.mono ?_
      rintro e wb ⟨rfl, hbb⟩
      have hb9b := HB9A.out.trans (hbb.mono (by have := HB9A.out.size; omega))
      have hb3b := HB9.out.trans (hb9b.mono (by have := HB9.out.size; omega))
      have HSS := sameBytes_any (.slice (some ⟨g3, 0, none⟩) b.length c3) (.slice A1 b.length c1) b b wb (HIN.out.below hb3b) (HB2.out.below (hb3.trans (hb3b.mono s3)))
      rw [decide_eq_true rfl] at HSS
      have HSS := Lib.hid HSS
      have HB9B := Lib.hid hb9b
      have HB3B := Lib.hid hb3b
      clear qx1 qw1 hbb hb9b hb3b
      go_wp2_with fail
      refine HSS.out.mono ?_
      rintro e wz ⟨rfl, m7, rfl⟩
      have hd7 : Below wb.heap.size wb (wb.drewN m7) := below_drewN _ _
      have hb9d := HB9B.out.trans (hd7.mono HB9B.out.size)
      have HWH := Lib.hid (whole_any bk wr.heap.size vL vM L M (wb.drewN m7) (HBK9.out.below (by omega) (hb9d.mono (by omega))))
      have HB9D := Lib.hid hb9d
      clear hd7 hb9d
      go_wp2_with fail
      refine HWH.out.mono ?_
      rintro e wz ⟨rfl, m8, rfl⟩
      obtain ⟨wf, hwf⟩ : ∃ wf, (wb.drewN m7).drewN m8 = wf := ⟨_, rfl⟩
      have hb9f : Below w9.heap.size w9 wf := by rw [← hwf]; exact HB9D.out.trans ((below_drewN _ _).mono HB9D.out.size)
      have hbwf := hbw3.trans ((HB9.out.trans (hb9f.mono (by have := HB9.out.size; omega))).mono hbw3.size)
      have ROWF := Lib.hid (own_below G1.out hb9f)
      have HBWF := Lib.hid hbwf
      rw [hwf]
      clear hwf hb9f hbwf
      go_wp2_with fail
      go_loopw [14] (fun i wr => ∃ k : Nat, k ≤ l.length + 1 ∧ i = .int .i64 (k : Int) ∧ wf = wr) (fun i _ => l.length + 1 - (intOf i).toNat)
      case atStart => exact ⟨0, Nat.zero_le _, rfl, rfl⟩
      case round =>
        obtain ⟨k, hk, rfl, rfl⟩ := hrel
        by_cases hkl : k < l.length + 1
        · have hcell : ∀ i u, i < 12 → (recC mk9)[i]? = some u → wf.cell? ⟨g9, o + k * 12 + i, none⟩ = some u := fun i u hi hu => by
            have hc := ROWF.out.cells (g := g9) rfl (k * 12 + i) u (by rw [recCs_at (by simpa using hkl) hi]; simpa using hu)
            rw [add_plain] at hc
            rw [HO0.out, show 0 + k * 12 + i = 0 + (k * 12 + i) by omega]; exact hc
          have c0 := hcell 0 _ (by omega) rfl
          have c1' := hcell 1 _ (by omega) rfl
          rw [Nat.add_zero] at c0
          have hki : (k : Int) < (l.length : Int) + 1 := by omega
          have hki2 : (k : Int) < ((l.length + 1 : Nat) : Int) := by omega
          clear hcell
          go_wp2_with fail
          go_roundw
          case rel => exact ⟨k + 1, by omega, by go_num, by first | rfl | trivial⟩
          case measure => simp [intOf]; omega
        · have hki : ¬ (k : Int) < (l.length : Int) + 1 := by omega
          have hki2 : ¬ (k : Int) < ((l.length + 1 : Nat) : Int) := by omega
          go_wp2_with fail
          go_ret
          exact ⟨rfl, HBWF.out⟩
end Go.Proofs.YtfmlkagcmkbebaaDoor

/- ArchiveReads: for every input the call returns true and leaves what was there as it was. Under no condition but the row's own: the seven tables read as the program's text lays them. -/
namespace Go.Proofs.YtfmlkagcmkbebaaDoor.archiveReads
open Go.ChangeShapes Go.WideShapes Go.ChangeAt Go.RowKit
set_option linter.unusedVariables false

set_option maxRecDepth 100000 in
theorem contract (H : Type) (enc : TypeId × Value → H) (W : World) (base : Nat) (args : Array Value) (ds gs : List (DataW H)) (before : List MemPlace)
    (hval0 : ∀ (j : Nat) t v, Tryd.f7.params[j]? = some t → args[j]? = some v → Value.okWide Tryd.prog W .any base t v)
    (hW : DataW.Whole enc Tryd.prog Tryd.f7.params.toList Rows.archiveReadsSpec.vars false W args.toList ds gs before)
    (hsz : (DataW.weightsEach Tryd.prog (Tryd.f7.params.toList ++ Rows.archiveReadsSpec.plain.varTypes Tryd.prog) (ds ++ gs)).all (· ≤ reachBytes) = true) (hL : laidMetH Tryd.prog Rows.archiveReadsRow.laid W) :
    Calls Tryd.prog 7 args W fun e W' => ∃ v, e = .returned v ∧ Rows.archiveReadsSpec.post enc Tryd.prog Tryd.f7 false true false false W args v W' := by
  have hval : ∀ (j : Nat) t v, Tryd.f7.params[j]? = some t → args[j]? = some v → Value.okWide Tryd.prog W .any base t v := hval0
  have hW' := hW
  obtain ⟨p, q, hA0, hV, rfl, hfz, hnd⟩ := hW
  have hA : DataW.TrodAll enc Tryd.prog W 0 (fun _ => true) true Tryd.f7.params.toList args.toList ds p := hA0
  rw [Tryd.params7] at hA hval hsz
  obtain ⟨v0, vs0, d0, ds0, p0, q0, hargs, rfl, rfl, h0, r0⟩ := trodAll_cons hA
  obtain ⟨rfl, rfl, rfl⟩ := trodAll_nil r0
  obtain rfl : args = #[v0] := by cases args; simp_all
  obtain ⟨rfl, rfl⟩ := trodVars_none hV
  obtain ⟨a0, len0, cap0, rfl⟩ := okWide_slice Tryd.underlying22 (hval 0 22 v0 rfl rfl)
  have k0 := h0
  have lt0 : ∀ x ∈ p0, x.block < W.heap.size := by obtain ⟨m, hm⟩ := k0; exact DataW.trod_lt m _ _ _ hm
  obtain ⟨xs, hxl, hbs, hdat⟩ := bytes_in h0
  have hx : xs.length ≤ 140737488351232 := by
    rcases Decidable.em (a0 = none) with h | h
    · subst h; rw [hbs.nil_of_none]; simp
    · obtain ⟨el, spare, rfl, hel⟩ := hdat h
      have := sized_slice hsz (j := 0) (e := 5) rfl rfl Tryd.underlying22
      have hb : Tryd.prog.bytesOf 5 = 1 := by kernel_rfl
      rw [hb] at this
      unfold reachBytes at this
      omega
  have hT : TabA W := tables (show laidMetH Tryd.prog Rows.archivePacksUptoRow.laid W from hL)
  clear hA0 hval0
  refine (archiveReads_any (.slice a0 len0 cap0) xs hx W hT hbs).mono fun e W' ⟨he, bel⟩ => ?_
  subst he
  exact ⟨_, rfl, _, _, _, [], _, [], hW', trodAll_mk1 (shut_bool Tryd.underlying4 _), (trodAll_cons_mk (Below.trod laidOut (by kernel_rfl) (of_decide_eq_true (by kernel_rfl)) k0 bel lt0) trodAll_mk0), rfl, bel.frame _, fun h => by cases h⟩

def putRow (h : Array Obj) (g : Nat) (cs : List Value) : Array Obj := h.modify g fun
  | .cells _ t frozen => .cells cs.toArray t frozen
  | o => o
/-- A world for the witness: the settled one, the seven tables holding what their initialisers lay. -/
noncomputable def laidWorld (os : Os) : World :=
  { World.holding Tryd.prog os ⟨#[], #[], []⟩ with heap := putRow (putRow (putRow (putRow (putRow (putRow (putRow (World.holding Tryd.prog os ⟨#[], #[], []⟩).heap 7 (GA (H := Unit) G2 Rows.laid_unicode_utf8_acceptRanges)) 4 (GA (H := Unit) (GA G1) Rows.laid_annals_annalsref2_letters)) 3 (GA (H := Unit) (GA G1) Rows.laid_annals_annalsref3_rows)) 0 (GA (H := Unit) G1 Rows.laid_annals_wire_table)) 5 (GA (H := Unit) G2 Rows.laid_annals_text_letters)) 1 (GA (H := Unit) (GA G1) Rows.laid_annals_record_may)) 6 (GA (H := Unit) G1 Rows.laid_unicode_utf8_first) }
theorem laid_met (os : Os) : laidMet Tryd.prog Rows.archiveReadsRow.laid ((laidWorld os).forCall (fun _ _ => 0) ⟨#[], #[.slice none 0 0], []⟩).memory :=
  laidMet_of_run' 8 (by kernel_rfl) (by kernel_rfl)
theorem reads (os : Os) {H : Type} (enc : TypeId × Value → H) : ∃ places, DataW.whole enc Tryd.prog ((laidWorld os).forCall (fun _ _ => 0) ⟨#[], #[.slice none 0 0], []⟩).memory Tryd.f7.params.toList Rows.archiveReadsSpec.vars false #[Value.slice none 0 0].toList 8 = some ([.nil], [], places) :=
  ⟨[], by kernel_rfl⟩

set_option maxRecDepth 100000 in
theorem lifted (os : Os) (started : os.Started) (H : Type) (enc : TypeId × Value → H) (F : Stop.Interp) :
    ReturnsInHanded {} Tryd.checked os 7 .any ((OpenSpec.ofChange Rows.archiveReadsSpec).preRow enc Tryd.prog Tryd.f7 Rows.archiveReadsRow.domain false Rows.archiveReadsRow.laid) (((OpenSpec.ofChange Rows.archiveReadsSpec).at F).post enc Tryd.prog Tryd.f7 false true false false) := by
  obtain ⟨places, hx⟩ := reads os enc
  refine returnsInHanded_of_row (C := Tryd.checked) (s := OpenSpec.ofChange Rows.archiveReadsSpec) own started (by kernel_rfl) Tryd.func7
    (witness_row_at (enc := enc) (C := Tryd.checked) false (laidWorld os) #[.slice none 0 0] rfl (by kernel_rfl) (by kernel_rfl) (by kernel_rfl)
      (OpenSpec.preRow_of_cond 8 hx (by kernel_rfl) (fun k hk => by cases hk) (by kernel_rfl) (laid_met os))) ?_
  intro W base args ds gs before hval hW _ _ hsz hL _ _
  exact contract H enc W base args ds gs before hval hW hsz hL

theorem said : Rows.ArchiveReadsSaid :=
  OpenClaim.holds_of_wide 7 Tryd.f7 rfl rfl rfl rfl rfl rfl rfl ⟨rfl, rfl, rfl, rfl, rfl⟩ rfl rfl rfl rfl rfl (by kernel_rfl) Tryd.func7 (by kernel_rfl)
    (of_decide_eq_true (by kernel_rfl)) (by unfold Func.isWrapper; first | (rw [if_pos (by decide +kernel)]; kernel_rfl) | (rw [if_neg (by decide +kernel)]; exact ⟨rfl, rfl⟩))
    (fun os started H enc _ => by rw [OpenClaim.pre_eq_preRow]; exact lifted os started H enc (fun _ _ _ => 0))

theorem plain (f : FuncId) (fn : Func) (hf : Tryd.pinned.checked.prog.funcNamed "annals/annalslaw17.ArchiveReads" = some f) (hfn : Tryd.pinned.checked.prog.funcs[f]? = some fn) :
    false = Tryd.pinned.checked.prog.looks [] ∧ ∀ (j : Nat) t, fn.params[j]? = some t → Tryd.pinned.checked.prog.wantsStandIn t = false := by
  obtain rfl : f = 7 := Option.some.inj ((show Tryd.prog.funcNamed "annals/annalslaw17.ArchiveReads" = some 7 by kernel_rfl).symm.trans hf) |>.symm
  obtain rfl : fn = Tryd.f7 := (Option.some.inj (Tryd.func7.symm.trans hfn)).symm
  refine ⟨by kernel_rfl, fun j t ht => ?_⟩
  rw [Tryd.params7] at ht
  have hm : t = 22 := by
    have := Array.mem_of_getElem? ht
    simpa using this
  subst hm
  exact (show Tryd.prog.wantsStandIn 22 = false by kernel_rfl)

theorem card : Rows.ArchiveReadsCardSaid :=
  Claim7.holds_tied_plain_at .later [] _ _ _ _ said (fun _ h => by cases h) (by kernel_rfl) (fun _ h => by cases h) archiveReads_row_tie rfl ⟨rfl, rfl⟩ (by kernel_rfl) rfl plain (by kernel_rfl)
end Go.Proofs.YtfmlkagcmkbebaaDoor.archiveReads
namespace Go.Proofs.YtfmlkagcmkbebaaDoor
theorem archiveReads_holds : Rows.ArchiveReadsCardSaid := archiveReads.card
#print axioms archiveReads_holds
end Go.Proofs.YtfmlkagcmkbebaaDoor
