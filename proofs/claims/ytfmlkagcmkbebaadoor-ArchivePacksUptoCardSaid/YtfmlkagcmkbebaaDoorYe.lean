/- ArchivePacks, of bulk at most 1048576: for every input the call returns true and leaves what was there as it was. -/
import Derived.Test.YtfmlkagcmkbebaaDoorCards
import Derived.Test.YtfmlkagcmkbebaaDoorTie
import Derived.Test.YtfmlkagcmkbebaaDoorRa
import Derived.Test.YtfmlkagcmkbebaaDoorXj
import Derived.Test.YtfmlkagcmkbebaaDoorYw
import Derived.ProofKit
import Derived.OpenShut
import Derived.Deep.DeepHandedRow
import Derived.ShutString
import Derived.ChangeOld
import Derived.Below
import Derived.SevenTiedAt
namespace Go.Proofs.YtfmlkagcmkbebaaDoor.archivePacks
open Go.ChangeShapes Go.WideShapes Go.ChangeAt Go.RowKit
set_option linter.unusedVariables false

theorem one_le {H : Type} (d : DataW H) : 1 ≤ Rows.uptoBulk d := by
  cases d with
  | lit l => cases l <;> simp [Rows.uptoBulk]
  | nil => simp [Rows.uptoBulk]
  | ptr d => simp [Rows.uptoBulk]
  | slice elems spare => simp [Rows.uptoBulk]
  | agg parts => simp [Rows.uptoBulk]
  | iface t d => simp [Rows.uptoBulk]
  | map entries => simp [Rows.uptoBulk]
  | held h => simp [Rows.uptoBulk]
theorem part_le {H : Type} {d : DataW H} {l : List (DataW H)} (h : d ∈ l) : Rows.uptoBulk d ≤ Rows.uptoBulkAll l := by
  induction l with
  | nil => cases h
  | cons x r ih =>
    simp only [Rows.uptoBulkAll]
    cases List.mem_cons.1 h with
    | inl e => subst e; omega
    | inr e => have := ih e; omega
theorem length_le {H : Type} (l : List (DataW H)) : l.length ≤ Rows.uptoBulkAll l := by
  induction l with
  | nil => simp [Rows.uptoBulkAll]
  | cons x r ih => have := one_le x; simp only [Rows.uptoBulkAll, List.length_cons]; omega
/-- The records that a datum of bulk at most 1048576 reads as. -/
theorem recsOk {H : Type} {l : List Rec} {d : DataW H} (hn : ∀ q, q ∈ l → q.1.Nums) (hb : Rows.uptoBulk d ≤ 1048576)
    (hd : l = [] ∨ ∃ elems spare, d = .slice elems spare ∧ elems.length = l.length ∧ ∀ q, q ∈ l → ∃ e, e ∈ elems ∧ RecD q e) : RecsOk l := by
  rcases hd with rfl | ⟨elems, spare, rfl, hl, he⟩
  · exact ⟨by simp, hn, fun p hp => by simp at hp, fun p hp => by simp at hp⟩
  · have h1 : Rows.uptoBulkAll elems ≤ 1048576 := by simp only [Rows.uptoBulk] at hb; omega
    have key : ∀ q, q ∈ l → q.1.nm.size ≤ 1048576 ∧ q.1.da.length ≤ 1048576 := fun q hq => by
      obtain ⟨e, hm, ds, rfl, hs, hda⟩ := he q hq
      have h2 := part_le hm
      simp only [Rows.uptoBulk] at h2
      have h3 := part_le hs
      simp only [Rows.uptoBulk] at h3
      have e1 : q.1.nm.size = q.1.nm.data.toList.length := by rw [Array.length_toList]; rfl
      refine ⟨by omega, ?_⟩
      rcases hda with h | ⟨el, sp, hme, hel⟩
      · rw [h]; simp
      · have h4 := part_le hme
        simp only [Rows.uptoBulk] at h4
        have h5 := length_le el
        omega
    exact ⟨by have := length_le elems; omega, hn, fun p hp => ⟨by have := (key p hp).1; omega, by have := (key p hp).2; omega, (hn p hp 5 (by omega)).2⟩, fun p hp => by have := (key p hp).2; omega⟩

set_option maxRecDepth 100000 in
theorem contract (H : Type) (enc : TypeId × Value → H) (W : World) (base : Nat) (args : Array Value) (ds gs : List (DataW H)) (before : List MemPlace)
    (hval0 : ∀ (j : Nat) t v, Tryd.f6.params[j]? = some t → args[j]? = some v → Value.okWide Tryd.prog W .any base t v)
    (hW : DataW.Whole enc Tryd.prog Tryd.f6.params.toList Rows.archivePacksSpec.vars false W args.toList ds gs before)
    (hk : Rows.uptoSmall H (ds ++ gs) = true) (hL : laidMetH Tryd.prog Rows.archivePacksUptoRow.laid W) :
    Calls Tryd.prog 6 args W fun e W' => ∃ v, e = .returned v ∧ Rows.archivePacksSpec.post enc Tryd.prog Tryd.f6 false true false false W args v W' := by
  have hval : ∀ (j : Nat) t v, Tryd.f6.params[j]? = some t → args[j]? = some v → Value.okWide Tryd.prog W .any base t v := hval0
  have hW' := hW
  obtain ⟨p, q, hA0, hV, rfl, hfz, hnd⟩ := hW
  have hA : DataW.TrodAll enc Tryd.prog W 0 (fun _ => true) true Tryd.f6.params.toList args.toList ds p := hA0
  rw [Tryd.params6] at hA hval
  obtain ⟨v0, vs0, d0, ds0, p0, q0, hargs, rfl, rfl, h0, r0⟩ := trodAll_cons hA
  obtain ⟨v1, vs1, d1, ds1, p1, q1, rfl, rfl, rfl, h1, r1⟩ := trodAll_cons r0
  obtain ⟨rfl, rfl, rfl⟩ := trodAll_nil r1
  obtain rfl : args = #[v0, v1] := by cases args; simp_all
  obtain ⟨rfl, rfl⟩ := trodVars_none hV
  obtain ⟨a0, rfl, rfl, rfl, w0⟩ := open_int Tryd.underlying3 (hval 0 3 v0 rfl rfl) h0
  obtain ⟨a1, len1, cap1, rfl⟩ := okWide_slice Tryd.underlying49 (hval 1 49 v1 rfl rfl)
  have k1 := h1
  have lt1 : ∀ x ∈ p1, x.block < W.heap.size := by obtain ⟨m, hm⟩ := k1; exact DataW.trod_lt m _ _ _ hm
  obtain ⟨l, hl, hrs, hn, hd⟩ := recs_in h1
  have hb : Rows.uptoBulk d1 ≤ 1048576 := by
    simp [Rows.uptoSmall, Rows.uptoBulkAll] at hk; omega
  have hok := recsOk hn hb (by rw [hl]; exact hd)
  clear hA0 hval0
  refine (archivePacks_any a0 (.slice a1 len1 cap1) l ?_ hok W (tables hL) hrs).mono fun e W' ⟨he, bel⟩ => ?_
  · exact wf_i64 w0
  subst he
  exact ⟨_, rfl, _, _, _, [], _, [], hW', trodAll_mk1 (shut_bool Tryd.underlying4 _), (trodAll_cons_mk (shut_int Tryd.underlying3 w0) (trodAll_cons_mk (Below.trod laidOut (by kernel_rfl) (of_decide_eq_true (by kernel_rfl)) k1 bel lt1) trodAll_mk0)), rfl, bel.frame _, fun h => by cases h⟩

def putRow (h : Array Obj) (g : Nat) (cs : List Value) : Array Obj := h.modify g fun
  | .cells _ t frozen => .cells cs.toArray t frozen
  | o => o
/-- A world for the witness: the settled one, the seven tables holding what their initialisers lay. -/
noncomputable def laidWorld (os : Os) : World :=
  { World.holding Tryd.prog os ⟨#[], #[], []⟩ with heap := putRow (putRow (putRow (putRow (putRow (putRow (putRow (World.holding Tryd.prog os ⟨#[], #[], []⟩).heap 7 (GA (H := Unit) G2 Rows.laid_unicode_utf8_acceptRanges)) 4 (GA (H := Unit) (GA G1) Rows.laid_annals_annalsref2_letters)) 3 (GA (H := Unit) (GA G1) Rows.laid_annals_annalsref3_rows)) 0 (GA (H := Unit) G1 Rows.laid_annals_wire_table)) 5 (GA (H := Unit) G2 Rows.laid_annals_text_letters)) 1 (GA (H := Unit) (GA G1) Rows.laid_annals_record_may)) 6 (GA (H := Unit) G1 Rows.laid_unicode_utf8_first) }
theorem laid_met (os : Os) : laidMet Tryd.prog Rows.archivePacksUptoRow.laid ((laidWorld os).forCall (fun _ _ => 0) ⟨#[], #[.int .i64 0, .slice none 0 0], []⟩).memory :=
  laidMet_of_run' 8 (by kernel_rfl) (by kernel_rfl)
theorem reads (os : Os) {H : Type} (enc : TypeId × Value → H) : ∃ places, DataW.whole enc Tryd.prog ((laidWorld os).forCall (fun _ _ => 0) ⟨#[], #[.int .i64 0, .slice none 0 0], []⟩).memory Tryd.f6.params.toList Rows.archivePacksSpec.vars false #[Value.int .i64 0, .slice none 0 0].toList 8 = some ([.lit (.int .i64 0), .nil], [], places) :=
  ⟨[], by kernel_rfl⟩

set_option maxRecDepth 100000 in
theorem lifted (os : Os) (started : os.Started) (H : Type) (enc : TypeId × Value → H) (F : Stop.Interp) :
    ReturnsInHanded {} Tryd.checked os 6 .any ((Rows.OpenSpec.upto Rows.archivePacksSpec).preRow enc Tryd.prog Tryd.f6 Rows.archivePacksUptoRow.domain false Rows.archivePacksUptoRow.laid) (((Rows.OpenSpec.upto Rows.archivePacksSpec).at F).post enc Tryd.prog Tryd.f6 false true false false) := by
  obtain ⟨places, hx⟩ := reads os enc
  refine returnsInHanded_of_row (C := Tryd.checked) (s := Rows.OpenSpec.upto Rows.archivePacksSpec) own started (by kernel_rfl) Tryd.func6
    (witness_row_at (enc := enc) (C := Tryd.checked) false (laidWorld os) #[.int .i64 0, .slice none 0 0] rfl (by kernel_rfl) (by kernel_rfl) (by kernel_rfl)
      (OpenSpec.preRow_of_cond 8 hx (by kernel_rfl) (fun k hk => by cases hk; kernel_rfl) (by kernel_rfl) (laid_met os))) ?_
  intro W base args ds gs before hval hW _ hcond _ hL _ _
  exact contract H enc W base args ds gs before hval hW (hcond _ rfl) hL

theorem said : Rows.ArchivePacksUptoSaid :=
  OpenClaim.holds_of_cond 6 Tryd.f6 rfl rfl rfl rfl rfl rfl rfl ⟨rfl, rfl, rfl, rfl, rfl⟩ rfl rfl rfl rfl rfl (by kernel_rfl) Tryd.func6 (by kernel_rfl)
    (of_decide_eq_true (by kernel_rfl)) (by unfold Func.isWrapper; first | (rw [if_pos (by decide +kernel)]; kernel_rfl) | (rw [if_neg (by decide +kernel)]; exact ⟨rfl, rfl⟩))
    (fun os started H enc _ F => by rw [OpenClaim.pre_eq_preRow]; exact lifted os started H enc F)

theorem plain (f : FuncId) (fn : Func) (hf : Tryd.pinned.checked.prog.funcNamed "annals/annalslaw17.ArchivePacks" = some f) (hfn : Tryd.pinned.checked.prog.funcs[f]? = some fn) :
    false = Tryd.pinned.checked.prog.looks [] ∧ ∀ (j : Nat) t, fn.params[j]? = some t → Tryd.pinned.checked.prog.wantsStandIn t = false := by
  obtain rfl : f = 6 := Option.some.inj ((show Tryd.prog.funcNamed "annals/annalslaw17.ArchivePacks" = some 6 by kernel_rfl).symm.trans hf) |>.symm
  obtain rfl : fn = Tryd.f6 := (Option.some.inj (Tryd.func6.symm.trans hfn)).symm
  refine ⟨by kernel_rfl, fun j t ht => ?_⟩
  rw [Tryd.params6] at ht
  have hm : t = 3 ∨ t = 49 := by
    have := Array.mem_of_getElem? ht
    simpa using this
  rcases hm with rfl | rfl
  · exact (show Tryd.prog.wantsStandIn 3 = false by kernel_rfl)
  · exact (show Tryd.prog.wantsStandIn 49 = false by kernel_rfl)

theorem card : Rows.ArchivePacksUptoCardSaid :=
  Claim7.holds_tied_plain_at .later [] _ _ _ _ said (fun _ h => by cases h) (by kernel_rfl) (fun _ h => by cases h) archivePacksUpto_row_tie rfl ⟨rfl, rfl⟩ (by kernel_rfl) rfl plain (by kernel_rfl)
end Go.Proofs.YtfmlkagcmkbebaaDoor.archivePacks
namespace Go.Proofs.YtfmlkagcmkbebaaDoor
theorem archivePacksUpto_holds : Rows.ArchivePacksUptoCardSaid := archivePacks.card
#print axioms archivePacksUpto_holds
end Go.Proofs.YtfmlkagcmkbebaaDoor
