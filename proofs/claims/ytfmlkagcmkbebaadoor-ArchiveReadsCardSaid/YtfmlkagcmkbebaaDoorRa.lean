/- Openings shared by the rows: bytes, the table, a lone run that leaves nobody behind. -/
import Derived.Test.YtfmlkagcmkbebaaDoorRows
import Derived.Test.YtfmlkagcmkbebaaDoorLb
import Derived.WalkKit
import Derived.ProofKit
import Derived.OpenShut
import Derived.Deep.DeepHandedRow
import Derived.Lib.LaidTab
import Derived.Conc.Holds
import Derived.SizedLaws
import Derived.SevenTiedAt
namespace Go.Proofs.YtfmlkagcmkbebaaDoor
open Go.ChangeShapes Go.WideShapes Go.ChangeAt Go.RowKit

theorem own : ownKnob Tryd.prog.godebug = none := by kernel_rfl
theorem laidOut : laidOutB Tryd.prog = true := by kernel_rfl
theorem gTab : Tryd.prog.globalNamed "annals/wire.table" = some 0 := by kernel_rfl
theorem gTabType : (Tryd.prog.globals[0]?).map (·.type) = some 126 := by kernel_rfl
theorem cellsTab : Tryd.prog.cellsOf 126 = 16 := by kernel_rfl
theorem cellsU32 : Tryd.prog.cellsOf 67 = 1 := by kernel_rfl

def tabInts : List Int := [0, 498536548, 997073096, 651767980, 1994146192, 1802195444, 1303535960, 1342533948, 3988292384, 4027552580, 3604390888, 3412177804, 2607071920, 2262029012, 2685067896, 3183342108]
theorem tab_of {W : World} (h : Lib.TabIs Tryd.prog W "annals/wire.table" .u32 tabInts) : Tab W := by
  have e : ∀ i, i < 16 → tabInts.getD i 0 = ((nibTab.getD i 0).toNat : Int) := by decide
  intro i hi
  rw [← e i hi]
  exact h.cell gTab i hi

/-- A slice of bytes that came in, read. -/
theorem bytes_in {H : Type} {enc : TypeId × Value → H} {W : World} {base : Nat} {sp : Nat → Bool} {held : Bool} {a : Option Addr} {len cap : Nat} {d : DataW H} {p : List MemPlace}
    (h : DataW.Trod enc Tryd.prog W base sp held 22 (.slice a len cap) d p) : ∃ xs, xs.length = len ∧ Bs W (.slice a len cap) xs ∧
      (a ≠ none → ∃ el spare, d = .slice el spare ∧ el.length = len) := by
  obtain ⟨fuel, hf⟩ := h
  rcases open_ints Tryd.underlying22 Tryd.underlying5 (by kernel_rfl) hf with ⟨hcs, _⟩ | ⟨x, l, c, zs, hcs, _, hl, hm, hz, hx, hcell, hwz⟩
  · simp [Value.cells] at hcs
    obtain ⟨rfl, rfl, rfl⟩ := hcs
    exact ⟨[], rfl, Rd.nil _ _, fun h => absurd rfl h⟩
  · simp [Value.cells] at hcs
    obtain ⟨rfl, rfl, rfl⟩ := hcs
    have hlz : len ≤ zs.length := by rw [hz]; split <;> omega
    have hw : ∀ j, j < len → 0 ≤ zs.getD j 0 ∧ zs.getD j 0 ≤ 255 := fun j hj => by
      have := hwz (zs.getD j 0) (by rw [List.getD_eq_getElem?_getD, List.getElem?_eq_getElem (by omega)]; exact List.getElem_mem _)
      simp [Lit.wf] at this
      have e1 : IntKind.u8.min = 0 := by decide
      have e2 : IntKind.u8.max = 255 := by decide
      rw [e1, e2] at this
      simpa using this
    refine ⟨(zs.take len).map (fun z => UInt8.ofNat z.toNat), by simp; omega, ?_, fun _ => ⟨_, _, by injection hx with h1 _, by simp [lits]; omega⟩⟩
    have hlen : ((zs.take len).map (fun z => UInt8.ofNat z.toNat)).length = len := by simp; omega
    refine ⟨_, _, by rw [hlen], by rw [bys_length, hlen]; omega, by omega, hm, fun j u hj => ?_⟩
    have hj2 : j < len := by have := (List.getElem?_eq_some_iff.1 hj).1; rw [bys_length, hlen] at this; exact this
    obtain ⟨b, off, rfl, hc⟩ := ints_at hcell (by omega)
    refine ⟨b, off, rfl, ?_⟩
    rw [hc j (by omega)]
    have e : u = .int .u8 (zs.getD j 0) := by
      simp only [bys, List.getElem?_map, List.getElem?_take, hj2, if_true] at hj
      rw [List.getElem?_eq_getElem (by omega)] at hj
      simp only [Option.map_some, Option.some.injEq] at hj
      rw [← hj, byt_ofNat, List.getD_eq_getElem?_getD, List.getElem?_eq_getElem (by omega)]
      have := hw j hj2
      rw [List.getD_eq_getElem?_getD, List.getElem?_eq_getElem (by omega)] at this
      simp only [Option.getD_some] at this ⊢
      congr 1
      omega
    rw [e]

/-- Alone at the return is leaving at the return. -/
theorem leaving_of_alone {P : Program} {m : Machine} {w : World} {t : Trace} (h : aloneAtReturn P m w t) : leavingAtReturn P m w t := by
  obtain ⟨⟨h1, h2⟩, h3, h4⟩ := h
  refine ⟨h3, ⟨fun g hg => ⟨0, ?_⟩, h2⟩, h4⟩
  have := List.all_eq_true.1 h1 g hg
  show g.status = .finished
  simpa using this
theorem leaving_of_handed {a : Assume} {C : Checked} {os : Os} {f : FuncId} {r : Reach} {Pre : World → Array Value → Prop} {Post : World → Array Value → Value → World → Prop} (h : ReturnsInHanded a C os f r Pre Post) : ReturnsInLeavingWide a C os f r Pre Post :=
  fun enter => (h enter).mono (fun _ _ _ => leaving_of_alone) (fun _ h => h)

/-- A tied card whose call may start goroutines. -/
theorem tied_goes {p : Pinned} {s : OpenSpec} {c : OpenClaim} (kinds : List LaidKind) (tests : Bool) (har : Bool × String) (lk : Bool)
    (hc : c.holds p s) (hw : c.wfByText s = true) (htie : c.laidByTextAt .later p kinds tests)
    (hst : c.start = .entering) (hnb : c.noBlocks = false ∧ c.again = false) (hm : p.checked.prog.mainIs = some (har.1, har.2.toList)) (hn : (!har.1 && har.2.isEmpty && !lk) = false)
    (hl : ∀ f fn, p.checked.prog.funcNamed c.func = some f → p.checked.prog.funcs[f]? = some fn → lk = p.checked.prog.looks [] ∧ ∀ (j : Nat) t, fn.params[j]? = some t → p.checked.prog.wantsStandIn t = false)
    (hg : true = c.goesBy p.checked.prog) :
    Claim7.holds p (.plain s) { stood := { row := c, standIns := [], harness := har, looks := lk }, kinds := [], alts := [], goes := true, laidByText := true, laidKinds := kinds, laidTests := tests, laidLooks := .later } := by
  have h6 : Claim7.isSixth { stood := { row := c, standIns := [], harness := har, looks := lk }, kinds := [] } = false := by simpa [Claim7.isSixth] using hn
  have h := Claim7.new_of_sixth hc har lk hst hnb hm h6 hl
  refine ⟨?_, (fun D hD => by cases hD), htie, (fun h => by cases h), hg⟩
  obtain ⟨_, rest⟩ := h
  exact ⟨hw, rest⟩
end Go.Proofs.YtfmlkagcmkbebaaDoor
