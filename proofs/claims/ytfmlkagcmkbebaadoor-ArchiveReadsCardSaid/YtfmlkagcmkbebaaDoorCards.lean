/-
  DERIVED. GIVEN WITH THE SEED: THE CARDS: each row of YtfmlkagcmkbebaaDoorRows.lean that lists a variable, with what it lists TIED to the program's text (the seventh form; the later family's looks); each row that meets fmt, with fmt's text TOLD by the authors' own Lean function (tested against real Go, not proved from fmt's source: count such statements apart). THE CARD IS WHAT COUNTS. Prove the row's statement (the work); the ties are given (YtfmlkagcmkbebaaDoorTie.lean); close each card by the builder's one call (the guide's Derived/Test/ToyasCard.lean, 'card_holds'). Laid BY PROGRAM, IN A SANDBOX (cutbox-door.mjs). By AI agents, Wed Nov 11 2026. No macro, syntax, notation, axiom, sorry.
-/
import Derived.Test.YtfmlkagcmkbebaaDoorRows
import GoSem.ClaimSeven
namespace Go.Proofs.YtfmlkagcmkbebaaDoor
namespace Rows

/-- THE TIED CARD OF 'annalslaw17.ArchiveCuts'. -/
def archiveCutsCard : Claim7 := { stood := { row := archiveCutsRow, standIns := [], harness := (true, "0fbdcceb6601200134c08ca9111fd664088bf33e075dd6c2f506c97d9e9c3290"), looks := false }, kinds := [], alts := [], goes := true, laidByText := true, laidKinds := [.data], laidTests := true, laidLooks := .later }
def ArchiveCutsCardSaid : Prop := Claim7.holds Tryd.pinned (.plain (OpenSpec.ofChange archiveCutsSpec)) archiveCutsCard

/-- THE TIED CARD OF 'annalslaw17.ArchiveJoins'. -/
def archiveJoinsCard : Claim7 := { stood := { row := archiveJoinsRow, standIns := [], harness := (true, "0fbdcceb6601200134c08ca9111fd664088bf33e075dd6c2f506c97d9e9c3290"), looks := false }, kinds := [], alts := [], goes := true, laidByText := true, laidKinds := [.data], laidTests := true, laidLooks := .later }
def ArchiveJoinsCardSaid : Prop := Claim7.holds Tryd.pinned (.plain (OpenSpec.ofChange archiveJoinsSpec)) archiveJoinsCard

/-- THE TIED CARD OF 'annalslaw17.ArchiveAnyOrder'. -/
def archiveAnyOrderCard : Claim7 := { stood := { row := archiveAnyOrderRow, standIns := [], harness := (true, "0fbdcceb6601200134c08ca9111fd664088bf33e075dd6c2f506c97d9e9c3290"), looks := false }, kinds := [], alts := [], goes := true, laidByText := true, laidKinds := [.data], laidTests := true, laidLooks := .later }
def ArchiveAnyOrderCardSaid : Prop := Claim7.holds Tryd.pinned (.plain (OpenSpec.ofChange archiveAnyOrderSpec)) archiveAnyOrderCard

/-- THE TIED CARD OF 'annalslaw17.ArchivePacks'. -/
def archivePacksCard : Claim7 := { stood := { row := archivePacksRow, standIns := [], harness := (true, "0fbdcceb6601200134c08ca9111fd664088bf33e075dd6c2f506c97d9e9c3290"), looks := false }, kinds := [], alts := [], laidByText := true, laidKinds := [.data, .data, .data, .data, .data, .data, .pinned], laidTests := true, laidLooks := .later }
def ArchivePacksCardSaid : Prop := Claim7.holds Tryd.pinned (.plain (OpenSpec.ofChange archivePacksSpec)) archivePacksCard

/-- THE TIED CARD OF 'annalslaw17.ArchiveReads'. -/
def archiveReadsCard : Claim7 := { stood := { row := archiveReadsRow, standIns := [], harness := (true, "0fbdcceb6601200134c08ca9111fd664088bf33e075dd6c2f506c97d9e9c3290"), looks := false }, kinds := [], alts := [], laidByText := true, laidKinds := [.data, .data, .data, .data, .data, .data, .pinned], laidTests := true, laidLooks := .later }
def ArchiveReadsCardSaid : Prop := Claim7.holds Tryd.pinned (.plain (OpenSpec.ofChange archiveReadsSpec)) archiveReadsCard

/-- THE TIED CARD OF 'annalslaw17.ArchiveOne'. -/
def archiveOneCard : Claim7 := { stood := { row := archiveOneRow, standIns := [], harness := (true, "0fbdcceb6601200134c08ca9111fd664088bf33e075dd6c2f506c97d9e9c3290"), looks := false }, kinds := [], alts := [], laidByText := true, laidKinds := [.data, .data, .data, .data, .data, .data, .pinned], laidTests := true, laidLooks := .later }
def ArchiveOneCardSaid : Prop := Claim7.holds Tryd.pinned (.plain (OpenSpec.ofChange archiveOneSpec)) archiveOneCard

/-- THE SECOND FORM's CARD OF 'annalslaw17.ArchiveCuts'. -/
def archiveCutsUptoCard : Claim7 := { stood := { row := archiveCutsUptoRow, standIns := [], harness := (true, "0fbdcceb6601200134c08ca9111fd664088bf33e075dd6c2f506c97d9e9c3290"), looks := false }, kinds := [], alts := [], goes := true, laidByText := true, laidKinds := [.data], laidTests := true, laidLooks := .later }
def ArchiveCutsUptoCardSaid : Prop := Claim7.holds Tryd.pinned (.plain (OpenSpec.upto archiveCutsSpec)) archiveCutsUptoCard

/-- THE SECOND FORM's CARD OF 'annalslaw17.ArchiveJoins'. -/
def archiveJoinsUptoCard : Claim7 := { stood := { row := archiveJoinsUptoRow, standIns := [], harness := (true, "0fbdcceb6601200134c08ca9111fd664088bf33e075dd6c2f506c97d9e9c3290"), looks := false }, kinds := [], alts := [], goes := true, laidByText := true, laidKinds := [.data], laidTests := true, laidLooks := .later }
def ArchiveJoinsUptoCardSaid : Prop := Claim7.holds Tryd.pinned (.plain (OpenSpec.upto archiveJoinsSpec)) archiveJoinsUptoCard

/-- THE SECOND FORM's CARD OF 'annalslaw17.ArchiveAnyOrder'. -/
def archiveAnyOrderUptoCard : Claim7 := { stood := { row := archiveAnyOrderUptoRow, standIns := [], harness := (true, "0fbdcceb6601200134c08ca9111fd664088bf33e075dd6c2f506c97d9e9c3290"), looks := false }, kinds := [], alts := [], goes := true, laidByText := true, laidKinds := [.data], laidTests := true, laidLooks := .later }
def ArchiveAnyOrderUptoCardSaid : Prop := Claim7.holds Tryd.pinned (.plain (OpenSpec.upto archiveAnyOrderSpec)) archiveAnyOrderUptoCard

/-- THE SECOND FORM's CARD OF 'annalslaw17.ArchivePacks'. -/
def archivePacksUptoCard : Claim7 := { stood := { row := archivePacksUptoRow, standIns := [], harness := (true, "0fbdcceb6601200134c08ca9111fd664088bf33e075dd6c2f506c97d9e9c3290"), looks := false }, kinds := [], alts := [], laidByText := true, laidKinds := [.data, .data, .data, .data, .data, .data, .pinned], laidTests := true, laidLooks := .later }
def ArchivePacksUptoCardSaid : Prop := Claim7.holds Tryd.pinned (.plain (OpenSpec.upto archivePacksSpec)) archivePacksUptoCard

/-- THE SECOND FORM's CARD OF 'annalslaw17.ArchiveReads'. -/
def archiveReadsUptoCard : Claim7 := { stood := { row := archiveReadsUptoRow, standIns := [], harness := (true, "0fbdcceb6601200134c08ca9111fd664088bf33e075dd6c2f506c97d9e9c3290"), looks := false }, kinds := [], alts := [], laidByText := true, laidKinds := [.data, .data, .data, .data, .data, .data, .pinned], laidTests := true, laidLooks := .later }
def ArchiveReadsUptoCardSaid : Prop := Claim7.holds Tryd.pinned (.plain (OpenSpec.upto archiveReadsSpec)) archiveReadsUptoCard

/-- THE SECOND FORM's CARD OF 'annalslaw17.ArchiveOne'. -/
def archiveOneUptoCard : Claim7 := { stood := { row := archiveOneUptoRow, standIns := [], harness := (true, "0fbdcceb6601200134c08ca9111fd664088bf33e075dd6c2f506c97d9e9c3290"), looks := false }, kinds := [], alts := [], laidByText := true, laidKinds := [.data, .data, .data, .data, .data, .data, .pinned], laidTests := true, laidLooks := .later }
def ArchiveOneUptoCardSaid : Prop := Claim7.holds Tryd.pinned (.plain (OpenSpec.upto archiveOneSpec)) archiveOneUptoCard
end Rows
end Go.Proofs.YtfmlkagcmkbebaaDoor
