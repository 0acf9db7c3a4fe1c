/-
  NARROWER THAN 'FOR EVERY INPUT', by the rows' own cells (each row's printed sentence says how): ArchiveCuts: laid · ArchiveJoins: laid · ArchiveAnyOrder: laid · ArchivePacks: laid · ArchiveReads: laid · ArchiveOne: laid.
  DERIVED. THE GIVEN ROWS OF THIS SEAT. 6 by the template 'for every input the law returns true; each argument reads behind the call as it read before'; 0 by the template 'total and deterministic' (their statements: YtfmlkagcmkbebaaDoorTotals.lean).
  GIVEN WITH THE SEED: the statements are not yours to turn. If you find one false, say at which input.
  Laid BY PROGRAM, IN A SANDBOX (cutbox-rows.mjs): the forced cells as the released guide's own fill.sh prints them over the translation 15b2d2592c6ecfca… (all of the seat's roots in one cut). By AI agents, Wed Nov 11 2026. No macro, syntax, notation, axiom, sorry.
-/
import Derived.Test.YtfmlkagcmkbebaaDoorChecked
import GoSem.PinnedTables
import GoSem.Claim
import GoSem.ClaimJoined
import GoSem.ClaimMapViews
import Derived.JoinedTies
import Derived.KernelRfl
namespace Go.Proofs.YtfmlkagcmkbebaaDoor
/- THE CELL 'sum', in the pinned program and in every row, IS THE sha256 OF THE DUMP (.gsa) THAT YtfmlkagcmkbebaaDoorProg.lean LOADS. Nothing in Lean hashes anything: it is a label: what it is worth is what the hold of that sum in a sandbox is worth. -/
noncomputable def Tryd.pinned : Pinned := { name := "ytfmlkagcmkbebaadoor", sum := "15b2d2592c6ecfca9383cddae3be41ac8d71f7650585fb5d18f3ab9290840b1d", checked := Tryd.checked }
namespace Rows
def none {H : Type} : Left H := { results := [], args := [] }

/- WHAT THE LISTED PACKAGE-LEVEL VARIABLES READ AS WHEN THE CALL BEGINS. Each datum BY PROGRAM (the guide's laid-datum.mjs) off the statement by which the dump's own 'gosem.cut.vars' lays the variable. In a bare row this is a premise. The card (YtfmlkagcmkbebaaDoorCards.lean) ties it to the program's text. -/
def laid_annals_wire_table {H : Type} : DataW H := .agg [.lit (.int .u32 0), .lit (.int .u32 498536548), .lit (.int .u32 997073096), .lit (.int .u32 651767980), .lit (.int .u32 1994146192), .lit (.int .u32 1802195444), .lit (.int .u32 1303535960), .lit (.int .u32 1342533948), .lit (.int .u32 3988292384), .lit (.int .u32 4027552580), .lit (.int .u32 3604390888), .lit (.int .u32 3412177804), .lit (.int .u32 2607071920), .lit (.int .u32 2262029012), .lit (.int .u32 2685067896), .lit (.int .u32 3183342108)]
def laid_unicode_utf8_acceptRanges {H : Type} : DataW H := .agg [.agg [.lit (.int .u8 128), .lit (.int .u8 191)], .agg [.lit (.int .u8 160), .lit (.int .u8 191)], .agg [.lit (.int .u8 128), .lit (.int .u8 159)], .agg [.lit (.int .u8 144), .lit (.int .u8 191)], .agg [.lit (.int .u8 128), .lit (.int .u8 143)], .agg [.lit (.int .u8 0), .lit (.int .u8 0)], .agg [.lit (.int .u8 0), .lit (.int .u8 0)], .agg [.lit (.int .u8 0), .lit (.int .u8 0)], .agg [.lit (.int .u8 0), .lit (.int .u8 0)], .agg [.lit (.int .u8 0), .lit (.int .u8 0)], .agg [.lit (.int .u8 0), .lit (.int .u8 0)], .agg [.lit (.int .u8 0), .lit (.int .u8 0)], .agg [.lit (.int .u8 0), .lit (.int .u8 0)], .agg [.lit (.int .u8 0), .lit (.int .u8 0)], .agg [.lit (.int .u8 0), .lit (.int .u8 0)], .agg [.lit (.int .u8 0), .lit (.int .u8 0)]]
def laid_annals_annalsref2_letters {H : Type} : DataW H := .agg [.agg [.lit (.int .i64 65), .lit (.int .i64 90)], .agg [.lit (.int .i64 97), .lit (.int .i64 122)], .agg [.lit (.int .i64 192), .lit (.int .i64 214)], .agg [.lit (.int .i64 216), .lit (.int .i64 246)], .agg [.lit (.int .i64 248), .lit (.int .i64 383)], .agg [.lit (.int .i64 913), .lit (.int .i64 929)], .agg [.lit (.int .i64 931), .lit (.int .i64 937)], .agg [.lit (.int .i64 940), .lit (.int .i64 974)], .agg [.lit (.int .i64 1024), .lit (.int .i64 1119)], .agg [.lit (.int .i64 1329), .lit (.int .i64 1366)], .agg [.lit (.int .i64 1488), .lit (.int .i64 1514)], .agg [.lit (.int .i64 1569), .lit (.int .i64 1594)], .agg [.lit (.int .i64 1601), .lit (.int .i64 1610)], .agg [.lit (.int .i64 2308), .lit (.int .i64 2361)], .agg [.lit (.int .i64 3585), .lit (.int .i64 3632)], .agg [.lit (.int .i64 4304), .lit (.int .i64 4346)], .agg [.lit (.int .i64 12353), .lit (.int .i64 12438)], .agg [.lit (.int .i64 12449), .lit (.int .i64 12538)], .agg [.lit (.int .i64 19968), .lit (.int .i64 40959)], .agg [.lit (.int .i64 44032), .lit (.int .i64 55203)], .agg [.lit (.int .i64 66560), .lit (.int .i64 66639)], .agg [.lit (.int .i64 131072), .lit (.int .i64 173791)]]
def laid_annals_annalsref3_rows {H : Type} : DataW H := .agg [.agg [.lit (.string [97, 98, 99, 107]), .lit (.string [97, 98, 101, 104, 106, 107]), .lit (.string [97, 98, 101, 104, 105, 106, 107])], .agg [.lit (.string [97, 98, 99]), .lit (.string [97, 98, 99, 100, 101]), .lit (.string [97, 98, 99, 100, 101])], .agg [.lit (.string [97, 98, 99, 107]), .lit (.string [97, 98, 99, 101, 107]), .lit (.string [97, 98, 99, 101, 107])], .agg [.lit (.string [97, 98, 99, 107]), .lit (.string [97, 98, 99, 101, 102, 107]), .lit (.string [97, 98, 99, 101, 102, 103, 107])], .agg [.lit (.string [97, 98, 99]), .lit (.string [97, 98, 99, 100, 101]), .lit (.string [97, 98, 99, 100, 101])], .agg [.lit (.string [97, 98, 99, 107]), .lit (.string [97, 98, 99, 101, 107]), .lit (.string [97, 98, 99, 101, 107])], .agg [.lit (.string [97, 98]), .lit (.string [97, 98, 101]), .lit (.string [97, 98, 101, 103])]]
def laid_annals_text_letters {H : Type} : DataW H := .agg [.agg [.lit (.int .i32 65), .lit (.int .i32 90)], .agg [.lit (.int .i32 97), .lit (.int .i32 122)], .agg [.lit (.int .i32 192), .lit (.int .i32 214)], .agg [.lit (.int .i32 216), .lit (.int .i32 246)], .agg [.lit (.int .i32 248), .lit (.int .i32 383)], .agg [.lit (.int .i32 913), .lit (.int .i32 929)], .agg [.lit (.int .i32 931), .lit (.int .i32 937)], .agg [.lit (.int .i32 940), .lit (.int .i32 974)], .agg [.lit (.int .i32 1024), .lit (.int .i32 1119)], .agg [.lit (.int .i32 1329), .lit (.int .i32 1366)], .agg [.lit (.int .i32 1488), .lit (.int .i32 1514)], .agg [.lit (.int .i32 1569), .lit (.int .i32 1594)], .agg [.lit (.int .i32 1601), .lit (.int .i32 1610)], .agg [.lit (.int .i32 2308), .lit (.int .i32 2361)], .agg [.lit (.int .i32 3585), .lit (.int .i32 3632)], .agg [.lit (.int .i32 4304), .lit (.int .i32 4346)], .agg [.lit (.int .i32 12353), .lit (.int .i32 12438)], .agg [.lit (.int .i32 12449), .lit (.int .i32 12538)], .agg [.lit (.int .i32 19968), .lit (.int .i32 40959)], .agg [.lit (.int .i32 44032), .lit (.int .i32 55203)], .agg [.lit (.int .i32 66560), .lit (.int .i32 66639)], .agg [.lit (.int .i32 131072), .lit (.int .i32 173791)]]
def laid_annals_record_may {H : Type} : DataW H := .agg [.agg [.lit (.int .u16 2062), .lit (.int .u16 14), .lit (.int .u16 2062), .lit (.int .u16 2062), .lit (.int .u16 14), .lit (.int .u16 2062), .lit (.int .u16 6)], .agg [.lit (.int .u16 3366), .lit (.int .u16 62), .lit (.int .u16 2094), .lit (.int .u16 2158), .lit (.int .u16 62), .lit (.int .u16 2094), .lit (.int .u16 38)], .agg [.lit (.int .u16 3878), .lit (.int .u16 62), .lit (.int .u16 2094), .lit (.int .u16 2286), .lit (.int .u16 62), .lit (.int .u16 2094), .lit (.int .u16 166)]]
/-- One of Go's own tables, pinned by name: the form's constant. -/
def laid_unicode_utf8_first : DataW Unit := Go.Pinned.utf8First

/-- 'annalslaw17.ArchiveCuts': WHATEVER THE INPUT: true; the input reads as it did. -/
def archiveCutsSpec : ChangeSpec := { name := "archiveCuts", fn := fun _ => fun
  | [d1, d2, d3] => { results := [.lit (.bool true)], args := [d1, d2, d3] }
  | _ => none }
def archiveCutsRow : OpenClaim := { program := "ytfmlkagcmkbebaadoor", sum := "15b2d2592c6ecfca9383cddae3be41ac8d71f7650585fb5d18f3ab9290840b1d", func := "annals/annalslaw17.ArchiveCuts", spec := "archiveCuts", unfollowed := true, recurses := true, named := ["annals/wire.table"], leaving := true, apart := false, laid := [("annals/wire.table", laid_annals_wire_table)] }
def ArchiveCutsSaid : Prop := archiveCutsRow.holds Tryd.pinned (OpenSpec.ofChange archiveCutsSpec)

/-- ITS FALSE NEIGHBOUR: 'it returns false'. Refute it at one input. -/
def archiveCutsWrong : ChangeSpec := { name := "archiveCuts", fn := fun _ => fun
  | [d1, d2, d3] => { results := [.lit (.bool false)], args := [d1, d2, d3] }
  | _ => none }
def ArchiveCutsWrongFalsely : Prop := archiveCutsRow.holds Tryd.pinned (OpenSpec.ofChange archiveCutsWrong)

/-- 'annalslaw17.ArchiveJoins': WHATEVER THE INPUT: true; the input reads as it did. -/
def archiveJoinsSpec : ChangeSpec := { name := "archiveJoins", fn := fun _ => fun
  | [d] => { results := [.lit (.bool true)], args := [d] }
  | _ => none }
def archiveJoinsRow : OpenClaim := { program := "ytfmlkagcmkbebaadoor", sum := "15b2d2592c6ecfca9383cddae3be41ac8d71f7650585fb5d18f3ab9290840b1d", func := "annals/annalslaw17.ArchiveJoins", spec := "archiveJoins", inPlace := ["(*sync.WaitGroup).Add", "internal/race.ReleaseMerge", "internal/race.Disable", "internal/race.Enable", "internal/synctest.IsInBubble", "internal/synctest.Associate[sync.WaitGroup]", "sync.fatal", "sync/atomic.OrUint64", "sync/atomic.AddUint64", "internal/race.Read", "sync/atomic.LoadUint64", "sync/atomic.StoreUint64", "internal/synctest.Disassociate[sync.WaitGroup]", "sync.runtime_Semrelease", "(*sync.WaitGroup).Done", "(*sync.WaitGroup).Wait", "internal/race.Acquire", "internal/synctest.IsAssociated[sync.WaitGroup]", "sync/atomic.CompareAndSwapUint64", "internal/race.Write", "sync.runtime_SemacquireWaitGroup", "internal/bytealg.MakeNoZero"], unfollowed := true, recurses := true, named := ["annals/wire.table"], leaving := true, apart := false, laid := [("annals/wire.table", laid_annals_wire_table)] }
def ArchiveJoinsSaid : Prop := archiveJoinsRow.holds Tryd.pinned (OpenSpec.ofChange archiveJoinsSpec)

/-- ITS FALSE NEIGHBOUR: 'it returns false'. Refute it at one input. -/
def archiveJoinsWrong : ChangeSpec := { name := "archiveJoins", fn := fun _ => fun
  | [d] => { results := [.lit (.bool false)], args := [d] }
  | _ => none }
def ArchiveJoinsWrongFalsely : Prop := archiveJoinsRow.holds Tryd.pinned (OpenSpec.ofChange archiveJoinsWrong)

/-- 'annalslaw17.ArchiveAnyOrder': WHATEVER THE INPUT: true; the input reads as it did. -/
def archiveAnyOrderSpec : ChangeSpec := { name := "archiveAnyOrder", fn := fun _ => fun
  | [d1, d2, d3, d4] => { results := [.lit (.bool true)], args := [d1, d2, d3, d4] }
  | _ => none }
def archiveAnyOrderRow : OpenClaim := { program := "ytfmlkagcmkbebaadoor", sum := "15b2d2592c6ecfca9383cddae3be41ac8d71f7650585fb5d18f3ab9290840b1d", func := "annals/annalslaw17.ArchiveAnyOrder", spec := "archiveAnyOrder", inPlace := ["(*sync.WaitGroup).Add", "internal/race.ReleaseMerge", "internal/race.Disable", "internal/race.Enable", "internal/synctest.IsInBubble", "internal/synctest.Associate[sync.WaitGroup]", "sync.fatal", "sync/atomic.OrUint64", "sync/atomic.AddUint64", "internal/race.Read", "sync/atomic.LoadUint64", "sync/atomic.StoreUint64", "internal/synctest.Disassociate[sync.WaitGroup]", "sync.runtime_Semrelease", "(*sync.WaitGroup).Done", "(*sync.WaitGroup).Wait", "internal/race.Acquire", "internal/synctest.IsAssociated[sync.WaitGroup]", "sync/atomic.CompareAndSwapUint64", "internal/race.Write", "sync.runtime_SemacquireWaitGroup", "internal/bytealg.MakeNoZero"], unfollowed := true, recurses := true, named := ["annals/wire.table"], leaving := true, apart := false, laid := [("annals/wire.table", laid_annals_wire_table)] }
def ArchiveAnyOrderSaid : Prop := archiveAnyOrderRow.holds Tryd.pinned (OpenSpec.ofChange archiveAnyOrderSpec)

/-- ITS FALSE NEIGHBOUR: 'it returns false'. Refute it at one input. -/
def archiveAnyOrderWrong : ChangeSpec := { name := "archiveAnyOrder", fn := fun _ => fun
  | [d1, d2, d3, d4] => { results := [.lit (.bool false)], args := [d1, d2, d3, d4] }
  | _ => none }
def ArchiveAnyOrderWrongFalsely : Prop := archiveAnyOrderRow.holds Tryd.pinned (OpenSpec.ofChange archiveAnyOrderWrong)

/-- 'annalslaw17.ArchivePacks': WHATEVER THE INPUT: true; the input reads as it did. -/
def archivePacksSpec : ChangeSpec := { name := "archivePacks", fn := fun _ => fun
  | [d1, d2] => { results := [.lit (.bool true)], args := [d1, d2] }
  | _ => none }
def archivePacksRow : OpenClaim := { program := "ytfmlkagcmkbebaadoor", sum := "15b2d2592c6ecfca9383cddae3be41ac8d71f7650585fb5d18f3ab9290840b1d", func := "annals/annalslaw17.ArchivePacks", spec := "archivePacks", named := ["annals/annalsref3.rows", "annals/annalsref2.letters", "annals/record.may", "unicode/utf8.first", "unicode/utf8.acceptRanges", "annals/text.letters", "annals/wire.table"], apart := false, laid := [("unicode/utf8.acceptRanges", laid_unicode_utf8_acceptRanges), ("annals/annalsref2.letters", laid_annals_annalsref2_letters), ("annals/annalsref3.rows", laid_annals_annalsref3_rows), ("annals/wire.table", laid_annals_wire_table), ("annals/text.letters", laid_annals_text_letters), ("annals/record.may", laid_annals_record_may), ("unicode/utf8.first", laid_unicode_utf8_first)] }
def ArchivePacksSaid : Prop := archivePacksRow.holds Tryd.pinned (OpenSpec.ofChange archivePacksSpec)

/-- ITS FALSE NEIGHBOUR: 'it returns false'. Refute it at one input. -/
def archivePacksWrong : ChangeSpec := { name := "archivePacks", fn := fun _ => fun
  | [d1, d2] => { results := [.lit (.bool false)], args := [d1, d2] }
  | _ => none }
def ArchivePacksWrongFalsely : Prop := archivePacksRow.holds Tryd.pinned (OpenSpec.ofChange archivePacksWrong)

/-- 'annalslaw17.ArchiveReads': WHATEVER THE INPUT: true; the input reads as it did. -/
def archiveReadsSpec : ChangeSpec := { name := "archiveReads", fn := fun _ => fun
  | [d] => { results := [.lit (.bool true)], args := [d] }
  | _ => none }
def archiveReadsRow : OpenClaim := { program := "ytfmlkagcmkbebaadoor", sum := "15b2d2592c6ecfca9383cddae3be41ac8d71f7650585fb5d18f3ab9290840b1d", func := "annals/annalslaw17.ArchiveReads", spec := "archiveReads", named := ["annals/annalsref3.rows", "annals/annalsref2.letters", "annals/record.may", "unicode/utf8.first", "unicode/utf8.acceptRanges", "annals/text.letters", "annals/wire.table"], apart := false, laid := [("unicode/utf8.acceptRanges", laid_unicode_utf8_acceptRanges), ("annals/annalsref2.letters", laid_annals_annalsref2_letters), ("annals/annalsref3.rows", laid_annals_annalsref3_rows), ("annals/wire.table", laid_annals_wire_table), ("annals/text.letters", laid_annals_text_letters), ("annals/record.may", laid_annals_record_may), ("unicode/utf8.first", laid_unicode_utf8_first)] }
def ArchiveReadsSaid : Prop := archiveReadsRow.holds Tryd.pinned (OpenSpec.ofChange archiveReadsSpec)

/-- ITS FALSE NEIGHBOUR: 'it returns false'. Refute it at one input. -/
def archiveReadsWrong : ChangeSpec := { name := "archiveReads", fn := fun _ => fun
  | [d] => { results := [.lit (.bool false)], args := [d] }
  | _ => none }
def ArchiveReadsWrongFalsely : Prop := archiveReadsRow.holds Tryd.pinned (OpenSpec.ofChange archiveReadsWrong)

/-- 'annalslaw17.ArchiveOne': WHATEVER THE INPUT: true; the input reads as it did. -/
def archiveOneSpec : ChangeSpec := { name := "archiveOne", fn := fun _ => fun
  | [d1, d2, d3, d4] => { results := [.lit (.bool true)], args := [d1, d2, d3, d4] }
  | _ => none }
def archiveOneRow : OpenClaim := { program := "ytfmlkagcmkbebaadoor", sum := "15b2d2592c6ecfca9383cddae3be41ac8d71f7650585fb5d18f3ab9290840b1d", func := "annals/annalslaw17.ArchiveOne", spec := "archiveOne", named := ["annals/annalsref3.rows", "annals/annalsref2.letters", "annals/record.may", "unicode/utf8.first", "unicode/utf8.acceptRanges", "annals/text.letters", "annals/wire.table"], apart := false, laid := [("unicode/utf8.acceptRanges", laid_unicode_utf8_acceptRanges), ("annals/annalsref2.letters", laid_annals_annalsref2_letters), ("annals/annalsref3.rows", laid_annals_annalsref3_rows), ("annals/wire.table", laid_annals_wire_table), ("annals/text.letters", laid_annals_text_letters), ("annals/record.may", laid_annals_record_may), ("unicode/utf8.first", laid_unicode_utf8_first)] }
def ArchiveOneSaid : Prop := archiveOneRow.holds Tryd.pinned (OpenSpec.ofChange archiveOneSpec)

/-- ITS FALSE NEIGHBOUR: 'it returns false'. Refute it at one input. -/
def archiveOneWrong : ChangeSpec := { name := "archiveOne", fn := fun _ => fun
  | [d1, d2, d3, d4] => { results := [.lit (.bool false)], args := [d1, d2, d3, d4] }
  | _ => none }
def ArchiveOneWrongFalsely : Prop := archiveOneRow.holds Tryd.pinned (OpenSpec.ofChange archiveOneWrong)

/- THE SECOND FORM. 'bulk': how many values and letters a reading holds, each counted each time it is reached (what is shared counts as often as it is met; a slice's spare places count too). A statement '..UptoSaid' is the law's where the arguments, and the package variables that the reading takes, are together of bulk at most 1048576: NARROWER than '..Said'. Prove '..Said' where nothing that the law and all that it calls make is longer than what came in: it says more and counts as full. Else prove '..UptoSaid'. A law counts once. -/
mutual
def uptoBulk {H : Type} : DataW H → Nat
  | .lit (.string bytes) => bytes.length + 1
  | .lit _ => 1
  | .nil => 1
  | .ptr d => uptoBulk d + 1
  | .slice elems spare => uptoBulkAll elems + uptoBulkAll spare + 1
  | .agg parts => uptoBulkAll parts + 1
  | .iface _ d => uptoBulk d + 1
  | .map entries => uptoBulkEntries entries + 1
  | .held _ => 1
def uptoBulkAll {H : Type} : List (DataW H) → Nat
  | [] => 0
  | d :: r => uptoBulk d + uptoBulkAll r
def uptoBulkEntries {H : Type} : List (Lit × DataW H) → Nat
  | [] => 0
  | x :: r => uptoBulkEntry x + uptoBulkEntries r
def uptoBulkEntry {H : Type} : Lit × DataW H → Nat
  | (.string bytes, d) => bytes.length + uptoBulk d + 1
  | (_, d) => uptoBulk d + 1
 end
def uptoSmall : (H : Type) → List (DataW H) → Bool := fun _ ds => decide (uptoBulkAll ds ≤ 1048576)
def OpenSpec.upto (s : _root_.Go.ChangeSpec) : _root_.Go.OpenSpec := { _root_.Go.OpenSpec.ofChange s with cond := some uptoSmall }

/-- 'annalslaw17.ArchiveCuts', WHERE WHAT IT READS IS OF BULK AT MOST 1048576: true; the input reads as it did. -/
def archiveCutsUptoRow : OpenClaim := { program := "ytfmlkagcmkbebaadoor", sum := "15b2d2592c6ecfca9383cddae3be41ac8d71f7650585fb5d18f3ab9290840b1d", func := "annals/annalslaw17.ArchiveCuts", spec := "archiveCuts", unfollowed := true, recurses := true, named := ["annals/wire.table"], leaving := true, apart := false, laid := [("annals/wire.table", laid_annals_wire_table)], narrowed := true }
def ArchiveCutsUptoSaid : Prop := archiveCutsUptoRow.holds Tryd.pinned (OpenSpec.upto archiveCutsSpec)

/-- 'annalslaw17.ArchiveJoins', WHERE WHAT IT READS IS OF BULK AT MOST 1048576: true; the input reads as it did. -/
def archiveJoinsUptoRow : OpenClaim := { program := "ytfmlkagcmkbebaadoor", sum := "15b2d2592c6ecfca9383cddae3be41ac8d71f7650585fb5d18f3ab9290840b1d", func := "annals/annalslaw17.ArchiveJoins", spec := "archiveJoins", inPlace := ["(*sync.WaitGroup).Add", "internal/race.ReleaseMerge", "internal/race.Disable", "internal/race.Enable", "internal/synctest.IsInBubble", "internal/synctest.Associate[sync.WaitGroup]", "sync.fatal", "sync/atomic.OrUint64", "sync/atomic.AddUint64", "internal/race.Read", "sync/atomic.LoadUint64", "sync/atomic.StoreUint64", "internal/synctest.Disassociate[sync.WaitGroup]", "sync.runtime_Semrelease", "(*sync.WaitGroup).Done", "(*sync.WaitGroup).Wait", "internal/race.Acquire", "internal/synctest.IsAssociated[sync.WaitGroup]", "sync/atomic.CompareAndSwapUint64", "internal/race.Write", "sync.runtime_SemacquireWaitGroup", "internal/bytealg.MakeNoZero"], unfollowed := true, recurses := true, named := ["annals/wire.table"], leaving := true, apart := false, laid := [("annals/wire.table", laid_annals_wire_table)], narrowed := true }
def ArchiveJoinsUptoSaid : Prop := archiveJoinsUptoRow.holds Tryd.pinned (OpenSpec.upto archiveJoinsSpec)

/-- 'annalslaw17.ArchiveAnyOrder', WHERE WHAT IT READS IS OF BULK AT MOST 1048576: true; the input reads as it did. -/
def archiveAnyOrderUptoRow : OpenClaim := { program := "ytfmlkagcmkbebaadoor", sum := "15b2d2592c6ecfca9383cddae3be41ac8d71f7650585fb5d18f3ab9290840b1d", func := "annals/annalslaw17.ArchiveAnyOrder", spec := "archiveAnyOrder", inPlace := ["(*sync.WaitGroup).Add", "internal/race.ReleaseMerge", "internal/race.Disable", "internal/race.Enable", "internal/synctest.IsInBubble", "internal/synctest.Associate[sync.WaitGroup]", "sync.fatal", "sync/atomic.OrUint64", "sync/atomic.AddUint64", "internal/race.Read", "sync/atomic.LoadUint64", "sync/atomic.StoreUint64", "internal/synctest.Disassociate[sync.WaitGroup]", "sync.runtime_Semrelease", "(*sync.WaitGroup).Done", "(*sync.WaitGroup).Wait", "internal/race.Acquire", "internal/synctest.IsAssociated[sync.WaitGroup]", "sync/atomic.CompareAndSwapUint64", "internal/race.Write", "sync.runtime_SemacquireWaitGroup", "internal/bytealg.MakeNoZero"], unfollowed := true, recurses := true, named := ["annals/wire.table"], leaving := true, apart := false, laid := [("annals/wire.table", laid_annals_wire_table)], narrowed := true }
def ArchiveAnyOrderUptoSaid : Prop := archiveAnyOrderUptoRow.holds Tryd.pinned (OpenSpec.upto archiveAnyOrderSpec)

/-- 'annalslaw17.ArchivePacks', WHERE WHAT IT READS IS OF BULK AT MOST 1048576: true; the input reads as it did. -/
def archivePacksUptoRow : OpenClaim := { program := "ytfmlkagcmkbebaadoor", sum := "15b2d2592c6ecfca9383cddae3be41ac8d71f7650585fb5d18f3ab9290840b1d", func := "annals/annalslaw17.ArchivePacks", spec := "archivePacks", named := ["annals/annalsref3.rows", "annals/annalsref2.letters", "annals/record.may", "unicode/utf8.first", "unicode/utf8.acceptRanges", "annals/text.letters", "annals/wire.table"], apart := false, laid := [("unicode/utf8.acceptRanges", laid_unicode_utf8_acceptRanges), ("annals/annalsref2.letters", laid_annals_annalsref2_letters), ("annals/annalsref3.rows", laid_annals_annalsref3_rows), ("annals/wire.table", laid_annals_wire_table), ("annals/text.letters", laid_annals_text_letters), ("annals/record.may", laid_annals_record_may), ("unicode/utf8.first", laid_unicode_utf8_first)], narrowed := true }
def ArchivePacksUptoSaid : Prop := archivePacksUptoRow.holds Tryd.pinned (OpenSpec.upto archivePacksSpec)

/-- 'annalslaw17.ArchiveReads', WHERE WHAT IT READS IS OF BULK AT MOST 1048576: true; the input reads as it did. -/
def archiveReadsUptoRow : OpenClaim := { program := "ytfmlkagcmkbebaadoor", sum := "15b2d2592c6ecfca9383cddae3be41ac8d71f7650585fb5d18f3ab9290840b1d", func := "annals/annalslaw17.ArchiveReads", spec := "archiveReads", named := ["annals/annalsref3.rows", "annals/annalsref2.letters", "annals/record.may", "unicode/utf8.first", "unicode/utf8.acceptRanges", "annals/text.letters", "annals/wire.table"], apart := false, laid := [("unicode/utf8.acceptRanges", laid_unicode_utf8_acceptRanges), ("annals/annalsref2.letters", laid_annals_annalsref2_letters), ("annals/annalsref3.rows", laid_annals_annalsref3_rows), ("annals/wire.table", laid_annals_wire_table), ("annals/text.letters", laid_annals_text_letters), ("annals/record.may", laid_annals_record_may), ("unicode/utf8.first", laid_unicode_utf8_first)], narrowed := true }
def ArchiveReadsUptoSaid : Prop := archiveReadsUptoRow.holds Tryd.pinned (OpenSpec.upto archiveReadsSpec)

/-- 'annalslaw17.ArchiveOne', WHERE WHAT IT READS IS OF BULK AT MOST 1048576: true; the input reads as it did. -/
def archiveOneUptoRow : OpenClaim := { program := "ytfmlkagcmkbebaadoor", sum := "15b2d2592c6ecfca9383cddae3be41ac8d71f7650585fb5d18f3ab9290840b1d", func := "annals/annalslaw17.ArchiveOne", spec := "archiveOne", named := ["annals/annalsref3.rows", "annals/annalsref2.letters", "annals/record.may", "unicode/utf8.first", "unicode/utf8.acceptRanges", "annals/text.letters", "annals/wire.table"], apart := false, laid := [("unicode/utf8.acceptRanges", laid_unicode_utf8_acceptRanges), ("annals/annalsref2.letters", laid_annals_annalsref2_letters), ("annals/annalsref3.rows", laid_annals_annalsref3_rows), ("annals/wire.table", laid_annals_wire_table), ("annals/text.letters", laid_annals_text_letters), ("annals/record.may", laid_annals_record_may), ("unicode/utf8.first", laid_unicode_utf8_first)], narrowed := true }
def ArchiveOneUptoSaid : Prop := archiveOneUptoRow.holds Tryd.pinned (OpenSpec.upto archiveOneSpec)

end Rows
end Go.Proofs.YtfmlkagcmkbebaaDoor
