/-
  NARROWER THAN 'FOR EVERY INPUT', by the rows' own cells (each row's printed sentence says how): CronReads: laid · CronDates: laid · CronNext: laid · CronFirst: laid · CronDays: laid · CronStars: laid · CronParts: laid.
  DERIVED. THE GIVEN ROWS OF THIS SEAT. 7 by the template 'for every input the law returns true; each argument reads behind the call as it read before'; 0 by the template 'total and deterministic' (their statements: YtmgpkadgalgnnaaDoorTotals.lean).
  GIVEN WITH THE SEED: the statements are not yours to turn. If you find one false, say at which input.
  Laid BY PROGRAM, IN A SANDBOX (cutbox-rows.mjs): the forced cells as the released guide's own fill.sh prints them over the translation 988e756d1e1b32f8… (all of the seat's roots in one cut). By AI agents, Wed Nov 11 2026. No macro, syntax, notation, axiom, sorry.
-/
import Derived.Test.YtmgpkadgalgnnaaDoorChecked
import GoSem.PinnedTables
import GoSem.Claim
import GoSem.ClaimJoined
import GoSem.ClaimMapViews
import Derived.JoinedTies
import Derived.KernelRfl
namespace Go.Proofs.YtmgpkadgalgnnaaDoor
/- THE CELL 'sum', in the pinned program and in every row, IS THE sha256 OF THE DUMP (.gsa) THAT YtmgpkadgalgnnaaDoorProg.lean LOADS. Nothing in Lean hashes anything: it is a label: what it is worth is what the hold of that sum in a sandbox is worth. -/
noncomputable def Tryd.pinned : Pinned := { name := "ytmgpkadgalgnnaadoor", sum := "988e756d1e1b32f8a05f589aa99cadf4e30323f3618736715334a39be84840fa", checked := Tryd.checked }
namespace Rows
def none {H : Type} : Left H := { results := [], args := [] }

/- WHAT THE LISTED PACKAGE-LEVEL VARIABLES READ AS WHEN THE CALL BEGINS. Each datum BY PROGRAM (the guide's laid-datum.mjs) off the statement by which the dump's own 'gosem.cut.vars' lays the variable. In a bare row this is a premise. The card (YtmgpkadgalgnnaaDoorCards.lean) ties it to the program's text. -/
def laid_unicode_utf8_acceptRanges {H : Type} : DataW H := .agg [.agg [.lit (.int .u8 128), .lit (.int .u8 191)], .agg [.lit (.int .u8 160), .lit (.int .u8 191)], .agg [.lit (.int .u8 128), .lit (.int .u8 159)], .agg [.lit (.int .u8 144), .lit (.int .u8 191)], .agg [.lit (.int .u8 128), .lit (.int .u8 143)], .agg [.lit (.int .u8 0), .lit (.int .u8 0)], .agg [.lit (.int .u8 0), .lit (.int .u8 0)], .agg [.lit (.int .u8 0), .lit (.int .u8 0)], .agg [.lit (.int .u8 0), .lit (.int .u8 0)], .agg [.lit (.int .u8 0), .lit (.int .u8 0)], .agg [.lit (.int .u8 0), .lit (.int .u8 0)], .agg [.lit (.int .u8 0), .lit (.int .u8 0)], .agg [.lit (.int .u8 0), .lit (.int .u8 0)], .agg [.lit (.int .u8 0), .lit (.int .u8 0)], .agg [.lit (.int .u8 0), .lit (.int .u8 0)], .agg [.lit (.int .u8 0), .lit (.int .u8 0)]]
/-- One of Go's own tables, pinned by name: the form's constant. -/
def laid_unicode_utf8_first : DataW Unit := Go.Pinned.utf8First

/-- 'foliotlaw04.CronReads': WHATEVER THE INPUT: true; the input reads as it did. -/
def cronReadsSpec : ChangeSpec := { name := "cronReads", fn := fun _ => fun
  | [d1, d2] => { results := [.lit (.bool true)], args := [d1, d2] }
  | _ => none }
def cronReadsRow : OpenClaim := { program := "ytmgpkadgalgnnaadoor", sum := "988e756d1e1b32f8a05f589aa99cadf4e30323f3618736715334a39be84840fa", func := "foliot/foliotlaw04.CronReads", spec := "cronReads", inPlace := ["internal/bytealg.CountString", "internal/bytealg.IndexByteString", "internal/bytealg.IndexString"], named := ["unicode/utf8.first", "unicode/utf8.acceptRanges", "internal/bytealg.MaxLen"], apart := false, laid := [("unicode/utf8.acceptRanges", laid_unicode_utf8_acceptRanges), ("unicode/utf8.first", laid_unicode_utf8_first)] }
def CronReadsSaid : Prop := cronReadsRow.holds Tryd.pinned (OpenSpec.ofChange cronReadsSpec)

/-- ITS FALSE NEIGHBOUR: 'it returns false'. Refute it at one input. -/
def cronReadsWrong : ChangeSpec := { name := "cronReads", fn := fun _ => fun
  | [d1, d2] => { results := [.lit (.bool false)], args := [d1, d2] }
  | _ => none }
def CronReadsWrongFalsely : Prop := cronReadsRow.holds Tryd.pinned (OpenSpec.ofChange cronReadsWrong)

/-- 'foliotlaw04.CronDates': WHATEVER THE INPUT: true; the input reads as it did. -/
def cronDatesSpec : ChangeSpec := { name := "cronDates", fn := fun _ => fun
  | [d] => { results := [.lit (.bool true)], args := [d] }
  | _ => none }
def cronDatesRow : OpenClaim := { program := "ytmgpkadgalgnnaadoor", sum := "988e756d1e1b32f8a05f589aa99cadf4e30323f3618736715334a39be84840fa", func := "foliot/foliotlaw04.CronDates", spec := "cronDates", inPlace := ["internal/bytealg.CountString", "internal/bytealg.IndexByteString", "internal/bytealg.IndexString"], named := ["unicode/utf8.first", "unicode/utf8.acceptRanges", "internal/bytealg.MaxLen"], apart := false, laid := [("unicode/utf8.acceptRanges", laid_unicode_utf8_acceptRanges), ("unicode/utf8.first", laid_unicode_utf8_first)] }
def CronDatesSaid : Prop := cronDatesRow.holds Tryd.pinned (OpenSpec.ofChange cronDatesSpec)

/-- ITS FALSE NEIGHBOUR: 'it returns false'. Refute it at one input. -/
def cronDatesWrong : ChangeSpec := { name := "cronDates", fn := fun _ => fun
  | [d] => { results := [.lit (.bool false)], args := [d] }
  | _ => none }
def CronDatesWrongFalsely : Prop := cronDatesRow.holds Tryd.pinned (OpenSpec.ofChange cronDatesWrong)

/-- 'foliotlaw04.CronNext': WHATEVER THE INPUT: true; the input reads as it did. -/
def cronNextSpec : ChangeSpec := { name := "cronNext", fn := fun _ => fun
  | [d1, d2] => { results := [.lit (.bool true)], args := [d1, d2] }
  | _ => none }
def cronNextRow : OpenClaim := { program := "ytmgpkadgalgnnaadoor", sum := "988e756d1e1b32f8a05f589aa99cadf4e30323f3618736715334a39be84840fa", func := "foliot/foliotlaw04.CronNext", spec := "cronNext", inPlace := ["internal/bytealg.CountString", "internal/bytealg.IndexByteString", "internal/bytealg.IndexString"], named := ["unicode/utf8.first", "unicode/utf8.acceptRanges", "internal/bytealg.MaxLen"], apart := false, laid := [("unicode/utf8.acceptRanges", laid_unicode_utf8_acceptRanges), ("unicode/utf8.first", laid_unicode_utf8_first)] }
def CronNextSaid : Prop := cronNextRow.holds Tryd.pinned (OpenSpec.ofChange cronNextSpec)

/-- ITS FALSE NEIGHBOUR: 'it returns false'. Refute it at one input. -/
def cronNextWrong : ChangeSpec := { name := "cronNext", fn := fun _ => fun
  | [d1, d2] => { results := [.lit (.bool false)], args := [d1, d2] }
  | _ => none }
def CronNextWrongFalsely : Prop := cronNextRow.holds Tryd.pinned (OpenSpec.ofChange cronNextWrong)

/-- 'foliotlaw04.CronFirst': WHATEVER THE INPUT: true; the input reads as it did. -/
def cronFirstSpec : ChangeSpec := { name := "cronFirst", fn := fun _ => fun
  | [d1, d2, d3] => { results := [.lit (.bool true)], args := [d1, d2, d3] }
  | _ => none }
def cronFirstRow : OpenClaim := { program := "ytmgpkadgalgnnaadoor", sum := "988e756d1e1b32f8a05f589aa99cadf4e30323f3618736715334a39be84840fa", func := "foliot/foliotlaw04.CronFirst", spec := "cronFirst", inPlace := ["internal/bytealg.CountString", "internal/bytealg.IndexByteString", "internal/bytealg.IndexString"], named := ["unicode/utf8.first", "unicode/utf8.acceptRanges", "internal/bytealg.MaxLen"], apart := false, laid := [("unicode/utf8.acceptRanges", laid_unicode_utf8_acceptRanges), ("unicode/utf8.first", laid_unicode_utf8_first)] }
def CronFirstSaid : Prop := cronFirstRow.holds Tryd.pinned (OpenSpec.ofChange cronFirstSpec)

/-- ITS FALSE NEIGHBOUR: 'it returns false'. Refute it at one input. -/
def cronFirstWrong : ChangeSpec := { name := "cronFirst", fn := fun _ => fun
  | [d1, d2, d3] => { results := [.lit (.bool false)], args := [d1, d2, d3] }
  | _ => none }
def CronFirstWrongFalsely : Prop := cronFirstRow.holds Tryd.pinned (OpenSpec.ofChange cronFirstWrong)

/-- 'foliotlaw04.CronDays': WHATEVER THE INPUT: true; the input reads as it did. -/
def cronDaysSpec : ChangeSpec := { name := "cronDays", fn := fun _ => fun
  | [d] => { results := [.lit (.bool true)], args := [d] }
  | _ => none }
def cronDaysRow : OpenClaim := { program := "ytmgpkadgalgnnaadoor", sum := "988e756d1e1b32f8a05f589aa99cadf4e30323f3618736715334a39be84840fa", func := "foliot/foliotlaw04.CronDays", spec := "cronDays", inPlace := ["internal/bytealg.CountString", "internal/bytealg.IndexByteString", "internal/bytealg.IndexString"], named := ["unicode/utf8.first", "unicode/utf8.acceptRanges", "internal/bytealg.MaxLen"], apart := false, laid := [("unicode/utf8.acceptRanges", laid_unicode_utf8_acceptRanges), ("unicode/utf8.first", laid_unicode_utf8_first)] }
def CronDaysSaid : Prop := cronDaysRow.holds Tryd.pinned (OpenSpec.ofChange cronDaysSpec)

/-- ITS FALSE NEIGHBOUR: 'it returns false'. Refute it at one input. -/
def cronDaysWrong : ChangeSpec := { name := "cronDays", fn := fun _ => fun
  | [d] => { results := [.lit (.bool false)], args := [d] }
  | _ => none }
def CronDaysWrongFalsely : Prop := cronDaysRow.holds Tryd.pinned (OpenSpec.ofChange cronDaysWrong)

/-- 'foliotlaw04.CronStars': WHATEVER THE INPUT: true; the input reads as it did. -/
def cronStarsSpec : ChangeSpec := { name := "cronStars", fn := fun _ => fun
  | [d1, d2] => { results := [.lit (.bool true)], args := [d1, d2] }
  | _ => none }
def cronStarsRow : OpenClaim := { program := "ytmgpkadgalgnnaadoor", sum := "988e756d1e1b32f8a05f589aa99cadf4e30323f3618736715334a39be84840fa", func := "foliot/foliotlaw04.CronStars", spec := "cronStars", inPlace := ["internal/bytealg.CountString", "internal/bytealg.IndexByteString", "internal/bytealg.IndexString"], named := ["unicode/utf8.first", "unicode/utf8.acceptRanges", "internal/bytealg.MaxLen"], apart := false, laid := [("unicode/utf8.acceptRanges", laid_unicode_utf8_acceptRanges), ("unicode/utf8.first", laid_unicode_utf8_first)] }
def CronStarsSaid : Prop := cronStarsRow.holds Tryd.pinned (OpenSpec.ofChange cronStarsSpec)

/-- ITS FALSE NEIGHBOUR: 'it returns false'. Refute it at one input. -/
def cronStarsWrong : ChangeSpec := { name := "cronStars", fn := fun _ => fun
  | [d1, d2] => { results := [.lit (.bool false)], args := [d1, d2] }
  | _ => none }
def CronStarsWrongFalsely : Prop := cronStarsRow.holds Tryd.pinned (OpenSpec.ofChange cronStarsWrong)

/-- 'foliotlaw04.CronParts': WHATEVER THE INPUT: true; the input reads as it did. -/
def cronPartsSpec : ChangeSpec := { name := "cronParts", fn := fun _ => fun
  | [d1, d2, d3] => { results := [.lit (.bool true)], args := [d1, d2, d3] }
  | _ => none }
def cronPartsRow : OpenClaim := { program := "ytmgpkadgalgnnaadoor", sum := "988e756d1e1b32f8a05f589aa99cadf4e30323f3618736715334a39be84840fa", func := "foliot/foliotlaw04.CronParts", spec := "cronParts", inPlace := ["internal/bytealg.CountString", "internal/bytealg.IndexByteString", "internal/bytealg.IndexString"], named := ["unicode/utf8.first", "unicode/utf8.acceptRanges", "internal/bytealg.MaxLen"], apart := false, laid := [("unicode/utf8.acceptRanges", laid_unicode_utf8_acceptRanges), ("unicode/utf8.first", laid_unicode_utf8_first)] }
def CronPartsSaid : Prop := cronPartsRow.holds Tryd.pinned (OpenSpec.ofChange cronPartsSpec)

/-- ITS FALSE NEIGHBOUR: 'it returns false'. Refute it at one input. -/
def cronPartsWrong : ChangeSpec := { name := "cronParts", fn := fun _ => fun
  | [d1, d2, d3] => { results := [.lit (.bool false)], args := [d1, d2, d3] }
  | _ => none }
def CronPartsWrongFalsely : Prop := cronPartsRow.holds Tryd.pinned (OpenSpec.ofChange cronPartsWrong)

/- THE SECOND FORM. 'bulk': how many values and letters a reading holds, each counted each time it is reached (what is shared counts as often as it is met; a slice's spare places count too). A statement '..UptoSaid' is the law's where the arguments, and the package variables that the reading takes, are together of bulk at most 1048576: NARROWER than '..Said'. Prove '..Said' where nothing that the law and all that it calls make is longer than what came in: it says more and counts as full. Else prove '..UptoSaid'. A law counts once. -/
mutual
def uptoBulk {H : Type} : DataW H → Nat
  | .lit (.string bytes) => bytes.length + 1
  | .lit _ => 1
  | .nil => 1
  | .ptr d => uptoBulk d + 1
  | .slice elems spare => uptoBulkAll elems + uptoBulkAll spare + 1
  | .agg parts => uptoBulkAll parts + 1
  | .iface _ d => uptoBulk d + 1
  | .map entries => uptoBulkEntries entries + 1
  | .held _ => 1
def uptoBulkAll {H : Type} : List (DataW H) → Nat
  | [] => 0
  | d :: r => uptoBulk d + uptoBulkAll r
def uptoBulkEntries {H : Type} : List (Lit × DataW H) → Nat
  | [] => 0
  | x :: r => uptoBulkEntry x + uptoBulkEntries r
def uptoBulkEntry {H : Type} : Lit × DataW H → Nat
  | (.string bytes, d) => bytes.length + uptoBulk d + 1
  | (_, d) => uptoBulk d + 1
 end
def uptoSmall : (H : Type) → List (DataW H) → Bool := fun _ ds => decide (uptoBulkAll ds ≤ 1048576)
def OpenSpec.upto (s : _root_.Go.ChangeSpec) : _root_.Go.OpenSpec := { _root_.Go.OpenSpec.ofChange s with cond := some uptoSmall }

/-- 'foliotlaw04.CronReads', WHERE WHAT IT READS IS OF BULK AT MOST 1048576: true; the input reads as it did. -/
def cronReadsUptoRow : OpenClaim := { program := "ytmgpkadgalgnnaadoor", sum := "988e756d1e1b32f8a05f589aa99cadf4e30323f3618736715334a39be84840fa", func := "foliot/foliotlaw04.CronReads", spec := "cronReads", inPlace := ["internal/bytealg.CountString", "internal/bytealg.IndexByteString", "internal/bytealg.IndexString"], named := ["unicode/utf8.first", "unicode/utf8.acceptRanges", "internal/bytealg.MaxLen"], apart := false, laid := [("unicode/utf8.acceptRanges", laid_unicode_utf8_acceptRanges), ("unicode/utf8.first", laid_unicode_utf8_first)], narrowed := true }
def CronReadsUptoSaid : Prop := cronReadsUptoRow.holds Tryd.pinned (OpenSpec.upto cronReadsSpec)

/-- 'foliotlaw04.CronDates', WHERE WHAT IT READS IS OF BULK AT MOST 1048576: true; the input reads as it did. -/
def cronDatesUptoRow : OpenClaim := { program := "ytmgpkadgalgnnaadoor", sum := "988e756d1e1b32f8a05f589aa99cadf4e30323f3618736715334a39be84840fa", func := "foliot/foliotlaw04.CronDates", spec := "cronDates", inPlace := ["internal/bytealg.CountString", "internal/bytealg.IndexByteString", "internal/bytealg.IndexString"], named := ["unicode/utf8.first", "unicode/utf8.acceptRanges", "internal/bytealg.MaxLen"], apart := false, laid := [("unicode/utf8.acceptRanges", laid_unicode_utf8_acceptRanges), ("unicode/utf8.first", laid_unicode_utf8_first)], narrowed := true }
def CronDatesUptoSaid : Prop := cronDatesUptoRow.holds Tryd.pinned (OpenSpec.upto cronDatesSpec)

/-- 'foliotlaw04.CronNext', WHERE WHAT IT READS IS OF BULK AT MOST 1048576: true; the input reads as it did. -/
def cronNextUptoRow : OpenClaim := { program := "ytmgpkadgalgnnaadoor", sum := "988e756d1e1b32f8a05f589aa99cadf4e30323f3618736715334a39be84840fa", func := "foliot/foliotlaw04.CronNext", spec := "cronNext", inPlace := ["internal/bytealg.CountString", "internal/bytealg.IndexByteString", "internal/bytealg.IndexString"], named := ["unicode/utf8.first", "unicode/utf8.acceptRanges", "internal/bytealg.MaxLen"], apart := false, laid := [("unicode/utf8.acceptRanges", laid_unicode_utf8_acceptRanges), ("unicode/utf8.first", laid_unicode_utf8_first)], narrowed := true }
def CronNextUptoSaid : Prop := cronNextUptoRow.holds Tryd.pinned (OpenSpec.upto cronNextSpec)

/-- 'foliotlaw04.CronFirst', WHERE WHAT IT READS IS OF BULK AT MOST 1048576: true; the input reads as it did. -/
def cronFirstUptoRow : OpenClaim := { program := "ytmgpkadgalgnnaadoor", sum := "988e756d1e1b32f8a05f589aa99cadf4e30323f3618736715334a39be84840fa", func := "foliot/foliotlaw04.CronFirst", spec := "cronFirst", inPlace := ["internal/bytealg.CountString", "internal/bytealg.IndexByteString", "internal/bytealg.IndexString"], named := ["unicode/utf8.first", "unicode/utf8.acceptRanges", "internal/bytealg.MaxLen"], apart := false, laid := [("unicode/utf8.acceptRanges", laid_unicode_utf8_acceptRanges), ("unicode/utf8.first", laid_unicode_utf8_first)], narrowed := true }
def CronFirstUptoSaid : Prop := cronFirstUptoRow.holds Tryd.pinned (OpenSpec.upto cronFirstSpec)

/-- 'foliotlaw04.CronDays', WHERE WHAT IT READS IS OF BULK AT MOST 1048576: true; the input reads as it did. -/
def cronDaysUptoRow : OpenClaim := { program := "ytmgpkadgalgnnaadoor", sum := "988e756d1e1b32f8a05f589aa99cadf4e30323f3618736715334a39be84840fa", func := "foliot/foliotlaw04.CronDays", spec := "cronDays", inPlace := ["internal/bytealg.CountString", "internal/bytealg.IndexByteString", "internal/bytealg.IndexString"], named := ["unicode/utf8.first", "unicode/utf8.acceptRanges", "internal/bytealg.MaxLen"], apart := false, laid := [("unicode/utf8.acceptRanges", laid_unicode_utf8_acceptRanges), ("unicode/utf8.first", laid_unicode_utf8_first)], narrowed := true }
def CronDaysUptoSaid : Prop := cronDaysUptoRow.holds Tryd.pinned (OpenSpec.upto cronDaysSpec)

/-- 'foliotlaw04.CronStars', WHERE WHAT IT READS IS OF BULK AT MOST 1048576: true; the input reads as it did. -/
def cronStarsUptoRow : OpenClaim := { program := "ytmgpkadgalgnnaadoor", sum := "988e756d1e1b32f8a05f589aa99cadf4e30323f3618736715334a39be84840fa", func := "foliot/foliotlaw04.CronStars", spec := "cronStars", inPlace := ["internal/bytealg.CountString", "internal/bytealg.IndexByteString", "internal/bytealg.IndexString"], named := ["unicode/utf8.first", "unicode/utf8.acceptRanges", "internal/bytealg.MaxLen"], apart := false, laid := [("unicode/utf8.acceptRanges", laid_unicode_utf8_acceptRanges), ("unicode/utf8.first", laid_unicode_utf8_first)], narrowed := true }
def CronStarsUptoSaid : Prop := cronStarsUptoRow.holds Tryd.pinned (OpenSpec.upto cronStarsSpec)

/-- 'foliotlaw04.CronParts', WHERE WHAT IT READS IS OF BULK AT MOST 1048576: true; the input reads as it did. -/
def cronPartsUptoRow : OpenClaim := { program := "ytmgpkadgalgnnaadoor", sum := "988e756d1e1b32f8a05f589aa99cadf4e30323f3618736715334a39be84840fa", func := "foliot/foliotlaw04.CronParts", spec := "cronParts", inPlace := ["internal/bytealg.CountString", "internal/bytealg.IndexByteString", "internal/bytealg.IndexString"], named := ["unicode/utf8.first", "unicode/utf8.acceptRanges", "internal/bytealg.MaxLen"], apart := false, laid := [("unicode/utf8.acceptRanges", laid_unicode_utf8_acceptRanges), ("unicode/utf8.first", laid_unicode_utf8_first)], narrowed := true }
def CronPartsUptoSaid : Prop := cronPartsUptoRow.holds Tryd.pinned (OpenSpec.upto cronPartsSpec)

end Rows
end Go.Proofs.YtmgpkadgalgnnaaDoor
