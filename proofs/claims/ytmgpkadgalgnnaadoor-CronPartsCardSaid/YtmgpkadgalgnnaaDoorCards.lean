/-
  DERIVED. GIVEN WITH THE SEED: THE CARDS: each row of YtmgpkadgalgnnaaDoorRows.lean that lists a variable, with what it lists TIED to the program's text (the seventh form; the later family's looks); each row that meets fmt, with fmt's text TOLD by the authors' own Lean function (tested against real Go, not proved from fmt's source: count such statements apart). THE CARD IS WHAT COUNTS. Prove the row's statement (the work); the ties are given (YtmgpkadgalgnnaaDoorTie.lean); close each card by the builder's one call (the guide's Derived/Test/ToyasCard.lean, 'card_holds'). Laid BY PROGRAM, IN A SANDBOX (cutbox-door.mjs). By AI agents, Wed Nov 11 2026. No macro, syntax, notation, axiom, sorry.
-/
import Derived.Test.YtmgpkadgalgnnaaDoorRows
import GoSem.ClaimSeven
namespace Go.Proofs.YtmgpkadgalgnnaaDoor
namespace Rows

/-- THE TIED CARD OF 'foliotlaw04.CronReads'. -/
def cronReadsCard : Claim7 := { stood := { row := cronReadsRow, standIns := [], harness := (true, "7f5508f0a803cb5ddc40703a6f884fd3094318ffb8d95f49eb035677e9e70bcb"), looks := false }, kinds := [], alts := [], laidByText := true, laidKinds := [.data, .pinned], laidTests := true, laidLooks := .later }
def CronReadsCardSaid : Prop := Claim7.holds Tryd.pinned (.plain (OpenSpec.ofChange cronReadsSpec)) cronReadsCard

/-- THE TIED CARD OF 'foliotlaw04.CronDates'. -/
def cronDatesCard : Claim7 := { stood := { row := cronDatesRow, standIns := [], harness := (true, "7f5508f0a803cb5ddc40703a6f884fd3094318ffb8d95f49eb035677e9e70bcb"), looks := false }, kinds := [], alts := [], laidByText := true, laidKinds := [.data, .pinned], laidTests := true, laidLooks := .later }
def CronDatesCardSaid : Prop := Claim7.holds Tryd.pinned (.plain (OpenSpec.ofChange cronDatesSpec)) cronDatesCard

/-- THE TIED CARD OF 'foliotlaw04.CronNext'. -/
def cronNextCard : Claim7 := { stood := { row := cronNextRow, standIns := [], harness := (true, "7f5508f0a803cb5ddc40703a6f884fd3094318ffb8d95f49eb035677e9e70bcb"), looks := false }, kinds := [], alts := [], laidByText := true, laidKinds := [.data, .pinned], laidTests := true, laidLooks := .later }
def CronNextCardSaid : Prop := Claim7.holds Tryd.pinned (.plain (OpenSpec.ofChange cronNextSpec)) cronNextCard

/-- THE TIED CARD OF 'foliotlaw04.CronFirst'. -/
def cronFirstCard : Claim7 := { stood := { row := cronFirstRow, standIns := [], harness := (true, "7f5508f0a803cb5ddc40703a6f884fd3094318ffb8d95f49eb035677e9e70bcb"), looks := false }, kinds := [], alts := [], laidByText := true, laidKinds := [.data, .pinned], laidTests := true, laidLooks := .later }
def CronFirstCardSaid : Prop := Claim7.holds Tryd.pinned (.plain (OpenSpec.ofChange cronFirstSpec)) cronFirstCard

/-- THE TIED CARD OF 'foliotlaw04.CronDays'. -/
def cronDaysCard : Claim7 := { stood := { row := cronDaysRow, standIns := [], harness := (true, "7f5508f0a803cb5ddc40703a6f884fd3094318ffb8d95f49eb035677e9e70bcb"), looks := false }, kinds := [], alts := [], laidByText := true, laidKinds := [.data, .pinned], laidTests := true, laidLooks := .later }
def CronDaysCardSaid : Prop := Claim7.holds Tryd.pinned (.plain (OpenSpec.ofChange cronDaysSpec)) cronDaysCard

/-- THE TIED CARD OF 'foliotlaw04.CronStars'. -/
def cronStarsCard : Claim7 := { stood := { row := cronStarsRow, standIns := [], harness := (true, "7f5508f0a803cb5ddc40703a6f884fd3094318ffb8d95f49eb035677e9e70bcb"), looks := false }, kinds := [], alts := [], laidByText := true, laidKinds := [.data, .pinned], laidTests := true, laidLooks := .later }
def CronStarsCardSaid : Prop := Claim7.holds Tryd.pinned (.plain (OpenSpec.ofChange cronStarsSpec)) cronStarsCard

/-- THE TIED CARD OF 'foliotlaw04.CronParts'. -/
def cronPartsCard : Claim7 := { stood := { row := cronPartsRow, standIns := [], harness := (true, "7f5508f0a803cb5ddc40703a6f884fd3094318ffb8d95f49eb035677e9e70bcb"), looks := false }, kinds := [], alts := [], laidByText := true, laidKinds := [.data, .pinned], laidTests := true, laidLooks := .later }
def CronPartsCardSaid : Prop := Claim7.holds Tryd.pinned (.plain (OpenSpec.ofChange cronPartsSpec)) cronPartsCard

/-- THE SECOND FORM's CARD OF 'foliotlaw04.CronReads'. -/
def cronReadsUptoCard : Claim7 := { stood := { row := cronReadsUptoRow, standIns := [], harness := (true, "7f5508f0a803cb5ddc40703a6f884fd3094318ffb8d95f49eb035677e9e70bcb"), looks := false }, kinds := [], alts := [], laidByText := true, laidKinds := [.data, .pinned], laidTests := true, laidLooks := .later }
def CronReadsUptoCardSaid : Prop := Claim7.holds Tryd.pinned (.plain (OpenSpec.upto cronReadsSpec)) cronReadsUptoCard

/-- THE SECOND FORM's CARD OF 'foliotlaw04.CronDates'. -/
def cronDatesUptoCard : Claim7 := { stood := { row := cronDatesUptoRow, standIns := [], harness := (true, "7f5508f0a803cb5ddc40703a6f884fd3094318ffb8d95f49eb035677e9e70bcb"), looks := false }, kinds := [], alts := [], laidByText := true, laidKinds := [.data, .pinned], laidTests := true, laidLooks := .later }
def CronDatesUptoCardSaid : Prop := Claim7.holds Tryd.pinned (.plain (OpenSpec.upto cronDatesSpec)) cronDatesUptoCard

/-- THE SECOND FORM's CARD OF 'foliotlaw04.CronNext'. -/
def cronNextUptoCard : Claim7 := { stood := { row := cronNextUptoRow, standIns := [], harness := (true, "7f5508f0a803cb5ddc40703a6f884fd3094318ffb8d95f49eb035677e9e70bcb"), looks := false }, kinds := [], alts := [], laidByText := true, laidKinds := [.data, .pinned], laidTests := true, laidLooks := .later }
def CronNextUptoCardSaid : Prop := Claim7.holds Tryd.pinned (.plain (OpenSpec.upto cronNextSpec)) cronNextUptoCard

/-- THE SECOND FORM's CARD OF 'foliotlaw04.CronFirst'. -/
def cronFirstUptoCard : Claim7 := { stood := { row := cronFirstUptoRow, standIns := [], harness := (true, "7f5508f0a803cb5ddc40703a6f884fd3094318ffb8d95f49eb035677e9e70bcb"), looks := false }, kinds := [], alts := [], laidByText := true, laidKinds := [.data, .pinned], laidTests := true, laidLooks := .later }
def CronFirstUptoCardSaid : Prop := Claim7.holds Tryd.pinned (.plain (OpenSpec.upto cronFirstSpec)) cronFirstUptoCard

/-- THE SECOND FORM's CARD OF 'foliotlaw04.CronDays'. -/
def cronDaysUptoCard : Claim7 := { stood := { row := cronDaysUptoRow, standIns := [], harness := (true, "7f5508f0a803cb5ddc40703a6f884fd3094318ffb8d95f49eb035677e9e70bcb"), looks := false }, kinds := [], alts := [], laidByText := true, laidKinds := [.data, .pinned], laidTests := true, laidLooks := .later }
def CronDaysUptoCardSaid : Prop := Claim7.holds Tryd.pinned (.plain (OpenSpec.upto cronDaysSpec)) cronDaysUptoCard

/-- THE SECOND FORM's CARD OF 'foliotlaw04.CronStars'. -/
def cronStarsUptoCard : Claim7 := { stood := { row := cronStarsUptoRow, standIns := [], harness := (true, "7f5508f0a803cb5ddc40703a6f884fd3094318ffb8d95f49eb035677e9e70bcb"), looks := false }, kinds := [], alts := [], laidByText := true, laidKinds := [.data, .pinned], laidTests := true, laidLooks := .later }
def CronStarsUptoCardSaid : Prop := Claim7.holds Tryd.pinned (.plain (OpenSpec.upto cronStarsSpec)) cronStarsUptoCard

/-- THE SECOND FORM's CARD OF 'foliotlaw04.CronParts'. -/
def cronPartsUptoCard : Claim7 := { stood := { row := cronPartsUptoRow, standIns := [], harness := (true, "7f5508f0a803cb5ddc40703a6f884fd3094318ffb8d95f49eb035677e9e70bcb"), looks := false }, kinds := [], alts := [], laidByText := true, laidKinds := [.data, .pinned], laidTests := true, laidLooks := .later }
def CronPartsUptoCardSaid : Prop := Claim7.holds Tryd.pinned (.plain (OpenSpec.upto cronPartsSpec)) cronPartsUptoCard
end Rows
end Go.Proofs.YtmgpkadgalgnnaaDoor
