/-
  DERIVED. GIVEN WITH THE SEED: THE CARDS: each row of YtahgapkecabnjaaGreatDoorRows.lean that lists a variable, with what it lists TIED to the program's text (the seventh form; the later family's looks); each row that meets fmt, with fmt's text TOLD by the authors' own Lean function (tested against real Go, not proved from fmt's source: count such statements apart). THE CARD IS WHAT COUNTS. Prove the row's statement (the work); the ties are given (YtahgapkecabnjaaGreatDoorTie.lean); close each card by the builder's one call (the guide's Derived/Test/ToyasCard.lean, 'card_holds'). Laid BY PROGRAM, IN A SANDBOX (cutbox-door.mjs). By AI agents, Wed Nov 11 2026. No macro, syntax, notation, axiom, sorry.
-/
import Derived.Test.YtahgapkecabnjaaGreatDoorRows
import GoSem.ClaimSeven
namespace Go.Proofs.YtahgapkecabnjaaGreatDoor
namespace Rows

/-- THE TIED CARD OF 'mantletlaw18.AutoPlays'. -/
def autoPlaysCard : Claim7 := { stood := { row := autoPlaysRow, standIns := [], harness := (true, "8aed9d6011114ba434f15bf99e7777e075ea11799c6c94c191780a288e228ab4"), looks := false }, kinds := [], alts := [], laidByText := true, laidKinds := [.data, .data, .data], laidTests := true, laidLooks := .later }
def AutoPlaysCardSaid : Prop := Claim7.holds Tryz.pinned (.plain (OpenSpec.ofChange autoPlaysSpec)) autoPlaysCard

/-- THE TIED CARD OF 'mantletlaw18.AutoCounts'. -/
def autoCountsCard : Claim7 := { stood := { row := autoCountsRow, standIns := [], harness := (true, "8aed9d6011114ba434f15bf99e7777e075ea11799c6c94c191780a288e228ab4"), looks := false }, kinds := [], alts := [], laidByText := true, laidKinds := [.data, .data, .data], laidTests := true, laidLooks := .later }
def AutoCountsCardSaid : Prop := Claim7.holds Tryz.pinned (.plain (OpenSpec.ofChange autoCountsSpec)) autoCountsCard

/-- THE TIED CARD OF 'mantletlaw18.AutoStays'. -/
def autoStaysCard : Claim7 := { stood := { row := autoStaysRow, standIns := [], harness := (true, "8aed9d6011114ba434f15bf99e7777e075ea11799c6c94c191780a288e228ab4"), looks := false }, kinds := [], alts := [], laidByText := true, laidKinds := [.data, .data, .data], laidTests := true, laidLooks := .later }
def AutoStaysCardSaid : Prop := Claim7.holds Tryz.pinned (.plain (OpenSpec.ofChange autoStaysSpec)) autoStaysCard

/-- THE TIED CARD OF 'mantletlaw18.AutoOnce'. -/
def autoOnceCard : Claim7 := { stood := { row := autoOnceRow, standIns := [], harness := (true, "8aed9d6011114ba434f15bf99e7777e075ea11799c6c94c191780a288e228ab4"), looks := false }, kinds := [], alts := [], laidByText := true, laidKinds := [.data, .data, .data], laidTests := true, laidLooks := .later }
def AutoOnceCardSaid : Prop := Claim7.holds Tryz.pinned (.plain (OpenSpec.ofChange autoOnceSpec)) autoOnceCard

/-- THE TIED CARD OF 'mantletlaw18.AutoNone'. -/
def autoNoneCard : Claim7 := { stood := { row := autoNoneRow, standIns := [], harness := (true, "8aed9d6011114ba434f15bf99e7777e075ea11799c6c94c191780a288e228ab4"), looks := false }, kinds := [], alts := [], laidByText := true, laidKinds := [.data, .data, .data], laidTests := true, laidLooks := .later }
def AutoNoneCardSaid : Prop := Claim7.holds Tryz.pinned (.plain (OpenSpec.ofChange autoNoneSpec)) autoNoneCard

/-- THE SECOND FORM's CARD OF 'mantletlaw18.AutoPlays'. -/
def autoPlaysUptoCard : Claim7 := { stood := { row := autoPlaysUptoRow, standIns := [], harness := (true, "8aed9d6011114ba434f15bf99e7777e075ea11799c6c94c191780a288e228ab4"), looks := false }, kinds := [], alts := [], laidByText := true, laidKinds := [.data, .data, .data], laidTests := true, laidLooks := .later }
def AutoPlaysUptoCardSaid : Prop := Claim7.holds Tryz.pinned (.plain (OpenSpec.upto autoPlaysSpec)) autoPlaysUptoCard

/-- THE SECOND FORM's CARD OF 'mantletlaw18.AutoCounts'. -/
def autoCountsUptoCard : Claim7 := { stood := { row := autoCountsUptoRow, standIns := [], harness := (true, "8aed9d6011114ba434f15bf99e7777e075ea11799c6c94c191780a288e228ab4"), looks := false }, kinds := [], alts := [], laidByText := true, laidKinds := [.data, .data, .data], laidTests := true, laidLooks := .later }
def AutoCountsUptoCardSaid : Prop := Claim7.holds Tryz.pinned (.plain (OpenSpec.upto autoCountsSpec)) autoCountsUptoCard

/-- THE SECOND FORM's CARD OF 'mantletlaw18.AutoStays'. -/
def autoStaysUptoCard : Claim7 := { stood := { row := autoStaysUptoRow, standIns := [], harness := (true, "8aed9d6011114ba434f15bf99e7777e075ea11799c6c94c191780a288e228ab4"), looks := false }, kinds := [], alts := [], laidByText := true, laidKinds := [.data, .data, .data], laidTests := true, laidLooks := .later }
def AutoStaysUptoCardSaid : Prop := Claim7.holds Tryz.pinned (.plain (OpenSpec.upto autoStaysSpec)) autoStaysUptoCard

/-- THE SECOND FORM's CARD OF 'mantletlaw18.AutoOnce'. -/
def autoOnceUptoCard : Claim7 := { stood := { row := autoOnceUptoRow, standIns := [], harness := (true, "8aed9d6011114ba434f15bf99e7777e075ea11799c6c94c191780a288e228ab4"), looks := false }, kinds := [], alts := [], laidByText := true, laidKinds := [.data, .data, .data], laidTests := true, laidLooks := .later }
def AutoOnceUptoCardSaid : Prop := Claim7.holds Tryz.pinned (.plain (OpenSpec.upto autoOnceSpec)) autoOnceUptoCard

/-- THE SECOND FORM's CARD OF 'mantletlaw18.AutoNone'. -/
def autoNoneUptoCard : Claim7 := { stood := { row := autoNoneUptoRow, standIns := [], harness := (true, "8aed9d6011114ba434f15bf99e7777e075ea11799c6c94c191780a288e228ab4"), looks := false }, kinds := [], alts := [], laidByText := true, laidKinds := [.data, .data, .data], laidTests := true, laidLooks := .later }
def AutoNoneUptoCardSaid : Prop := Claim7.holds Tryz.pinned (.plain (OpenSpec.upto autoNoneSpec)) autoNoneUptoCard
end Rows
end Go.Proofs.YtahgapkecabnjaaGreatDoor
