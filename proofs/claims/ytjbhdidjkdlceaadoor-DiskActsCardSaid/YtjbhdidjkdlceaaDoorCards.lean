/-
  DERIVED. GIVEN WITH THE SEED: THE CARDS: each row of YtjbhdidjkdlceaaDoorRows.lean that lists a variable, with what it lists TIED to the program's text (the seventh form; the later family's looks); each row that meets fmt, with fmt's text TOLD by the authors' own Lean function (tested against real Go, not proved from fmt's source: count such statements apart). THE CARD IS WHAT COUNTS. Prove the row's statement (the work); the ties are given (YtjbhdidjkdlceaaDoorTie.lean); close each card by the builder's one call (the guide's Derived/Test/ToyasCard.lean, 'card_holds'). Laid BY PROGRAM, IN A SANDBOX (cutbox-door.mjs). By AI agents, Wed Nov 11 2026. No macro, syntax, notation, axiom, sorry.
-/
import Derived.Test.YtjbhdidjkdlceaaDoorRows
import GoSem.ClaimSeven
namespace Go.Proofs.YtjbhdidjkdlceaaDoor
namespace Rows

/-- THE TIED CARD OF 'lamplighterlaw02.DiskActs'. -/
def diskActsCard : Claim7 := { stood := { row := diskActsRow, standIns := [], harness := (true, "c0ad2a1e7e722c3d75394ac41eaacf29258a10f6816279b70d9a6ff4150fef5a"), looks := true }, kinds := [], alts := [], laidByText := true, laidKinds := [.data, .pinned], laidTests := true, laidLooks := .later }
def DiskActsCardSaid : Prop := Claim7.holds Tryd.pinned (.plain (OpenSpec.ofChange diskActsSpec)) diskActsCard

/-- THE TIED CARD OF 'lamplighterlaw02.DiskNone'. -/
def diskNoneCard : Claim7 := { stood := { row := diskNoneRow, standIns := [], harness := (true, "c0ad2a1e7e722c3d75394ac41eaacf29258a10f6816279b70d9a6ff4150fef5a"), looks := true }, kinds := [], alts := [], laidByText := true, laidKinds := [.data, .pinned], laidTests := true, laidLooks := .later }
def DiskNoneCardSaid : Prop := Claim7.holds Tryd.pinned (.plain (OpenSpec.ofChange diskNoneSpec)) diskNoneCard

/-- THE TIED CARD OF 'lamplighterlaw02.DiskOwn'. -/
def diskOwnCard : Claim7 := { stood := { row := diskOwnRow, standIns := [], harness := (true, "c0ad2a1e7e722c3d75394ac41eaacf29258a10f6816279b70d9a6ff4150fef5a"), looks := true }, kinds := [], alts := [], laidByText := true, laidKinds := [.data, .pinned], laidTests := true, laidLooks := .later }
def DiskOwnCardSaid : Prop := Claim7.holds Tryd.pinned (.plain (OpenSpec.ofChange diskOwnSpec)) diskOwnCard

/-- THE TIED CARD OF 'lamplighterlaw02.DiskArms'. -/
def diskArmsCard : Claim7 := { stood := { row := diskArmsRow, standIns := [], harness := (true, "c0ad2a1e7e722c3d75394ac41eaacf29258a10f6816279b70d9a6ff4150fef5a"), looks := true }, kinds := [], alts := [], laidByText := true, laidKinds := [.data, .pinned], laidTests := true, laidLooks := .later }
def DiskArmsCardSaid : Prop := Claim7.holds Tryd.pinned (.plain (OpenSpec.ofChange diskArmsSpec)) diskArmsCard

/-- THE TIED CARD OF 'lamplighterlaw02.DiskRoom'. -/
def diskRoomCard : Claim7 := { stood := { row := diskRoomRow, standIns := [], harness := (true, "c0ad2a1e7e722c3d75394ac41eaacf29258a10f6816279b70d9a6ff4150fef5a"), looks := true }, kinds := [], alts := [], laidByText := true, laidKinds := [.data, .pinned], laidTests := true, laidLooks := .later }
def DiskRoomCardSaid : Prop := Claim7.holds Tryd.pinned (.plain (OpenSpec.ofChange diskRoomSpec)) diskRoomCard

/-- THE TIED CARD OF 'lamplighterlaw02.DiskMoves'. -/
def diskMovesCard : Claim7 := { stood := { row := diskMovesRow, standIns := [], harness := (true, "c0ad2a1e7e722c3d75394ac41eaacf29258a10f6816279b70d9a6ff4150fef5a"), looks := true }, kinds := [], alts := [], laidByText := true, laidKinds := [.data, .pinned], laidTests := true, laidLooks := .later }
def DiskMovesCardSaid : Prop := Claim7.holds Tryd.pinned (.plain (OpenSpec.ofChange diskMovesSpec)) diskMovesCard

/-- THE TIED CARD OF 'lamplighterlaw02.DiskSafe'. -/
def diskSafeCard : Claim7 := { stood := { row := diskSafeRow, standIns := [], harness := (true, "c0ad2a1e7e722c3d75394ac41eaacf29258a10f6816279b70d9a6ff4150fef5a"), looks := true }, kinds := [], alts := [], laidByText := true, laidKinds := [.data, .pinned], laidTests := true, laidLooks := .later }
def DiskSafeCardSaid : Prop := Claim7.holds Tryd.pinned (.plain (OpenSpec.ofChange diskSafeSpec)) diskSafeCard

/-- THE SECOND FORM's CARD OF 'lamplighterlaw02.DiskActs'. -/
def diskActsUptoCard : Claim7 := { stood := { row := diskActsUptoRow, standIns := [], harness := (true, "c0ad2a1e7e722c3d75394ac41eaacf29258a10f6816279b70d9a6ff4150fef5a"), looks := true }, kinds := [], alts := [], laidByText := true, laidKinds := [.data, .pinned], laidTests := true, laidLooks := .later }
def DiskActsUptoCardSaid : Prop := Claim7.holds Tryd.pinned (.plain (OpenSpec.upto diskActsSpec)) diskActsUptoCard

/-- THE SECOND FORM's CARD OF 'lamplighterlaw02.DiskNone'. -/
def diskNoneUptoCard : Claim7 := { stood := { row := diskNoneUptoRow, standIns := [], harness := (true, "c0ad2a1e7e722c3d75394ac41eaacf29258a10f6816279b70d9a6ff4150fef5a"), looks := true }, kinds := [], alts := [], laidByText := true, laidKinds := [.data, .pinned], laidTests := true, laidLooks := .later }
def DiskNoneUptoCardSaid : Prop := Claim7.holds Tryd.pinned (.plain (OpenSpec.upto diskNoneSpec)) diskNoneUptoCard

/-- THE SECOND FORM's CARD OF 'lamplighterlaw02.DiskOwn'. -/
def diskOwnUptoCard : Claim7 := { stood := { row := diskOwnUptoRow, standIns := [], harness := (true, "c0ad2a1e7e722c3d75394ac41eaacf29258a10f6816279b70d9a6ff4150fef5a"), looks := true }, kinds := [], alts := [], laidByText := true, laidKinds := [.data, .pinned], laidTests := true, laidLooks := .later }
def DiskOwnUptoCardSaid : Prop := Claim7.holds Tryd.pinned (.plain (OpenSpec.upto diskOwnSpec)) diskOwnUptoCard

/-- THE SECOND FORM's CARD OF 'lamplighterlaw02.DiskArms'. -/
def diskArmsUptoCard : Claim7 := { stood := { row := diskArmsUptoRow, standIns := [], harness := (true, "c0ad2a1e7e722c3d75394ac41eaacf29258a10f6816279b70d9a6ff4150fef5a"), looks := true }, kinds := [], alts := [], laidByText := true, laidKinds := [.data, .pinned], laidTests := true, laidLooks := .later }
def DiskArmsUptoCardSaid : Prop := Claim7.holds Tryd.pinned (.plain (OpenSpec.upto diskArmsSpec)) diskArmsUptoCard

/-- THE SECOND FORM's CARD OF 'lamplighterlaw02.DiskRoom'. -/
def diskRoomUptoCard : Claim7 := { stood := { row := diskRoomUptoRow, standIns := [], harness := (true, "c0ad2a1e7e722c3d75394ac41eaacf29258a10f6816279b70d9a6ff4150fef5a"), looks := true }, kinds := [], alts := [], laidByText := true, laidKinds := [.data, .pinned], laidTests := true, laidLooks := .later }
def DiskRoomUptoCardSaid : Prop := Claim7.holds Tryd.pinned (.plain (OpenSpec.upto diskRoomSpec)) diskRoomUptoCard

/-- THE SECOND FORM's CARD OF 'lamplighterlaw02.DiskMoves'. -/
def diskMovesUptoCard : Claim7 := { stood := { row := diskMovesUptoRow, standIns := [], harness := (true, "c0ad2a1e7e722c3d75394ac41eaacf29258a10f6816279b70d9a6ff4150fef5a"), looks := true }, kinds := [], alts := [], laidByText := true, laidKinds := [.data, .pinned], laidTests := true, laidLooks := .later }
def DiskMovesUptoCardSaid : Prop := Claim7.holds Tryd.pinned (.plain (OpenSpec.upto diskMovesSpec)) diskMovesUptoCard

/-- THE SECOND FORM's CARD OF 'lamplighterlaw02.DiskSafe'. -/
def diskSafeUptoCard : Claim7 := { stood := { row := diskSafeUptoRow, standIns := [], harness := (true, "c0ad2a1e7e722c3d75394ac41eaacf29258a10f6816279b70d9a6ff4150fef5a"), looks := true }, kinds := [], alts := [], laidByText := true, laidKinds := [.data, .pinned], laidTests := true, laidLooks := .later }
def DiskSafeUptoCardSaid : Prop := Claim7.holds Tryd.pinned (.plain (OpenSpec.upto diskSafeSpec)) diskSafeUptoCard
end Rows
end Go.Proofs.YtjbhdidjkdlceaaDoor
