/-
  DERIVED. GIVEN WITH THE SEED: THE CARDS: each row of YtpboclafoccfnaaDoorRows.lean that lists a variable, with what it lists TIED to the program's text (the seventh form; the later family's looks); each row that meets fmt, with fmt's text TOLD by the authors' own Lean function (tested against real Go, not proved from fmt's source: count such statements apart). THE CARD IS WHAT COUNTS. Prove the row's statement (the work); the ties are given (YtpboclafoccfnaaDoorTie.lean); close each card by the builder's one call (the guide's Derived/Test/ToyasCard.lean, 'card_holds'). Laid BY PROGRAM, IN A SANDBOX (cutbox-door.mjs). By AI agents, Wed Nov 11 2026. No macro, syntax, notation, axiom, sorry.
-/
import Derived.Test.YtpboclafoccfnaaDoorRows
import GoSem.ClaimSeven
namespace Go.Proofs.YtpboclafoccfnaaDoor
namespace Rows

/-- THE TIED CARD OF 'murmurationlaw01.ShaSums'. -/
def shaSumsCard : Claim7 := { stood := { row := shaSumsRow, standIns := [], harness := (true, "0fb3947e8122b884def5962fafd99b258f67317c8e5b0fb82e6a0e0b7d9146ad"), looks := false }, kinds := [], alts := [], laidByText := true, laidKinds := [.data], laidTests := true, laidLooks := .later }
def ShaSumsCardSaid : Prop := Claim7.holds Tryd.pinned (.plain (OpenSpec.ofChange shaSumsSpec)) shaSumsCard

/-- THE TIED CARD OF 'murmurationlaw01.ShaNil'. -/
def shaNilCard : Claim7 := { stood := { row := shaNilRow, standIns := [], harness := (true, "0fb3947e8122b884def5962fafd99b258f67317c8e5b0fb82e6a0e0b7d9146ad"), looks := false }, kinds := [], alts := [], laidByText := true, laidKinds := [.data], laidTests := true, laidLooks := .later }
def ShaNilCardSaid : Prop := Claim7.holds Tryd.pinned (.plain (OpenSpec.ofChange shaNilSpec)) shaNilCard

/-- THE TIED CARD OF 'murmurationlaw01.ShaParts'. -/
def shaPartsCard : Claim7 := { stood := { row := shaPartsRow, standIns := [], harness := (true, "0fb3947e8122b884def5962fafd99b258f67317c8e5b0fb82e6a0e0b7d9146ad"), looks := false }, kinds := [], alts := [], laidByText := true, laidKinds := [.data], laidTests := true, laidLooks := .later }
def ShaPartsCardSaid : Prop := Claim7.holds Tryd.pinned (.plain (OpenSpec.ofChange shaPartsSpec)) shaPartsCard

/-- THE TIED CARD OF 'murmurationlaw01.ShaJoins'. -/
def shaJoinsCard : Claim7 := { stood := { row := shaJoinsRow, standIns := [], harness := (true, "0fb3947e8122b884def5962fafd99b258f67317c8e5b0fb82e6a0e0b7d9146ad"), looks := false }, kinds := [], alts := [], laidByText := true, laidKinds := [.data], laidTests := true, laidLooks := .later }
def ShaJoinsCardSaid : Prop := Claim7.holds Tryd.pinned (.plain (OpenSpec.ofChange shaJoinsSpec)) shaJoinsCard

/-- THE SECOND FORM's CARD OF 'murmurationlaw01.ShaSums'. -/
def shaSumsUptoCard : Claim7 := { stood := { row := shaSumsUptoRow, standIns := [], harness := (true, "0fb3947e8122b884def5962fafd99b258f67317c8e5b0fb82e6a0e0b7d9146ad"), looks := false }, kinds := [], alts := [], laidByText := true, laidKinds := [.data], laidTests := true, laidLooks := .later }
def ShaSumsUptoCardSaid : Prop := Claim7.holds Tryd.pinned (.plain (OpenSpec.upto shaSumsSpec)) shaSumsUptoCard

/-- THE SECOND FORM's CARD OF 'murmurationlaw01.ShaNil'. -/
def shaNilUptoCard : Claim7 := { stood := { row := shaNilUptoRow, standIns := [], harness := (true, "0fb3947e8122b884def5962fafd99b258f67317c8e5b0fb82e6a0e0b7d9146ad"), looks := false }, kinds := [], alts := [], laidByText := true, laidKinds := [.data], laidTests := true, laidLooks := .later }
def ShaNilUptoCardSaid : Prop := Claim7.holds Tryd.pinned (.plain (OpenSpec.upto shaNilSpec)) shaNilUptoCard

/-- THE SECOND FORM's CARD OF 'murmurationlaw01.ShaParts'. -/
def shaPartsUptoCard : Claim7 := { stood := { row := shaPartsUptoRow, standIns := [], harness := (true, "0fb3947e8122b884def5962fafd99b258f67317c8e5b0fb82e6a0e0b7d9146ad"), looks := false }, kinds := [], alts := [], laidByText := true, laidKinds := [.data], laidTests := true, laidLooks := .later }
def ShaPartsUptoCardSaid : Prop := Claim7.holds Tryd.pinned (.plain (OpenSpec.upto shaPartsSpec)) shaPartsUptoCard

/-- THE SECOND FORM's CARD OF 'murmurationlaw01.ShaJoins'. -/
def shaJoinsUptoCard : Claim7 := { stood := { row := shaJoinsUptoRow, standIns := [], harness := (true, "0fb3947e8122b884def5962fafd99b258f67317c8e5b0fb82e6a0e0b7d9146ad"), looks := false }, kinds := [], alts := [], laidByText := true, laidKinds := [.data], laidTests := true, laidLooks := .later }
def ShaJoinsUptoCardSaid : Prop := Claim7.holds Tryd.pinned (.plain (OpenSpec.upto shaJoinsSpec)) shaJoinsUptoCard
end Rows
end Go.Proofs.YtpboclafoccfnaaDoor
