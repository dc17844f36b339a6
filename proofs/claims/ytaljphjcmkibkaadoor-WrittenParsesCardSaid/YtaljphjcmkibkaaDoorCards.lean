/-
  DERIVED. GIVEN WITH THE SEED: THE CARDS: each row of YtaljphjcmkibkaaDoorRows.lean that lists a variable, with what it lists TIED to the program's text (the seventh form; the later family's looks); each row that meets fmt, with fmt's text TOLD by the authors' own Lean function (tested against real Go, not proved from fmt's source: count such statements apart). THE CARD IS WHAT COUNTS. Prove the row's statement (the work); the ties are given (YtaljphjcmkibkaaDoorTie.lean); close each card by the builder's one call (the guide's Derived/Test/ToyasCard.lean, 'card_holds'). Laid BY PROGRAM, IN A SANDBOX (cutbox-door.mjs). By AI agents, Wed Nov 11 2026. No macro, syntax, notation, axiom, sorry.
-/
import Derived.Test.YtaljphjcmkibkaaDoorRows
import GoSem.ClaimSeven
namespace Go.Proofs.YtaljphjcmkibkaaDoor
namespace Rows

/-- THE TIED CARD OF 'pigeonholelaw03.WrittenAddr'. -/
def writtenAddrCard : Claim7 := { stood := { row := writtenAddrRow, standIns := [], harness := (true, "989240def9f696204b821c6b4ca840e547349da8673d92a097fe9409a1fafa99"), looks := true }, kinds := [], alts := [], laidByText := true, laidKinds := [.data, .data, .data, .data, .sentinel, .sentinel, .pinned], laidTests := true, laidLooks := .later }
def WrittenAddrCardSaid : Prop := Claim7.holds Tryd.pinned (.plain (OpenSpec.ofChange writtenAddrSpec)) writtenAddrCard

/-- THE TIED CARD OF 'pigeonholelaw03.WrittenPrefix'. -/
def writtenPrefixCard : Claim7 := { stood := { row := writtenPrefixRow, standIns := [], harness := (true, "989240def9f696204b821c6b4ca840e547349da8673d92a097fe9409a1fafa99"), looks := true }, kinds := [], alts := [], laidByText := true, laidKinds := [.data, .data, .data, .data, .sentinel, .sentinel, .pinned], laidTests := true, laidLooks := .later }
def WrittenPrefixCardSaid : Prop := Claim7.holds Tryd.pinned (.plain (OpenSpec.ofChange writtenPrefixSpec)) writtenPrefixCard

/-- THE TIED CARD OF 'pigeonholelaw03.WrittenParses'. -/
def writtenParsesCard : Claim7 := { stood := { row := writtenParsesRow, standIns := [], harness := (true, "989240def9f696204b821c6b4ca840e547349da8673d92a097fe9409a1fafa99"), looks := true }, kinds := [], alts := [], laidByText := true, laidKinds := [.data, .data, .data, .data, .sentinel, .sentinel, .pinned], laidTests := true, laidLooks := .later }
def WrittenParsesCardSaid : Prop := Claim7.holds Tryd.pinned (.plain (OpenSpec.ofChange writtenParsesSpec)) writtenParsesCard

/-- THE TIED CARD OF 'pigeonholelaw03.WrittenOnly'. -/
def writtenOnlyCard : Claim7 := { stood := { row := writtenOnlyRow, standIns := [], harness := (true, "989240def9f696204b821c6b4ca840e547349da8673d92a097fe9409a1fafa99"), looks := true }, kinds := [], alts := [], laidByText := true, laidKinds := [.data, .data, .data, .data, .sentinel, .sentinel, .pinned], laidTests := true, laidLooks := .later }
def WrittenOnlyCardSaid : Prop := Claim7.holds Tryd.pinned (.plain (OpenSpec.ofChange writtenOnlySpec)) writtenOnlyCard

/-- THE TIED CARD OF 'pigeonholelaw03.WrittenNumber'. -/
def writtenNumberCard : Claim7 := { stood := { row := writtenNumberRow, standIns := [], harness := (true, "989240def9f696204b821c6b4ca840e547349da8673d92a097fe9409a1fafa99"), looks := true }, kinds := [], alts := [], laidByText := true, laidKinds := [.data, .data, .data, .data, .sentinel, .sentinel, .pinned], laidTests := true, laidLooks := .later }
def WrittenNumberCardSaid : Prop := Claim7.holds Tryd.pinned (.plain (OpenSpec.ofChange writtenNumberSpec)) writtenNumberCard

/-- THE TIED CARD OF 'pigeonholelaw03.WrittenWords'. -/
def writtenWordsCard : Claim7 := { stood := { row := writtenWordsRow, standIns := [], harness := (true, "989240def9f696204b821c6b4ca840e547349da8673d92a097fe9409a1fafa99"), looks := true }, kinds := [], alts := [], laidByText := true, laidKinds := [.data, .data, .data, .data, .sentinel, .sentinel, .pinned], laidTests := true, laidLooks := .later }
def WrittenWordsCardSaid : Prop := Claim7.holds Tryd.pinned (.plain (OpenSpec.ofChange writtenWordsSpec)) writtenWordsCard

/-- THE TIED CARD OF 'pigeonholelaw03.WrittenApart'. -/
def writtenApartCard : Claim7 := { stood := { row := writtenApartRow, standIns := [], harness := (true, "989240def9f696204b821c6b4ca840e547349da8673d92a097fe9409a1fafa99"), looks := true }, kinds := [], alts := [], laidByText := true, laidKinds := [.data, .data, .data, .data, .sentinel, .sentinel, .pinned], laidTests := true, laidLooks := .later }
def WrittenApartCardSaid : Prop := Claim7.holds Tryd.pinned (.plain (OpenSpec.ofChange writtenApartSpec)) writtenApartCard

/-- THE SECOND FORM's CARD OF 'pigeonholelaw03.WrittenAddr'. -/
def writtenAddrUptoCard : Claim7 := { stood := { row := writtenAddrUptoRow, standIns := [], harness := (true, "989240def9f696204b821c6b4ca840e547349da8673d92a097fe9409a1fafa99"), looks := true }, kinds := [], alts := [], laidByText := true, laidKinds := [.data, .data, .data, .data, .sentinel, .sentinel, .pinned], laidTests := true, laidLooks := .later }
def WrittenAddrUptoCardSaid : Prop := Claim7.holds Tryd.pinned (.plain (OpenSpec.upto writtenAddrSpec)) writtenAddrUptoCard

/-- THE SECOND FORM's CARD OF 'pigeonholelaw03.WrittenPrefix'. -/
def writtenPrefixUptoCard : Claim7 := { stood := { row := writtenPrefixUptoRow, standIns := [], harness := (true, "989240def9f696204b821c6b4ca840e547349da8673d92a097fe9409a1fafa99"), looks := true }, kinds := [], alts := [], laidByText := true, laidKinds := [.data, .data, .data, .data, .sentinel, .sentinel, .pinned], laidTests := true, laidLooks := .later }
def WrittenPrefixUptoCardSaid : Prop := Claim7.holds Tryd.pinned (.plain (OpenSpec.upto writtenPrefixSpec)) writtenPrefixUptoCard

/-- THE SECOND FORM's CARD OF 'pigeonholelaw03.WrittenParses'. -/
def writtenParsesUptoCard : Claim7 := { stood := { row := writtenParsesUptoRow, standIns := [], harness := (true, "989240def9f696204b821c6b4ca840e547349da8673d92a097fe9409a1fafa99"), looks := true }, kinds := [], alts := [], laidByText := true, laidKinds := [.data, .data, .data, .data, .sentinel, .sentinel, .pinned], laidTests := true, laidLooks := .later }
def WrittenParsesUptoCardSaid : Prop := Claim7.holds Tryd.pinned (.plain (OpenSpec.upto writtenParsesSpec)) writtenParsesUptoCard

/-- THE SECOND FORM's CARD OF 'pigeonholelaw03.WrittenOnly'. -/
def writtenOnlyUptoCard : Claim7 := { stood := { row := writtenOnlyUptoRow, standIns := [], harness := (true, "989240def9f696204b821c6b4ca840e547349da8673d92a097fe9409a1fafa99"), looks := true }, kinds := [], alts := [], laidByText := true, laidKinds := [.data, .data, .data, .data, .sentinel, .sentinel, .pinned], laidTests := true, laidLooks := .later }
def WrittenOnlyUptoCardSaid : Prop := Claim7.holds Tryd.pinned (.plain (OpenSpec.upto writtenOnlySpec)) writtenOnlyUptoCard

/-- THE SECOND FORM's CARD OF 'pigeonholelaw03.WrittenNumber'. -/
def writtenNumberUptoCard : Claim7 := { stood := { row := writtenNumberUptoRow, standIns := [], harness := (true, "989240def9f696204b821c6b4ca840e547349da8673d92a097fe9409a1fafa99"), looks := true }, kinds := [], alts := [], laidByText := true, laidKinds := [.data, .data, .data, .data, .sentinel, .sentinel, .pinned], laidTests := true, laidLooks := .later }
def WrittenNumberUptoCardSaid : Prop := Claim7.holds Tryd.pinned (.plain (OpenSpec.upto writtenNumberSpec)) writtenNumberUptoCard

/-- THE SECOND FORM's CARD OF 'pigeonholelaw03.WrittenWords'. -/
def writtenWordsUptoCard : Claim7 := { stood := { row := writtenWordsUptoRow, standIns := [], harness := (true, "989240def9f696204b821c6b4ca840e547349da8673d92a097fe9409a1fafa99"), looks := true }, kinds := [], alts := [], laidByText := true, laidKinds := [.data, .data, .data, .data, .sentinel, .sentinel, .pinned], laidTests := true, laidLooks := .later }
def WrittenWordsUptoCardSaid : Prop := Claim7.holds Tryd.pinned (.plain (OpenSpec.upto writtenWordsSpec)) writtenWordsUptoCard

/-- THE SECOND FORM's CARD OF 'pigeonholelaw03.WrittenApart'. -/
def writtenApartUptoCard : Claim7 := { stood := { row := writtenApartUptoRow, standIns := [], harness := (true, "989240def9f696204b821c6b4ca840e547349da8673d92a097fe9409a1fafa99"), looks := true }, kinds := [], alts := [], laidByText := true, laidKinds := [.data, .data, .data, .data, .sentinel, .sentinel, .pinned], laidTests := true, laidLooks := .later }
def WrittenApartUptoCardSaid : Prop := Claim7.holds Tryd.pinned (.plain (OpenSpec.upto writtenApartSpec)) writtenApartUptoCard
end Rows
end Go.Proofs.YtaljphjcmkibkaaDoor
