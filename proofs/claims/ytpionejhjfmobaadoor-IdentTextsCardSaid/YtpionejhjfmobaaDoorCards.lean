/-
  DERIVED. GIVEN WITH THE SEED: THE CARDS: each row of YtpionejhjfmobaaDoorRows.lean that lists a variable, with what it lists TIED to the program's text (the seventh form; the later family's looks); each row that meets fmt, with fmt's text TOLD by the authors' own Lean function (tested against real Go, not proved from fmt's source: count such statements apart). THE CARD IS WHAT COUNTS. Prove the row's statement (the work); the ties are given (YtpionejhjfmobaaDoorTie.lean); close each card by the builder's one call (the guide's Derived/Test/ToyasCard.lean, 'card_holds'). Laid BY PROGRAM, IN A SANDBOX (cutbox-door.mjs). By AI agents, Wed Nov 11 2026. No macro, syntax, notation, axiom, sorry.
-/
import Derived.Test.YtpionejhjfmobaaDoorRows
import GoSem.ClaimSeven
namespace Go.Proofs.YtpionejhjfmobaaDoor
namespace Rows

/-- THE TIED CARD OF 'semvcslaw10.IdentMakes'. -/
def identMakesCard : Claim7 := { stood := { row := identMakesRow, standIns := [], harness := (true, "81e9827230d0d391c292a9007ca1e809b60c55069fe73dcda3ecbd706e0cd205"), looks := false }, kinds := [], alts := [], laidByText := true, laidKinds := [.data, .data, .data], laidTests := true, laidLooks := .later }
def IdentMakesCardSaid : Prop := Claim7.holds Tryd.pinned (.plain (OpenSpec.ofChange identMakesSpec)) identMakesCard

/-- THE TIED CARD OF 'semvcslaw10.IdentTexts'. -/
def identTextsCard : Claim7 := { stood := { row := identTextsRow, standIns := [], harness := (true, "81e9827230d0d391c292a9007ca1e809b60c55069fe73dcda3ecbd706e0cd205"), looks := false }, kinds := [], alts := [], laidByText := true, laidKinds := [.data, .data, .data], laidTests := true, laidLooks := .later }
def IdentTextsCardSaid : Prop := Claim7.holds Tryd.pinned (.plain (OpenSpec.ofChange identTextsSpec)) identTextsCard

/-- THE TIED CARD OF 'semvcslaw10.IdentBack'. -/
def identBackCard : Claim7 := { stood := { row := identBackRow, standIns := [], harness := (true, "81e9827230d0d391c292a9007ca1e809b60c55069fe73dcda3ecbd706e0cd205"), looks := false }, kinds := [], alts := [], laidByText := true, laidKinds := [.data, .data, .data], laidTests := true, laidLooks := .later }
def IdentBackCardSaid : Prop := Claim7.holds Tryd.pinned (.plain (OpenSpec.ofChange identBackSpec)) identBackCard

/-- THE TIED CARD OF 'semvcslaw10.IdentOrder'. -/
def identOrderCard : Claim7 := { stood := { row := identOrderRow, standIns := [], harness := (true, "81e9827230d0d391c292a9007ca1e809b60c55069fe73dcda3ecbd706e0cd205"), looks := false }, kinds := [], alts := [], laidByText := true, laidKinds := [.data, .data, .data], laidTests := true, laidLooks := .later }
def IdentOrderCardSaid : Prop := Claim7.holds Tryd.pinned (.plain (OpenSpec.ofChange identOrderSpec)) identOrderCard

/-- THE TIED CARD OF 'semvcslaw10.IdentNext'. -/
def identNextCard : Claim7 := { stood := { row := identNextRow, standIns := [], harness := (true, "81e9827230d0d391c292a9007ca1e809b60c55069fe73dcda3ecbd706e0cd205"), looks := false }, kinds := [], alts := [], laidByText := true, laidKinds := [.data, .data, .data], laidTests := true, laidLooks := .later }
def IdentNextCardSaid : Prop := Claim7.holds Tryd.pinned (.plain (OpenSpec.ofChange identNextSpec)) identNextCard

/-- THE TIED CARD OF 'semvcslaw10.IdentSteps'. -/
def identStepsCard : Claim7 := { stood := { row := identStepsRow, standIns := [], harness := (true, "81e9827230d0d391c292a9007ca1e809b60c55069fe73dcda3ecbd706e0cd205"), looks := false }, kinds := [], alts := [], laidByText := true, laidKinds := [.data, .data, .data], laidTests := true, laidLooks := .later }
def IdentStepsCardSaid : Prop := Claim7.holds Tryd.pinned (.plain (OpenSpec.ofChange identStepsSpec)) identStepsCard

/-- THE SECOND FORM's CARD OF 'semvcslaw10.IdentMakes'. -/
def identMakesUptoCard : Claim7 := { stood := { row := identMakesUptoRow, standIns := [], harness := (true, "81e9827230d0d391c292a9007ca1e809b60c55069fe73dcda3ecbd706e0cd205"), looks := false }, kinds := [], alts := [], laidByText := true, laidKinds := [.data, .data, .data], laidTests := true, laidLooks := .later }
def IdentMakesUptoCardSaid : Prop := Claim7.holds Tryd.pinned (.plain (OpenSpec.upto identMakesSpec)) identMakesUptoCard

/-- THE SECOND FORM's CARD OF 'semvcslaw10.IdentTexts'. -/
def identTextsUptoCard : Claim7 := { stood := { row := identTextsUptoRow, standIns := [], harness := (true, "81e9827230d0d391c292a9007ca1e809b60c55069fe73dcda3ecbd706e0cd205"), looks := false }, kinds := [], alts := [], laidByText := true, laidKinds := [.data, .data, .data], laidTests := true, laidLooks := .later }
def IdentTextsUptoCardSaid : Prop := Claim7.holds Tryd.pinned (.plain (OpenSpec.upto identTextsSpec)) identTextsUptoCard

/-- THE SECOND FORM's CARD OF 'semvcslaw10.IdentBack'. -/
def identBackUptoCard : Claim7 := { stood := { row := identBackUptoRow, standIns := [], harness := (true, "81e9827230d0d391c292a9007ca1e809b60c55069fe73dcda3ecbd706e0cd205"), looks := false }, kinds := [], alts := [], laidByText := true, laidKinds := [.data, .data, .data], laidTests := true, laidLooks := .later }
def IdentBackUptoCardSaid : Prop := Claim7.holds Tryd.pinned (.plain (OpenSpec.upto identBackSpec)) identBackUptoCard

/-- THE SECOND FORM's CARD OF 'semvcslaw10.IdentOrder'. -/
def identOrderUptoCard : Claim7 := { stood := { row := identOrderUptoRow, standIns := [], harness := (true, "81e9827230d0d391c292a9007ca1e809b60c55069fe73dcda3ecbd706e0cd205"), looks := false }, kinds := [], alts := [], laidByText := true, laidKinds := [.data, .data, .data], laidTests := true, laidLooks := .later }
def IdentOrderUptoCardSaid : Prop := Claim7.holds Tryd.pinned (.plain (OpenSpec.upto identOrderSpec)) identOrderUptoCard

/-- THE SECOND FORM's CARD OF 'semvcslaw10.IdentNext'. -/
def identNextUptoCard : Claim7 := { stood := { row := identNextUptoRow, standIns := [], harness := (true, "81e9827230d0d391c292a9007ca1e809b60c55069fe73dcda3ecbd706e0cd205"), looks := false }, kinds := [], alts := [], laidByText := true, laidKinds := [.data, .data, .data], laidTests := true, laidLooks := .later }
def IdentNextUptoCardSaid : Prop := Claim7.holds Tryd.pinned (.plain (OpenSpec.upto identNextSpec)) identNextUptoCard

/-- THE SECOND FORM's CARD OF 'semvcslaw10.IdentSteps'. -/
def identStepsUptoCard : Claim7 := { stood := { row := identStepsUptoRow, standIns := [], harness := (true, "81e9827230d0d391c292a9007ca1e809b60c55069fe73dcda3ecbd706e0cd205"), looks := false }, kinds := [], alts := [], laidByText := true, laidKinds := [.data, .data, .data], laidTests := true, laidLooks := .later }
def IdentStepsUptoCardSaid : Prop := Claim7.holds Tryd.pinned (.plain (OpenSpec.upto identStepsSpec)) identStepsUptoCard
end Rows
end Go.Proofs.YtpionejhjfmobaaDoor
