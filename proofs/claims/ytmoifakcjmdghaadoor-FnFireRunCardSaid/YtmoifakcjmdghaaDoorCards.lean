/-
  DERIVED. GIVEN WITH THE SEED: THE CARDS: each row of YtmoifakcjmdghaaDoorRows.lean that lists a variable, with what it lists TIED to the program's text (the seventh form; the later family's looks); each row that meets fmt, with fmt's text TOLD by the authors' own Lean function (tested against real Go, not proved from fmt's source: count such statements apart). THE CARD IS WHAT COUNTS. Prove the row's statement (the work); the ties are given (YtmoifakcjmdghaaDoorTie.lean); close each card by the builder's one call (the guide's Derived/Test/ToyasCard.lean, 'card_holds'). Laid BY PROGRAM, IN A SANDBOX (cutbox-door.mjs). By AI agents, Wed Nov 11 2026. No macro, syntax, notation, axiom, sorry.
-/
import Derived.Test.YtmoifakcjmdghaaDoorRows
import GoSem.ClaimSeven
namespace Go.Proofs.YtmoifakcjmdghaaDoor
namespace Rows

/-- THE TIED CARD OF 'laws.FnExactFireStep'. -/
def fnExactFireStepCard : Claim7 := { stood := { row := fnExactFireStepRow, standIns := [], harness := (true, "1852a73e5187d87141db0075cf3be1bc779a0043c139dbcc047aafcbfdd39068"), looks := false }, kinds := [], alts := [], laidByText := true, laidKinds := [.data], laidTests := true, laidLooks := .later }
def FnExactFireStepCardSaid : Prop := Claim7.holds Tryd.pinned (.plain (OpenSpec.ofChange fnExactFireStepSpec)) fnExactFireStepCard

/-- THE TIED CARD OF 'laws.FnExactFireRun'. -/
def fnExactFireRunCard : Claim7 := { stood := { row := fnExactFireRunRow, standIns := [], harness := (true, "1852a73e5187d87141db0075cf3be1bc779a0043c139dbcc047aafcbfdd39068"), looks := false }, kinds := [], alts := [], laidByText := true, laidKinds := [.data], laidTests := true, laidLooks := .later }
def FnExactFireRunCardSaid : Prop := Claim7.holds Tryd.pinned (.plain (OpenSpec.ofChange fnExactFireRunSpec)) fnExactFireRunCard

/-- THE TIED CARD OF 'laws.FnFireStep'. -/
def fnFireStepCard : Claim7 := { stood := { row := fnFireStepRow, standIns := [], harness := (true, "1852a73e5187d87141db0075cf3be1bc779a0043c139dbcc047aafcbfdd39068"), looks := false }, kinds := [], alts := [], laidByText := true, laidKinds := [.data], laidTests := true, laidLooks := .later }
def FnFireStepCardSaid : Prop := Claim7.holds Tryd.pinned (.plain (OpenSpec.ofChange fnFireStepSpec)) fnFireStepCard

/-- THE TIED CARD OF 'laws.FnFireBack'. -/
def fnFireBackCard : Claim7 := { stood := { row := fnFireBackRow, standIns := [], harness := (true, "1852a73e5187d87141db0075cf3be1bc779a0043c139dbcc047aafcbfdd39068"), looks := false }, kinds := [], alts := [], laidByText := true, laidKinds := [.data], laidTests := true, laidLooks := .later }
def FnFireBackCardSaid : Prop := Claim7.holds Tryd.pinned (.plain (OpenSpec.ofChange fnFireBackSpec)) fnFireBackCard

/-- THE TIED CARD OF 'laws.FnFireRun'. -/
def fnFireRunCard : Claim7 := { stood := { row := fnFireRunRow, standIns := [], harness := (true, "1852a73e5187d87141db0075cf3be1bc779a0043c139dbcc047aafcbfdd39068"), looks := false }, kinds := [], alts := [], laidByText := true, laidKinds := [.data], laidTests := true, laidLooks := .later }
def FnFireRunCardSaid : Prop := Claim7.holds Tryd.pinned (.plain (OpenSpec.ofChange fnFireRunSpec)) fnFireRunCard

/-- THE SECOND FORM's CARD OF 'laws.FnExactFireStep'. -/
def fnExactFireStepUptoCard : Claim7 := { stood := { row := fnExactFireStepUptoRow, standIns := [], harness := (true, "1852a73e5187d87141db0075cf3be1bc779a0043c139dbcc047aafcbfdd39068"), looks := false }, kinds := [], alts := [], laidByText := true, laidKinds := [.data], laidTests := true, laidLooks := .later }
def FnExactFireStepUptoCardSaid : Prop := Claim7.holds Tryd.pinned (.plain (OpenSpec.upto fnExactFireStepSpec)) fnExactFireStepUptoCard

/-- THE SECOND FORM's CARD OF 'laws.FnExactFireRun'. -/
def fnExactFireRunUptoCard : Claim7 := { stood := { row := fnExactFireRunUptoRow, standIns := [], harness := (true, "1852a73e5187d87141db0075cf3be1bc779a0043c139dbcc047aafcbfdd39068"), looks := false }, kinds := [], alts := [], laidByText := true, laidKinds := [.data], laidTests := true, laidLooks := .later }
def FnExactFireRunUptoCardSaid : Prop := Claim7.holds Tryd.pinned (.plain (OpenSpec.upto fnExactFireRunSpec)) fnExactFireRunUptoCard

/-- THE SECOND FORM's CARD OF 'laws.FnFireStep'. -/
def fnFireStepUptoCard : Claim7 := { stood := { row := fnFireStepUptoRow, standIns := [], harness := (true, "1852a73e5187d87141db0075cf3be1bc779a0043c139dbcc047aafcbfdd39068"), looks := false }, kinds := [], alts := [], laidByText := true, laidKinds := [.data], laidTests := true, laidLooks := .later }
def FnFireStepUptoCardSaid : Prop := Claim7.holds Tryd.pinned (.plain (OpenSpec.upto fnFireStepSpec)) fnFireStepUptoCard

/-- THE SECOND FORM's CARD OF 'laws.FnFireBack'. -/
def fnFireBackUptoCard : Claim7 := { stood := { row := fnFireBackUptoRow, standIns := [], harness := (true, "1852a73e5187d87141db0075cf3be1bc779a0043c139dbcc047aafcbfdd39068"), looks := false }, kinds := [], alts := [], laidByText := true, laidKinds := [.data], laidTests := true, laidLooks := .later }
def FnFireBackUptoCardSaid : Prop := Claim7.holds Tryd.pinned (.plain (OpenSpec.upto fnFireBackSpec)) fnFireBackUptoCard

/-- THE SECOND FORM's CARD OF 'laws.FnFireRun'. -/
def fnFireRunUptoCard : Claim7 := { stood := { row := fnFireRunUptoRow, standIns := [], harness := (true, "1852a73e5187d87141db0075cf3be1bc779a0043c139dbcc047aafcbfdd39068"), looks := false }, kinds := [], alts := [], laidByText := true, laidKinds := [.data], laidTests := true, laidLooks := .later }
def FnFireRunUptoCardSaid : Prop := Claim7.holds Tryd.pinned (.plain (OpenSpec.upto fnFireRunSpec)) fnFireRunUptoCard
end Rows
end Go.Proofs.YtmoifakcjmdghaaDoor
