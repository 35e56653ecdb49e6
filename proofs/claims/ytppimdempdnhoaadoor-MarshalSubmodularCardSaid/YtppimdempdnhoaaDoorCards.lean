/-
  DERIVED. GIVEN WITH THE SEED: THE CARDS: each row of YtppimdempdnhoaaDoorRows.lean that lists a variable, with what it lists TIED to the program's text (the seventh form; the later family's looks); each row that meets fmt, with fmt's text TOLD by the authors' own Lean function (tested against real Go, not proved from fmt's source: count such statements apart). THE CARD IS WHAT COUNTS. Prove the row's statement (the work); the ties are given (YtppimdempdnhoaaDoorTie.lean); close each card by the builder's one call (the guide's Derived/Test/ToyasCard.lean, 'card_holds'). Laid BY PROGRAM, IN A SANDBOX (cutbox-door.mjs). By AI agents, Wed Nov 11 2026. No macro, syntax, notation, axiom, sorry.
-/
import Derived.Test.YtppimdempdnhoaaDoorRows
import GoSem.ClaimSeven
namespace Go.Proofs.YtppimdempdnhoaaDoor
namespace Rows

/-- THE TIED CARD OF 'insolvencylaw16.MarshalFair'. -/
def marshalFairCard : Claim7 := { stood := { row := marshalFairRow, standIns := [], harness := (true, "4e78065e193f7809e73563622f2ce4b4a7e1f379312a80489bd453d1f3a2aa90"), looks := false }, kinds := [], alts := [], laidByText := true, laidKinds := [.data, .data, .data, .pinned], laidTests := true, laidLooks := .later }
def MarshalFairCardSaid : Prop := Claim7.holds Tryd.pinned (.plain (OpenSpec.ofChange marshalFairSpec)) marshalFairCard

/-- THE TIED CARD OF 'insolvencylaw16.MarshalSubmodular'. -/
def marshalSubmodularCard : Claim7 := { stood := { row := marshalSubmodularRow, standIns := [], harness := (true, "4e78065e193f7809e73563622f2ce4b4a7e1f379312a80489bd453d1f3a2aa90"), looks := false }, kinds := [], alts := [], laidByText := true, laidKinds := [.data, .data, .data, .pinned], laidTests := true, laidLooks := .later }
def MarshalSubmodularCardSaid : Prop := Claim7.holds Tryd.pinned (.plain (OpenSpec.ofChange marshalSubmodularSpec)) marshalSubmodularCard

/-- THE TIED CARD OF 'insolvencylaw16.MarshalSets'. -/
def marshalSetsCard : Claim7 := { stood := { row := marshalSetsRow, standIns := [], harness := (true, "4e78065e193f7809e73563622f2ce4b4a7e1f379312a80489bd453d1f3a2aa90"), looks := false }, kinds := [], alts := [], laidByText := true, laidKinds := [.data, .data, .data, .pinned], laidTests := true, laidLooks := .later }
def MarshalSetsCardSaid : Prop := Claim7.holds Tryd.pinned (.plain (OpenSpec.ofChange marshalSetsSpec)) marshalSetsCard

/-- THE SECOND FORM's CARD OF 'insolvencylaw16.MarshalFair'. -/
def marshalFairUptoCard : Claim7 := { stood := { row := marshalFairUptoRow, standIns := [], harness := (true, "4e78065e193f7809e73563622f2ce4b4a7e1f379312a80489bd453d1f3a2aa90"), looks := false }, kinds := [], alts := [], laidByText := true, laidKinds := [.data, .data, .data, .pinned], laidTests := true, laidLooks := .later }
def MarshalFairUptoCardSaid : Prop := Claim7.holds Tryd.pinned (.plain (OpenSpec.upto marshalFairSpec)) marshalFairUptoCard

/-- THE SECOND FORM's CARD OF 'insolvencylaw16.MarshalSubmodular'. -/
def marshalSubmodularUptoCard : Claim7 := { stood := { row := marshalSubmodularUptoRow, standIns := [], harness := (true, "4e78065e193f7809e73563622f2ce4b4a7e1f379312a80489bd453d1f3a2aa90"), looks := false }, kinds := [], alts := [], laidByText := true, laidKinds := [.data, .data, .data, .pinned], laidTests := true, laidLooks := .later }
def MarshalSubmodularUptoCardSaid : Prop := Claim7.holds Tryd.pinned (.plain (OpenSpec.upto marshalSubmodularSpec)) marshalSubmodularUptoCard

/-- THE SECOND FORM's CARD OF 'insolvencylaw16.MarshalSets'. -/
def marshalSetsUptoCard : Claim7 := { stood := { row := marshalSetsUptoRow, standIns := [], harness := (true, "4e78065e193f7809e73563622f2ce4b4a7e1f379312a80489bd453d1f3a2aa90"), looks := false }, kinds := [], alts := [], laidByText := true, laidKinds := [.data, .data, .data, .pinned], laidTests := true, laidLooks := .later }
def MarshalSetsUptoCardSaid : Prop := Claim7.holds Tryd.pinned (.plain (OpenSpec.upto marshalSetsSpec)) marshalSetsUptoCard
end Rows
end Go.Proofs.YtppimdempdnhoaaDoor
