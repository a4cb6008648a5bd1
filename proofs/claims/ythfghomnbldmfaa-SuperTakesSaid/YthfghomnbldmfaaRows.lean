/-
  No cell of these rows narrows 'for every input' (looked for: loops, veiled, ifaces, maps, wideKeys, modest, calm, conditions, laid).
  DERIVED. THE GIVEN ROWS OF THIS SEAT. 5 by the template 'for every input the law returns true; each argument reads behind the call as it read before'; 0 by the template 'total and deterministic' (their statements: YthfghomnbldmfaaTotals.lean).
  GIVEN WITH THE SEED: the statements are not yours to turn. If you find one false, say at which input.
  Laid BY PROGRAM, IN A SANDBOX (cutbox-rows.mjs): the forced cells as the released guide's own fill.sh prints them over the translation 1d4344bf58ff5a2e… (all of the seat's roots in one cut). By AI agents, Wed Nov 11 2026. No macro, syntax, notation, axiom, sorry.
-/
import Derived.Test.YthfghomnbldmfaaChecked
import GoSem.Claim
import GoSem.ClaimJoined
import GoSem.ClaimMapViews
import Derived.JoinedTies
import Derived.KernelRfl
namespace Go.Proofs.Ythfghomnbldmfaa
/- THE CELL 'sum', in the pinned program and in every row, IS THE sha256 OF THE DUMP (.gsa) THAT YthfghomnbldmfaaProg.lean LOADS. Nothing in Lean hashes anything: it is a label: what it is worth is what the hold of that sum in a sandbox is worth. -/
noncomputable def Try.pinned : Pinned := { name := "ythfghomnbldmfaa", sum := "1d4344bf58ff5a2e5cb56f70c21cd70a14cd2b152d7dc9b796ba08e4e99bb4cf", checked := Try.checked }
namespace Rows
def none {H : Type} : Left H := { results := [], args := [] }

/-- 'lamellalaw08.SuperPuts': WHATEVER THE INPUT: true; the input reads as it did. -/
def superPutsSpec : ChangeSpec := { name := "superPuts", fn := fun _ => fun
  | [d] => { results := [.lit (.bool true)], args := [d] }
  | _ => none }
def superPutsRow : OpenClaim := { program := "ythfghomnbldmfaa", sum := "1d4344bf58ff5a2e5cb56f70c21cd70a14cd2b152d7dc9b796ba08e4e99bb4cf", func := "lamella/lamellalaw08.SuperPuts", spec := "superPuts", unfollowed := true, recurses := true, apart := false }
def SuperPutsSaid : Prop := superPutsRow.holds Try.pinned (OpenSpec.ofChange superPutsSpec)

/-- ITS FALSE NEIGHBOUR: 'it returns false'. Refute it at one input. -/
def superPutsWrong : ChangeSpec := { name := "superPuts", fn := fun _ => fun
  | [d] => { results := [.lit (.bool false)], args := [d] }
  | _ => none }
def SuperPutsWrongFalsely : Prop := superPutsRow.holds Try.pinned (OpenSpec.ofChange superPutsWrong)

/-- 'lamellalaw08.SuperTakes': WHATEVER THE INPUT: true; the input reads as it did. -/
def superTakesSpec : ChangeSpec := { name := "superTakes", fn := fun _ => fun
  | [d] => { results := [.lit (.bool true)], args := [d] }
  | _ => none }
def superTakesRow : OpenClaim := { program := "ythfghomnbldmfaa", sum := "1d4344bf58ff5a2e5cb56f70c21cd70a14cd2b152d7dc9b796ba08e4e99bb4cf", func := "lamella/lamellalaw08.SuperTakes", spec := "superTakes", unfollowed := true, recurses := true, apart := false }
def SuperTakesSaid : Prop := superTakesRow.holds Try.pinned (OpenSpec.ofChange superTakesSpec)

/-- ITS FALSE NEIGHBOUR: 'it returns false'. Refute it at one input. -/
def superTakesWrong : ChangeSpec := { name := "superTakes", fn := fun _ => fun
  | [d] => { results := [.lit (.bool false)], args := [d] }
  | _ => none }
def SuperTakesWrongFalsely : Prop := superTakesRow.holds Try.pinned (OpenSpec.ofChange superTakesWrong)

/-- 'lamellalaw08.SuperBack': WHATEVER THE INPUT: true; the input reads as it did. -/
def superBackSpec : ChangeSpec := { name := "superBack", fn := fun _ => fun
  | [d1, d2] => { results := [.lit (.bool true)], args := [d1, d2] }
  | _ => none }
def superBackRow : OpenClaim := { program := "ythfghomnbldmfaa", sum := "1d4344bf58ff5a2e5cb56f70c21cd70a14cd2b152d7dc9b796ba08e4e99bb4cf", func := "lamella/lamellalaw08.SuperBack", spec := "superBack", unfollowed := true, recurses := true, apart := false }
def SuperBackSaid : Prop := superBackRow.holds Try.pinned (OpenSpec.ofChange superBackSpec)

/-- ITS FALSE NEIGHBOUR: 'it returns false'. Refute it at one input. -/
def superBackWrong : ChangeSpec := { name := "superBack", fn := fun _ => fun
  | [d1, d2] => { results := [.lit (.bool false)], args := [d1, d2] }
  | _ => none }
def SuperBackWrongFalsely : Prop := superBackRow.holds Try.pinned (OpenSpec.ofChange superBackWrong)

/-- 'lamellalaw08.SuperTurned': WHATEVER THE INPUT: true; the input reads as it did. -/
def superTurnedSpec : ChangeSpec := { name := "superTurned", fn := fun _ => fun
  | [d1, d2, d3] => { results := [.lit (.bool true)], args := [d1, d2, d3] }
  | _ => none }
def superTurnedRow : OpenClaim := { program := "ythfghomnbldmfaa", sum := "1d4344bf58ff5a2e5cb56f70c21cd70a14cd2b152d7dc9b796ba08e4e99bb4cf", func := "lamella/lamellalaw08.SuperTurned", spec := "superTurned", unfollowed := true, recurses := true, apart := false }
def SuperTurnedSaid : Prop := superTurnedRow.holds Try.pinned (OpenSpec.ofChange superTurnedSpec)

/-- ITS FALSE NEIGHBOUR: 'it returns false'. Refute it at one input. -/
def superTurnedWrong : ChangeSpec := { name := "superTurned", fn := fun _ => fun
  | [d1, d2, d3] => { results := [.lit (.bool false)], args := [d1, d2, d3] }
  | _ => none }
def SuperTurnedWrongFalsely : Prop := superTurnedRow.holds Try.pinned (OpenSpec.ofChange superTurnedWrong)

/-- 'lamellalaw08.SuperCut': WHATEVER THE INPUT: true; the input reads as it did. -/
def superCutSpec : ChangeSpec := { name := "superCut", fn := fun _ => fun
  | [d] => { results := [.lit (.bool true)], args := [d] }
  | _ => none }
def superCutRow : OpenClaim := { program := "ythfghomnbldmfaa", sum := "1d4344bf58ff5a2e5cb56f70c21cd70a14cd2b152d7dc9b796ba08e4e99bb4cf", func := "lamella/lamellalaw08.SuperCut", spec := "superCut", unfollowed := true, recurses := true, apart := false }
def SuperCutSaid : Prop := superCutRow.holds Try.pinned (OpenSpec.ofChange superCutSpec)

/-- ITS FALSE NEIGHBOUR: 'it returns false'. Refute it at one input. -/
def superCutWrong : ChangeSpec := { name := "superCut", fn := fun _ => fun
  | [d] => { results := [.lit (.bool false)], args := [d] }
  | _ => none }
def SuperCutWrongFalsely : Prop := superCutRow.holds Try.pinned (OpenSpec.ofChange superCutWrong)

/- THE SECOND FORM. 'bulk': how many values and letters a reading holds, each counted each time it is reached (what is shared counts as often as it is met; a slice's spare places count too). A statement '..UptoSaid' is the law's where the arguments, and the package variables that the reading takes, are together of bulk at most 1048576: NARROWER than '..Said'. Prove '..Said' where nothing that the law and all that it calls make is longer than what came in: it says more and counts as full. Else prove '..UptoSaid'. A law counts once. -/
mutual
def uptoBulk {H : Type} : DataW H → Nat
  | .lit (.string bytes) => bytes.length + 1
  | .lit _ => 1
  | .nil => 1
  | .ptr d => uptoBulk d + 1
  | .slice elems spare => uptoBulkAll elems + uptoBulkAll spare + 1
  | .agg parts => uptoBulkAll parts + 1
  | .iface _ d => uptoBulk d + 1
  | .map entries => uptoBulkEntries entries + 1
  | .held _ => 1
def uptoBulkAll {H : Type} : List (DataW H) → Nat
  | [] => 0
  | d :: r => uptoBulk d + uptoBulkAll r
def uptoBulkEntries {H : Type} : List (Lit × DataW H) → Nat
  | [] => 0
  | x :: r => uptoBulkEntry x + uptoBulkEntries r
def uptoBulkEntry {H : Type} : Lit × DataW H → Nat
  | (.string bytes, d) => bytes.length + uptoBulk d + 1
  | (_, d) => uptoBulk d + 1
 end
def uptoSmall : (H : Type) → List (DataW H) → Bool := fun _ ds => decide (uptoBulkAll ds ≤ 1048576)
def OpenSpec.upto (s : _root_.Go.ChangeSpec) : _root_.Go.OpenSpec := { _root_.Go.OpenSpec.ofChange s with cond := some uptoSmall }

/-- 'lamellalaw08.SuperPuts', WHERE WHAT IT READS IS OF BULK AT MOST 1048576: true; the input reads as it did. -/
def superPutsUptoRow : OpenClaim := { program := "ythfghomnbldmfaa", sum := "1d4344bf58ff5a2e5cb56f70c21cd70a14cd2b152d7dc9b796ba08e4e99bb4cf", func := "lamella/lamellalaw08.SuperPuts", spec := "superPuts", unfollowed := true, recurses := true, apart := false, narrowed := true }
def SuperPutsUptoSaid : Prop := superPutsUptoRow.holds Try.pinned (OpenSpec.upto superPutsSpec)

/-- 'lamellalaw08.SuperTakes', WHERE WHAT IT READS IS OF BULK AT MOST 1048576: true; the input reads as it did. -/
def superTakesUptoRow : OpenClaim := { program := "ythfghomnbldmfaa", sum := "1d4344bf58ff5a2e5cb56f70c21cd70a14cd2b152d7dc9b796ba08e4e99bb4cf", func := "lamella/lamellalaw08.SuperTakes", spec := "superTakes", unfollowed := true, recurses := true, apart := false, narrowed := true }
def SuperTakesUptoSaid : Prop := superTakesUptoRow.holds Try.pinned (OpenSpec.upto superTakesSpec)

/-- 'lamellalaw08.SuperBack', WHERE WHAT IT READS IS OF BULK AT MOST 1048576: true; the input reads as it did. -/
def superBackUptoRow : OpenClaim := { program := "ythfghomnbldmfaa", sum := "1d4344bf58ff5a2e5cb56f70c21cd70a14cd2b152d7dc9b796ba08e4e99bb4cf", func := "lamella/lamellalaw08.SuperBack", spec := "superBack", unfollowed := true, recurses := true, apart := false, narrowed := true }
def SuperBackUptoSaid : Prop := superBackUptoRow.holds Try.pinned (OpenSpec.upto superBackSpec)

/-- 'lamellalaw08.SuperTurned', WHERE WHAT IT READS IS OF BULK AT MOST 1048576: true; the input reads as it did. -/
def superTurnedUptoRow : OpenClaim := { program := "ythfghomnbldmfaa", sum := "1d4344bf58ff5a2e5cb56f70c21cd70a14cd2b152d7dc9b796ba08e4e99bb4cf", func := "lamella/lamellalaw08.SuperTurned", spec := "superTurned", unfollowed := true, recurses := true, apart := false, narrowed := true }
def SuperTurnedUptoSaid : Prop := superTurnedUptoRow.holds Try.pinned (OpenSpec.upto superTurnedSpec)

/-- 'lamellalaw08.SuperCut', WHERE WHAT IT READS IS OF BULK AT MOST 1048576: true; the input reads as it did. -/
def superCutUptoRow : OpenClaim := { program := "ythfghomnbldmfaa", sum := "1d4344bf58ff5a2e5cb56f70c21cd70a14cd2b152d7dc9b796ba08e4e99bb4cf", func := "lamella/lamellalaw08.SuperCut", spec := "superCut", unfollowed := true, recurses := true, apart := false, narrowed := true }
def SuperCutUptoSaid : Prop := superCutUptoRow.holds Try.pinned (OpenSpec.upto superCutSpec)

end Rows
end Go.Proofs.Ythfghomnbldmfaa
