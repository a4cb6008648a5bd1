/-
  No cell of these rows narrows 'for every input' (looked for: loops, veiled, ifaces, maps, wideKeys, modest, calm, conditions, laid).
  DERIVED. THE GIVEN ROWS OF THIS SEAT. 5 by the template 'for every input the law returns true; each argument reads behind the call as it read before'; 0 by the template 'total and deterministic' (their statements: YthkjgkdglphfcaaTotals.lean).
  GIVEN WITH THE SEED: the statements are not yours to turn. If you find one false, say at which input.
  Laid BY PROGRAM, IN A SANDBOX (cutbox-rows.mjs): the forced cells as the released guide's own fill.sh prints them over the translation f2c36ad2bbef0397… (all of the seat's roots in one cut). By AI agents, Wed Nov 11 2026. No macro, syntax, notation, axiom, sorry.
-/
import Derived.Test.YthkjgkdglphfcaaChecked
import GoSem.Claim
import GoSem.ClaimJoined
import GoSem.ClaimMapViews
import Derived.JoinedTies
import Derived.KernelRfl
namespace Go.Proofs.Ythkjgkdglphfcaa
/- THE CELL 'sum', in the pinned program and in every row, IS THE sha256 OF THE DUMP (.gsa) THAT YthkjgkdglphfcaaProg.lean LOADS. Nothing in Lean hashes anything: it is a label: what it is worth is what the hold of that sum in a sandbox is worth. -/
noncomputable def Try.pinned : Pinned := { name := "ythkjgkdglphfcaa", sum := "f2c36ad2bbef03973d531dab934f01b566159eb93496458e5767900b50e1b413", checked := Try.checked }
namespace Rows
def none {H : Type} : Left H := { results := [], args := [] }

/-- 'lamellalaw10.DirtabPuts': WHATEVER THE INPUT: true; the input reads as it did. -/
def dirtabPutsSpec : ChangeSpec := { name := "dirtabPuts", fn := fun _ => fun
  | [d] => { results := [.lit (.bool true)], args := [d] }
  | _ => none }
def dirtabPutsRow : OpenClaim := { program := "ythkjgkdglphfcaa", sum := "f2c36ad2bbef03973d531dab934f01b566159eb93496458e5767900b50e1b413", func := "lamella/lamellalaw10.DirtabPuts", spec := "dirtabPuts", unfollowed := true, recurses := true, apart := false }
def DirtabPutsSaid : Prop := dirtabPutsRow.holds Try.pinned (OpenSpec.ofChange dirtabPutsSpec)

/-- ITS FALSE NEIGHBOUR: 'it returns false'. Refute it at one input. -/
def dirtabPutsWrong : ChangeSpec := { name := "dirtabPuts", fn := fun _ => fun
  | [d] => { results := [.lit (.bool false)], args := [d] }
  | _ => none }
def DirtabPutsWrongFalsely : Prop := dirtabPutsRow.holds Try.pinned (OpenSpec.ofChange dirtabPutsWrong)

/-- 'lamellalaw10.DirtabTakes': WHATEVER THE INPUT: true; the input reads as it did. -/
def dirtabTakesSpec : ChangeSpec := { name := "dirtabTakes", fn := fun _ => fun
  | [d] => { results := [.lit (.bool true)], args := [d] }
  | _ => none }
def dirtabTakesRow : OpenClaim := { program := "ythkjgkdglphfcaa", sum := "f2c36ad2bbef03973d531dab934f01b566159eb93496458e5767900b50e1b413", func := "lamella/lamellalaw10.DirtabTakes", spec := "dirtabTakes", unfollowed := true, recurses := true, apart := false }
def DirtabTakesSaid : Prop := dirtabTakesRow.holds Try.pinned (OpenSpec.ofChange dirtabTakesSpec)

/-- ITS FALSE NEIGHBOUR: 'it returns false'. Refute it at one input. -/
def dirtabTakesWrong : ChangeSpec := { name := "dirtabTakes", fn := fun _ => fun
  | [d] => { results := [.lit (.bool false)], args := [d] }
  | _ => none }
def DirtabTakesWrongFalsely : Prop := dirtabTakesRow.holds Try.pinned (OpenSpec.ofChange dirtabTakesWrong)

/-- 'lamellalaw10.DirtabLooks': WHATEVER THE INPUT: true; the input reads as it did. -/
def dirtabLooksSpec : ChangeSpec := { name := "dirtabLooks", fn := fun _ => fun
  | [d1, d2] => { results := [.lit (.bool true)], args := [d1, d2] }
  | _ => none }
def dirtabLooksRow : OpenClaim := { program := "ythkjgkdglphfcaa", sum := "f2c36ad2bbef03973d531dab934f01b566159eb93496458e5767900b50e1b413", func := "lamella/lamellalaw10.DirtabLooks", spec := "dirtabLooks", unfollowed := true, recurses := true, apart := false }
def DirtabLooksSaid : Prop := dirtabLooksRow.holds Try.pinned (OpenSpec.ofChange dirtabLooksSpec)

/-- ITS FALSE NEIGHBOUR: 'it returns false'. Refute it at one input. -/
def dirtabLooksWrong : ChangeSpec := { name := "dirtabLooks", fn := fun _ => fun
  | [d1, d2] => { results := [.lit (.bool false)], args := [d1, d2] }
  | _ => none }
def DirtabLooksWrongFalsely : Prop := dirtabLooksRow.holds Try.pinned (OpenSpec.ofChange dirtabLooksWrong)

/-- 'lamellalaw10.DirtabBack': WHATEVER THE INPUT: true; the input reads as it did. -/
def dirtabBackSpec : ChangeSpec := { name := "dirtabBack", fn := fun _ => fun
  | [d1, d2] => { results := [.lit (.bool true)], args := [d1, d2] }
  | _ => none }
def dirtabBackRow : OpenClaim := { program := "ythkjgkdglphfcaa", sum := "f2c36ad2bbef03973d531dab934f01b566159eb93496458e5767900b50e1b413", func := "lamella/lamellalaw10.DirtabBack", spec := "dirtabBack", unfollowed := true, recurses := true, apart := false }
def DirtabBackSaid : Prop := dirtabBackRow.holds Try.pinned (OpenSpec.ofChange dirtabBackSpec)

/-- ITS FALSE NEIGHBOUR: 'it returns false'. Refute it at one input. -/
def dirtabBackWrong : ChangeSpec := { name := "dirtabBack", fn := fun _ => fun
  | [d1, d2] => { results := [.lit (.bool false)], args := [d1, d2] }
  | _ => none }
def DirtabBackWrongFalsely : Prop := dirtabBackRow.holds Try.pinned (OpenSpec.ofChange dirtabBackWrong)

/-- 'lamellalaw10.DirtabMiss': WHATEVER THE INPUT: true; the input reads as it did. -/
def dirtabMissSpec : ChangeSpec := { name := "dirtabMiss", fn := fun _ => fun
  | [d1, d2, d3] => { results := [.lit (.bool true)], args := [d1, d2, d3] }
  | _ => none }
def dirtabMissRow : OpenClaim := { program := "ythkjgkdglphfcaa", sum := "f2c36ad2bbef03973d531dab934f01b566159eb93496458e5767900b50e1b413", func := "lamella/lamellalaw10.DirtabMiss", spec := "dirtabMiss", unfollowed := true, recurses := true, apart := false }
def DirtabMissSaid : Prop := dirtabMissRow.holds Try.pinned (OpenSpec.ofChange dirtabMissSpec)

/-- ITS FALSE NEIGHBOUR: 'it returns false'. Refute it at one input. -/
def dirtabMissWrong : ChangeSpec := { name := "dirtabMiss", fn := fun _ => fun
  | [d1, d2, d3] => { results := [.lit (.bool false)], args := [d1, d2, d3] }
  | _ => none }
def DirtabMissWrongFalsely : Prop := dirtabMissRow.holds Try.pinned (OpenSpec.ofChange dirtabMissWrong)

/- THE SECOND FORM. 'bulk': how many values and letters a reading holds, each counted each time it is reached (what is shared counts as often as it is met; a slice's spare places count too). A statement '..UptoSaid' is the law's where the arguments, and the package variables that the reading takes, are together of bulk at most 1048576: NARROWER than '..Said'. Prove '..Said' where nothing that the law and all that it calls make is longer than what came in: it says more and counts as full. Else prove '..UptoSaid'. A law counts once. -/
mutual
def uptoBulk {H : Type} : DataW H → Nat
  | .lit (.string bytes) => bytes.length + 1
  | .lit _ => 1
  | .nil => 1
  | .ptr d => uptoBulk d + 1
  | .slice elems spare => uptoBulkAll elems + uptoBulkAll spare + 1
  | .agg parts => uptoBulkAll parts + 1
  | .iface _ d => uptoBulk d + 1
  | .map entries => uptoBulkEntries entries + 1
  | .held _ => 1
def uptoBulkAll {H : Type} : List (DataW H) → Nat
  | [] => 0
  | d :: r => uptoBulk d + uptoBulkAll r
def uptoBulkEntries {H : Type} : List (Lit × DataW H) → Nat
  | [] => 0
  | x :: r => uptoBulkEntry x + uptoBulkEntries r
def uptoBulkEntry {H : Type} : Lit × DataW H → Nat
  | (.string bytes, d) => bytes.length + uptoBulk d + 1
  | (_, d) => uptoBulk d + 1
 end
def uptoSmall : (H : Type) → List (DataW H) → Bool := fun _ ds => decide (uptoBulkAll ds ≤ 1048576)
def OpenSpec.upto (s : _root_.Go.ChangeSpec) : _root_.Go.OpenSpec := { _root_.Go.OpenSpec.ofChange s with cond := some uptoSmall }

/-- 'lamellalaw10.DirtabPuts', WHERE WHAT IT READS IS OF BULK AT MOST 1048576: true; the input reads as it did. -/
def dirtabPutsUptoRow : OpenClaim := { program := "ythkjgkdglphfcaa", sum := "f2c36ad2bbef03973d531dab934f01b566159eb93496458e5767900b50e1b413", func := "lamella/lamellalaw10.DirtabPuts", spec := "dirtabPuts", unfollowed := true, recurses := true, apart := false, narrowed := true }
def DirtabPutsUptoSaid : Prop := dirtabPutsUptoRow.holds Try.pinned (OpenSpec.upto dirtabPutsSpec)

/-- 'lamellalaw10.DirtabTakes', WHERE WHAT IT READS IS OF BULK AT MOST 1048576: true; the input reads as it did. -/
def dirtabTakesUptoRow : OpenClaim := { program := "ythkjgkdglphfcaa", sum := "f2c36ad2bbef03973d531dab934f01b566159eb93496458e5767900b50e1b413", func := "lamella/lamellalaw10.DirtabTakes", spec := "dirtabTakes", unfollowed := true, recurses := true, apart := false, narrowed := true }
def DirtabTakesUptoSaid : Prop := dirtabTakesUptoRow.holds Try.pinned (OpenSpec.upto dirtabTakesSpec)

/-- 'lamellalaw10.DirtabLooks', WHERE WHAT IT READS IS OF BULK AT MOST 1048576: true; the input reads as it did. -/
def dirtabLooksUptoRow : OpenClaim := { program := "ythkjgkdglphfcaa", sum := "f2c36ad2bbef03973d531dab934f01b566159eb93496458e5767900b50e1b413", func := "lamella/lamellalaw10.DirtabLooks", spec := "dirtabLooks", unfollowed := true, recurses := true, apart := false, narrowed := true }
def DirtabLooksUptoSaid : Prop := dirtabLooksUptoRow.holds Try.pinned (OpenSpec.upto dirtabLooksSpec)

/-- 'lamellalaw10.DirtabBack', WHERE WHAT IT READS IS OF BULK AT MOST 1048576: true; the input reads as it did. -/
def dirtabBackUptoRow : OpenClaim := { program := "ythkjgkdglphfcaa", sum := "f2c36ad2bbef03973d531dab934f01b566159eb93496458e5767900b50e1b413", func := "lamella/lamellalaw10.DirtabBack", spec := "dirtabBack", unfollowed := true, recurses := true, apart := false, narrowed := true }
def DirtabBackUptoSaid : Prop := dirtabBackUptoRow.holds Try.pinned (OpenSpec.upto dirtabBackSpec)

/-- 'lamellalaw10.DirtabMiss', WHERE WHAT IT READS IS OF BULK AT MOST 1048576: true; the input reads as it did. -/
def dirtabMissUptoRow : OpenClaim := { program := "ythkjgkdglphfcaa", sum := "f2c36ad2bbef03973d531dab934f01b566159eb93496458e5767900b50e1b413", func := "lamella/lamellalaw10.DirtabMiss", spec := "dirtabMiss", unfollowed := true, recurses := true, apart := false, narrowed := true }
def DirtabMissUptoSaid : Prop := dirtabMissUptoRow.holds Try.pinned (OpenSpec.upto dirtabMissSpec)

end Rows
end Go.Proofs.Ythkjgkdglphfcaa
