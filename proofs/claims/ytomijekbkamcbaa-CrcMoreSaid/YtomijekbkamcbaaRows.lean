/-
  No cell of these rows narrows 'for every input' (looked for: loops, veiled, ifaces, maps, wideKeys, modest, calm, conditions, laid).
  DERIVED. THE GIVEN ROWS OF THIS SEAT. 6 by the template 'for every input the law returns true; each argument reads behind the call as it read before'; 0 by the template 'total and deterministic' (their statements: YtomijekbkamcbaaTotals.lean).
  GIVEN WITH THE SEED: the statements are not yours to turn. If you find one false, say at which input.
  Laid BY PROGRAM, IN A SANDBOX (cutbox-rows.mjs): the forced cells as the released guide's own fill.sh prints them over the translation b3cddf5d9d89ace7… (all of the seat's roots in one cut). By AI agents, Wed Nov 11 2026. No macro, syntax, notation, axiom, sorry.
-/
import Derived.Test.YtomijekbkamcbaaChecked
import GoSem.Claim
import GoSem.ClaimJoined
import GoSem.ClaimMapViews
import Derived.JoinedTies
import Derived.KernelRfl
namespace Go.Proofs.Ytomijekbkamcbaa
/- THE CELL 'sum', in the pinned program and in every row, IS THE sha256 OF THE DUMP (.gsa) THAT YtomijekbkamcbaaProg.lean LOADS. Nothing in Lean hashes anything: it is a label: what it is worth is what the hold of that sum in a sandbox is worth. -/
noncomputable def Try.pinned : Pinned := { name := "ytomijekbkamcbaa", sum := "b3cddf5d9d89ace779fd46fbc3865fe743f1a4c7a2424b5ed4389ef8c5e15d45", checked := Try.checked }
namespace Rows
def none {H : Type} : Left H := { results := [], args := [] }

/-- 'lamellalaw02.CrcTables': WHATEVER THE INPUT: true; the input reads as it did. -/
def crcTablesSpec : ChangeSpec := { name := "crcTables", fn := fun _ => fun
  | [d] => { results := [.lit (.bool true)], args := [d] }
  | _ => none }
def crcTablesRow : OpenClaim := { program := "ytomijekbkamcbaa", sum := "b3cddf5d9d89ace779fd46fbc3865fe743f1a4c7a2424b5ed4389ef8c5e15d45", func := "lamella/lamellalaw02.CrcTables", spec := "crcTables", apart := false }
def CrcTablesSaid : Prop := crcTablesRow.holds Try.pinned (OpenSpec.ofChange crcTablesSpec)

/-- ITS FALSE NEIGHBOUR: 'it returns false'. Refute it at one input. -/
def crcTablesWrong : ChangeSpec := { name := "crcTables", fn := fun _ => fun
  | [d] => { results := [.lit (.bool false)], args := [d] }
  | _ => none }
def CrcTablesWrongFalsely : Prop := crcTablesRow.holds Try.pinned (OpenSpec.ofChange crcTablesWrong)

/-- 'lamellalaw02.CrcSums': WHATEVER THE INPUT: true; the input reads as it did. -/
def crcSumsSpec : ChangeSpec := { name := "crcSums", fn := fun _ => fun
  | [d] => { results := [.lit (.bool true)], args := [d] }
  | _ => none }
def crcSumsRow : OpenClaim := { program := "ytomijekbkamcbaa", sum := "b3cddf5d9d89ace779fd46fbc3865fe743f1a4c7a2424b5ed4389ef8c5e15d45", func := "lamella/lamellalaw02.CrcSums", spec := "crcSums", apart := false }
def CrcSumsSaid : Prop := crcSumsRow.holds Try.pinned (OpenSpec.ofChange crcSumsSpec)

/-- ITS FALSE NEIGHBOUR: 'it returns false'. Refute it at one input. -/
def crcSumsWrong : ChangeSpec := { name := "crcSums", fn := fun _ => fun
  | [d] => { results := [.lit (.bool false)], args := [d] }
  | _ => none }
def CrcSumsWrongFalsely : Prop := crcSumsRow.holds Try.pinned (OpenSpec.ofChange crcSumsWrong)

/-- 'lamellalaw02.CrcMore': WHATEVER THE INPUT: true; the input reads as it did. -/
def crcMoreSpec : ChangeSpec := { name := "crcMore", fn := fun _ => fun
  | [d1, d2, d3] => { results := [.lit (.bool true)], args := [d1, d2, d3] }
  | _ => none }
def crcMoreRow : OpenClaim := { program := "ytomijekbkamcbaa", sum := "b3cddf5d9d89ace779fd46fbc3865fe743f1a4c7a2424b5ed4389ef8c5e15d45", func := "lamella/lamellalaw02.CrcMore", spec := "crcMore", apart := false }
def CrcMoreSaid : Prop := crcMoreRow.holds Try.pinned (OpenSpec.ofChange crcMoreSpec)

/-- ITS FALSE NEIGHBOUR: 'it returns false'. Refute it at one input. -/
def crcMoreWrong : ChangeSpec := { name := "crcMore", fn := fun _ => fun
  | [d1, d2, d3] => { results := [.lit (.bool false)], args := [d1, d2, d3] }
  | _ => none }
def CrcMoreWrongFalsely : Prop := crcMoreRow.holds Try.pinned (OpenSpec.ofChange crcMoreWrong)

/-- 'lamellalaw02.CrcRows': WHATEVER THE INPUT: true; the input reads as it did. -/
def crcRowsSpec : ChangeSpec := { name := "crcRows", fn := fun _ => fun
  | [d] => { results := [.lit (.bool true)], args := [d] }
  | _ => none }
def crcRowsRow : OpenClaim := { program := "ytomijekbkamcbaa", sum := "b3cddf5d9d89ace779fd46fbc3865fe743f1a4c7a2424b5ed4389ef8c5e15d45", func := "lamella/lamellalaw02.CrcRows", spec := "crcRows", apart := false }
def CrcRowsSaid : Prop := crcRowsRow.holds Try.pinned (OpenSpec.ofChange crcRowsSpec)

/-- ITS FALSE NEIGHBOUR: 'it returns false'. Refute it at one input. -/
def crcRowsWrong : ChangeSpec := { name := "crcRows", fn := fun _ => fun
  | [d] => { results := [.lit (.bool false)], args := [d] }
  | _ => none }
def CrcRowsWrongFalsely : Prop := crcRowsRow.holds Try.pinned (OpenSpec.ofChange crcRowsWrong)

/-- 'lamellalaw02.CrcTurned': WHATEVER THE INPUT: true; the input reads as it did. -/
def crcTurnedSpec : ChangeSpec := { name := "crcTurned", fn := fun _ => fun
  | [d1, d2, d3] => { results := [.lit (.bool true)], args := [d1, d2, d3] }
  | _ => none }
def crcTurnedRow : OpenClaim := { program := "ytomijekbkamcbaa", sum := "b3cddf5d9d89ace779fd46fbc3865fe743f1a4c7a2424b5ed4389ef8c5e15d45", func := "lamella/lamellalaw02.CrcTurned", spec := "crcTurned", apart := false }
def CrcTurnedSaid : Prop := crcTurnedRow.holds Try.pinned (OpenSpec.ofChange crcTurnedSpec)

/-- ITS FALSE NEIGHBOUR: 'it returns false'. Refute it at one input. -/
def crcTurnedWrong : ChangeSpec := { name := "crcTurned", fn := fun _ => fun
  | [d1, d2, d3] => { results := [.lit (.bool false)], args := [d1, d2, d3] }
  | _ => none }
def CrcTurnedWrongFalsely : Prop := crcTurnedRow.holds Try.pinned (OpenSpec.ofChange crcTurnedWrong)

/-- 'lamellalaw02.CrcAffine': WHATEVER THE INPUT: true; the input reads as it did. -/
def crcAffineSpec : ChangeSpec := { name := "crcAffine", fn := fun _ => fun
  | [d1, d2, d3] => { results := [.lit (.bool true)], args := [d1, d2, d3] }
  | _ => none }
def crcAffineRow : OpenClaim := { program := "ytomijekbkamcbaa", sum := "b3cddf5d9d89ace779fd46fbc3865fe743f1a4c7a2424b5ed4389ef8c5e15d45", func := "lamella/lamellalaw02.CrcAffine", spec := "crcAffine", apart := false }
def CrcAffineSaid : Prop := crcAffineRow.holds Try.pinned (OpenSpec.ofChange crcAffineSpec)

/-- ITS FALSE NEIGHBOUR: 'it returns false'. Refute it at one input. -/
def crcAffineWrong : ChangeSpec := { name := "crcAffine", fn := fun _ => fun
  | [d1, d2, d3] => { results := [.lit (.bool false)], args := [d1, d2, d3] }
  | _ => none }
def CrcAffineWrongFalsely : Prop := crcAffineRow.holds Try.pinned (OpenSpec.ofChange crcAffineWrong)

/- THE SECOND FORM. 'bulk': how many values and letters a reading holds, each counted each time it is reached (what is shared counts as often as it is met; a slice's spare places count too). A statement '..UptoSaid' is the law's where the arguments, and the package variables that the reading takes, are together of bulk at most 1048576: NARROWER than '..Said'. Prove '..Said' where nothing that the law and all that it calls make is longer than what came in: it says more and counts as full. Else prove '..UptoSaid'. A law counts once. -/
mutual
def uptoBulk {H : Type} : DataW H → Nat
  | .lit (.string bytes) => bytes.length + 1
  | .lit _ => 1
  | .nil => 1
  | .ptr d => uptoBulk d + 1
  | .slice elems spare => uptoBulkAll elems + uptoBulkAll spare + 1
  | .agg parts => uptoBulkAll parts + 1
  | .iface _ d => uptoBulk d + 1
  | .map entries => uptoBulkEntries entries + 1
  | .held _ => 1
def uptoBulkAll {H : Type} : List (DataW H) → Nat
  | [] => 0
  | d :: r => uptoBulk d + uptoBulkAll r
def uptoBulkEntries {H : Type} : List (Lit × DataW H) → Nat
  | [] => 0
  | x :: r => uptoBulkEntry x + uptoBulkEntries r
def uptoBulkEntry {H : Type} : Lit × DataW H → Nat
  | (.string bytes, d) => bytes.length + uptoBulk d + 1
  | (_, d) => uptoBulk d + 1
 end
def uptoSmall : (H : Type) → List (DataW H) → Bool := fun _ ds => decide (uptoBulkAll ds ≤ 1048576)
def OpenSpec.upto (s : _root_.Go.ChangeSpec) : _root_.Go.OpenSpec := { _root_.Go.OpenSpec.ofChange s with cond := some uptoSmall }

/-- 'lamellalaw02.CrcTables', WHERE WHAT IT READS IS OF BULK AT MOST 1048576: true; the input reads as it did. -/
def crcTablesUptoRow : OpenClaim := { program := "ytomijekbkamcbaa", sum := "b3cddf5d9d89ace779fd46fbc3865fe743f1a4c7a2424b5ed4389ef8c5e15d45", func := "lamella/lamellalaw02.CrcTables", spec := "crcTables", apart := false, narrowed := true }
def CrcTablesUptoSaid : Prop := crcTablesUptoRow.holds Try.pinned (OpenSpec.upto crcTablesSpec)

/-- 'lamellalaw02.CrcSums', WHERE WHAT IT READS IS OF BULK AT MOST 1048576: true; the input reads as it did. -/
def crcSumsUptoRow : OpenClaim := { program := "ytomijekbkamcbaa", sum := "b3cddf5d9d89ace779fd46fbc3865fe743f1a4c7a2424b5ed4389ef8c5e15d45", func := "lamella/lamellalaw02.CrcSums", spec := "crcSums", apart := false, narrowed := true }
def CrcSumsUptoSaid : Prop := crcSumsUptoRow.holds Try.pinned (OpenSpec.upto crcSumsSpec)

/-- 'lamellalaw02.CrcMore', WHERE WHAT IT READS IS OF BULK AT MOST 1048576: true; the input reads as it did. -/
def crcMoreUptoRow : OpenClaim := { program := "ytomijekbkamcbaa", sum := "b3cddf5d9d89ace779fd46fbc3865fe743f1a4c7a2424b5ed4389ef8c5e15d45", func := "lamella/lamellalaw02.CrcMore", spec := "crcMore", apart := false, narrowed := true }
def CrcMoreUptoSaid : Prop := crcMoreUptoRow.holds Try.pinned (OpenSpec.upto crcMoreSpec)

/-- 'lamellalaw02.CrcRows', WHERE WHAT IT READS IS OF BULK AT MOST 1048576: true; the input reads as it did. -/
def crcRowsUptoRow : OpenClaim := { program := "ytomijekbkamcbaa", sum := "b3cddf5d9d89ace779fd46fbc3865fe743f1a4c7a2424b5ed4389ef8c5e15d45", func := "lamella/lamellalaw02.CrcRows", spec := "crcRows", apart := false, narrowed := true }
def CrcRowsUptoSaid : Prop := crcRowsUptoRow.holds Try.pinned (OpenSpec.upto crcRowsSpec)

/-- 'lamellalaw02.CrcTurned', WHERE WHAT IT READS IS OF BULK AT MOST 1048576: true; the input reads as it did. -/
def crcTurnedUptoRow : OpenClaim := { program := "ytomijekbkamcbaa", sum := "b3cddf5d9d89ace779fd46fbc3865fe743f1a4c7a2424b5ed4389ef8c5e15d45", func := "lamella/lamellalaw02.CrcTurned", spec := "crcTurned", apart := false, narrowed := true }
def CrcTurnedUptoSaid : Prop := crcTurnedUptoRow.holds Try.pinned (OpenSpec.upto crcTurnedSpec)

/-- 'lamellalaw02.CrcAffine', WHERE WHAT IT READS IS OF BULK AT MOST 1048576: true; the input reads as it did. -/
def crcAffineUptoRow : OpenClaim := { program := "ytomijekbkamcbaa", sum := "b3cddf5d9d89ace779fd46fbc3865fe743f1a4c7a2424b5ed4389ef8c5e15d45", func := "lamella/lamellalaw02.CrcAffine", spec := "crcAffine", apart := false, narrowed := true }
def CrcAffineUptoSaid : Prop := crcAffineUptoRow.holds Try.pinned (OpenSpec.upto crcAffineSpec)

end Rows
end Go.Proofs.Ytomijekbkamcbaa
