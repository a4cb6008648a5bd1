/- A superblock that came in by value: its ten numbers. -/
import Derived.Test.YthfghomnbldmfaaRows
import Derived.Test.YthfghomnbldmfaaSupMay
import Derived.WalkKit
import Derived.Deep.Fields
import Derived.Deep.Slices
namespace Go.Proofs.Ythfghomnbldmfaa
set_option linter.unusedVariables false
set_option linter.unusedSimpArgs false
open Go.RowKit Go.ChangeShapes Go.WideShapes Go.Deep

def fits (z : Int) : Prop := (Lit.int .i64 z).wf = true
structure SupFine (s : Sup) : Prop where
  size : fits s.size
  inodes : fits s.inodes
  inodeAt : fits s.inodeAt
  dirAt : fits s.dirAt
  fragAt : fits s.fragAt
  idAt : fits s.idAt
  xattrAt : fits s.xattrAt
  ids : fits s.ids
  frags : fits s.frags
  root : fits s.root
theorem sup_in {H : Type} {enc : TypeId × Value → H} {w : World} {base : Nat} {sp : Nat → Bool} {held : Bool} {cs : Array Value} {d : DataW H} {p : List MemPlace} (h : DataW.Trod enc Try.prog w base sp held 23 (.agg cs) d p) :
    ∃ s, cs = supCells s ∧ SupFine s := by
  obtain ⟨fuel, hf⟩ := h
  obtain ⟨ys, n', _, _, hcl, hyl, hf⟩ := DataW.trod_struct Try.underlying23 hf
  rw [show Try.prog.cellsOf 23 = 10 by kernel_rfl] at hcl
  obtain ⟨l⟩ := cs
  simp only [Value.cells] at hcl hf
  match l, hcl, ys, hyl with
  | [c0, c1, c2, c3, c4, c5, c6, c7, c8, c9], _, [y0, y1, y2, y3, y4, y5, y6, y7, y8, y9], _ =>
    obtain ⟨z0, g0, _, w0⟩ := DataW.trod_int Try.underlying3 (hf 0 _ rfl)
    obtain ⟨z1, g1, _, w1⟩ := DataW.trod_int Try.underlying3 (hf 1 _ rfl)
    obtain ⟨z2, g2, _, w2⟩ := DataW.trod_int Try.underlying3 (hf 2 _ rfl)
    obtain ⟨z3, g3, _, w3⟩ := DataW.trod_int Try.underlying3 (hf 3 _ rfl)
    obtain ⟨z4, g4, _, w4⟩ := DataW.trod_int Try.underlying3 (hf 4 _ rfl)
    obtain ⟨z5, g5, _, w5⟩ := DataW.trod_int Try.underlying3 (hf 5 _ rfl)
    obtain ⟨z6, g6, _, w6⟩ := DataW.trod_int Try.underlying3 (hf 6 _ rfl)
    obtain ⟨z7, g7, _, w7⟩ := DataW.trod_int Try.underlying3 (hf 7 _ rfl)
    obtain ⟨z8, g8, _, w8⟩ := DataW.trod_int Try.underlying3 (hf 8 _ rfl)
    obtain ⟨z9, g9, _, w9⟩ := DataW.trod_int Try.underlying3 (hf 9 _ rfl)
    have u1 : Try.prog.cellsOf 3 = 1 := by kernel_rfl
    simp [u1] at g0 g1 g2 g3 g4 g5 g6 g7 g8 g9
    subst g0 g1 g2 g3 g4 g5 g6 g7 g8 g9
    exact ⟨⟨z0, z1, z2, z3, z4, z5, z6, z7, z8, z9⟩, rfl, ⟨w0, w1, w2, w3, w4, w5, w6, w7, w8, w9⟩⟩
end Go.Proofs.Ythfghomnbldmfaa
