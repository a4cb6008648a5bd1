/- Memory facts for the walks of the CRC functions: a whole table stored into a block, bytes that a slice holds. Plain lemmas over any program; no conditions but those stated. -/
import Derived.Test.YthfghomnbldmfaaMem
import Derived.WalkKit
import Derived.Deep.WholeRow
import Derived.Lib.Hide
namespace Go.Proofs.Ythfghomnbldmfaa
set_option linter.unusedVariables false
set_option linter.unusedSimpArgs false
open Go.RowKit

/-- A whole array stored at the head of a block that is known whole. -/
theorem wpList_store_whole {P : Program} {ops : Array Oper} {rest : List Oper} {o : Oper} {a : Act} {w : World} {Q : Exit → Act → World → Prop} (hgd : o.guard = none)
    (ty : TypeId) (x y : Operand) (ho : o.op = .store ty x y) (g : Nat) (cells : Array Value) (hx : a.eval x = .pointer (some ⟨g, 0, none⟩)) (hy : a.eval y = .agg cells)
    (t : TypeId) (old : Array Value) (hg : w.heap[g]? = some (.cells old t (0, 0))) (hi : (P.info? ty).map (·.size) = some cells.size)
    (hold : old.size = cells.size) (h1 : cells.all (·.oneCell') = true) (w' : World) (hw : w.setRow g cells = w')
    (h : wpList P ops Q rest (a.put o.dst undef) w') : wpList P ops Q (o :: rest) a w :=
  wpList_plain hgd fun _ hK => wp_store_row ty x y ho g cells hx hy t old hg hi hold h1 (hK _ _ (by rw [hw]; exact h))

theorem setRow_last (w : World) (c c' : Array Value) (t : TypeId) : (w.alloc (.cells c t)).setRow w.heap.size c' = w.alloc (.cells c' t) := World.setRow_alloc_new w c c' t
/-- The block before the last. -/
theorem setRow_lastButOne (w : World) (c c' : Array Value) (t : TypeId) (o : Obj) : ((w.alloc (.cells c t)).alloc o).setRow w.heap.size c' = (w.alloc (.cells c' t)).alloc o := by
  simp only [World.setRow, World.alloc]
  congr 1
  apply Array.ext
  · simp
  · intro i h1 h2
    simp only [Array.getElem_modify, Array.getElem_push, Array.size_push]
    by_cases h : w.heap.size = i
    · subst h; simp
    · by_cases h3 : i < w.heap.size
      · simp [h, h3, show i < w.heap.size + 1 by omega]
      · simp [h, h3, show ¬ i < w.heap.size + 1 by omega]

/-- A table of 256 numbers lies in block g. -/
def TabAt (w : World) (g : Nat) (t : Nat → Nat) : Prop := ∀ i, i < 256 → w.cell? ⟨g, i, none⟩ = some (.int .u32 (t i : Nat))
/-- A row as a slice of slices holds it: its address, length and room, and its bytes. -/
structure RowOf where
  A : Option Addr
  n : Nat
  c : Nat
  bs : List UInt8
/-- The slice's n cells are the rows l, each of which holds its bytes. -/
def RowsIn (w : World) (A : Option Addr) (n : Nat) (l : List RowOf) : Prop :=
  l.length = n ∧ (0 < n → ∃ b off, A = some ⟨b, off, none⟩ ∧ ∀ j x, l[j]? = some x → w.cell? ⟨b, off + j, none⟩ = some (.slice x.A x.n x.c)) ∧
  ∀ x ∈ l, Bytes w x.A x.n x.bs ∧ x.n ≤ 9223372036854775807

end Go.Proofs.Ythfghomnbldmfaa
