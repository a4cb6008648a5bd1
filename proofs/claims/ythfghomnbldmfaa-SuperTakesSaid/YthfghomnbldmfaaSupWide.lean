/- Walks: the fields' addresses (wide, narrow). -/
import Derived.Test.YthfghomnbldmfaaRows
import Derived.Test.YthfghomnbldmfaaSupEnc
import Derived.Test.YthfghomnbldmfaaCurWText
import Derived.Test.YthfghomnbldmfaaCrcShown
import Derived.Deep.RegionHeld3
namespace Go.Proofs.Ythfghomnbldmfaa
set_option linter.unusedVariables false
set_option linter.unusedSimpArgs false
open Go.RowKit

/-- Addresses of fields of block g lie in block h. -/
def PtrsAt (w : World) (h g : Nat) (ps : List Nat) : Prop := ∀ i p, ps[i]? = some p → w.cell? ⟨h, i, none⟩ = some (.pointer (some ⟨g, p, none⟩))
theorem PtrsAt.below {w w' : World} {h g : Nat} {ps : List Nat} (H : PtrsAt w h g ps) (hb : Below w.heap.size w w') : PtrsAt w' h g ps := fun i p hp => by
  have := H i p hp
  exact (hb.cell (p := ⟨h, i, none⟩) (block_lt_of_cell this)).trans this
theorem PtrsAt.only {w w' : World} {h g : Nat} {ps : List Nat} {S : List Nat} (H : PtrsAt w h g ps) (ho : Only S w w') (hh : h ∉ S) : PtrsAt w' h g ps := fun i p hp => by
  have h1 := H i p hp
  exact (World.cell?_of_block (w := w) (a := ⟨h, i, none⟩) (ho.block h (block_lt_of_cell h1) hh)).trans h1
theorem ptrs_new (w : World) (g : Nat) (ps : List Nat) (cs : Array Value) (T : TypeId) (hc : cs.toList = ps.map fun p => Value.pointer (some ⟨g, p, none⟩)) : PtrsAt (w.alloc (.cells cs T)) w.heap.size g ps := fun i p hp => by
  rw [cell_of_row _ _ _ _ _ _ (heap_alloc_new w _), ← Array.getElem?_toList, hc, List.getElem?_map, hp]
  rfl
set_option maxHeartbeats 1600000 in
theorem wide_any (g : Nat) (s : Sup) (w : World) (hs : SupAt w g s) : Calls Try.prog 17 #[.pointer (some ⟨g, 0, none⟩)] w fun r w' =>
    (∃ h, r = .returned (.slice (some ⟨h, 0, none⟩) 7 7) ∧ w.heap.size ≤ h ∧ h < w'.heap.size ∧ PtrsAt w' h g [0, 2, 3, 4, 5, 6, 9]) ∧ Below w.heap.size w w' := by
  go_enter Try.func17, Try.ntmps17
  go_wp2_with fail
  go_region_held3 (fun _ => True) (trivial) (fail)
  go_wp2_with fail
  go_ret
  exact ⟨⟨_, rfl, Nat.le_refl _, by simp, ptrs_new w.drew g _ _ _ rfl⟩, (show Below w.heap.size w w.drew from ⟨rfl, rfl, rfl, Nat.le_refl _, fun _ _ => rfl⟩).alloc (by simp) _⟩
theorem narrow_any (g : Nat) (s : Sup) (w : World) (hs : SupAt w g s) : Calls Try.prog 19 #[.pointer (some ⟨g, 0, none⟩)] w fun r w' =>
    (∃ h, r = .returned (.slice (some ⟨h, 0, none⟩) 3 3) ∧ w.heap.size ≤ h ∧ h < w'.heap.size ∧ PtrsAt w' h g [1, 7, 8]) ∧ Below w.heap.size w w' := by
  go_enter Try.func19, Try.ntmps19
  go_wp2_with fail
  go_region_held3 (fun _ => True) (trivial) (fail)
  go_wp2_with fail
  go_ret
  exact ⟨⟨_, rfl, Nat.le_refl _, by simp, ptrs_new w.drew g _ _ _ rfl⟩, (show Below w.heap.size w w.drew from ⟨rfl, rfl, rfl, Nat.le_refl _, fun _ _ => rfl⟩).alloc (by simp) _⟩
end Go.Proofs.Ythfghomnbldmfaa
