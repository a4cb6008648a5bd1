/- The walk of 'shown': the document's examples hold. -/
import Derived.Test.YthfghomnbldmfaaRows
import Derived.Test.YthfghomnbldmfaaCrcWalks
import Derived.WalkKit
import Derived.WalkSpells
import Derived.WalkLawsBesides
import Derived.Lib.Hide
import Derived.Lib.SmallJoins
import Derived.Deep.QuietTactic
import Derived.BigQuiet
namespace Go.Proofs.Ythfghomnbldmfaa
set_option linter.unusedVariables false
set_option linter.unusedSimpArgs false
open Go.RowKit

theorem tabSize : (Try.prog.info? 27).map (·.size) = some tab.size := (zero_of_info tab_zero).2.trans (by rw [tab, tabTo_size])
theorem tab_at (w : World) (g : Nat) (fr : Nat × Nat) (hg : w.heap[g]? = some (.cells tab 27 fr)) : TabAt w g Crc.entry := fun i hi => by
  rw [cell_of_row w g i tab _ fr hg]
  rw [tab, tabTo_at 256 i hi, tabAt, if_pos hi]
theorem entry_lt256 : ∀ i, i < 256 → Crc.entry i < 4294967296 := fun _ h => Crc.entry_lt h

theorem newB (w : World) : Calls Try.prog 9 #[] w fun e w' => e = .returned (.agg tab) ∧ Below w.heap.size w w' :=
  (new_any w).mono fun e w' ⟨he, hw⟩ => ⟨he, by rw [← hw]; exact ((Below.refl _ _).alloc (Nat.le_refl _) _).alloc (by simp) _⟩


end Go.Proofs.Ythfghomnbldmfaa
