/- Walk: chapter 8's shown: the document's examples. -/
import Derived.Test.YthfghomnbldmfaaRows
import Derived.Test.YthfghomnbldmfaaSupTake
import Derived.Test.YthfghomnbldmfaaSupRefPut
import Derived.Test.YthfghomnbldmfaaCrcShown
namespace Go.Proofs.Ythfghomnbldmfaa
set_option linter.unusedVariables false
set_option linter.unusedSimpArgs false
open Go.RowKit

theorem supB_zero : supB sup0 = false := by decide
theorem putBs_zero : putBs sup0 = [] := by unfold putBs; rw [supB_zero]; rfl
theorem putE_zero : putE sup0 = 1 := by unfold putE; rw [supB_zero]; rfl
theorem take_nil : takeS [] = sup0 ∧ takeE [] = 2 := take_bad fun h => by have := h.1; simp at this
theorem tab_new (w : World) : TabAt (w.alloc (.cells tab 27)) w.heap.size Crc.entry := tab_at _ w.heap.size (0, 0) (heap_alloc_new w _)
theorem tab_below {w w' : World} {g : Nat} (h : TabAt w g Crc.entry) (hg : g < w.heap.size) (hb : Below w.heap.size w w') : TabAt w' g Crc.entry := fun i hi => (hb.cell (p := ⟨g, i, none⟩) hg).trans (h i hi)
set_option maxRecDepth 100000 in
set_option maxHeartbeats 800000 in
theorem shown_any (w : World) : Calls Try.prog 8 #[] w fun e w' => e = .returned (.bool true) ∧ Below w.heap.size w w' := by
  have hz := (zero_of_info tab_zero).1
  go_enter Try.func8, Try.ntmps8
  go_wp2_with fail
  refine (newB w).mono ?_
  rintro e w1 ⟨rfl, hb1⟩
  have HB2 : Hid (Below w.heap.size w (w1.alloc (.cells tab 27))) := hb1.alloc hb1.size _
  have HT2 := Lib.hid (tab_new w1)
  have HL2 : Hid (w1.heap.size < (w1.alloc (.cells tab 27)).heap.size) := by show w1.heap.size < _; simp
  go_wp2_with (refine wpList_store_whole rfl 27 _ _ rfl w1.heap.size tab rfl rfl 27 (tabTo 0) (heap_alloc_new w1 _) tabSize (by rw [tab, tabTo_size, tabTo_size]) tab_one _ (setRow_last w1 _ _ _) ?_)
  clear hb1
  generalize w1.alloc (.cells tab 27) = w2 at *
  have HP := Lib.hid (put_any w1.heap.size sup0 w2 HT2.out HL2.out)
  rw [putBs_zero, putE_zero] at HP
  refine HP.out.mono ?_
  rintro r w3 ⟨A3, c3, rfl, hown3, hb3⟩
  have HK := Lib.hid (take_any w1.heap.size none 0 0 [] w3 (tab_below HT2.out HL2.out hb3) (Nat.lt_of_lt_of_le HL2.out hb3.size) (Bytes.nil _ _) (Nat.le_refl _) (by omega))
  rw [take_nil.1, take_nil.2] at HK
  unfold supCells at HK
  have HB3 : Hid (Below w.heap.size w w3) := below_then HB2.out hb3
  clear hown3 hb3 HP
  go_wp2_with fail
  refine HK.out.mono ?_
  rintro r w4 ⟨rfl, hb4⟩
  go_wp2_with fail
  go_ret
  exact ⟨rfl, (below_then HB3.out hb4).alloc (by have := (below_then HB3.out hb4).size; omega) _⟩
end Go.Proofs.Ythfghomnbldmfaa
