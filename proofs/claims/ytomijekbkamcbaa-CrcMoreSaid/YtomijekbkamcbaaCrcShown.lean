/- The walk of 'shown': the document's examples hold. -/
import Derived.Test.YtomijekbkamcbaaRows
import Derived.Test.YtomijekbkamcbaaCrcWalks
import Derived.WalkKit
import Derived.WalkSpells
import Derived.WalkLawsBesides
import Derived.Lib.Hide
import Derived.Lib.SmallJoins
import Derived.Deep.QuietTactic
import Derived.BigQuiet
namespace Go.Proofs.Ytomijekbkamcbaa
set_option linter.unusedVariables false
set_option linter.unusedSimpArgs false
open Go.RowKit

theorem tabSize : (Try.prog.info? 25).map (·.size) = some tab.size := (zero_of_info tab_zero).2.trans (by rw [tab, tabTo_size])
theorem tab_at (w : World) (g : Nat) (fr : Nat × Nat) (hg : w.heap[g]? = some (.cells tab 25 fr)) : TabAt w g Crc.entry := fun i hi => by
  rw [cell_of_row w g i tab _ fr hg]
  rw [tab, tabTo_at 256 i hi, tabAt, if_pos hi]
theorem entry_lt256 : ∀ i, i < 256 → Crc.entry i < 4294967296 := fun _ h => Crc.entry_lt h

theorem newB (w : World) : Calls Try.prog 10 #[] w fun e w' => e = .returned (.agg tab) ∧ Below w.heap.size w w' :=
  (new_any w).mono fun e w' ⟨he, hw⟩ => ⟨he, by rw [← hw]; exact ((Below.refl _ _).alloc (Nat.le_refl _) _).alloc (by simp) _⟩

set_option maxRecDepth 100000 in
set_option maxHeartbeats 400000 in
theorem shown_any (w : World) : Calls Try.prog 9 #[] w fun e w' => e = .returned (.bool true) ∧ Below w.heap.size w w' := by
  have hz := (zero_of_info tab_zero).1
  have kc := fun (w : World) (C : Array Value) (n c g : Nat) (hg : g = w.heap.size) => Joins.run_convert_bytes_const_at (P := Try.prog) w 29 5 C n c g hg Try.underlying29 Try.underlying5
  go_enter Try.func9, Try.ntmps9
  go_wp2_with fail
  refine (newB w).mono ?_
  rintro e w1 ⟨rfl, hb1⟩
  go_wp2_with (refine wpList_store_whole rfl 25 _ _ rfl w1.heap.size tab rfl rfl 25 (tabTo 0) (heap_alloc_new w1 _) tabSize (by rw [tab, tabTo_size, tabTo_size]) tab_one _ (setRow_last w1 _ _ _) ?_)
  have hd : Bytes ((w1.alloc (.cells tab 25)).alloc (.cells #[.int .u8 49, .int .u8 50, .int .u8 51, .int .u8 52, .int .u8 53, .int .u8 54, .int .u8 55, .int .u8 56, .int .u8 57] 5 (9, 10))) (some ⟨w1.heap.size + 1, 0, none⟩) 9 [49, 50, 51, 52, 53, 54, 55, 56, 57] :=
    bytes_lit _ _ _ _ _ _ rfl (heap_alloc2_new w1 _ _)
  refine ((sum_any w1.heap.size Crc.entry _ 9 9 _ _ (tab_at _ _ _ (heap_alloc2_old w1 _ _)) entry_lt256 hd (by omega)).mono ?_)
  rintro e w2 ⟨rfl, rfl⟩
  rw [show Crc.more Crc.entry 0 [49, 50, 51, 52, 53, 54, 55, 56, 57] = 3421780262 from Crc.sum_digits]
  go_wp2_with fail
  refine ((sum_any w1.heap.size Crc.entry none 0 0 [] _ (tab_at _ _ _ (heap_alloc2_old w1 _ _)) entry_lt256 (Bytes.nil _ _) (by omega)).mono ?_)
  rintro e w2 ⟨rfl, rfl⟩
  rw [show Crc.more Crc.entry 0 [] = 0 from Crc.sum_nil]
  go_wp2_with fail
  have hr : RowsIn (((((w1.alloc (.cells tab 25)).alloc (.cells #[.int .u8 49, .int .u8 50, .int .u8 51, .int .u8 52, .int .u8 53, .int .u8 54, .int .u8 55, .int .u8 56, .int .u8 57] 5 (9, 10))).alloc
      (.cells #[.int .u8 49, .int .u8 50, .int .u8 51, .int .u8 52] 5 (4, 5))).alloc (.cells #[.int .u8 53, .int .u8 54, .int .u8 55, .int .u8 56, .int .u8 57] 5 (5, 6))).alloc
      (.cells #[.slice (some ⟨w1.heap.size + 1 + 1, 0, none⟩) 4 4, .slice (some ⟨w1.heap.size + 1 + 1 + 1, 0, none⟩) 5 5] 29)) (some ⟨w1.heap.size + 1 + 1 + 1 + 1, 0, none⟩) 2
      [⟨some ⟨w1.heap.size + 1 + 1, 0, none⟩, 4, 4, [49, 50, 51, 52]⟩, ⟨some ⟨w1.heap.size + 1 + 1 + 1, 0, none⟩, 5, 5, [53, 54, 55, 56, 57]⟩] := by
    refine ⟨rfl, fun _ => ⟨_, 0, rfl, fun j x hx => ?_⟩, fun x hx => ?_⟩
    · rw [cell_of_row _ _ _ _ _ _ (heap_at_new _ _ _ (by simp))]
      match j, hx with
      | 0, hx => simp at hx; subst hx; rfl
      | 1, hx => simp at hx; subst hx; rfl
      | j + 2, hx => simp at hx
    · simp only [List.mem_cons, List.not_mem_nil, or_false] at hx
      rcases hx with rfl | rfl
      · exact ⟨bytes_lit _ _ [49, 50, 51, 52] _ _ _ rfl (heap_at_old _ _ _ (by simp) (heap_at_old _ _ _ (by simp) (heap_at_new _ _ _ (by simp)))), by show (4 : Nat) ≤ _; omega⟩
      · exact ⟨bytes_lit _ _ [53, 54, 55, 56, 57] _ _ _ rfl (heap_at_old _ _ _ (by simp) (heap_at_new _ _ _ (by simp))), by show (5 : Nat) ≤ _; omega⟩
  have ht : TabAt (((((w1.alloc (.cells tab 25)).alloc (.cells #[.int .u8 49, .int .u8 50, .int .u8 51, .int .u8 52, .int .u8 53, .int .u8 54, .int .u8 55, .int .u8 56, .int .u8 57] 5 (9, 10))).alloc
      (.cells #[.int .u8 49, .int .u8 50, .int .u8 51, .int .u8 52] 5 (4, 5))).alloc (.cells #[.int .u8 53, .int .u8 54, .int .u8 55, .int .u8 56, .int .u8 57] 5 (5, 6))).alloc
      (.cells #[.slice (some ⟨w1.heap.size + 1 + 1, 0, none⟩) 4 4, .slice (some ⟨w1.heap.size + 1 + 1 + 1, 0, none⟩) 5 5] 29)) w1.heap.size Crc.entry :=
    tab_at _ _ (0, 0) (heap_at_old _ _ _ (by simp; omega) (heap_at_old _ _ _ (by simp; omega) (heap_at_old _ _ _ (by simp; omega) (heap_at_old _ _ _ (by simp) (heap_at_new _ _ _ rfl)))))
  refine ((row_any w1.heap.size Crc.entry _ 2 2 _ _ ht entry_lt256 hr (by omega)).mono ?_)
  rintro e w2 ⟨rfl, rfl⟩
  rw [show Crc.more Crc.entry 0 (List.flatten (List.map (·.bs) [(⟨some ⟨w1.heap.size + 1 + 1, 0, none⟩, 4, 4, [49, 50, 51, 52]⟩ : RowOf), ⟨some ⟨w1.heap.size + 1 + 1 + 1, 0, none⟩, 5, 5, [53, 54, 55, 56, 57]⟩])) = 3421780262 from Crc.sum_digits]
  clear hd hr ht
  go_wp2_with fail
  go_ret
  have hs := hb1.size
  exact ⟨rfl, ((((hb1.alloc hs _).alloc (by simp; omega) _).alloc (by simp; omega) _).alloc (by simp; omega) _).alloc (by simp; omega) _⟩

end Go.Proofs.Ytomijekbkamcbaa
