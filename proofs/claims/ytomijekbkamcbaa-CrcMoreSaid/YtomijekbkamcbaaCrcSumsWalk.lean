/- The walk of the law CrcSums. -/
import Derived.Test.YtomijekbkamcbaaRows
import Derived.Test.YtomijekbkamcbaaCrcShown
import Derived.WalkKit
import Derived.WalkSpells
import Derived.WalkLawsBesides
import Derived.Lib.Hide
import Derived.Lib.SmallJoins
import Derived.Deep.QuietTactic
import Derived.BigQuiet
namespace Go.Proofs.Ytomijekbkamcbaa
set_option linter.unusedVariables false
set_option linter.unusedSimpArgs false
open Go.RowKit

/-- One cell a byte: what append asks of the element's type. -/
theorem u8_info : (Try.prog.info? 5).map (fun i => (i.zero, i.size, i.bytes)) = some (some (.int .u8 0), 1, 1) := by kernel_rfl

/-- What 'few' gives, by a name of its own. -/
theorem few_named (A : Option Addr) (n c m : Nat) (w : World) (hm : m = min n 600) (hn : n ≤ 9223372036854775807) (hc : n ≤ c) :
    Calls Try.prog 12 #[.slice A n c] w fun e w' => e = .returned (.slice A m c) ∧ w = w' := by
  subst hm; exact few_any A n c w hn hc

set_option maxRecDepth 100000 in
set_option maxHeartbeats 400000 in
theorem crcSums_walk (A : Option Addr) (n c : Nat) (bs : List UInt8) (w : World) (h : Bytes w A n bs ∧ n ≤ c ∧ c ≤ maxLen) :
    Calls Try.prog 4 #[.slice A n c] w fun e w' => e = .returned (.bool true) ∧ Below w.heap.size w w' := by
  obtain ⟨hb, hnc, hcm⟩ := h
  have hcm : c ≤ 9223372036854775807 := by simpa [maxLen] using hcm
  have hz := (zero_of_info tab_zero).1
  obtain ⟨i0, hi, hz0, hz1, hz2⟩ := info_parts u8_info
  obtain ⟨m, hmin⟩ : ∃ m, m = min n 600 := ⟨_, rfl⟩
  have hm : m ≤ n := by omega
  have hm6 : m ≤ 600 := by omega
  have hb6 := hb.take hm
  have HM := Lib.hid hmin
  have HB := Lib.hid hb6
  clear hmin hb hb6
  generalize bs.take m = ds at *
  have HI := Lib.hid hi
  clear hi
  go_enter Try.func4, Try.ntmps4
  go_wp2_with fail
  refine (shown_any w).mono ?_
  rintro e w1 ⟨rfl, hb1⟩
  go_wp2_with fail
  refine (few_named A n c m w1 HM.out (by omega) hnc).mono ?_
  rintro e w' ⟨rfl, rfl⟩
  have hs1 := hb1.size
  have HB1 := (HB.out.below hb1).alloc (.cells #[] 5)
  have hown0 := owns_empty w1 5 (Nat.le_refl _)
  go_wp2_with (at_builtin; refine wpList_append_bytes _ rfl (.tmp 9) (.tmp 10) _ rfl w1.heap.size 5 i0 _ 1 Try.underlying29 HI.out hz0 hz1 hz2 rfl (.slice (some ⟨w1.heap.size, 0, none⟩) 0 0) 0 [] rfl hown0 A m c ds rfl HB1 (by simp only [maxLen]; omega) (by omega) (by simp) ?_; intro v2 w2 hown hgrow _)
  have hb2 := below_append (hb1.alloc hs1 _) hgrow hown0 hs1 (by simp; omega)
  simp only [Nat.zero_add, List.nil_append] at hown
  obtain ⟨A2, c2, rfl, hby, hmc2, hc2, _⟩ := own_form hown
  have hs2 := hb2.size
  clear hown hgrow hown0 HB1
  refine (newB w2).mono ?_
  rintro e w3 ⟨rfl, hb3⟩
  have ht := tab_at (w3.alloc (.cells tab 25)) w3.heap.size (0, 0) (heap_alloc_new w3 _)
  have hX := (hby.below hb3).alloc (.cells tab 25)
  have hY := ((HB.out.below hb2).below hb3).alloc (.cells tab 25)
  have hcx := run_string (P := Try.prog) hX 29 5 9 Try.underlying29 Try.underlying5 Try.underlying9 c2
  have hcy := run_string (P := Try.prog) hY 29 5 9 Try.underlying29 Try.underlying5 Try.underlying9 c
  go_wp2_with (refine wpList_store_whole rfl 25 _ _ rfl w3.heap.size tab rfl rfl 25 (tabTo 0) (heap_alloc_new w3 _) tabSize (by rw [tab, tabTo_size, tabTo_size]) tab_one _ (setRow_last w3 _ _ _) ?_)
  refine (sum_any w3.heap.size Crc.entry A2 m c2 ds _ ht entry_lt256 hX (by omega)).mono ?_
  rintro e w' ⟨rfl, rfl⟩
  go_wp2_with fail
  refine (refSum_any A m c ds _ hY (by omega)).mono ?_
  rintro e w' ⟨rfl, rfl⟩
  rw [show Crc.sum ds = Crc.more Crc.entry 0 ds from rfl]
  generalize Crc.more Crc.entry 0 ds = r at *
  go_wp2_with fail
  go_ret
  exact ⟨rfl, (below_then hb2 hb3).alloc (by have := hb3.size; omega) _⟩
end Go.Proofs.Ytomijekbkamcbaa
