/- The walks of the laws CrcTables and CrcSums. -/
import Derived.Test.YtomijekbkamcbaaRows
import Derived.Test.YtomijekbkamcbaaCrcShown
import Derived.WalkKit
import Derived.WalkSpells
import Derived.WalkLawsBesides
import Derived.Lib.Hide
import Derived.Lib.SmallJoins
import Derived.Deep.QuietTactic
import Derived.BigQuiet
namespace Go.Proofs.Ytomijekbkamcbaa
set_option linter.unusedVariables false
set_option linter.unusedSimpArgs false
open Go.RowKit

theorem tmod_cases (n : Int) : (∃ k : Nat, k < 256 ∧ n.tmod 256 = (k : Int)) ∨ ∃ k : Nat, 0 < k ∧ k < 256 ∧ n.tmod 256 = -(k : Int) := by
  have h1 := Int.tmod_lt_of_pos n (b := 256) (by omega)
  have h2 := Int.tmod_lt_of_pos (-n) (b := 256) (by omega)
  rw [Int.neg_tmod] at h2
  rcases Int.lt_or_le (n.tmod 256) 0 with h | h
  · exact .inr ⟨(-(n.tmod 256)).toNat, by omega, by omega, by omega⟩
  · exact .inl ⟨(n.tmod 256).toNat, by omega, by omega⟩

set_option maxRecDepth 100000 in
set_option maxHeartbeats 400000 in
theorem crcTables_walk (n : Int) (w : World) (_ : (Lit.int .i64 n).wf = true) : Calls Try.prog 3 #[.int .i64 n] w fun e w' => e = .returned (.bool true) ∧ Below w.heap.size w w' := by
  have hz := (zero_of_info tab_zero).1
  rcases tmod_cases n with ⟨k, hk, hkn⟩ | ⟨k, hk0, hk, hkn⟩
  all_goals
    go_enter Try.func3, Try.ntmps3
    go_wp2_with fail
    refine (shown_any w).mono ?_
    rintro e w1 ⟨rfl, hb1⟩
    go_wp2_with fail
    refine (newB w1).mono ?_
    rintro e w2 ⟨rfl, hb2⟩
    have htab := (tab_at (w2.alloc (.cells tab 25)) w2.heap.size (0, 0) (heap_alloc_new w2 _)) k hk
    have hent := fun W => entry_any k hk W
    have H := Lib.hid hent
    clear hent
    generalize Crc.entry k = v at *
    have hkI : (k : Int) < 256 := by omega
    have hkJ : (0 : Int) ≤ (k : Int) := by omega
    go_wp2_with (refine wpList_store_whole rfl 25 _ _ rfl w2.heap.size tab rfl rfl 25 (tabTo 0) (heap_alloc_new w2 _) tabSize (by rw [tab, tabTo_size, tabTo_size]) tab_one _ (setRow_last w2 _ _ _) ?_)
    go_quiet ((go_at_call 11; exact Calls.quiet_of_same ((H.out _).mono fun _ _ h => ⟨h.1, h.2.symm⟩)))
    go_wp2_with fail
    go_ret
    exact ⟨rfl, belowN ((below_then hb1 hb2).alloc (by have := hb1.size; have := hb2.size; omega) _) _⟩
end Go.Proofs.Ytomijekbkamcbaa
