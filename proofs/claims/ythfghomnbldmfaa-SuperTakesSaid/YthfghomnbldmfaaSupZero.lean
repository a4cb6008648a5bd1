/- Walk: slices.ContainsFunc at 'is no zero'. -/
import Derived.Test.YthfghomnbldmfaaRows
import Derived.Test.YthfghomnbldmfaaCurReader
namespace Go.Proofs.Ythfghomnbldmfaa
set_option linter.unusedVariables false
set_option linter.unusedSimpArgs false
open Go.RowKit

theorem nozero_any (b : Int) (w : World) : Calls Try.prog 37 #[.int .u8 b] w fun r w' => r = .returned (.bool (b != 0)) ∧ w = w' := by
  go_enter Try.func37, Try.ntmps37
  go_wp2_with fail
  go_ret
  exact ⟨rfl, rfl⟩
set_option maxHeartbeats 800000 in
theorem index_any (A : Option Addr) (n c : Nat) (bs : List UInt8) (w : World) (hb : Bytes w A n bs) (hn : n ≤ 9223372036854775807) :
    Calls Try.prog 44 #[.slice A n c, .func (.func 37) #[] #[]] w fun r w' => (∃ z : Int, r = .returned (.int .i64 z) ∧ (0 ≤ z ↔ ∃ x ∈ bs, x ≠ 0)) ∧ w = w' := by
  have HB := Lib.hid hb
  clear hb
  go_enter Try.func44, Try.ntmps44
  go_wp2_with fail
  go_loop [8] (fun i => ∃ k : Nat, i = .int .i64 k ∧ k ≤ n ∧ ∀ x ∈ bs.take k, x = 0) (fun i => n - (intOf i).toNat)
  case atStart => exact ⟨0, rfl, by omega, by simp⟩
  case round =>
    obtain ⟨k, rfl, hk, hz⟩ := hrel
    have HZ := Lib.hid hz
    clear hz
    by_cases hlt : k < n
    · obtain ⟨b, off, rfl, hc⟩ := HB.out.2 (by omega)
      have hl : k < bs.length := by rw [HB.out.1]; exact hlt
      have cb := hc k hlt
      have HG := Lib.hid (show bs.getD k 0 = bs[k] from by rw [List.getD_eq_getElem?_getD, List.getElem?_eq_getElem hl]; rfl)
      have HM : Hid (bs[k] ∈ bs) := List.getElem_mem hl
      have HT := Lib.hid (List.take_succ_eq_append_getElem hl)
      rw [HG.out] at cb
      have HL := Lib.hid hl
      clear hc
      generalize bs[k] = x at *
      clear hl
      have hk0 : (0 : Int) ≤ (k : Int) := by omega
      have hk1 : (k : Int) < (n : Int) := by omega
      by_cases hx : x = 0
      · subst hx
        have HN := Lib.hid (nozero_any ((0 : UInt8).toNat : Nat) w)
        go_wp2_with fail
        refine HN.out.mono ?_
        rintro r w' ⟨rfl, rfl⟩
        go_wp2_with fail
        refine ⟨⟨k + 1, by go_num, by omega, fun y hy => ?_⟩, by simp [intOf]; omega⟩
        rw [HT.out, List.mem_append] at hy
        rcases hy with hy | hy
        · exact HZ.out y hy
        · simpa using hy
      · have hne : (((x.toNat : Nat) : Int) != 0) = true := by
          rw [bne_iff_ne]
          intro h
          apply hx
          apply UInt8.toNat_inj.1
          simp; omega
        have hn := nozero_any (x.toNat : Nat) w
        rw [hne] at hn
        have HN := Lib.hid hn
        clear hn hne
        go_wp2_with fail
        refine HN.out.mono ?_
        rintro r w' ⟨rfl, rfl⟩
        go_wp2_with fail
        go_ret
        exact ⟨⟨_, rfl, ⟨fun _ => ⟨x, HM.out, hx⟩, fun _ => by omega⟩⟩, rfl⟩
    · obtain rfl : k = n := by omega
      go_wp2_with fail
      go_ret
      refine ⟨⟨-1, rfl, ⟨fun h => (by omega), fun ⟨x, hx, h0⟩ => ?_⟩⟩, rfl⟩
      exact absurd (HZ.out x (by rw [List.take_of_length_le (by rw [HB.out.1]; omega)]; exact hx)) h0
theorem contains_any (A : Option Addr) (n c : Nat) (bs : List UInt8) (w : World) (hb : Bytes w A n bs) (hn : n ≤ 9223372036854775807) :
    Calls Try.prog 36 #[.slice A n c, .func (.func 37) #[] #[]] w fun r w' => (∃ b, r = .returned (.bool b) ∧ (b = true ↔ ∃ x ∈ bs, x ≠ 0)) ∧ w = w' := by
  have HI := Lib.hid (index_any A n c bs w hb hn)
  clear hb
  go_enter Try.func36, Try.ntmps36
  go_wp2_with fail
  refine HI.out.mono ?_
  rintro r w' ⟨⟨z, rfl, hz⟩, rfl⟩
  have HZ := Lib.hid hz
  clear hz
  by_cases h0 : 0 ≤ z
  · go_wp2_with fail
    go_ret
    exact ⟨⟨true, rfl, by simp only [true_iff]; exact HZ.out.1 h0⟩, rfl⟩
  · go_wp2_with fail
    go_ret
    refine ⟨⟨false, by show Ending.returned (.bool (decide (0 ≤ z))) = _; rw [decide_eq_false (by omega)], ?_⟩, rfl⟩
    simp only [Bool.false_eq_true, false_iff]
    intro h
    have := HZ.out.2 h
    omega
end Go.Proofs.Ythfghomnbldmfaa
