/- Walks of the CRC functions: what New, More, Sum, Row and the document's Entry, Sum, Of compute, in the plain words of CrcMath. -/
import Derived.Test.YthfghomnbldmfaaRows
import Derived.Test.YthfghomnbldmfaaCrcMath
import Derived.Test.YthfghomnbldmfaaCrcMem
import Derived.WalkKit
import Derived.WalkSpells
import Derived.WalkLawsBesides
import Derived.Deep.WholeRow
import Derived.Lib.Hide
namespace Go.Proofs.Ythfghomnbldmfaa
set_option linter.unusedVariables false
set_option linter.unusedSimpArgs false
open Go.RowKit

set_option maxHeartbeats 400000 in
theorem entry_any (i : Nat) (hi : i < 256) (w : World) :
    Calls Try.prog 42 #[.int .i64 i] w fun e w' => e = .returned (.int .u32 (Crc.entry i : Nat)) ∧ w = w' := by
  go_enter Try.func42, Try.ntmps42
  go_wp2
  go_loop [3, 4] (fun r k => ∃ n : Nat, n ≤ 8 ∧ k = .int .i64 n ∧ r = .int .u32 (Crc.steps n i : Nat)) (fun _ k => 8 - (intOf k).toNat)
  case atStart => exact ⟨0, by omega, rfl, rfl⟩
  case round =>
    obtain ⟨n, hn, rfl, rfl⟩ := hrel
    have hlt := Crc.steps_lt (r := i) (by omega) n
    go_wp2
    · refine ⟨⟨n + 1, by omega, by go_num, ?_⟩, by simp [intOf]; omega⟩
      rename_i h; rw [Crc.step_odd hlt h]; rfl
    · refine ⟨⟨n + 1, by omega, by go_num, ?_⟩, by simp [intOf]; omega⟩
      rename_i h; rw [Crc.step_even h]; rfl
    · go_ret
      obtain rfl : n = 8 := by omega
      exact ⟨rfl, rfl⟩

def tabAt (k : Nat) (i : Nat) : Value := if i < k then .int .u32 (Crc.entry i : Nat) else .int .u32 0
def tabTo (k : Nat) : Array Value := ((List.range 256).map (tabAt k)).toArray
def tab : Array Value := tabTo 256
theorem tabTo_at (k i : Nat) (hi : i < 256) : (tabTo k)[i]? = some (tabAt k i) := by
  simp [tabTo, hi]
theorem tabTo_size (k : Nat) : (tabTo k).size = 256 := by simp [tabTo]
theorem tabTo_set (k : Nat) (hk : k < 256) : (tabTo k).setIfInBounds k (.int .u32 (Crc.entry k : Nat)) = tabTo (k + 1) := by
  apply Array.ext_getElem?
  intro i
  by_cases hi : i < 256
  · rw [Array.getElem?_setIfInBounds, tabTo_at _ _ hi, tabTo_at _ _ hi, tabTo_size, if_pos hk]
    by_cases e : k = i
    · subst e; simp [tabAt]
    · rw [if_neg e]
      unfold tabAt
      by_cases h : i < k
      · rw [if_pos h, if_pos (by omega)]
      · rw [if_neg h, if_neg (by omega)]
  · rw [Array.getElem?_eq_none (by rw [Array.size_setIfInBounds, tabTo_size]; omega), Array.getElem?_eq_none (by rw [tabTo_size]; omega)]
theorem tab_one : tab.all (·.oneCell') = true := by
  rw [Array.all_eq_true_iff_forall_mem]
  intro v hv
  simp only [tab, tabTo, List.mem_toArray, List.mem_map, List.mem_range] at hv
  obtain ⟨i, _, rfl⟩ := hv
  unfold tabAt
  split <;> rfl
theorem tab_zero : (Try.prog.info? 27).map (fun i => (i.zero, i.size)) = some (some (.agg (tabTo 0)), 256) := by kernel_rfl

set_option maxRecDepth 100000 in
set_option maxHeartbeats 400000 in
theorem new_any (w : World) :
    Calls Try.prog 9 #[] w fun e w' => e = .returned (.agg tab) ∧ (w.alloc (.cells tab 27)).alloc (.cells tab 27) = w' := by
  have hz := (zero_of_info tab_zero).1
  go_enter Try.func9, Try.ntmps9
  go_wp2
  go_loopw [2, 3, 4, 9] (fun _ _ k _ wr => ∃ n : Nat, n ≤ 256 ∧ k = .int .i64 n ∧ (w.alloc (.cells (tabTo 0) 27)).alloc (.cells (tabTo n) 27) = wr) (fun _ _ k _ _ => 256 - (intOf k).toNat)
  case atStart => exact ⟨0, by omega, rfl, rfl⟩
  case round =>
    obtain ⟨n, hn, rfl, rfl⟩ := hrel
    have hi2 : (Try.prog.info? 27).map (·.size) = some tab.size := (zero_of_info tab_zero).2.trans (by rw [tab, tabTo_size])
    have h1 : tab.all (·.oneCell') = true := tab_one
    have hg0 := heap_alloc2_old w (.cells (tabTo 0) 27) (.cells (tabTo n) 27)
    have hg1 := heap_alloc2_new w (.cells (tabTo 0) 27) (.cells (tabTo n) 27)
    have H0 := Lib.hid hg0
    have H1 := Lib.hid hg1
    have HI := Lib.hid hi2
    have HO := Lib.hid h1
    clear hg0 hg1 hi2 h1
    by_cases hlt : n < 256
    · have hat : (tabTo n)[n]? = some (.int .u32 0) := by rw [tabTo_at n n hlt]; simp [tabAt]
      go_wp2
      go_loop [3, 9] (fun r k => ∃ m : Nat, m ≤ 8 ∧ k = .int .i64 m ∧ r = .int .u32 (Crc.steps m n : Nat)) (fun _ k => 8 - (intOf k).toNat)
      case atStart => exact ⟨0, by omega, rfl, rfl⟩
      case round =>
        obtain ⟨m, hm, rfl, rfl⟩ := hrel
        have hsl := Crc.steps_lt (r := n) (by omega) m
        go_wp2
        · refine ⟨⟨m + 1, by omega, by go_num, by rw [Crc.step_go hsl]; rfl⟩, by simp [intOf]; omega⟩
        · obtain rfl : m = 8 := by omega
          refine ⟨⟨n + 1, by omega, by go_num, ?_⟩, by simp [intOf]; omega⟩
          rw [← tabTo_set n hlt]; rfl
    · obtain rfl : n = 256 := by omega
      go_wp2_with (first
        | (refine wpList_load_row rfl 27 _ rfl (w.heap.size + 1) rfl 27 tab (0, 0) _ H1.out Try.underlying27 rfl HI.out ?_)
        | (refine wpList_store_whole rfl 27 _ _ rfl w.heap.size tab rfl rfl 27 (tabTo 0) H0.out HI.out (by rw [tab, tabTo_size, tabTo_size]) HO.out _ (setRow_lastButOne _ _ _ _ _) ?_))
      exact bodyPost_ret (results_cell_row rfl _ _ w.heap.size 27 tab (0, 0) _ rfl (heap_alloc2_old w _ _) Try.underlying27 rfl HI.out) rfl ⟨rfl, rfl⟩

set_option maxRecDepth 100000 in
set_option maxHeartbeats 400000 in
theorem more_any (g : Nat) (t : Nat → Nat) (s : Nat) (A : Option Addr) (n c : Nat) (bs : List UInt8) (w : World) (ht : TabAt w g t) (hlt : ∀ i, i < 256 → t i < 4294967296) (hs : s < 4294967296)
    (hb : Bytes w A n bs) (hn : n ≤ 9223372036854775807) :
    Calls Try.prog 40 #[.pointer (some ⟨g, 0, none⟩), .int .u32 s, .slice A n c] w fun e w' => e = .returned (.int .u32 (Crc.more t s bs : Nat)) ∧ w = w' := by
  go_enter Try.func40, Try.ntmps40
  go_wp2
  go_loop [7, 14] (fun r k => ∃ m : Nat, m ≤ n ∧ k = .int .i64 m ∧ r = .int .u32 (Crc.runs t (Crc.neg s) (bs.take m) : Nat)) (fun _ k => n - (intOf k).toNat)
  case atStart => exact ⟨0, by omega, rfl, by rw [Crc.neg_go hs]; rfl⟩
  case round =>
    obtain ⟨m, hm, rfl, rfl⟩ := hrel
    have hr := Crc.runs_lt hlt (bs.take m) (Crc.neg_lt s)
    by_cases hmn : m < n
    · obtain ⟨b, off, rfl, hc⟩ := hb.2 (by omega)
      have hcm := hc m hmn
      have hsn := take_snoc bs m (by rw [hb.1]; exact hmn)
      have hq := Crc.xor_lt256 (a := Crc.runs t (Crc.neg s) (bs.take m) % 256) (b := (bs.getD m 0).toNat) (by omega) (by have := (bs.getD m 0).toNat_lt; omega)
      have hidx := Crc.low_go (Crc.runs t (Crc.neg s) (bs.take m)) (bs.getD m 0)
      have hcell := ht _ hq
      have hv := hlt _ hq
      have hupd : Crc.runs t (Crc.neg s) (bs.take (m + 1)) = Crc.runs t (Crc.neg s) (bs.take m) / 256 ^^^ t (Crc.runs t (Crc.neg s) (bs.take m) % 256 ^^^ (bs.getD m 0).toNat) := by
        rw [hsn, Crc.runs_snoc]; rfl
      have HU := Lib.hid hupd
      clear hc hb hupd hsn
      generalize Crc.runs t (Crc.neg s) (bs.take m) = r at *
      generalize bs.getD m 0 = x at *
      generalize r % 256 ^^^ x.toNat = q at *
      generalize t q = v at *
      go_wp2
      refine ⟨⟨m + 1, by omega, by go_num, ?_⟩, by simp [intOf]; omega⟩
      rw [HU.out, ← Crc.quo_xor hr hv]
    · obtain rfl : m = n := by omega
      have hall : bs.take m = bs := List.take_of_length_le (by rw [hb.1]; omega)
      have HA := Lib.hid hall
      clear hall
      go_wp2
      go_ret
      refine ⟨?_, rfl⟩
      show Ending.returned (.int .u32 (bits BinOp.xor IntKind.u32 IntKind.u32.max _)) = _
      rw [Crc.neg_go hr, HA.out]; rfl

set_option maxHeartbeats 400000 in
theorem sum_any (g : Nat) (t : Nat → Nat) (A : Option Addr) (n c : Nat) (bs : List UInt8) (w : World) (ht : TabAt w g t) (hlt : ∀ i, i < 256 → t i < 4294967296)
    (hb : Bytes w A n bs) (hn : n ≤ 9223372036854775807) :
    Calls Try.prog 20 #[.pointer (some ⟨g, 0, none⟩), .slice A n c] w fun e w' => e = .returned (.int .u32 (Crc.more t 0 bs : Nat)) ∧ w = w' := by
  go_enter Try.func20, Try.ntmps20
  go_wp2_with fail
  refine (more_any g t 0 A n c bs w ht hlt (by omega) hb hn).mono ?_
  rintro e w' ⟨rfl, rfl⟩
  go_wp2
  go_ret
  exact ⟨rfl, rfl⟩


set_option maxHeartbeats 400000 in
theorem refSum_any (A : Option Addr) (n c : Nat) (bs : List UInt8) (w : World) (hb : Bytes w A n bs) (hn : n ≤ 9223372036854775807) :
    Calls Try.prog 26 #[.slice A n c] w fun e w' => e = .returned (.int .u32 (Crc.sum bs : Nat)) ∧ w = w' := by
  go_enter Try.func26, Try.ntmps26
  go_wp2_with fail
  go_loop [3, 4] (fun r k => ∃ m : Nat, m ≤ n ∧ k = .int .i64 m ∧ r = .int .u32 (Crc.runs Crc.entry (Crc.neg 0) (bs.take m) : Nat)) (fun _ k => n - (intOf k).toNat)
  case atStart => exact ⟨0, by omega, rfl, rfl⟩
  case round =>
    obtain ⟨m, hm, rfl, rfl⟩ := hrel
    have hr := Crc.runs_lt (t := Crc.entry) (fun _ h => Crc.entry_lt h) (bs.take m) (Crc.neg_lt 0)
    by_cases hmn : m < n
    · obtain ⟨b, off, rfl, hc⟩ := hb.2 (by omega)
      have hcm := hc m hmn
      have hsn := take_snoc bs m (by rw [hb.1]; exact hmn)
      have hq := Crc.xor_lt256 (a := Crc.runs Crc.entry (Crc.neg 0) (bs.take m) % 256) (b := (bs.getD m 0).toNat) (by omega) (by have := (bs.getD m 0).toNat_lt; omega)
      obtain ⟨z, hz, hz1, hz2⟩ := Crc.ref_go hr (bs.getD m 0)
      have hx256 := (bs.getD m 0).toNat_lt
      have hv := Crc.entry_lt hq
      have hupd : Crc.runs Crc.entry (Crc.neg 0) (bs.take (m + 1)) = Crc.runs Crc.entry (Crc.neg 0) (bs.take m) / 256 ^^^ Crc.entry (Crc.runs Crc.entry (Crc.neg 0) (bs.take m) % 256 ^^^ (bs.getD m 0).toNat) := by
        rw [hsn, Crc.runs_snoc]; rfl
      have HU := Lib.hid hupd
      clear hc hb hupd hsn
      generalize Crc.runs Crc.entry (Crc.neg 0) (bs.take m) = r at *
      generalize bs.getD m 0 = x at *
      generalize r % 256 ^^^ x.toNat = q at *
      go_wp2_with fail
      refine (entry_any q hq w).mono ?_
      rintro e w' ⟨rfl, rfl⟩
      generalize Crc.entry q = v at *
      go_wp2_with fail
      refine ⟨⟨m + 1, by omega, by go_num, ?_⟩, by simp [intOf]; omega⟩
      rw [HU.out, ← Crc.quo_xor hr hv]
    · obtain rfl : m = n := by omega
      have hall : bs.take m = bs := List.take_of_length_le (by rw [hb.1]; omega)
      have HA := Lib.hid hall
      clear hall
      go_wp2_with fail
      go_ret
      refine ⟨?_, rfl⟩
      show Ending.returned (.int .u32 _) = _
      rw [Crc.neg_ref hr, HA.out]; rfl


end Go.Proofs.Ythfghomnbldmfaa
