/- The walk of the document's Of: the sum by any table, from any other sum. -/
import Derived.Test.YtomijekbkamcbaaRows
import Derived.Test.YtomijekbkamcbaaCrcMath
import Derived.Test.YtomijekbkamcbaaCrcMem
import Derived.WalkKit
import Derived.WalkSpells
import Derived.WalkLawsBesides
import Derived.Deep.WholeRow
import Derived.Lib.Hide
namespace Go.Proofs.Ytomijekbkamcbaa
set_option linter.unusedVariables false
set_option linter.unusedSimpArgs false
open Go.RowKit

set_option maxRecDepth 100000 in
set_option maxHeartbeats 400000 in
theorem refOf_any (cs : Array Value) (t : Nat → Nat) (s : Nat) (A : Option Addr) (n c : Nat) (bs : List UInt8) (w : World) (hcs : cs.size = 256) (ht : ∀ i, i < 256 → cs[i]? = some (.int .u32 (t i : Nat))) (hlt : ∀ i, i < 256 → t i < 4294967296) (hs : s < 4294967296)
    (hb : Bytes w A n bs) (hn : n ≤ 9223372036854775807) :
    Calls Try.prog 16 #[.agg cs, .int .u32 s, .slice A n c] w fun e w' => e = .returned (.int .u32 (Crc.more t s bs : Nat)) ∧ w.alloc (.cells cs 24) = w' := by
  have hb := hb.below ((Below.refl _ _).alloc (Nat.le_refl _) (.cells cs 24))
  have ht : ∀ i, i < 256 → (w.alloc (.cells cs 24)).cell? ⟨w.heap.size, i, none⟩ = some (.int .u32 (t i : Nat)) := fun i hi => (cell_of_row _ _ i cs 24 (0, 0) (heap_alloc_new w _)).trans (ht i hi)
  have HT := Lib.hid ht
  have HB := Lib.hid hb
  clear ht hb
  go_enter Try.func16, Try.ntmps16
  go_wp2_with fail
  go_loop [7, 8] (fun r k => ∃ m : Nat, m ≤ n ∧ k = .int .i64 m ∧ r = .int .u32 (Crc.runs t (Crc.neg s) (bs.take m) : Nat)) (fun _ k => n - (intOf k).toNat)
  case atStart => exact ⟨0, by omega, rfl, by rw [Crc.neg_ref hs]; rfl⟩
  case round =>
    obtain ⟨m, hm, rfl, rfl⟩ := hrel
    have hr := Crc.runs_lt hlt (bs.take m) (Crc.neg_lt s)
    by_cases hmn : m < n
    · obtain ⟨b, off, rfl, hc⟩ := HB.out.2 (by omega)
      have hcm := hc m hmn
      have hsn := take_snoc bs m (by rw [HB.out.1]; exact hmn)
      have hq := Crc.xor_lt256 (a := Crc.runs t (Crc.neg s) (bs.take m) % 256) (b := (bs.getD m 0).toNat) (by omega) (by have := (bs.getD m 0).toNat_lt; omega)
      obtain ⟨z, hz, hz1, hz2⟩ := Crc.ref_go hr (bs.getD m 0)
      have hx256 := (bs.getD m 0).toNat_lt
      have hcell := HT.out _ hq
      have hv := hlt _ hq
      have hupd : Crc.runs t (Crc.neg s) (bs.take (m + 1)) = Crc.runs t (Crc.neg s) (bs.take m) / 256 ^^^ t (Crc.runs t (Crc.neg s) (bs.take m) % 256 ^^^ (bs.getD m 0).toNat) := by
        rw [hsn, Crc.runs_snoc]; rfl
      have HU := Lib.hid hupd
      clear hc HB hupd hsn
      generalize Crc.runs t (Crc.neg s) (bs.take m) = r at *
      generalize bs.getD m 0 = x at *
      generalize r % 256 ^^^ x.toNat = q at *
      generalize t q = v at *
      go_wp2_with fail
      refine ⟨⟨m + 1, by omega, by go_num, ?_⟩, by simp [intOf]; omega⟩
      rw [HU.out, ← Crc.quo_xor hr hv]
    · obtain rfl : m = n := by omega
      have hall : bs.take m = bs := List.take_of_length_le (by rw [HB.out.1]; omega)
      have HA := Lib.hid hall
      clear hall
      go_wp2_with fail
      go_ret
      refine ⟨?_, rfl⟩
      show Ending.returned (.int .u32 _) = _
      rw [Crc.neg_ref hr, HA.out]; rfl

end Go.Proofs.Ytomijekbkamcbaa
