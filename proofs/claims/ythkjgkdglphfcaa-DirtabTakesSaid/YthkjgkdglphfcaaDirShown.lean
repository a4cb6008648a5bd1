/- Walk: chapter 10's shown: the document's examples. -/
import Derived.Test.YthkjgkdglphfcaaRows
import Derived.Test.YthkjgkdglphfcaaDirPut
import Derived.Test.YthkjgkdglphfcaaDirLook
namespace Go.Proofs.Ythkjgkdglphfcaa
set_option linter.unusedVariables false
set_option linter.unusedSimpArgs false
open Go.RowKit

theorem look_of {w w' : World} {bs s : List UInt8} {l : List Ent} {r : Ending} (ht : TakeP bs l) (h : LookRes w bs s r w') : r = .returned (.tuple #[.agg (entCells (lkX l s)), .int .i64 (lkE l s : Nat)]) ∧ Below w.heap.size w w' := by
  obtain ⟨h1, h2⟩ := h
  refine ⟨?_, h2⟩
  rcases h1 with ⟨l', h3, h4⟩ | ⟨h3, _⟩
  · rw [take_one h3 ht] at h4; exact h4
  · exact absurd ⟨l, ht⟩ h3
theorem EntsIn.new (w : World) (x : Ent) : EntsIn (w.alloc (.cells (entCells x) 35)) (some ⟨w.heap.size, 0, none⟩) 1 [x] := by
  refine ⟨rfl, fun _ => ⟨w.heap.size, 0, rfl, fun i y hy j v hv => ?_⟩⟩
  match i with
  | 0 =>
    simp at hy
    subst hy
    rw [cell_of_row _ _ _ (entCells x) 35 (0, 0) (heap_alloc_new w _), ← hv]
    simp
  | i + 1 => simp at hy
def shX : Ent := ⟨[97], 2, 5⟩
theorem sh_put : putBs [shX] = [1, 97, 2, 5, 0, 0, 0] ∧ putE [shX] = 0 := by decide
theorem sh_take : TakeP [1, 97, 2, 5, 0, 0, 0] [shX] := by unfold TakeP; decide
theorem sh_a : lkX [shX] [97] = shX ∧ lkE [shX] [97] = 0 := by decide
theorem sh_b : lkX [shX] [98] = ent0 ∧ lkE [shX] [98] = 20 := by decide
set_option maxRecDepth 100000 in
set_option maxHeartbeats 800000 in
theorem shown_any (w : World) : Calls Try.prog 8 #[] w fun e w' => e = .returned (.bool true) ∧ Below w.heap.size w w' := by
  go_enter Try.func8, Try.ntmps8
  have hb0 : Below w.heap.size w (w.alloc (.cells (entCells shX) 35)) := below_all.alloc (Nat.le_refl _) _
  have HP := put_any (some ⟨w.heap.size, 0, none⟩) 1 1 [shX] _ (EntsIn.new w shX) (by omega) (by omega)
  rw [sh_put.1, sh_put.2] at HP
  have HP' := Lib.hid HP
  have HB0 := Lib.hid hb0
  clear HP hb0
  go_wp2_with fail
  refine HP'.out.mono ?_
  rintro r w1 ⟨A1, c1, rfl, hby1, hc1, hc1', hb1⟩
  have HB1 : Hid (Below w.heap.size w w1) := below_then HB0.out hb1
  have HY1 : Hid (Bytes w1 A1 7 [1, 97, 2, 5, 0, 0, 0]) := hby1
  clear hby1 hb1 HP' HB0
  have hl7 : ([1, 97, 2, 5, 0, 0, 0] : List UInt8).length = 7 := rfl
  rw [hl7] at hc1 ⊢
  clear hl7
  go_wp2_with fail
  refine (look_any A1 7 c1 [1, 97, 2, 5, 0, 0, 0] [97] w1 HY1.out (by omega)).mono ?_
  rintro r w2 hr
  obtain ⟨rfl, hb2⟩ := look_of sh_take hr
  rw [sh_a.1, sh_a.2, show entCells shX = #[.string ⟨#[97]⟩, .int .i64 2, .int .i64 5] from rfl]
  have HB2 : Hid (Below w.heap.size w (w2.alloc (.cells (entCells shX) 35))) := (below_then HB1.out hb2).alloc (below_then HB1.out hb2).size _
  have HY2 : Hid (Bytes (w2.alloc (.cells (entCells shX) 35)) A1 7 [1, 97, 2, 5, 0, 0, 0]) := (HY1.out.below hb2).alloc _
  have HE2 : Hid (EntAt (w2.alloc (.cells (entCells shX) 35)) w2.heap.size shX) := EntAt.new w2 shX
  clear hb2 hr HB1 HY1
  go_upto_region 3 with fail
  have HE2' : Hid (EntAt (w2.alloc (.cells #[.string ⟨#[97]⟩, .int .i64 2, .int .i64 5] 35)) w2.heap.size shX) := HE2.out
  have HY2' : Hid (Bytes (w2.alloc (.cells #[.string ⟨#[97]⟩, .int .i64 2, .int .i64 5] 35)) A1 7 [1, 97, 2, 5, 0, 0, 0]) := HY2.out
  have HB2' : Hid (Below w.heap.size w (w2.alloc (.cells #[.string ⟨#[97]⟩, .int .i64 2, .int .i64 5] 35))) := HB2.out
  clear HE2 HY2 HB2
  generalize w2.alloc (.cells #[.string ⟨#[97]⟩, .int .i64 2, .int .i64 5] 35) = wa at *
  generalize w2.heap.size = gx at *
  go_wp2_with fail
  refine (look_any A1 7 c1 [1, 97, 2, 5, 0, 0, 0] [98] wa HY2'.out (by omega)).mono ?_
  rintro r w3 hr
  obtain ⟨rfl, hb3⟩ := look_of sh_take hr
  rw [sh_b.1, sh_b.2, show entCells ent0 = #[.string ⟨#[]⟩, .int .i64 0, .int .i64 0] from rfl]
  have hb4 : Below wa.heap.size wa (w3.alloc (.cells #[.string ⟨#[]⟩, .int .i64 0, .int .i64 0] 35)) := hb3.alloc hb3.size _
  have HB4 : Hid (Below w.heap.size w (w3.alloc (.cells #[.string ⟨#[]⟩, .int .i64 0, .int .i64 0] 35))) := below_then HB2'.out hb4
  have HE4 := Lib.hid (HE2'.out.below hb4)
  have HY4 := Lib.hid (HY2'.out.below hb4)
  clear hb3 hb4 hr HB2' HE2' HY2'
  go_upto_region 4 with fail
  generalize w3.alloc (.cells #[.string ⟨#[]⟩, .int .i64 0, .int .i64 0] 35) = wb at *
  generalize w3.heap.size = gy at *
  have c0 : wb.cell? ⟨gx, 0, none⟩ = some (.string ⟨#[97]⟩) := HE4.out.c0
  have c1' : wb.cell? ⟨gx, 1, none⟩ = some (.int .i64 2) := HE4.out.c1
  have c2 : wb.cell? ⟨gx, 2, none⟩ = some (.int .i64 5) := HE4.out.c2
  have hv : (convert 25 9 (.slice A1 7 c1)).run Try.prog wb = .ok (.string ⟨#[1, 97, 2, 5, 0, 0, 0]⟩) wb := run_string (P := Try.prog) HY4.out 25 5 9 Try.underlying25 Try.underlying5 Try.underlying9 c1
  go_wp2_with fail
  go_ret
  exact ⟨rfl, HB4.out⟩
end Go.Proofs.Ythkjgkdglphfcaa
