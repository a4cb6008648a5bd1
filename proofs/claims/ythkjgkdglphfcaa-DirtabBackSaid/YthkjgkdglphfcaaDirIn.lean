/- A slice of entries that came in: each entry's name, kind and number. -/
import Derived.Test.YthkjgkdglphfcaaRows
import Derived.Test.YthkjgkdglphfcaaDirMath
import Derived.WalkKit
import Derived.Deep.Slices
import Derived.Deep.Fields
namespace Go.Proofs.Ythkjgkdglphfcaa
set_option linter.unusedVariables false
set_option linter.unusedSimpArgs false
open Go.RowKit

theorem addD_plain (b off q : Nat) : (⟨b, off, none⟩ : Addr).add q = ⟨b, off + q, none⟩ := by unfold Addr.add; split <;> simp_all
section
open Go.ChangeShapes Go.WideShapes Go.Deep
variable {H : Type} {enc : TypeId × Value → H} {w : World} {base : Nat} {held : Bool}
theorem ents_in {a : Option Addr} {len cap : Nat} {x : DataW H × List MemPlace} {fuel : Nat} (h : DataW.trod enc Try.prog w base (fun _ => true) held fuel 22 [.slice a len cap] = some x) :
    ∃ l, EntsIn w a len l ∧ len ≤ cap ∧ cap ≤ maxLen := by
  rcases open_slice Try.underlying22 h with ⟨h0, _⟩ | ⟨y, len', cap', m, n, D, Pl, hcs, _, hl, hm, hmm, _, hx⟩
  · simp only [List.cons.injEq, Value.slice.injEq, and_true] at h0
    obtain ⟨rfl, rfl, rfl⟩ := h0
    exact ⟨[], ⟨rfl, fun h => absurd h (by omega)⟩, Nat.le_refl _, by simp [maxLen]⟩
  · simp only [List.cons.injEq, Value.slice.injEq, and_true] at hcs
    obtain ⟨rfl, rfl, rfl⟩ := hcs
    have hm2 : m = cap := by simpa using hmm
    subst hm2
    have hC : Try.prog.cellsOf 35 = 3 := by kernel_rfl
    rw [hC] at hx
    have each : ∀ i, i < len → ∃ o : Ent, ∀ j v, (entCells o)[j]? = some v → w.cell? ((y.add (i * 3)).add j) = some v := by
      intro i hi
      obtain ⟨cs, h1, h2⟩ := hx i (by omega)
      obtain ⟨_, hcl, hat⟩ := World.cells?_some h1
      obtain ⟨ys, n', _, _, _, hyl, hf⟩ := DataW.trod_struct Try.underlying35 h2
      match cs, hcl, ys, hyl with
      | [c0, c1, c2], _, [y0, y1, y2], _ =>
        obtain ⟨s, g0, _, w0⟩ := DataW.trod_string Try.underlying9 (hf 0 _ rfl)
        obtain ⟨x, g1, _, w1⟩ := DataW.trod_int Try.underlying3 (hf 1 _ rfl)
        obtain ⟨n, g2, _, w2⟩ := DataW.trod_int Try.underlying3 (hf 2 _ rfl)
        have u1 : Try.prog.cellsOf 3 = 1 := by kernel_rfl
        have u2 : Try.prog.cellsOf 9 = 1 := by kernel_rfl
        simp [u1] at g1 g2
        simp [u2] at g0
        subst g0 g1 g2
        have hs : str s.data.toList = s := by simp [str]
        refine ⟨⟨s.data.toList, x, n⟩, fun j v hv => ?_⟩
        rcases j with _ | _ | _ | j
        · rw [show (entCells ⟨s.data.toList, x, n⟩)[0]? = some (.string s) from by simp [entCells, hs]] at hv
          exact (hat 0 (by omega)).trans hv
        · exact (hat 1 (by omega)).trans hv
        · exact (hat 2 (by omega)).trans hv
        · simp [entCells] at hv
    obtain ⟨f, hf⟩ := choose_lt (α := Ent) (p := fun i o => ∀ j v, (entCells o)[j]? = some v → w.cell? ((y.add (i * 3)).add j) = some v) each
    refine ⟨(List.range len).map f, ⟨by simp, fun hn => ?_⟩, hl, hm⟩
    obtain ⟨b, off, spot⟩ := y
    have h0 := hf 0 hn 0 _ rfl
    have hspot : spot = none := by simpa [Addr.add] using World.cell?_spot h0
    subst hspot
    refine ⟨b, off, rfl, fun i o ho j v hv => ?_⟩
    have hi : i < len := by have := (List.getElem?_eq_some_iff.1 ho).1; simpa using this
    simp [hi] at ho
    subst ho
    have h1 := hf i hi j v hv
    rw [add_add] at h1
    rw [addD_plain] at h1
    exact h1
end
end Go.Proofs.Ythkjgkdglphfcaa
