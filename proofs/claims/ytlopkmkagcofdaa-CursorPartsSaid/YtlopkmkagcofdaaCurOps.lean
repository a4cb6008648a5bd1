/- A slice of calls that came in: each call's kind, number, width and text. -/
import Derived.Test.YtlopkmkagcofdaaRows
import Derived.Test.YtlopkmkagcofdaaCurShown
import Derived.WalkKit
import Derived.Deep.Slices
import Derived.Deep.Fields
namespace Go.Proofs.Ytlopkmkagcofdaa
set_option linter.unusedVariables false
set_option linter.unusedSimpArgs false
open Go.RowKit

theorem add_plain (b off q : Nat) : (⟨b, off, none⟩ : Addr).add q = ⟨b, off + q, none⟩ := by unfold Addr.add; split <;> simp_all
structure OpV where
  k : Int
  x : Int
  n : Int
  s : List UInt8
instance : Inhabited OpV := ⟨⟨0, 0, 0, []⟩⟩
def opCells (o : OpV) : List Value := [.int .i64 o.k, .int .i64 o.x, .int .i64 o.n, .string (str o.s)]
def opFine (o : OpV) : Prop := (Lit.int .i64 o.k).wf = true ∧ (Lit.int .i64 o.x).wf = true ∧ (Lit.int .i64 o.n).wf = true ∧ o.s.length ≤ maxLen
def OpsIn (w : World) (A : Option Addr) (len : Nat) (l : List OpV) : Prop :=
  l.length = len ∧ (0 < len → ∃ b off, A = some ⟨b, off, none⟩ ∧ ∀ i o, l[i]? = some o → ∀ j v, (opCells o)[j]? = some v → w.cell? ⟨b, off + (i * 4 + j), none⟩ = some v) ∧ ∀ o ∈ l, opFine o
theorem OpsIn.below {w w' : World} {A : Option Addr} {len : Nat} {l : List OpV} (h : OpsIn w A len l) (hb : Below w.heap.size w w') : OpsIn w' A len l :=
  ⟨h.1, fun hn => by
    obtain ⟨b, off, rfl, hc⟩ := h.2.1 hn
    refine ⟨b, off, rfl, fun i o ho j v hv => ?_⟩
    have h1 := hc i o ho j v hv
    exact (World.cell?_of_block (w := w) (a := ⟨b, off + (i * 4 + j), none⟩) (hb.block b (block_lt_of_cell h1))).trans h1, h.2.2⟩
/-- A slice of ints that came in. -/
def IntsIn (w : World) (A : Option Addr) (len : Nat) (l : List Int) : Prop :=
  l.length = len ∧ (0 < len → ∃ b off, A = some ⟨b, off, none⟩ ∧ ∀ i z, l[i]? = some z → w.cell? ⟨b, off + i, none⟩ = some (.int .i64 z)) ∧ ∀ z ∈ l, (Lit.int .i64 z).wf = true
theorem IntsIn.below {w w' : World} {A : Option Addr} {len : Nat} {l : List Int} (h : IntsIn w A len l) (hb : Below w.heap.size w w') : IntsIn w' A len l :=
  ⟨h.1, fun hn => by
    obtain ⟨b, off, rfl, hc⟩ := h.2.1 hn
    refine ⟨b, off, rfl, fun i z hz => ?_⟩
    have h1 := hc i z hz
    exact (World.cell?_of_block (w := w) (a := ⟨b, off + i, none⟩) (hb.block b (block_lt_of_cell h1))).trans h1, h.2.2⟩
theorem ints_of_row {w : World} {a : Option Addr} {len cap : Nat} {zs : List Int} (h : IsRow .i64 w a len cap zs) : ∃ l, IntsIn w a len l ∧ len ≤ cap ∧ cap ≤ maxLen := by
  rcases h with ⟨rfl, rfl, rfl, rfl⟩ | ⟨x, rfl, hl, hm, hz, hcell, hwf⟩
  · exact ⟨[], ⟨rfl, fun h => absurd h (by omega), by simp⟩, Nat.le_refl _, by simp [maxLen]⟩
  · refine ⟨zs.take len, ⟨by rw [List.length_take]; omega, fun hn => ?_, fun z hz => hwf z (List.mem_of_mem_take hz)⟩, hl, hm⟩
    obtain ⟨b, off, spot⟩ := x
    have hspot : spot = none := by simpa [Addr.add] using World.cell?_spot (hcell 0 (by omega))
    subst hspot
    refine ⟨b, off, rfl, fun i z hz => ?_⟩
    have hi : i < len := by have := (List.getElem?_eq_some_iff.1 hz).1; rw [List.length_take] at this; omega
    rw [List.getElem?_take, if_pos hi] at hz
    have h1 := hcell i (by omega)
    rw [add_plain] at h1
    rw [h1, List.getD_eq_getElem?_getD, hz]
    rfl
/-- The cells of one call. -/
theorem OpsIn.at_ {w : World} {A : Option Addr} {len i : Nat} {l : List OpV} (h : OpsIn w A len l) (hi : i < len) : ∃ b off o, A = some ⟨b, off, none⟩ ∧ l[i]? = some o ∧ opFine o ∧
    w.cell? ⟨b, off + i * 4, none⟩ = some (.int .i64 o.k) ∧ w.cell? ⟨b, off + i * 4 + 1, none⟩ = some (.int .i64 o.x) ∧ w.cell? ⟨b, off + i * 4 + 2, none⟩ = some (.int .i64 o.n) ∧ w.cell? ⟨b, off + i * 4 + 3, none⟩ = some (.string (str o.s)) := by
  obtain ⟨b, off, hA, hc⟩ := h.2.1 (by omega)
  have hl : l[i]? = some (l[i]'(by rw [h.1]; exact hi)) := List.getElem?_eq_getElem _
  refine ⟨b, off, _, hA, hl, h.2.2 _ (List.getElem_mem _), hc i _ hl 0 _ rfl, ?_, ?_, ?_⟩
  · exact hc i _ hl 1 _ rfl
  · exact hc i _ hl 2 _ rfl
  · exact hc i _ hl 3 _ rfl

section
open Go.ChangeShapes Go.WideShapes Go.Deep
variable {H : Type} {enc : TypeId × Value → H} {w : World} {base : Nat} {held : Bool}
theorem ops_in {a : Option Addr} {len cap : Nat} {x : DataW H × List MemPlace} {fuel : Nat} (h : DataW.trod enc Try.prog w base (fun _ => true) held fuel 22 [.slice a len cap] = some x) :
    ∃ l, OpsIn w a len l ∧ len ≤ cap ∧ cap ≤ maxLen := by
  rcases open_slice Try.underlying22 h with ⟨h0, _⟩ | ⟨y, len', cap', m, n, D, Pl, hcs, _, hl, hm, hmm, _, hx⟩
  · simp only [List.cons.injEq, Value.slice.injEq, and_true] at h0
    obtain ⟨rfl, rfl, rfl⟩ := h0
    exact ⟨[], ⟨rfl, fun h => absurd h (by omega), by simp⟩, Nat.le_refl _, by simp [maxLen]⟩
  · simp only [List.cons.injEq, Value.slice.injEq, and_true] at hcs
    obtain ⟨rfl, rfl, rfl⟩ := hcs
    have hm2 : m = cap := by simpa using hmm
    subst hm2
    have hC : Try.prog.cellsOf 35 = 4 := by kernel_rfl
    rw [hC] at hx
    have each : ∀ i, i < len → ∃ o, opFine o ∧ ∀ j v, (opCells o)[j]? = some v → w.cell? ((y.add (i * 4)).add j) = some v := by
      intro i hi
      obtain ⟨cs, h1, h2⟩ := hx i (by omega)
      obtain ⟨_, hcl, hat⟩ := World.cells?_some h1
      obtain ⟨ys, n', _, _, _, hyl, hf⟩ := DataW.trod_struct Try.underlying35 h2
      match cs, hcl, ys, hyl with
      | [c0, c1, c2, c3], _, [y0, y1, y2, y3], _ =>
        obtain ⟨k, g0, _, w0⟩ := DataW.trod_int Try.underlying3 (hf 0 _ rfl)
        obtain ⟨x, g1, _, w1⟩ := DataW.trod_int Try.underlying3 (hf 1 _ rfl)
        obtain ⟨n, g2, _, w2⟩ := DataW.trod_int Try.underlying3 (hf 2 _ rfl)
        obtain ⟨s, g3, _, w3⟩ := DataW.trod_string Try.underlying9 (hf 3 _ rfl)
        have u1 : Try.prog.cellsOf 3 = 1 := by kernel_rfl
        have u2 : Try.prog.cellsOf 9 = 1 := by kernel_rfl
        simp [u1] at g0 g1 g2
        simp [u2] at g3
        subst g0 g1 g2 g3
        have hs : str s.data.toList = s := by simp [str]
        refine ⟨⟨k, x, n, s.data.toList⟩, ⟨w0, w1, w2, by rw [Array.length_toList]; exact w3⟩, fun j v hv => ?_⟩
        rcases j with _ | _ | _ | _ | j
        · exact (hat 0 (by omega)).trans hv
        · exact (hat 1 (by omega)).trans hv
        · exact (hat 2 (by omega)).trans hv
        · rw [show (opCells ⟨k, x, n, s.data.toList⟩)[3]? = some (.string s) from by simp [opCells, hs]] at hv
          exact (hat 3 (by omega)).trans hv
        · simp [opCells] at hv
    obtain ⟨f, hf⟩ := choose_lt (α := OpV) (p := fun i o => opFine o ∧ ∀ j v, (opCells o)[j]? = some v → w.cell? ((y.add (i * 4)).add j) = some v) each
    refine ⟨(List.range len).map f, ⟨by simp, fun hn => ?_, fun o ho => ?_⟩, hl, hm⟩
    · obtain ⟨b, off, spot⟩ := y
      have h0 := (hf 0 hn).2 0 _ rfl
      have hspot : spot = none := by simpa [Addr.add] using World.cell?_spot h0
      subst hspot
      refine ⟨b, off, rfl, fun i o ho j v hv => ?_⟩
      have hi : i < len := by have := (List.getElem?_eq_some_iff.1 ho).1; simpa using this
      simp [hi] at ho
      subst ho
      have h1 := (hf i hi).2 j v hv
      rw [add_add] at h1
      rw [add_plain] at h1
      exact h1
    · obtain ⟨i, hi, rfl⟩ := List.mem_map.1 ho
      exact (hf i (List.mem_range.1 hi)).1
end
end Go.Proofs.Ytlopkmkagcofdaa
