/- A slice of byte slices that came in, as the law's walk wants it: each row's address, length, room and bytes. -/
import Derived.Test.YtomijekbkamcbaaCrcMem
import Derived.WalkKit
import Derived.Deep.Matrix
namespace Go.Proofs.Ytomijekbkamcbaa
set_option linter.unusedVariables false
set_option linter.unusedSimpArgs false
open Go.RowKit

theorem rows_in {w : World} {base : Nat} {a : Addr} {len cap : Nat} {A : Nat → Option Addr} {L C : Nat → Nat} {Z : Nat → List Int} (hl : len ≤ cap)
    (h : ∀ r, r < cap → w.cell? (a.add r) = some (.slice (A r) (L r) (C r)) ∧ L r ≤ C r ∧ C r ≤ maxLen ∧ (Z r).length = C r ∧ (∀ n ∈ Z r, (Lit.int .u8 n).wf = true) ∧ (A r = none → C r = 0) ∧
      ∀ a', A r = some a' → base ≤ a'.block ∧ ∀ c, c < C r → w.cell? (a'.add c) = some (.int .u8 ((Z r).getD c 0))) :
    ∃ l, RowsIn w (some a) len l ∧ ∀ x ∈ l, x.n ≤ x.c ∧ x.c ≤ maxLen := by
  obtain ⟨bs, hbs⟩ := Deep.choose_lt (α := List UInt8) (n := cap) (p := fun r bs => Bytes w (A r) (L r) bs) (fun r hr => by
    obtain ⟨h1, h2, h3, h4, h5, h6, h7⟩ := h r hr
    have hrow : IsRow .u8 w (A r) (L r) (C r) (Z r) := by
      rcases hA : A r with _ | a'
      · have := h6 hA
        exact .inl ⟨rfl, by omega, by omega, List.eq_nil_of_length_eq_zero (by omega)⟩
      · exact .inr ⟨a', rfl, h2, h3, h4, fun i hi => (h7 a' hA).2 i (by omega), h5⟩
    obtain ⟨b, hb, _⟩ := bytes_of_row hrow
    exact ⟨b, hb⟩)
  refine ⟨(List.range len).map fun r => ⟨A r, L r, C r, bs r⟩, ⟨by simp, fun hn => ?_, fun x hx => ?_⟩, fun x hx => ?_⟩
  · obtain ⟨b, off, spot⟩ := a
    have h0 := (h 0 (by omega)).1
    have hspot : spot = none := by simpa [Addr.add] using World.cell?_spot h0
    subst hspot
    refine ⟨b, off, rfl, fun j x hx => ?_⟩
    have hj : j < len := by have := (List.getElem?_eq_some_iff.1 hx).1; simpa using this
    have hadd : (⟨b, off, none⟩ : Addr).add j = ⟨b, off + j, none⟩ := by unfold Addr.add; split <;> simp_all
    simp [hj] at hx
    subst hx
    rw [← hadd]
    exact (h j (by omega)).1
  · obtain ⟨r, hr, rfl⟩ := List.mem_map.1 hx
    have hr := List.mem_range.1 hr
    refine ⟨hbs r (by omega), ?_⟩
    obtain ⟨_, h2, h3, _⟩ := h r (by omega)
    simp only [maxLen] at h3
    show L r ≤ _
    omega
  · obtain ⟨r, hr, rfl⟩ := List.mem_map.1 hx
    have hr := List.mem_range.1 hr
    obtain ⟨_, h2, h3, _⟩ := h r (by omega)
    exact ⟨h2, h3⟩
end Go.Proofs.Ytomijekbkamcbaa
