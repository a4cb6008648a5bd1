/- Chapter 10: whether an entry may stand behind a name; a list's bytes, plainly. -/
import Derived.Test.YthkjgkdglphfcaaRows
import Derived.Test.YthkjgkdglphfcaaDirValid
import Derived.Test.YthkjgkdglphfcaaCurMath
namespace Go.Proofs.Ythkjgkdglphfcaa
set_option linter.unusedVariables false
set_option linter.unusedSimpArgs false
open Go.RowKit

structure Ent where
  name : List UInt8
  kind : Int
  ref : Int
instance : Inhabited Ent := ⟨⟨[], 0, 0⟩⟩
instance : DecidableEq Ent := fun ⟨n, k, r⟩ ⟨n', k', r'⟩ =>
  if h : n = n' ∧ k = k' ∧ r = r' then isTrue (by obtain ⟨rfl, rfl, rfl⟩ := h; rfl) else isFalse fun e => h (by cases e; exact ⟨rfl, rfl, rfl⟩)
def entCells (x : Ent) : Array Value := #[.string (str x.name), .int .i64 x.kind, .int .i64 x.ref]
theorem less_eq (a b : List UInt8) : Op.bytesLess a b = decide (a < b) := by
  induction a generalizing b with
  | nil => cases b <;> simp [Op.bytesLess]
  | cons x a ih =>
    cases b with
    | nil => simp [Op.bytesLess]
    | cons y b =>
      rw [Op.bytesLess, ih]
      simp only [List.cons_lt_cons_iff]
      by_cases h1 : x < y <;> by_cases h2 : x = y <;> by_cases h3 : a < b <;> simp [h1, h2, h3]
theorem less_irrefl (a : List UInt8) : Op.bytesLess a a = false := by rw [less_eq]; simp
theorem less_trans {a b c : List UInt8} (h1 : Op.bytesLess a b = true) (h2 : Op.bytesLess b c = true) : Op.bytesLess a c = true := by
  rw [less_eq, decide_eq_true_eq] at *
  exact List.lt_trans h1 h2
theorem less_three (a b : List UInt8) : Op.bytesLess a b = !(Op.bytesLess b a || b == a) := by
  rw [less_eq, less_eq, Bool.eq_iff_iff]
  simp only [decide_eq_true_eq, Bool.not_eq_true', Bool.or_eq_false_iff, decide_eq_false_iff_not, beq_eq_false_iff_ne]
  constructor
  · intro h
    exact ⟨List.lt_asymm h, fun e => by subst e; exact List.lt_irrefl _ h⟩
  · rintro ⟨h1, h2⟩
    by_cases h : a < b
    · exact h
    · exact absurd (List.le_antisymm (List.not_lt.1 h) (List.not_lt.1 h1)) h2
def MayP (x : Ent) (last : List UInt8) : Prop := validN x.name = 0 ∧ Op.bytesLess last x.name = true ∧ (1 ≤ x.kind ∧ x.kind ≤ 3) ∧ (0 ≤ x.ref ∧ x.ref ≤ 4294967295)
instance (x : Ent) (last : List UInt8) : Decidable (MayP x last) := by unfold MayP; infer_instance
def mayB (x : Ent) (last : List UInt8) : Bool := decide (MayP x last)
/-- An entry lies in block g. -/
def EntAt (w : World) (g : Nat) (x : Ent) : Prop := w.heap[g]? = some (.cells (entCells x) 35 (0, 0))
theorem EntAt.c0 {w : World} {g : Nat} {x : Ent} (h : EntAt w g x) : w.cell? ⟨g, 0, none⟩ = some (.string (str x.name)) := by rw [cell_of_row w g 0 _ _ (0, 0) h]; rfl
theorem EntAt.c1 {w : World} {g : Nat} {x : Ent} (h : EntAt w g x) : w.cell? ⟨g, 1, none⟩ = some (.int .i64 x.kind) := by rw [cell_of_row w g 1 _ _ (0, 0) h]; rfl
theorem EntAt.c2 {w : World} {g : Nat} {x : Ent} (h : EntAt w g x) : w.cell? ⟨g, 2, none⟩ = some (.int .i64 x.ref) := by rw [cell_of_row w g 2 _ _ (0, 0) h]; rfl
theorem EntAt.lt {w : World} {g : Nat} {x : Ent} (h : EntAt w g x) : g < w.heap.size := lt_of_heap h
theorem EntAt.free {w : World} {g : Nat} {x : Ent} (h : EntAt w g x) (p : Nat) : w.frozen? ⟨g, p, none⟩ = false := frozen_of_row w g p _ _ h
theorem EntAt.below {w w' : World} {g : Nat} {x : Ent} (h : EntAt w g x) (hb : Below w.heap.size w w') : EntAt w' g x := (hb.block g h.lt).trans h
theorem EntAt.only {w w' : World} {g : Nat} {x : Ent} {S : List Nat} (h : EntAt w g x) (ho : Only S w w') (hg : g ∉ S) : EntAt w' g x := ho.at_ h hg
theorem EntAt.new (w : World) (x : Ent) : EntAt (w.alloc (.cells (entCells x) 35)) w.heap.size x := heap_alloc_new w _
set_option maxHeartbeats 1600000 in
theorem may_any (x : Ent) (last : List UInt8) (w : World) : Calls Try.prog 17 #[.agg (entCells x), .string (str last)] w fun r w' => r = .returned (.bool (mayB x last)) ∧ Below w.heap.size w w' := by
  have hlt := less_three last x.name
  have HV := Lib.hid (valid_any x.name)
  have hx := str_toList x.name
  have hl := str_toList last
  obtain ⟨b1, h1⟩ : ∃ b1, Op.bytesLess (str x.name).toList (str last).toList = b1 := ⟨_, rfl⟩
  obtain ⟨b2, h2⟩ : ∃ b2, ((str x.name).toList == (str last).toList) = b2 := ⟨_, rfl⟩
  have h3 : Op.bytesLess last x.name = !(b1 || b2) := by rw [hlt, ← h1, ← h2, hx, hl]
  have hm : mayB x last = (decide (validN x.name = 0) && (!(b1 || b2) && (decide (1 ≤ x.kind ∧ x.kind ≤ 3) && decide (0 ≤ x.ref ∧ x.ref ≤ 4294967295)))) := by
    rw [← h3]
    unfold mayB MayP
    rw [Bool.eq_iff_iff]
    simp only [Bool.and_eq_true, decide_eq_true_iff]
    exact decide_eq_true_iff
  have HM := Lib.hid hm
  clear hlt hx hl h3 hm
  generalize validN x.name = v at *
  have HN := Lib.hid (EntAt.new w x)
  unfold entCells
  by_cases hall : v = 0 ∧ b1 = false ∧ b2 = false ∧ 1 ≤ x.kind ∧ x.kind ≤ 3 ∧ 0 ≤ x.ref ∧ x.ref ≤ 4294967295
  · obtain ⟨rfl, rfl, rfl, e1, e2, e3, e4⟩ := hall
    have HE : Hid (mayB x last = true) := by
      show mayB x last = true
      rw [HM.out]
      simp
      omega
    clear HM
    go_enter Try.func17, Try.ntmps17
    go_wp2_with fail
    refine (HV.out _).mono ?_
    rintro r w1 ⟨rfl, hb1⟩
    have hE := HN.out.below (by simpa [entCells] using hb1)
    have HB : Hid (Below w.heap.size w w1) := (below_all.alloc (Nat.le_refl _) _).trans (hb1.mono (by simp))
    have k0 := hE.c0
    have k1 := hE.c1
    have k2 := hE.c2
    clear hE hb1
    go_wp2_with fail
    go_ret
    exact ⟨by rw [HE.out]; first | rfl | (simp; done) | (simp; omega), HB.out⟩
  · have HE : Hid (mayB x last = false) := by
      show mayB x last = false
      rw [HM.out, Bool.eq_false_iff]
      simp
      intro g1 g2 g3 g4 g5 g6
      by_cases g7 : x.ref ≤ 4294967295
      · exact absurd ⟨g1, g2, g3, g4, g5, g6, g7⟩ hall
      · omega
    have hbad : v ≠ 0 ∨ (v = 0 ∧ b1 = true) ∨ (v = 0 ∧ b1 = false ∧ b2 = true) ∨ (v = 0 ∧ b1 = false ∧ b2 = false ∧ x.kind < 1) ∨ (v = 0 ∧ b1 = false ∧ b2 = false ∧ 1 ≤ x.kind ∧ 3 < x.kind) ∨ (v = 0 ∧ b1 = false ∧ b2 = false ∧ 1 ≤ x.kind ∧ x.kind ≤ 3 ∧ x.ref < 0) ∨ (v = 0 ∧ b1 = false ∧ b2 = false ∧ 1 ≤ x.kind ∧ x.kind ≤ 3 ∧ 0 ≤ x.ref ∧ 4294967295 < x.ref) := by
      clear HE
      cases b1 <;> cases b2 <;> simp at hall ⊢ <;> omega
    clear HM hall
    rcases hbad with hv | ⟨rfl, rfl⟩ | ⟨rfl, rfl, rfl⟩ | ⟨rfl, rfl, rfl, e1⟩ | ⟨rfl, rfl, rfl, e1, e2⟩ | ⟨rfl, rfl, rfl, e1, e2, e3⟩ | ⟨rfl, rfl, rfl, e1, e2, e3, e4⟩
    · have hv2 : ((v : Int) == 0) = false := by rw [beq_eq_false_iff_ne]; omega
      clear hv
      go_enter Try.func17, Try.ntmps17
      go_wp2_with fail
      refine (HV.out _).mono ?_
      rintro r w1 ⟨rfl, hb1⟩
      have hE := HN.out.below (by simpa [entCells] using hb1)
      have HB : Hid (Below w.heap.size w w1) := (below_all.alloc (Nat.le_refl _) _).trans (hb1.mono (by simp))
      have k0 := hE.c0
      have k1 := hE.c1
      have k2 := hE.c2
      clear hE hb1
      go_wp2_with fail
      go_ret
      exact ⟨by rw [HE.out]; first | rfl | (simp; done) | (simp; omega), HB.out⟩
    all_goals
      go_enter Try.func17, Try.ntmps17
      go_wp2_with fail
      refine (HV.out _).mono ?_
      rintro r w1 ⟨rfl, hb1⟩
      have hE := HN.out.below (by simpa [entCells] using hb1)
      have HB : Hid (Below w.heap.size w w1) := (below_all.alloc (Nat.le_refl _) _).trans (hb1.mono (by simp))
      have k0 := hE.c0
      have k1 := hE.c1
      have k2 := hE.c2
      clear hE hb1
      go_wp2_with fail
      go_ret
      exact ⟨by rw [HE.out]; first | rfl | (simp; done) | (simp; omega), HB.out⟩
end Go.Proofs.Ythkjgkdglphfcaa
