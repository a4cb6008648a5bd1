/- Walks: dirtab.Look's closure, and sort.Search over it. -/
import Derived.Test.YthkjgkdglphfcaaRows
import Derived.Test.YthkjgkdglphfcaaDirDec
import Derived.Test.YthkjgkdglphfcaaCurReader
import Derived.BigQuiet
namespace Go.Proofs.Ythkjgkdglphfcaa
set_option linter.unusedVariables false
set_option linter.unusedSimpArgs false
open Go.RowKit

/-- What the closure reads: a list's slice, a name. -/
structure ClAt (w : World) (g6 g3 : Nat) (A : Option Addr) (n c : Nat) (l : List Ent) (s : List UInt8) : Prop where
  row : w.cell? ⟨g6, 0, none⟩ = some (.slice A n c)
  key : w.cell? ⟨g3, 0, none⟩ = some (.string (str s))
  ents : EntsIn w A n l
theorem ClAt.below {w w' : World} {g6 g3 : Nat} {A : Option Addr} {n c : Nat} {l : List Ent} {s : List UInt8} (h : ClAt w g6 g3 A n c l s) (hb : Below w.heap.size w w') : ClAt w' g6 g3 A n c l s :=
  ⟨(hb.cell (p := ⟨g6, 0, none⟩) (block_lt_of_cell h.row)).trans h.row, (hb.cell (p := ⟨g3, 0, none⟩) (block_lt_of_cell h.key)).trans h.key, h.ents.below hb⟩
set_option maxHeartbeats 1000000 in
theorem look1_any (g6 g3 : Nat) (A : Option Addr) (n c i : Nat) (l : List Ent) (s : List UInt8) (x : Ent) (w : World) (h : ClAt w g6 g3 A n c l s) (hx : l[i]? = some x) (hn : n ≤ 1000000) :
    Calls Try.prog 33 #[.int .i64 (i : Nat), .pointer (some ⟨g6, 0, none⟩), .pointer (some ⟨g3, 0, none⟩)] w fun r w' => r = .returned (.bool (!(Op.bytesLess x.name s))) ∧ Below w.heap.size w w' := by
  have hi : i < n := by have := (List.getElem?_eq_some_iff.1 hx).1; have := h.ents.1; omega
  obtain ⟨b, off, y, rfl, hy, e0, e1, e2⟩ := h.ents.at_ hi
  rw [hx] at hy
  cases hy
  have hi0 : (0 : Int) ≤ (i : Int) := by omega
  have hi1 : (i : Int) < (n : Int) := by omega
  have k6 := h.row
  have k3 := h.key
  have h1 := str_toList x.name
  have h2 := str_toList s
  clear h hx
  go_enter Try.func33, Try.ntmps33
  go_wp2_with fail
  go_quiet (fail)
  go_wp2_with fail
  go_ret
  exact ⟨rfl, belowN (Below.refl _ _) _⟩
/-- How many names lie below s. -/
def pos (l : List Ent) (s : List UInt8) : Nat := (l.takeWhile fun (x : Ent) => Op.bytesLess x.name s).length
theorem pos_le (l : List Ent) (s : List UInt8) : pos l s ≤ l.length := by
  unfold pos
  induction l with
  | nil => simp
  | cons x l ih =>
    rw [List.takeWhile_cons]
    split
    · simp only [List.length_cons]; omega
    · simp
theorem okL_less : ∀ (l : List Ent) (last : List UInt8), okL last l = true → ∀ (i : Nat) (x : Ent), l[i]? = some x → Op.bytesLess last x.name = true
  | [], last, _, i, x, h => by simp at h
  | y :: l, last, hok, i, x, h => by
    simp only [okL, Bool.and_eq_true] at hok
    have h1 : MayP y last := of_decide_eq_true hok.1
    match i with
    | 0 => simp at h; subst h; exact h1.2.1
    | i + 1 => exact less_trans h1.2.1 (okL_less l y.name hok.2 i x (by simpa using h))
theorem pos_spec : ∀ (l : List Ent) (last s : List UInt8), okL last l = true → ∀ (i : Nat) (x : Ent), l[i]? = some x → (!Op.bytesLess x.name s) = decide (pos l s ≤ i)
  | [], _, _, _, i, x, h => by simp at h
  | y :: l, last, s, hok, i, x, h => by
    simp only [okL, Bool.and_eq_true] at hok
    have hl := okL_less l y.name hok.2
    unfold pos
    rw [List.takeWhile_cons]
    cases hy : Op.bytesLess y.name s
    · have hx : Op.bytesLess x.name s = false := by
        match i with
        | 0 => simp at h; subst h; exact hy
        | i + 1 =>
          cases hz : Op.bytesLess x.name s
          · rfl
          · have := less_trans (hl i x (by simpa using h)) hz
            rw [hy] at this
            cases this
      rw [hx]
      simp
    · match i with
      | 0 => simp at h; subst h; rw [hy]; simp
      | i + 1 =>
        have := pos_spec l y.name s hok.2 i x (by simpa using h)
        rw [this, decide_eq_decide]
        simp [pos]
set_option maxHeartbeats 1000000 in
theorem search_any (g6 g3 : Nat) (A : Option Addr) (n c : Nat) (l : List Ent) (s : List UInt8) (w : World) (h : ClAt w g6 g3 A n c l s) (hok : okL [] l = true) (hn : n ≤ 1000000) :
    Calls Try.prog 32 #[.int .i64 (n : Nat), .func (.func 33) #[] #[.pointer (some ⟨g6, 0, none⟩), .pointer (some ⟨g3, 0, none⟩)]] w fun r w' => r = .returned (.int .i64 (pos l s : Nat)) ∧ Below w.heap.size w w' := by
  have HC : Hid (∀ (w' : World) (i : Nat) (_ : Below w.heap.size w w') (_ : i < n), Calls Try.prog 33 #[.int .i64 (i : Nat), .pointer (some ⟨g6, 0, none⟩), .pointer (some ⟨g3, 0, none⟩)] w' fun r w2 => r = .returned (.bool (decide (pos l s ≤ i))) ∧ Below w.heap.size w w2) := by
    intro w' i hb hi
    obtain ⟨x, hx⟩ : ∃ x, l[i]? = some x := ⟨_, List.getElem?_eq_getElem (by rw [h.ents.1]; exact hi)⟩
    refine (look1_any g6 g3 A n c i l s x w' (h.below hb) hx hn).mono ?_
    rintro r w2 ⟨rfl, h2⟩
    exact ⟨by rw [pos_spec l [] s hok i x hx], below_then hb h2⟩
  have HP : Hid (pos l s ≤ n) := by have := pos_le l s; rw [h.ents.1] at this; exact this
  clear h hok
  generalize pos l s = p at *
  go_enter Try.func32, Try.ntmps32
  go_wp2_with fail
  go_loopw [5, 6] (fun lo hi wr => ∃ a b : Nat, lo = .int .i64 a ∧ hi = .int .i64 b ∧ a ≤ p ∧ p ≤ b ∧ b ≤ n ∧ Below w.heap.size w wr) (fun lo hi _ => (intOf hi).toNat - (intOf lo).toNat)
  case atStart => exact ⟨0, n, rfl, rfl, by omega, HP.out, by omega, Below.refl _ _⟩
  case round =>
    obtain ⟨a, b, rfl, rfl, hap, hpb, hbn, hb⟩ := hrel
    have HB := Lib.hid hb
    clear hb
    by_cases hab : a < b
    · have habI : (a : Int) < (b : Int) := by omega
      obtain ⟨m, hm⟩ : ∃ m : Nat, m = (a + b) / 2 := ⟨_, rfl⟩
      have hmI : ((a : Int) + (b : Int)) / 2 = (m : Int) := by omega
      have hma : a ≤ m := by omega
      have hmb : m < b := by omega
      have HMI := Lib.hid hmI
      clear hm hmI
      go_wp2_with fail
      rw [HMI.out]
      refine (HC.out wr m HB.out (by omega)).mono ?_
      rintro r w' ⟨rfl, hb'⟩
      have HB' := Lib.hid hb'
      clear hb' HB HMI
      by_cases hp : p ≤ m
      · have hd : decide (p ≤ m) = true := decide_eq_true hp
        rw [hd]
        go_wp2_with fail
        exact ⟨⟨a, m, rfl, rfl, hap, hp, by omega, HB'.out⟩, by simp [intOf]; omega⟩
      · have hd : decide (p ≤ m) = false := decide_eq_false hp
        rw [hd]
        go_wp2_with fail
        exact ⟨⟨m + 1, b, by go_num, rfl, by omega, hpb, hbn, HB'.out⟩, by simp [intOf]; omega⟩
    · obtain rfl : a = p := by omega
      obtain rfl : b = a := by omega
      go_wp2_with fail
      go_ret
      exact ⟨rfl, HB.out⟩
end Go.Proofs.Ythkjgkdglphfcaa
