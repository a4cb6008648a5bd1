/- Chapter 10 plainly: a list's bytes. -/
import Derived.Test.YthkjgkdglphfcaaRows
import Derived.Test.YthkjgkdglphfcaaDirMay
import Derived.Test.YthkjgkdglphfcaaCurMath
namespace Go.Proofs.Ythkjgkdglphfcaa
set_option linter.unusedVariables false
set_option linter.unusedSimpArgs false
open Go.RowKit

theorem wNum_fit (bs : List UInt8) (z : Int) (n : Nat) (hn : 1 ≤ n ∧ n ≤ 4) (h0 : 0 ≤ z) (h1 : z < (256 : Int) ^ n) : Cur.wNum ⟨0, bs⟩ z (n : Nat) = ⟨0, bs ++ Cur.leBytes z.toNat n⟩ := by
  have : ¬ Cur.misfit z (n : Nat) := by
    unfold Cur.misfit
    have h : z / (256 : Int) ^ ((n : Nat) : Int).toNat = 0 := by
      rw [Int.toNat_natCast]
      exact Int.ediv_eq_zero_of_lt h0 h1
    rw [h]
    omega
  unfold Cur.wNum
  rw [if_neg this, Int.toNat_natCast]
  rfl
theorem wText_fit (bs t : List UInt8) (h : t.length ≤ 255) : Cur.wText ⟨0, bs⟩ t = ⟨0, bs ++ (Cur.leBytes t.length 1 ++ t)⟩ := by
  have h1 := wNum_fit bs (t.length : Nat) 1 (by omega) (by omega) (by omega)
  rw [show ((1 : Nat) : Int) = 1 from rfl, Int.toNat_natCast] at h1
  unfold Cur.wText
  rw [if_neg (by omega), h1]
  simp [Cur.wBytes, List.append_assoc]
def encX (x : Ent) : List UInt8 := Cur.leBytes x.name.length 1 ++ x.name ++ Cur.leBytes x.kind.toNat 1 ++ Cur.leBytes x.ref.toNat 4
def encL (l : List Ent) : List UInt8 := l.flatMap encX
/-- Do the names rise, and is each entry one that may be? -/
def okL : List UInt8 → List Ent → Bool
  | _, [] => true
  | last, x :: l => mayB x last && okL x.name l
def lastN : List UInt8 → List Ent → List UInt8
  | last, [] => last
  | _, x :: l => lastN x.name l
theorem okL_snoc (last : List UInt8) (l : List Ent) (x : Ent) : okL last (l ++ [x]) = (okL last l && mayB x (lastN last l)) := by
  induction l generalizing last with
  | nil => simp [okL, lastN]
  | cons y l ih => simp only [List.cons_append, okL, lastN, ih, Bool.and_assoc]
theorem lastN_snoc (last : List UInt8) (l : List Ent) (x : Ent) : lastN last (l ++ [x]) = x.name := by
  induction l generalizing last with
  | nil => rfl
  | cons y l ih => simp only [List.cons_append, lastN, ih]
theorem okL_append (last : List UInt8) (a b : List Ent) : okL last (a ++ b) = (okL last a && okL (lastN last a) b) := by
  induction a generalizing last with
  | nil => simp [okL, lastN]
  | cons y l ih => simp only [List.cons_append, okL, lastN, ih, Bool.and_assoc]
theorem okL_take {last : List UInt8} {l : List Ent} (k : Nat) (h : okL last (l.take k) = false) : okL last l = false := by
  rw [← List.take_append_drop k l, okL_append, h, Bool.false_and]
theorem take_snoc_ent {l : List Ent} {k : Nat} {x : Ent} (h : l[k]? = some x) : l.take (k + 1) = l.take k ++ [x] := by
  obtain ⟨hlt, rfl⟩ := List.getElem?_eq_some_iff.1 h
  exact List.take_succ_eq_append_getElem hlt
theorem encL_snoc (l : List Ent) (x : Ent) : encL (l ++ [x]) = encL l ++ encX x := by simp [encL, List.flatMap_append]
theorem may_name {x : Ent} {last : List UInt8} (h : mayB x last = true) : x.name.length ≤ 255 ∧ (1 ≤ x.kind ∧ x.kind ≤ 3) ∧ (0 ≤ x.ref ∧ x.ref ≤ 4294967295) := by
  have h : MayP x last := of_decide_eq_true h
  unfold MayP at h
  refine ⟨?_, h.2.2⟩
  have h1 := h.1
  unfold validN at h1
  rcases Nat.lt_or_ge 255 x.name.length with h2 | h2
  · rw [if_pos h2] at h1; omega
  · exact h2
theorem encX_length {x : Ent} (h : x.name.length ≤ 255) : (encX x).length ≤ 261 := by
  unfold encX
  simp only [List.length_append, Cur.leBytes_length]
  omega
def putBs (l : List Ent) : List UInt8 := if okL [] l then encL l else []
def putE (l : List Ent) : Nat := if okL [] l then 0 else 1
/-- Entries in memory. -/
def EntsIn (w : World) (A : Option Addr) (len : Nat) (l : List Ent) : Prop :=
  l.length = len ∧ (0 < len → ∃ b off, A = some ⟨b, off, none⟩ ∧ ∀ i x, l[i]? = some x → ∀ j v, (entCells x)[j]? = some v → w.cell? ⟨b, off + (i * 3 + j), none⟩ = some v)
theorem EntsIn.below {w w' : World} {A : Option Addr} {len : Nat} {l : List Ent} (h : EntsIn w A len l) (hb : Below w.heap.size w w') : EntsIn w' A len l :=
  ⟨h.1, fun hn => by
    obtain ⟨b, off, rfl, hc⟩ := h.2 hn
    refine ⟨b, off, rfl, fun i x hx j v hv => ?_⟩
    have h1 := hc i x hx j v hv
    exact (World.cell?_of_block (w := w) (a := ⟨b, off + (i * 3 + j), none⟩) (hb.block b (block_lt_of_cell h1))).trans h1⟩
theorem EntsIn.at_ {w : World} {A : Option Addr} {len i : Nat} {l : List Ent} (h : EntsIn w A len l) (hi : i < len) : ∃ b off x, A = some ⟨b, off, none⟩ ∧ l[i]? = some x ∧
    w.cell? ⟨b, off + i * 3, none⟩ = some (.string (str x.name)) ∧ w.cell? ⟨b, off + i * 3 + 1, none⟩ = some (.int .i64 x.kind) ∧ w.cell? ⟨b, off + i * 3 + 2, none⟩ = some (.int .i64 x.ref) := by
  obtain ⟨b, off, hA, hc⟩ := h.2 (by omega)
  have hl : l[i]? = some (l[i]'(by rw [h.1]; exact hi)) := List.getElem?_eq_getElem _
  exact ⟨b, off, _, hA, hl, hc i _ hl 0 _ rfl, hc i _ hl 1 _ rfl, hc i _ hl 2 _ rfl⟩
theorem EntsIn.take {w : World} {A : Option Addr} {len : Nat} {l : List Ent} (h : EntsIn w A len l) {k : Nat} (hk : k ≤ len) : EntsIn w A k (l.take k) :=
  ⟨by rw [List.length_take, h.1]; omega, fun hn => by
    obtain ⟨b, off, rfl, hc⟩ := h.2 (by omega)
    refine ⟨b, off, rfl, fun i x hx j v hv => hc i x ?_ j v hv⟩
    rw [List.getElem?_take] at hx
    split at hx
    · exact hx
    · cases hx⟩
end Go.Proofs.Ythkjgkdglphfcaa
