/- Plain reading and writing (chapter 3): what a reader and a writer come to, call by call. No program in sight. -/
import Derived.WalkKit
namespace Go.Proofs.Ythkjgkdglphfcaa.Cur
set_option linter.unusedVariables false
set_option linter.unusedSimpArgs false
open Go.RowKit

/-- What went wrong first. -/
def failE (e c : Nat) : Nat := if e = 0 then c else e
/-- A reader: the error, what is left. A writer: the error, what was written. -/
structure St where
  e : Nat
  bs : List UInt8

/-- The error that reading n bytes comes to. -/
def bytesErr (s : St) (n : Int) : Nat := if n < 0 then failE s.e 1 else if (s.bs.length : Int) < n then failE s.e 2 else s.e
def rBytes (s : St) (n : Int) : List UInt8 × St :=
  if bytesErr s n = 0 then (s.bs.take n.toNat, ⟨0, s.bs.drop n.toNat⟩) else ([], ⟨bytesErr s n, s.bs⟩)
/-- The number that bytes are, the lowest first. -/
def le : List UInt8 → Nat
  | [] => 0
  | b :: bs => b.toNat + 256 * le bs
/-- The error ahead of a number of n bytes. -/
def wideErr (e : Nat) (n : Int) : Nat := if n < 1 ∨ 4 < n then failE e 1 else e
def rNum (s : St) (n : Int) : Nat × St := (le (rBytes ⟨wideErr s.e n, s.bs⟩ n).1, (rBytes ⟨wideErr s.e n, s.bs⟩ n).2)
def rText (s : St) : List UInt8 × St := rBytes (rNum s 1).2 (rNum s 1).1
def rLeft (s : St) : Nat := if s.e = 0 then s.bs.length else 0
def endE (s : St) : Nat := if 0 < s.bs.length then failE s.e 2 else s.e

/-- The k lowest bytes of a number. -/
def leBytes (x : Nat) : Nat → List UInt8
  | 0 => []
  | k + 1 => leBytes x k ++ [UInt8.ofNat (x / 256 ^ k % 256)]
/-- Does a number not fit n bytes? -/
def misfit (x n : Int) : Prop := n < 1 ∨ 4 < n ∨ x < 0 ∨ ¬ x / (256 : Int) ^ n.toNat = 0
instance (x n : Int) : Decidable (misfit x n) := by unfold misfit; infer_instance
def wNum (s : St) (x n : Int) : St := if misfit x n then ⟨failE s.e 1, s.bs⟩ else if s.e = 0 then ⟨0, s.bs ++ leBytes x.toNat n.toNat⟩ else s
def wBytes (s : St) (b : List UInt8) : St := if s.e = 0 then ⟨0, s.bs ++ b⟩ else s
def wText (s : St) (t : List UInt8) : St := if 255 < t.length then ⟨failE s.e 3, s.bs⟩ else wBytes (wNum s t.length 1) t
def wDone (s : St) : List UInt8 := if s.e = 0 then s.bs else []

theorem failE_zero (c : Nat) : failE 0 c = c := rfl
theorem failE_pos {e : Nat} (h : e ≠ 0) (c : Nat) : failE e c = e := by simp [failE, h]

theorem leBytes_length (x : Nat) : ∀ k, (leBytes x k).length = k
  | 0 => rfl
  | k + 1 => by simp [leBytes, leBytes_length x k]
theorem le_append (a b : List UInt8) : le (a ++ b) = le a + 256 ^ a.length * le b := by
  induction a with
  | nil => simp [le]
  | cons x a ih =>
    simp only [List.cons_append, le, ih, List.length_cons, Nat.pow_succ]
    rw [Nat.mul_add, Nat.add_assoc]
    congr 1
    rw [Nat.mul_comm (256 ^ a.length) 256, Nat.mul_assoc]
theorem le_lt (a : List UInt8) : le a < 256 ^ a.length := by
  induction a with
  | nil => simp [le]
  | cons x a ih =>
    have hx := x.toNat_lt
    simp only [le, List.length_cons, Nat.pow_succ]
    omega
theorem le_leBytes (x : Nat) : ∀ k, le (leBytes x k) = x % 256 ^ k
  | 0 => by simp [leBytes, le, Nat.mod_one]
  | k + 1 => by
    rw [leBytes, le_append, le_leBytes x k, leBytes_length]
    have h1 : le [UInt8.ofNat (x / 256 ^ k % 256)] = x / 256 ^ k % 256 := by simp [le, UInt8.toNat_ofNat']
    rw [h1, Nat.pow_succ, Nat.mod_mul]
theorem le_bytes_lt (x : Nat) (k : Nat) (h : x < 256 ^ k) : le (leBytes x k) = x := by rw [le_leBytes, Nat.mod_eq_of_lt h]

/-! In the walk's own forms -/
theorem pow256 (m : Nat) : (256 : Nat) ^ m = 2 ^ (8 * m) := by rw [show (256 : Nat) = 2 ^ 8 from rfl, ← Nat.pow_mul]
theorem wraps_i64 (n : Int) (h0 : 0 ≤ n) (h1 : n < 2 ^ 63) : IntKind.i64.wrap n = n := by rw [IntKind.wrap_i64]; omega
theorem or_go {x d m : Nat} (hm : m < 4) (hd : d < 256) (hx : x < 256 ^ m) : bits .or .i64 (x : Int) (wrap64 ((d : Int) * 2 ^ (8 * m))) = ((x + 256 ^ m * d : Nat) : Int) := by
  rw [pow256] at hx ⊢
  have hp : (2 : Nat) ^ (8 * m) ≤ 16777216 := by
    have : (16777216 : Nat) = 2 ^ 24 := by decide
    rw [this]
    exact Nat.pow_le_pow_right (by decide) (by omega)
  have h0 : 0 < 2 ^ (8 * m) := Nat.two_pow_pos _
  have hprod : 2 ^ (8 * m) * d ≤ 16777216 * 255 := Nat.mul_le_mul hp (by omega)
  have e1 : ((d : Int) * 2 ^ (8 * m)) = ((2 ^ (8 * m) * d : Nat) : Int) := by
    rw [Int.natCast_mul, Int.natCast_pow, Int.mul_comm]; rfl
  have e2 : wrap64 ((d : Int) * 2 ^ (8 * m)) = ((2 ^ (8 * m) * d : Nat) : Int) := by
    rw [e1]; exact IntWalk.wrap64_in _ (by omega)
  rw [e2, (bits_nat .i64 63 (by decide) wraps_i64 x (2 ^ (8 * m) * d) (by omega) (by omega)).2]
  congr 1
  rw [Nat.or_comm, ← Nat.two_pow_add_eq_or_of_lt hx, Nat.add_comm]
theorem le_snoc (a : List UInt8) (d : UInt8) : le (a ++ [d]) = le a + 256 ^ a.length * d.toNat := by rw [le_append]; simp [le]

end Go.Proofs.Ythkjgkdglphfcaa.Cur
