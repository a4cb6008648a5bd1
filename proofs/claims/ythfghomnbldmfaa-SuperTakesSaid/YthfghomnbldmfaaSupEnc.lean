/- Chapter 8 plainly: a superblock's bytes. -/
import Derived.Test.YthfghomnbldmfaaRows
import Derived.Test.YthfghomnbldmfaaSupMay
import Derived.Test.YthfghomnbldmfaaCurMath
import Derived.Test.YthfghomnbldmfaaCrcMath
namespace Go.Proofs.Ythfghomnbldmfaa
set_option linter.unusedVariables false
set_option linter.unusedSimpArgs false
open Go.RowKit

def magic : List UInt8 := [76, 77, 76, 65]
/-- The fields of four bytes, and of two: each cell's number, and what it holds. -/
def wideL (s : Sup) : List (Nat × Int) := [(0, s.size), (2, s.inodeAt), (3, s.dirAt), (4, s.fragAt), (5, s.idAt), (6, s.xattrAt), (9, s.root)]
def narrowL (s : Sup) : List (Nat × Int) := [(1, s.inodes), (7, s.ids), (8, s.frags)]
def lesOf (n : Nat) (l : List (Nat × Int)) : List UInt8 := l.flatMap fun x => Cur.leBytes x.2.toNat n
def enc38 (s : Sup) : List UInt8 := magic ++ lesOf 4 (wideL s) ++ lesOf 2 (narrowL s)
def enc (s : Sup) : List UInt8 := enc38 s ++ Cur.leBytes (Crc.sum (enc38 s)) 4 ++ List.replicate 22 0
def putBs (s : Sup) : List UInt8 := if supB s then enc s else []
def putE (s : Sup) : Nat := if supB s then 0 else 1

theorem lesOf_length (n : Nat) (l : List (Nat × Int)) : (lesOf n l).length = n * l.length := by
  induction l with
  | nil => simp [lesOf]
  | cons x l ih =>
    unfold lesOf at ih
    rw [lesOf, List.flatMap_cons, List.length_append, Cur.leBytes_length, ih, List.length_cons, Nat.mul_succ, Nat.add_comm]
theorem lesOf_take {n k : Nat} {l : List (Nat × Int)} {x : Nat × Int} (h : l[k]? = some x) : lesOf n (l.take (k + 1)) = lesOf n (l.take k) ++ Cur.leBytes x.2.toNat n := by
  obtain ⟨hlt, rfl⟩ := List.getElem?_eq_some_iff.1 h
  rw [lesOf, lesOf, List.take_succ_eq_append_getElem hlt, List.flatMap_append]
  simp
theorem enc38_length (s : Sup) : (enc38 s).length = 38 := by simp [enc38, lesOf_length, magic, wideL, narrowL]
theorem enc_length (s : Sup) : (enc s).length = 64 := by simp [enc, enc38_length, Cur.leBytes_length]
theorem supB_iff (s : Sup) : supB s = true ↔ SupP s := by unfold supB; exact decide_eq_true_iff
theorem wide_fit {s : Sup} (h : SupP s) {k : Nat} {x : Nat × Int} (hx : (wideL s)[k]? = some x) : 0 ≤ x.2 ∧ x.2 < 4294967296 := by
  have hm := List.mem_of_getElem? hx
  unfold SupP at h
  simp only [wideL, List.mem_cons, List.not_mem_nil, or_false] at hm
  rcases hm with rfl | rfl | rfl | rfl | rfl | rfl | rfl <;> (simp only; omega)
theorem narrow_fit {s : Sup} (h : SupP s) {k : Nat} {x : Nat × Int} (hx : (narrowL s)[k]? = some x) : 0 ≤ x.2 ∧ x.2 < 65536 := by
  have hm := List.mem_of_getElem? hx
  unfold SupP at h
  simp only [narrowL, List.mem_cons, List.not_mem_nil, or_false] at hm
  rcases hm with rfl | rfl | rfl <;> (simp only; omega)
theorem wNum_fit (bs : List UInt8) (z : Int) (n : Nat) (hn : 1 ≤ n ∧ n ≤ 4) (h0 : 0 ≤ z) (h1 : z < (256 : Int) ^ n) : Cur.wNum ⟨0, bs⟩ z (n : Nat) = ⟨0, bs ++ Cur.leBytes z.toNat n⟩ := by
  have : ¬ Cur.misfit z (n : Nat) := by
    unfold Cur.misfit
    have h : z / (256 : Int) ^ ((n : Nat) : Int).toNat = 0 := by
      rw [Int.toNat_natCast]
      exact Int.ediv_eq_zero_of_lt h0 h1
    rw [h]
    omega
  unfold Cur.wNum
  rw [if_neg this, Int.toNat_natCast]
  rfl
theorem SupAt.wide {w : World} {g : Nat} {s : Sup} (h : SupAt w g s) {k : Nat} {x : Nat × Int} (hx : (wideL s)[k]? = some x) : w.cell? ⟨g, x.1, none⟩ = some (.int .i64 x.2) := by
  have hm := List.mem_of_getElem? hx
  simp only [wideL, List.mem_cons, List.not_mem_nil, or_false] at hm
  rcases hm with rfl | rfl | rfl | rfl | rfl | rfl | rfl
  · exact h.c0
  · exact h.c2
  · exact h.c3
  · exact h.c4
  · exact h.c5
  · exact h.c6
  · exact h.c9
theorem SupAt.narrow {w : World} {g : Nat} {s : Sup} (h : SupAt w g s) {k : Nat} {x : Nat × Int} (hx : (narrowL s)[k]? = some x) : w.cell? ⟨g, x.1, none⟩ = some (.int .i64 x.2) := by
  have hm := List.mem_of_getElem? hx
  simp only [narrowL, List.mem_cons, List.not_mem_nil, or_false] at hm
  rcases hm with rfl | rfl | rfl
  · exact h.c1
  · exact h.c7
  · exact h.c8
end Go.Proofs.Ythfghomnbldmfaa
