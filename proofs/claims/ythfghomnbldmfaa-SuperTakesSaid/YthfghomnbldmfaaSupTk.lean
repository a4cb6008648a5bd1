/- Chapter 8 plainly: what reading a superblock comes to. -/
import Derived.Test.YthfghomnbldmfaaRows
import Derived.Test.YthfghomnbldmfaaSupEnc
namespace Go.Proofs.Ythfghomnbldmfaa
set_option linter.unusedVariables false
set_option linter.unusedSimpArgs false
open Go.RowKit

def sup0 : Sup := ⟨0, 0, 0, 0, 0, 0, 0, 0, 0, 0⟩
def supSet (s : Sup) (p : Nat) (v : Int) : Sup :=
  match p with
  | 0 => { s with size := v } | 1 => { s with inodes := v } | 2 => { s with inodeAt := v } | 3 => { s with dirAt := v } | 4 => { s with fragAt := v }
  | 5 => { s with idAt := v } | 6 => { s with xattrAt := v } | 7 => { s with ids := v } | 8 => { s with frags := v } | 9 => { s with root := v } | _ => s
theorem supSet_cells (s : Sup) (p : Nat) (v : Int) (hp : p < 10) : (supCells s).setIfInBounds p (.int .i64 v) = supCells (supSet s p v) := by
  match p, hp with
  | 0, _ => rfl
  | 1, _ => rfl
  | 2, _ => rfl
  | 3, _ => rfl
  | 4, _ => rfl
  | 5, _ => rfl
  | 6, _ => rfl
  | 7, _ => rfl
  | 8, _ => rfl
  | 9, _ => rfl
  | p + 10, h => omega
/-- One field is read. -/
def rdF (n : Int) (x : Sup × Cur.St) (p : Nat) : Sup × Cur.St := (supSet x.1 p (Cur.rNum x.2 n).1, (Cur.rNum x.2 n).2)
def rds (n : Int) (x : Sup × Cur.St) (ps : List Nat) : Sup × Cur.St := ps.foldl (rdF n) x
theorem rds_take {n : Int} {x : Sup × Cur.St} {ps : List Nat} {k p : Nat} (h : ps[k]? = some p) : rds n x (ps.take (k + 1)) = rdF n (rds n x (ps.take k)) p := by
  obtain ⟨hlt, rfl⟩ := List.getElem?_eq_some_iff.1 h
  rw [rds, List.take_succ_eq_append_getElem hlt, List.foldl_append]
  rfl
def widePs : List Nat := [0, 2, 3, 4, 5, 6, 9]
def narrowPs : List Nat := [1, 7, 8]

/-- The reading of a superblock, of any bytes. -/
def tkSt (bs : List UInt8) : Cur.St := (Cur.rBytes ⟨0, bs.take 64⟩ 4).2
def tkW (bs : List UInt8) : Sup × Cur.St := rds 4 (sup0, tkSt bs) widePs
def tkN (bs : List UInt8) : Sup × Cur.St := rds 2 (tkW bs) narrowPs
def tkSum (bs : List UInt8) : Nat := (Cur.rNum (tkN bs).2 4).1
def tkEnd (bs : List UInt8) : Cur.St := (Cur.rNum (tkN bs).2 4).2
def tkRest (bs : List UInt8) : List UInt8 := (Cur.rBytes (tkEnd bs) (Cur.rLeft (tkEnd bs))).1
def tkErr (bs : List UInt8) : Nat := (Cur.rBytes (tkEnd bs) (Cur.rLeft (tkEnd bs))).2.e
def tkOk (bs : List UInt8) : Prop :=
  64 ≤ bs.length ∧ (Cur.rBytes ⟨0, bs.take 64⟩ 4).1 = magic ∧ tkSum bs = Crc.sum (bs.take 38) ∧ (tkN bs).1.size = bs.length ∧ supB (tkN bs).1 = true ∧ ∀ c ∈ tkRest bs, c = 0
instance (bs : List UInt8) : Decidable (tkOk bs) := by unfold tkOk; infer_instance
def takeS (bs : List UInt8) : Sup := if tkOk bs then (tkN bs).1 else sup0
def takeE (bs : List UInt8) : Nat := if tkOk bs then 0 else 2
theorem rNum_long (D : List UInt8) (n : Nat) (hn : 1 ≤ n ∧ n ≤ 4) (h : n ≤ D.length) : Cur.rNum ⟨0, D⟩ (n : Nat) = (Cur.le (D.take n), ⟨0, D.drop n⟩) := by
  have h1 : Cur.wideErr 0 (n : Nat) = 0 := by unfold Cur.wideErr; rw [if_neg (by omega)]
  have h2 : Cur.bytesErr ⟨0, D⟩ (n : Nat) = 0 := by unfold Cur.bytesErr; rw [if_neg (by omega), if_neg (by simp only; omega)]
  unfold Cur.rNum
  simp only [h1]
  unfold Cur.rBytes
  rw [if_pos h2]
  simp
theorem rBytes_long (D : List UInt8) (n : Nat) (h : n ≤ D.length) : Cur.rBytes ⟨0, D⟩ (n : Nat) = (D.take n, ⟨0, D.drop n⟩) := by
  have h2 : Cur.bytesErr ⟨0, D⟩ (n : Nat) = 0 := by unfold Cur.bytesErr; rw [if_neg (by omega), if_neg (by simp only; omega)]
  unfold Cur.rBytes
  rw [if_pos h2]
  simp
theorem rds_long (n : Nat) (hn : 1 ≤ n ∧ n ≤ 4) : ∀ (ps : List Nat) (s : Sup) (D : List UInt8), n * ps.length ≤ D.length → (rds (n : Nat) (s, ⟨0, D⟩) ps).2 = ⟨0, D.drop (n * ps.length)⟩
  | [], s, D, _ => by simp [rds]
  | p :: ps, s, D, h => by
    rw [List.length_cons, Nat.mul_succ] at h
    have h1 := rNum_long D n hn (by omega)
    have h2 := rds_long n hn ps (supSet s p (Cur.rNum ⟨0, D⟩ (n : Nat)).1) (D.drop n) (by rw [List.length_drop]; omega)
    have h3 : rds (n : Nat) (s, ⟨0, D⟩) (p :: ps) = rds (n : Nat) (supSet s p (Cur.rNum ⟨0, D⟩ (n : Nat)).1, (Cur.rNum ⟨0, D⟩ (n : Nat)).2) ps := rfl
    rw [h3, h1]
    rw [h1] at h2
    rw [h2, List.drop_drop, List.length_cons, Nat.mul_succ, Nat.add_comm]
theorem tkSt_long (bs : List UInt8) (h : 64 ≤ bs.length) : Cur.rBytes ⟨0, bs.take 64⟩ 4 = (bs.take 4, ⟨0, (bs.take 64).drop 4⟩) := by
  have := rBytes_long (bs.take 64) 4 (by rw [List.length_take]; omega)
  rw [show ((4 : Nat) : Int) = 4 from rfl] at this
  rw [List.take_take] at this
  exact this
theorem tkN_long (bs : List UInt8) (h : 64 ≤ bs.length) : (tkN bs).2 = ⟨0, (bs.take 64).drop 38⟩ := by
  have hl : (bs.take 64).length = 64 := by rw [List.length_take]; omega
  have h1 : tkSt bs = ⟨0, (bs.take 64).drop 4⟩ := by unfold tkSt; rw [tkSt_long bs h]
  have h2 := rds_long 4 (by omega) widePs sup0 ((bs.take 64).drop 4) (by rw [List.length_drop, hl]; simp [widePs])
  rw [show ((4 : Nat) : Int) = 4 from rfl] at h2
  have h3 : (tkW bs).2 = ⟨0, (bs.take 64).drop 32⟩ := by
    unfold tkW
    rw [h1]
    refine h2.trans ?_
    rw [List.drop_drop]
    rfl
  have h5 : tkN bs = rds 2 (tkW bs) narrowPs := rfl
  obtain ⟨⟨sw, stw⟩, hxw⟩ : ∃ xw, tkW bs = xw := ⟨_, rfl⟩
  rw [hxw] at h3 h5
  simp only at h3
  subst h3
  have h4 := rds_long 2 (by omega) narrowPs sw ((bs.take 64).drop 32) (by rw [List.length_drop, hl]; simp [narrowPs])
  rw [show ((2 : Nat) : Int) = 2 from rfl] at h4
  rw [h5, h4, List.drop_drop]
  rfl
theorem tk_long (bs : List UInt8) (h : 64 ≤ bs.length) : tkErr bs = 0 ∧ Cur.rLeft (tkN bs).2 = 26 ∧ tkSum bs = Cur.le (((bs.take 64).drop 38).take 4) ∧ tkRest bs = (bs.take 64).drop 42 := by
  have hl : (bs.take 64).length = 64 := by rw [List.length_take]; omega
  have h1 := tkN_long bs h
  have h2 := rNum_long ((bs.take 64).drop 38) 4 (by omega) (by rw [List.length_drop, hl]; omega)
  rw [show ((4 : Nat) : Int) = 4 from rfl] at h2
  have h3 : tkEnd bs = ⟨0, (bs.take 64).drop 42⟩ := by
    unfold tkEnd
    rw [h1]
    exact (congrArg Prod.snd h2).trans (by simp only [List.drop_drop])
  have h4 : Cur.rLeft (tkEnd bs) = 22 := by rw [h3]; simp [Cur.rLeft, hl]
  have h5 := rBytes_long ((bs.take 64).drop 42) 22 (by rw [List.length_drop, hl]; omega)
  have h6 : Cur.rBytes (tkEnd bs) (Cur.rLeft (tkEnd bs) : Nat) = ((bs.take 64).drop 42, ⟨0, []⟩) := by
    have e1 : List.take 22 ((bs.take 64).drop 42) = (bs.take 64).drop 42 := List.take_of_length_le (by rw [List.length_drop, hl]; omega)
    have e2 : List.drop 22 ((bs.take 64).drop 42) = [] := List.drop_eq_nil_of_le (by rw [List.length_drop, hl]; omega)
    rw [e1, e2] at h5
    rw [h4, h3]
    exact h5
  refine ⟨?_, ?_, ?_, ?_⟩
  · unfold tkErr; rw [h6]
  · rw [h1]; simp [Cur.rLeft, hl]
  · unfold tkSum; rw [h1]; exact congrArg Prod.fst h2
  · unfold tkRest; rw [h6]
theorem take_bad {bs : List UInt8} (h : ¬ tkOk bs) : takeS bs = sup0 ∧ takeE bs = 2 := by unfold takeS takeE; rw [if_neg h, if_neg h]; exact ⟨rfl, rfl⟩
end Go.Proofs.Ythfghomnbldmfaa
