/- CursorBack's plain law: what calls come to in bytes, and that reading gives them back. -/
import Derived.Test.YtlopkmkagcofdaaRows
import Derived.Test.YtlopkmkagcofdaaCurOps
import Derived.Test.YtlopkmkagcofdaaCurMath
namespace Go.Proofs.Ytlopkmkagcofdaa
set_option linter.unusedVariables false
set_option linter.unusedSimpArgs false
open Go.RowKit

/-- The bytes of one call. -/
def encOp (o : OpV) : List UInt8 :=
  if kindF o.k 3 = 0 then Cur.leBytes (kindF o.x 65536).toNat 2 else if kindF o.k 3 = 1 then o.s else Cur.leBytes o.s.length 1 ++ o.s
def encs (l : List OpV) : List UInt8 := l.flatMap encOp
theorem encs_take {l : List OpV} {i : Nat} {o : OpV} (h : l[i]? = some o) : encs (l.take (i + 1)) = encs (l.take i) ++ encOp o := by
  have hi := (List.getElem?_eq_some_iff.1 h)
  obtain ⟨hlt, rfl⟩ := hi
  rw [encs, encs, List.take_succ_eq_append_getElem hlt, List.flatMap_append]
  simp
theorem encs_drop {l : List OpV} {i n : Nat} {o : OpV} (h : l[i]? = some o) (hn : i < n) : encs ((l.take n).drop i) = encOp o ++ encs ((l.take n).drop (i + 1)) := by
  obtain ⟨hlt, rfl⟩ := List.getElem?_eq_some_iff.1 h
  have h2 : i < (l.take n).length := by rw [List.length_take]; omega
  rw [List.drop_eq_getElem_cons h2, encs, List.flatMap_cons, List.getElem_take]
  rfl
theorem encOp_length (o : OpV) (h : o.s.length ≤ 255) : (encOp o).length ≤ 257 := by
  unfold encOp
  split
  · rw [Cur.leBytes_length]; omega
  · split
    · omega
    · rw [List.length_append, Cur.leBytes_length]; omega
theorem encs_length (l : List OpV) (h : ∀ o ∈ l, o.s.length ≤ 255) : (encs l).length ≤ 257 * l.length := by
  induction l with
  | nil => simp [encs]
  | cons o l ih =>
    have h1 := encOp_length o (h o (by simp))
    have h2 := ih fun o ho => h o (by simp [ho])
    rw [encs, List.flatMap_cons, List.length_append, List.length_cons]
    unfold encs at h2
    omega
theorem back_wNum (bs : List UInt8) (z : Int) (h0 : 0 ≤ z) (h1 : z < 65536) : Cur.wNum ⟨0, bs⟩ z 2 = ⟨0, bs ++ Cur.leBytes z.toNat 2⟩ := by
  have : ¬ Cur.misfit z 2 := by
    unfold Cur.misfit
    have h : z / (256 : Int) ^ (2 : Int).toNat = 0 := by
      rw [show ((256 : Int) ^ (2 : Int).toNat) = 65536 from by decide]
      omega
    rw [h]
    omega
  unfold Cur.wNum
  rw [if_neg this]
  rfl
theorem back_wBytes (bs t : List UInt8) : Cur.wBytes ⟨0, bs⟩ t = ⟨0, bs ++ t⟩ := rfl
theorem back_wText (bs t : List UInt8) (h : t.length ≤ 255) : Cur.wText ⟨0, bs⟩ t = ⟨0, bs ++ (Cur.leBytes t.length 1 ++ t)⟩ := by
  have : ¬ Cur.misfit (t.length : Nat) 1 := by
    unfold Cur.misfit
    have h : ((t.length : Nat) : Int) / (256 : Int) ^ (1 : Int).toNat = 0 := by
      rw [show ((256 : Int) ^ (1 : Int).toNat) = 256 from by decide]
      omega
    rw [h]
    omega
  unfold Cur.wText
  rw [if_neg (by omega)]
  unfold Cur.wNum
  rw [if_neg this]
  simp [Cur.wBytes, List.append_assoc]
theorem back_rBytes (t rest : List UInt8) : Cur.rBytes ⟨0, t ++ rest⟩ (t.length : Nat) = (t, ⟨0, rest⟩) := by
  have h : Cur.bytesErr ⟨0, t ++ rest⟩ (t.length : Nat) = 0 := by
    unfold Cur.bytesErr
    rw [if_neg (by omega), if_neg (by simp only [List.length_append]; omega)]
  unfold Cur.rBytes
  rw [if_pos h]
  simp
theorem back_rNum (z : Nat) (k : Nat) (rest : List UInt8) (hk : 1 ≤ k ∧ k ≤ 4) (hz : z < 256 ^ k) : Cur.rNum ⟨0, Cur.leBytes z k ++ rest⟩ (k : Nat) = (z, ⟨0, rest⟩) := by
  have h : Cur.wideErr 0 (k : Nat) = 0 := by unfold Cur.wideErr; rw [if_neg (by omega)]
  have h2 := back_rBytes (Cur.leBytes z k) rest
  rw [Cur.leBytes_length] at h2
  unfold Cur.rNum
  simp only [h, h2]
  rw [Cur.le_bytes_lt z k hz]
theorem back_rNum2 (z : Int) (rest : List UInt8) (h0 : 0 ≤ z) (h1 : z < 65536) : Cur.rNum ⟨0, Cur.leBytes z.toNat 2 ++ rest⟩ 2 = (z.toNat, ⟨0, rest⟩) :=
  back_rNum z.toNat 2 rest (by omega) (by omega)
theorem back_rText (t rest : List UInt8) (h : t.length ≤ 255) : Cur.rText ⟨0, Cur.leBytes t.length 1 ++ t ++ rest⟩ = (t, ⟨0, rest⟩) := by
  have h1 := back_rNum t.length 1 (t ++ rest) (by omega) (by omega)
  unfold Cur.rText
  rw [List.append_assoc]
  rw [show ((1 : Nat) : Int) = 1 from rfl] at h1
  rw [h1]
  exact back_rBytes t rest
end Go.Proofs.Ytlopkmkagcofdaa
