/- Chapter 10 plainly: reading an entry gives back what was written, and nothing else is read. -/
import Derived.Test.YthkjgkdglphfcaaRows
import Derived.Test.YthkjgkdglphfcaaDirMath
namespace Go.Proofs.Ythkjgkdglphfcaa
set_option linter.unusedVariables false
set_option linter.unusedSimpArgs false
open Go.RowKit

/-- One entry is read. -/
def decK (st : Cur.St) : Nat × Cur.St := Cur.rNum (Cur.rText st).2 1
def decR (st : Cur.St) : Nat × Cur.St := Cur.rNum (decK st).2 4
def decX (st : Cur.St) : Ent := ⟨(Cur.rText st).1, (decK st).1, (decR st).1⟩
def decS (st : Cur.St) : Cur.St := (decR st).2
theorem rBytes_fit (t rest : List UInt8) : Cur.rBytes ⟨0, t ++ rest⟩ (t.length : Nat) = (t, ⟨0, rest⟩) := by
  have h : Cur.bytesErr ⟨0, t ++ rest⟩ (t.length : Nat) = 0 := by
    unfold Cur.bytesErr
    rw [if_neg (by omega), if_neg (by simp only [List.length_append]; omega)]
  unfold Cur.rBytes
  rw [if_pos h]
  simp
theorem rNum_fit (z : Nat) (k : Nat) (rest : List UInt8) (hk : 1 ≤ k ∧ k ≤ 4) (hz : z < 256 ^ k) : Cur.rNum ⟨0, Cur.leBytes z k ++ rest⟩ (k : Nat) = (z, ⟨0, rest⟩) := by
  have h : Cur.wideErr 0 (k : Nat) = 0 := by unfold Cur.wideErr; rw [if_neg (by omega)]
  have h2 := rBytes_fit (Cur.leBytes z k) rest
  rw [Cur.leBytes_length] at h2
  unfold Cur.rNum
  simp only [h, h2]
  rw [Cur.le_bytes_lt z k hz]
theorem rText_fit (t rest : List UInt8) (h : t.length ≤ 255) : Cur.rText ⟨0, Cur.leBytes t.length 1 ++ t ++ rest⟩ = (t, ⟨0, rest⟩) := by
  have h1 := rNum_fit t.length 1 (t ++ rest) (by omega) (by omega)
  unfold Cur.rText
  rw [List.append_assoc]
  rw [show ((1 : Nat) : Int) = 1 from rfl] at h1
  rw [h1]
  exact rBytes_fit t rest
/-- A: what was written is read. -/
theorem dec_enc {x : Ent} {last : List UInt8} (h : mayB x last = true) (R : List UInt8) : decX ⟨0, encX x ++ R⟩ = x ∧ decS ⟨0, encX x ++ R⟩ = ⟨0, R⟩ := by
  obtain ⟨h1, ⟨h2, h3⟩, h4, h5⟩ := may_name h
  have e1 : Cur.rText ⟨0, encX x ++ R⟩ = (x.name, ⟨0, Cur.leBytes x.kind.toNat 1 ++ (Cur.leBytes x.ref.toNat 4 ++ R)⟩) := by
    have := rText_fit x.name (Cur.leBytes x.kind.toNat 1 ++ (Cur.leBytes x.ref.toNat 4 ++ R)) h1
    unfold encX
    simp only [List.append_assoc] at this ⊢
    exact this
  have e2 : decK ⟨0, encX x ++ R⟩ = (x.kind.toNat, ⟨0, Cur.leBytes x.ref.toNat 4 ++ R⟩) := by
    unfold decK
    rw [e1]
    exact rNum_fit x.kind.toNat 1 _ (by omega) (by omega)
  have e3 : decR ⟨0, encX x ++ R⟩ = (x.ref.toNat, ⟨0, R⟩) := by
    unfold decR
    rw [e2]
    exact rNum_fit x.ref.toNat 4 _ (by omega) (by omega)
  unfold decX decS
  rw [e1, e2, e3]
  refine ⟨?_, rfl⟩
  cases x
  simp only at *
  congr 1 <;> omega
theorem leBytes_cons (x : Nat) : ∀ k, Cur.leBytes x (k + 1) = UInt8.ofNat (x % 256) :: Cur.leBytes (x / 256) k
  | 0 => by simp [Cur.leBytes]
  | k + 1 => by
    rw [Cur.leBytes, leBytes_cons x k, Cur.leBytes, List.cons_append]
    congr 3
    rw [Nat.pow_succ, Nat.mul_comm, ← Nat.div_div_eq_div_mul]
theorem leBytes_le : ∀ l : List UInt8, Cur.leBytes (Cur.le l) l.length = l
  | [] => rfl
  | b :: l => by
    have hb := b.toNat_lt
    rw [List.length_cons, leBytes_cons, Cur.le]
    have h1 : (b.toNat + 256 * Cur.le l) % 256 = b.toNat := by omega
    have h2 : (b.toNat + 256 * Cur.le l) / 256 = Cur.le l := by omega
    rw [h1, h2, leBytes_le l, UInt8.ofNat_toNat]
theorem rBytes_err {s : Cur.St} {n : Int} (h : (Cur.rBytes s n).2.e = 0) : s.e = 0 ∧ 0 ≤ n ∧ n ≤ s.bs.length ∧ Cur.rBytes s n = (s.bs.take n.toNat, ⟨0, s.bs.drop n.toNat⟩) := by
  unfold Cur.rBytes at h ⊢
  by_cases hb : Cur.bytesErr s n = 0
  · rw [if_pos hb]
    unfold Cur.bytesErr at hb
    by_cases h1 : n < 0
    · rw [if_pos h1] at hb; unfold Cur.failE at hb; split at hb <;> omega
    · rw [if_neg h1] at hb
      by_cases h2 : (s.bs.length : Int) < n
      · rw [if_pos h2] at hb; unfold Cur.failE at hb; split at hb <;> omega
      · rw [if_neg h2] at hb
        exact ⟨hb, by omega, by omega, rfl⟩
  · rw [if_neg hb] at h
    exact absurd h hb
theorem rNum_err {s : Cur.St} {n : Nat} (hn : 1 ≤ n ∧ n ≤ 4) (h : (Cur.rNum s (n : Nat)).2.e = 0) : s.e = 0 ∧ n ≤ s.bs.length ∧ Cur.rNum s (n : Nat) = (Cur.le (s.bs.take n), ⟨0, s.bs.drop n⟩) := by
  have hw : Cur.wideErr s.e (n : Nat) = s.e := by unfold Cur.wideErr; rw [if_neg (by omega)]
  unfold Cur.rNum at h ⊢
  simp only [hw] at h ⊢
  obtain ⟨h1, _, h3, h4⟩ := rBytes_err h
  refine ⟨h1, by simp only at h3; omega, ?_⟩
  have h5 : Cur.rBytes ⟨s.e, s.bs⟩ (n : Nat) = (s.bs.take n, ⟨0, s.bs.drop n⟩) := by rw [h4]; simp
  rw [h5]
theorem le_take (l : List UInt8) (k : Nat) (h : k ≤ l.length) : Cur.leBytes (Cur.le (l.take k)) k = l.take k := by
  have := leBytes_le (l.take k)
  rw [List.length_take, Nat.min_eq_left h] at this
  exact this
/-- B: what is read without an error is what was written. -/
theorem enc_dec {rest : List UInt8} (h : (decS ⟨0, rest⟩).e = 0) : (decX ⟨0, rest⟩).name.length ≤ 255 ∧ rest = encX (decX ⟨0, rest⟩) ++ (decS ⟨0, rest⟩).bs ∧ (decS ⟨0, rest⟩) = ⟨0, (decS ⟨0, rest⟩).bs⟩ := by
  unfold decS decR at h
  obtain ⟨a1, a2, a3⟩ := rNum_err (n := 4) (by omega) h
  have k1 := a1
  unfold decK at k1
  obtain ⟨b1, b2, b3⟩ := rNum_err (n := 1) (by omega) k1
  have t1 := b1
  unfold Cur.rText at t1
  obtain ⟨c1, c2, c3, c4⟩ := rBytes_err t1
  obtain ⟨d1, d2, d3⟩ := rNum_err (s := ⟨0, rest⟩) (n := 1) (by omega) c1
  rw [show ((1 : Nat) : Int) = 1 from rfl] at b3 d3
  rw [show ((4 : Nat) : Int) = 4 from rfl] at a3
  simp only at d2 d3
  rw [d3] at c3 c4
  simp only [Int.toNat_natCast] at c3 c4
  generalize hn : Cur.le (rest.take 1) = n at *
  have hT : Cur.rText ⟨0, rest⟩ = ((rest.drop 1).take n, ⟨0, (rest.drop 1).drop n⟩) := by unfold Cur.rText; rw [d3]; exact c4
  generalize hR1 : rest.drop 1 = R1 at *
  rw [hT] at b2 b3
  simp only at b2 b3
  generalize hR2 : R1.drop n = R2 at *
  have hK : decK ⟨0, rest⟩ = (Cur.le (R2.take 1), ⟨0, R2.drop 1⟩) := by unfold decK; rw [hT]; exact b3
  rw [hK] at a2 a3
  simp only at a2 a3
  generalize hR3 : R2.drop 1 = R3 at *
  have hR : decR ⟨0, rest⟩ = (Cur.le (R3.take 4), ⟨0, R3.drop 4⟩) := by unfold decR; rw [hK]; exact a3
  have hl1 : (rest.take 1).length = 1 := by rw [List.length_take]; omega
  have hn256 : n < 256 := by
    have := Cur.le_lt (rest.take 1)
    rw [hl1, hn] at this
    simpa using this
  have hlen : (R1.take n).length = n := by rw [List.length_take]; omega
  have e1 : Cur.leBytes n 1 = rest.take 1 := by rw [← hn]; exact le_take rest 1 d2
  refine ⟨?_, ?_, ?_⟩
  · unfold decX; rw [hT]; show (R1.take n).length ≤ 255; omega
  · unfold decX decS encX
    rw [hT, hK, hR]
    simp only [Int.toNat_natCast]
    rw [hlen, e1, le_take R2 1 b2, le_take R3 4 a2]
    simp only [List.append_assoc]
    rw [List.take_append_drop, ← hR3, List.take_append_drop, ← hR2, List.take_append_drop, ← hR1, List.take_append_drop]
  · unfold decS; rw [hR]
/-- The list that bytes are. -/
def TakeP (bs : List UInt8) (l : List Ent) : Prop := okL [] l = true ∧ encL l = bs
theorem encL_cons (x : Ent) (l : List Ent) : encL (x :: l) = encX x ++ encL l := rfl
theorem encX_ne (x : Ent) : encX x ≠ [] := by
  intro h
  have := congrArg List.length h
  unfold encX at this
  simp [Cur.leBytes_length] at this
/-- What begins as a list goes on as it. -/
theorem take_prefix : ∀ (acc l : List Ent) (last : List UInt8) (rest : List UInt8), okL last acc = true → okL last l = true → encL l = encL acc ++ rest → ∃ l2, l = acc ++ l2 ∧ encL l2 = rest ∧ okL (lastN last acc) l2 = true
  | [], l, last, rest, _, h2, h3 => ⟨l, rfl, by simpa [encL] using h3, h2⟩
  | x :: acc, [], last, rest, _, _, h3 => by
    rw [encL_cons] at h3
    have := congrArg List.length h3
    have h4 : (encX x).length ≠ 0 := fun e => encX_ne x (List.eq_nil_of_length_eq_zero e)
    simp only [encL, List.flatMap_nil, List.length_nil, List.length_append] at this
    omega
  | x :: acc, y :: l, last, rest, h1, h2, h3 => by
    simp only [okL, Bool.and_eq_true] at h1 h2
    rw [encL_cons, encL_cons, List.append_assoc] at h3
    obtain ⟨a1, a2⟩ := dec_enc h1.1 (encL acc ++ rest)
    obtain ⟨b1, b2⟩ := dec_enc h2.1 (encL l)
    rw [h3] at b1 b2
    have e1 : x = y := a1.symm.trans b1
    have e2 : encL l = encL acc ++ rest := by
      have := b2.symm.trans a2
      injection this
    subst e1
    obtain ⟨l2, g1, g2, g3⟩ := take_prefix acc l x.name rest h1.2 h2.2 e2
    exact ⟨l2, by rw [g1]; rfl, g2, g3⟩
theorem take_one {bs : List UInt8} {l l' : List Ent} (h : TakeP bs l) (h' : TakeP bs l') : l = l' := by
  obtain ⟨l2, g1, g2, _⟩ := take_prefix l' l [] [] h'.1 h.1 (by rw [h.2, h'.2, List.append_nil])
  cases l2 with
  | nil => rw [g1, List.append_nil]
  | cons y l2 =>
    rw [encL_cons] at g2
    exact absurd (List.append_eq_nil_iff.1 g2).1 (encX_ne y)
/-- Where the next entry is none, there is no list. -/
theorem take_stuck {bs rest : List UInt8} {acc : List Ent} (hok : okL [] acc = true) (hb : bs = encL acc ++ rest) (hne : rest ≠ []) (hbad : ¬ ((decS ⟨0, rest⟩).e = 0 ∧ mayB (decX ⟨0, rest⟩) (lastN [] acc) = true)) : ¬ ∃ l, TakeP bs l := by
  rintro ⟨l, h1, h2⟩
  obtain ⟨l2, g1, g2, g3⟩ := take_prefix acc l [] rest hok h1 (by rw [h2, hb])
  cases l2 with
  | nil => exact hne g2.symm
  | cons y l2 =>
    simp only [okL, Bool.and_eq_true] at g3
    rw [encL_cons] at g2
    obtain ⟨a1, a2⟩ := dec_enc g3.1 (encL l2)
    rw [g2] at a1 a2
    exact hbad ⟨by rw [a2], by rw [a1]; exact g3.1⟩
/-- Where the next entry is one, it is taken. -/
theorem take_next {bs rest : List UInt8} {acc : List Ent} (hok : okL [] acc = true) (hb : bs = encL acc ++ rest) (he : (decS ⟨0, rest⟩).e = 0) (hm : mayB (decX ⟨0, rest⟩) (lastN [] acc) = true) :
    okL [] (acc ++ [decX ⟨0, rest⟩]) = true ∧ bs = encL (acc ++ [decX ⟨0, rest⟩]) ++ (decS ⟨0, rest⟩).bs ∧ decS ⟨0, rest⟩ = ⟨0, (decS ⟨0, rest⟩).bs⟩ := by
  obtain ⟨_, g2, g3⟩ := enc_dec he
  refine ⟨by rw [okL_snoc, hok, hm]; rfl, ?_, g3⟩
  rw [encL_snoc, List.append_assoc, ← g2]
  exact hb
end Go.Proofs.Ythkjgkdglphfcaa
