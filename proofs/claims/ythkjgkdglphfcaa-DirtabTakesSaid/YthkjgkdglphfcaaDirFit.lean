/- Chapter 10 plainly: entries that fit their bytes (whether they may be or not), as the document reads them. -/
import Derived.Test.YthkjgkdglphfcaaRows
import Derived.Test.YthkjgkdglphfcaaDirDec
namespace Go.Proofs.Ythkjgkdglphfcaa
set_option linter.unusedVariables false
set_option linter.unusedSimpArgs false
open Go.RowKit

def FitX (x : Ent) : Prop := x.name.length ≤ 255 ∧ (0 ≤ x.kind ∧ x.kind < 256) ∧ (0 ≤ x.ref ∧ x.ref < 4294967296)
theorem fit_dec {x : Ent} (h : FitX x) (R : List UInt8) : decX ⟨0, encX x ++ R⟩ = x ∧ decS ⟨0, encX x ++ R⟩ = ⟨0, R⟩ := by
  obtain ⟨h1, ⟨h2, h3⟩, h4, h5⟩ := h
  have e1 : Cur.rText ⟨0, encX x ++ R⟩ = (x.name, ⟨0, Cur.leBytes x.kind.toNat 1 ++ (Cur.leBytes x.ref.toNat 4 ++ R)⟩) := by
    have := rText_fit x.name (Cur.leBytes x.kind.toNat 1 ++ (Cur.leBytes x.ref.toNat 4 ++ R)) h1
    unfold encX
    simp only [List.append_assoc] at this ⊢
    exact this
  have e2 : decK ⟨0, encX x ++ R⟩ = (x.kind.toNat, ⟨0, Cur.leBytes x.ref.toNat 4 ++ R⟩) := by
    unfold decK
    rw [e1]
    exact rNum_fit x.kind.toNat 1 _ (by omega) (by omega)
  have e3 : decR ⟨0, encX x ++ R⟩ = (x.ref.toNat, ⟨0, R⟩) := by
    unfold decR
    rw [e2]
    exact rNum_fit x.ref.toNat 4 _ (by omega) (by omega)
  unfold decX decS
  rw [e1, e2, e3]
  refine ⟨?_, rfl⟩
  cases x
  simp only at *
  congr 1 <;> omega
theorem le_take_lt (l : List UInt8) (k : Nat) : Cur.le (l.take k) < 256 ^ k := by
  have h1 := Cur.le_lt (l.take k)
  have h2 : (l.take k).length ≤ k := by rw [List.length_take]; omega
  exact Nat.lt_of_lt_of_le h1 (Nat.pow_le_pow_right (by decide) h2)
theorem dec_fit {rest : List UInt8} (h : (decS ⟨0, rest⟩).e = 0) : FitX (decX ⟨0, rest⟩) := by
  have h1 := (enc_dec h).1
  unfold decS decR at h
  obtain ⟨a1, a2, a3⟩ := rNum_err (n := 4) (by omega) h
  have k1 := a1
  unfold decK at k1
  obtain ⟨b1, b2, b3⟩ := rNum_err (n := 1) (by omega) k1
  have c1 := le_take_lt (Cur.rText ⟨0, rest⟩).2.bs 1
  have c2 := le_take_lt (decK ⟨0, rest⟩).2.bs 4
  refine ⟨h1, ?_, ?_⟩
  · have : (decX ⟨0, rest⟩).kind = ((Cur.rNum (Cur.rText ⟨0, rest⟩).2 ((1 : Nat) : Int)).1 : Nat) := rfl
    rw [this, b3]
    simp only
    omega
  · have : (decX ⟨0, rest⟩).ref = ((Cur.rNum (decK ⟨0, rest⟩).2 ((4 : Nat) : Int)).1 : Nat) := rfl
    rw [this, a3]
    simp only
    omega
theorem may_fit {x : Ent} {last : List UInt8} (h : mayB x last = true) : FitX x := by
  obtain ⟨h1, ⟨h2, h3⟩, h4, h5⟩ := may_name h
  exact ⟨h1, by omega, by omega⟩
theorem okL_fit : ∀ (l : List Ent) (last : List UInt8), okL last l = true → ∀ x ∈ l, FitX x
  | [], _, _, x, h => by simp at h
  | y :: l, last, hok, x, h => by
    simp only [okL, Bool.and_eq_true] at hok
    rcases List.mem_cons.1 h with rfl | h
    · exact may_fit hok.1
    · exact okL_fit l y.name hok.2 x h
/-- What begins as entries goes on as they. -/
theorem fit_prefix : ∀ (acc l : List Ent) (rest : List UInt8), (∀ x ∈ acc, FitX x) → (∀ x ∈ l, FitX x) → encL l = encL acc ++ rest → ∃ l2, l = acc ++ l2 ∧ encL l2 = rest
  | [], l, rest, _, _, h3 => ⟨l, rfl, by simpa [encL] using h3⟩
  | x :: acc, [], rest, _, _, h3 => by
    rw [encL_cons] at h3
    have := congrArg List.length h3
    have h4 : (encX x).length ≠ 0 := fun e => encX_ne x (List.eq_nil_of_length_eq_zero e)
    simp only [encL, List.flatMap_nil, List.length_nil, List.length_append] at this
    omega
  | x :: acc, y :: l, rest, h1, h2, h3 => by
    rw [encL_cons, encL_cons, List.append_assoc] at h3
    obtain ⟨a1, a2⟩ := fit_dec (h1 x (by simp)) (encL acc ++ rest)
    obtain ⟨b1, b2⟩ := fit_dec (h2 y (by simp)) (encL l)
    rw [h3] at b1 b2
    have e1 : x = y := a1.symm.trans b1
    have e2 : encL l = encL acc ++ rest := by
      have := b2.symm.trans a2
      injection this
    subst e1
    obtain ⟨l2, g1, g2⟩ := fit_prefix acc l rest (fun z hz => h1 z (by simp [hz])) (fun z hz => h2 z (by simp [hz])) e2
    exact ⟨l2, by rw [g1]; rfl, g2⟩
theorem encX_len (x : Ent) : 6 ≤ (encX x).length := by
  unfold encX
  simp only [List.length_append, Cur.leBytes_length]
  omega
theorem encL_len6 : ∀ l : List Ent, l.length * 6 ≤ (encL l).length
  | [] => by simp
  | x :: l => by
    have h1 := encL_len6 l
    have h2 := encX_len x
    rw [encL_cons, List.length_append, List.length_cons]
    omega
/-- How far the document has read. -/
structure RtS (bs : List UInt8) (l : List Ent) (st : Cur.St) : Prop where
  len : st.bs.length ≤ bs.length
  size : l.length * 6 ≤ bs.length + 6
  good : st.e = 0 → (∀ x ∈ l, FitX x) ∧ bs = encL l ++ st.bs
  bad : st.e ≠ 0 → ¬ ∃ l, TakeP bs l
theorem RtS.start (bs : List UInt8) : RtS bs [] ⟨0, bs⟩ := ⟨Nat.le_refl _, by simp, fun _ => ⟨by simp, rfl⟩, fun h => absurd rfl h⟩
theorem RtS.small {bs rest : List UInt8} {l : List Ent} (h : RtS bs l ⟨0, rest⟩) : l.length * 6 + rest.length ≤ bs.length := by
  have h1 := congrArg List.length (h.good rfl).2
  have h2 := encL_len6 l
  rw [List.length_append] at h1
  simp only at h1
  omega
theorem RtS.step {bs rest : List UInt8} {l : List Ent} (h : RtS bs l ⟨0, rest⟩) (hne : rest ≠ []) (hl : (decS ⟨0, rest⟩).bs.length ≤ rest.length) : RtS bs (l ++ [decX ⟨0, rest⟩]) (decS ⟨0, rest⟩) := by
  obtain ⟨hf, hbs⟩ := h.good rfl
  have hsm := h.small
  refine ⟨Nat.le_trans hl h.len, ?_, fun he => ⟨?_, ?_⟩, fun he => ?_⟩
  · rw [List.length_append]
    simp only [List.length_singleton]
    omega
  · intro x hx
    rcases List.mem_append.1 hx with hx | hx
    · exact hf x hx
    · rw [List.mem_singleton.1 hx]
      exact dec_fit he
  · rw [encL_snoc, List.append_assoc, ← (enc_dec he).2.1]
    exact hbs
  · rintro ⟨l', h1, h2⟩
    obtain ⟨l2, g1, g2⟩ := fit_prefix l l' rest hf (okL_fit l' [] h1) (by rw [h2, hbs])
    cases l2 with
    | nil => exact hne g2.symm
    | cons y l2 =>
      have hy : FitX y := okL_fit l' [] h1 y (by rw [g1]; simp)
      rw [encL_cons] at g2
      have := (fit_dec hy (encL l2)).2
      rw [g2] at this
      rw [this] at he
      exact he rfl
theorem RtS.done {bs : List UInt8} {l : List Ent} (h : RtS bs l ⟨0, []⟩) : bs = encL l ∧ (okL [] l = false → ¬ ∃ l, TakeP bs l) := by
  obtain ⟨hf, hbs⟩ := h.good rfl
  simp only [List.append_nil] at hbs
  refine ⟨hbs, ?_⟩
  rintro ho ⟨l', h1, h2⟩
  obtain ⟨l2, g1, g2⟩ := fit_prefix l l' [] hf (okL_fit l' [] h1) (by rw [h2, hbs, List.append_nil])
  cases l2 with
  | nil =>
    rw [g1, List.append_nil, ho] at h1
    cases h1
  | cons y l2 =>
    rw [encL_cons] at g2
    exact encX_ne y (List.append_eq_nil_iff.1 g2).1
end Go.Proofs.Ythkjgkdglphfcaa
