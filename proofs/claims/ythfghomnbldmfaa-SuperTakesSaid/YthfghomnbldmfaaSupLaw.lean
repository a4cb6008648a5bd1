/- Chapter 8's plain law: what is read is what was written, and nothing else. -/
import Derived.Test.YthfghomnbldmfaaRows
import Derived.Test.YthfghomnbldmfaaSupTk
namespace Go.Proofs.Ythfghomnbldmfaa
set_option linter.unusedVariables false
set_option linter.unusedSimpArgs false
open Go.RowKit

theorem leBytes_cons (x : Nat) : ∀ k, Cur.leBytes x (k + 1) = UInt8.ofNat (x % 256) :: Cur.leBytes (x / 256) k
  | 0 => by simp [Cur.leBytes]
  | k + 1 => by
    rw [Cur.leBytes, leBytes_cons x k, Cur.leBytes, List.cons_append]
    congr 3
    rw [Nat.pow_succ, Nat.mul_comm, ← Nat.div_div_eq_div_mul]
theorem leBytes_le : ∀ l : List UInt8, Cur.leBytes (Cur.le l) l.length = l
  | [] => rfl
  | b :: l => by
    have hb := b.toNat_lt
    rw [List.length_cons, leBytes_cons, Cur.le]
    have h1 : (b.toNat + 256 * Cur.le l) % 256 = b.toNat := by omega
    have h2 : (b.toNat + 256 * Cur.le l) / 256 = Cur.le l := by omega
    rw [h1, h2, leBytes_le l, UInt8.ofNat_toNat]
theorem le_inj {a b : List UInt8} (hl : a.length = b.length) (h : Cur.le a = Cur.le b) : a = b := by
  rw [← leBytes_le a, ← leBytes_le b, hl, h]
/-- A field of an image. -/
def fld (bs : List UInt8) (i n : Nat) : Nat := Cur.le ((bs.drop i).take n)
/-- The superblock that 64 bytes say. -/
def decS (bs : List UInt8) : Sup := ⟨fld bs 4 4, fld bs 32 2, fld bs 8 4, fld bs 12 4, fld bs 16 4, fld bs 20 4, fld bs 24 4, fld bs 34 2, fld bs 36 2, fld bs 28 4⟩
theorem rds_cons (n : Nat) (hn : 1 ≤ n ∧ n ≤ 4) (p : Nat) (ps : List Nat) (s : Sup) (D : List UInt8) (h : n ≤ D.length) : rds (n : Nat) (s, ⟨0, D⟩) (p :: ps) = rds (n : Nat) (supSet s p (Cur.le (D.take n)), ⟨0, D.drop n⟩) ps := by
  have h1 := rNum_long D n hn h
  show rds (n : Nat) (supSet s p (Cur.rNum ⟨0, D⟩ (n : Nat)).1, (Cur.rNum ⟨0, D⟩ (n : Nat)).2) ps = _
  rw [h1]
theorem tkN_dec (bs : List UInt8) (h : 64 ≤ bs.length) : (tkN bs).1 = decS (bs.take 64) := by
  have hl : (bs.take 64).length = 64 := by rw [List.length_take]; omega
  have h1 : tkSt bs = ⟨0, (bs.take 64).drop 4⟩ := by unfold tkSt; rw [tkSt_long bs h]
  have h2 : tkN bs = rds ((2 : Nat) : Int) (rds ((4 : Nat) : Int) (sup0, ⟨0, (bs.take 64).drop 4⟩) widePs) narrowPs := by
    unfold tkN tkW
    rw [h1]
    rfl
  generalize bs.take 64 = T at *
  rw [h2]
  unfold widePs narrowPs
  rw [rds_cons 4 (by omega) _ _ _ _ (by simp only [List.length_drop]; omega), rds_cons 4 (by omega) _ _ _ _ (by simp only [List.length_drop]; omega), rds_cons 4 (by omega) _ _ _ _ (by simp only [List.length_drop]; omega),
    rds_cons 4 (by omega) _ _ _ _ (by simp only [List.length_drop]; omega), rds_cons 4 (by omega) _ _ _ _ (by simp only [List.length_drop]; omega), rds_cons 4 (by omega) _ _ _ _ (by simp only [List.length_drop]; omega), rds_cons 4 (by omega) _ _ _ _ (by simp only [List.length_drop]; omega)]
  rw [show ∀ x, rds ((4 : Nat) : Int) x [] = x from fun x => rfl]
  rw [rds_cons 2 (by omega) _ _ _ _ (by simp only [List.length_drop]; omega), rds_cons 2 (by omega) _ _ _ _ (by simp only [List.length_drop]; omega), rds_cons 2 (by omega) _ _ _ _ (by simp only [List.length_drop]; omega)]
  rw [show ∀ x, rds ((2 : Nat) : Int) x [] = x from fun x => rfl]
  simp only [List.drop_drop, supSet]
  rfl
/-- In the document's words: what is taken is put as the same bytes. -/
def docOk (bs : List UInt8) : Prop := 64 ≤ bs.length ∧ supB (decS (bs.take 64)) = true ∧ enc (decS (bs.take 64)) = bs.take 64 ∧ (decS (bs.take 64)).size = bs.length
theorem fld_toNat (bs : List UInt8) (i n : Nat) (h : i + n ≤ bs.length) : Cur.leBytes ((fld bs i n : Nat) : Int).toNat n = (bs.drop i).take n := by
  rw [Int.toNat_natCast, fld]
  have := leBytes_le ((bs.drop i).take n)
  rw [List.length_take, List.length_drop, Nat.min_eq_left (by omega)] at this
  exact this
theorem cut_cat (T : List UInt8) (i n : Nat) : T.take i ++ (T.drop i).take n = T.take (i + n) := by rw [← List.take_add]
theorem enc38_dec (T : List UInt8) (hl : T.length = 64) (hm : T.take 4 = magic) : enc38 (decS T) = T.take 38 := by
  unfold enc38 lesOf wideL narrowL decS
  simp only [List.flatMap_cons, List.flatMap_nil, List.append_nil]
  rw [fld_toNat T 4 4 (by omega), fld_toNat T 8 4 (by omega), fld_toNat T 12 4 (by omega), fld_toNat T 16 4 (by omega), fld_toNat T 20 4 (by omega), fld_toNat T 24 4 (by omega), fld_toNat T 28 4 (by omega), fld_toNat T 32 2 (by omega), fld_toNat T 34 2 (by omega), fld_toNat T 36 2 (by omega)]
  rw [← hm]
  simp only [← List.append_assoc, cut_cat]
theorem enc_parts (s : Sup) : (enc s).take 38 = enc38 s ∧ (enc s).drop 38 = Cur.leBytes (Crc.sum (enc38 s)) 4 ++ List.replicate 22 0 := by
  have h38l := enc38_length s
  unfold enc
  rw [List.append_assoc]
  constructor
  · rw [List.take_append_of_le_length (by omega), List.take_of_length_le (by omega)]
  · rw [List.drop_append_of_le_length (by omega), List.drop_eq_nil_of_le (by omega), List.nil_append]
theorem tkOk_iff (bs : List UInt8) : tkOk bs ↔ docOk bs := by
  unfold tkOk docOk
  constructor
  · rintro ⟨h64, hm, hsum, hsz, hB, hz⟩
    have hl : (bs.take 64).length = 64 := by rw [List.length_take]; omega
    obtain ⟨_, _, g3, g4⟩ := tk_long bs h64
    rw [tkSt_long bs h64] at hm
    rw [tkN_dec bs h64] at hsz hB
    rw [g3] at hsum
    rw [g4] at hz
    have hm4 : (bs.take 64).take 4 = magic := by rw [List.take_take]; exact hm
    refine ⟨h64, hB, ?_, hsz⟩
    have h38 := enc38_dec (bs.take 64) hl hm4
    have h38b : (bs.take 64).take 38 = bs.take 38 := by rw [List.take_take]; rfl
    unfold enc
    rw [h38, h38b, ← hsum]
    have e4 : Cur.leBytes (Cur.le (((bs.take 64).drop 38).take 4)) 4 = ((bs.take 64).drop 38).take 4 := by
      have := leBytes_le (((bs.take 64).drop 38).take 4)
      rw [List.length_take, List.length_drop, hl] at this
      exact this
    rw [e4, ← h38b, cut_cat]
    have e5 : List.replicate 22 0 = (bs.take 64).drop 42 := by
      symm
      rw [List.eq_replicate_iff]
      exact ⟨by rw [List.length_drop, hl], hz⟩
    rw [e5]
    exact List.take_append_drop 42 _
  · rintro ⟨h64, hB, he, hsz⟩
    have hl : (bs.take 64).length = 64 := by rw [List.length_take]; omega
    obtain ⟨_, _, g3, g4⟩ := tk_long bs h64
    rw [tkSt_long bs h64, tkN_dec bs h64, g3, g4]
    have h38l := enc38_length (decS (bs.take 64))
    obtain ⟨e1, e2⟩ := enc_parts (decS (bs.take 64))
    rw [he] at e1 e2
    refine ⟨h64, ?_, ?_, hsz, hB, ?_⟩
    · have : ((bs.take 64).take 38).take 4 = magic := by rw [e1]; rfl
      rw [List.take_take, List.take_take] at this
      exact this
    · rw [e2, List.take_append_of_le_length (by rw [Cur.leBytes_length]; omega), List.take_of_length_le (by rw [Cur.leBytes_length]; omega), Cur.le_leBytes]
      rw [← e1, List.take_take]
      exact Nat.mod_eq_of_lt (Crc.sum_lt _)
    · have e3 : (bs.take 64).drop 42 = List.replicate 22 0 := by
        have : ((bs.take 64).drop 38).drop 4 = List.replicate 22 0 := by
          rw [e2, List.drop_append_of_le_length (by rw [Cur.leBytes_length]; omega), List.drop_eq_nil_of_le (by rw [Cur.leBytes_length]; omega), List.nil_append]
        rw [List.drop_drop] at this
        exact this
      rw [e3]
      intro c hc
      exact (List.mem_replicate.1 hc).2
end Go.Proofs.Ythfghomnbldmfaa
