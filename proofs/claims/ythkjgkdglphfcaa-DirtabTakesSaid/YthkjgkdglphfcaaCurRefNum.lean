/- Walks of the document's reader (lamellaref03): Num, Text, Left and End. -/
import Derived.Test.YthkjgkdglphfcaaRows
import Derived.Test.YthkjgkdglphfcaaOnly
import Derived.Test.YthkjgkdglphfcaaCurMath
import Derived.Test.YthkjgkdglphfcaaCurReader
import Derived.Test.YthkjgkdglphfcaaCurRef
import Derived.WalkKit
import Derived.WalkSpells
import Derived.WalkLawsBesides
import Derived.Lib.Hide
namespace Go.Proofs.Ythkjgkdglphfcaa
set_option linter.unusedVariables false
set_option linter.unusedSimpArgs false
open Go.RowKit



def RfNum (w : World) (g : Nat) (s : Cur.St) (n : Int) (r : Ending) (w' : World) : Prop :=
  r = .returned (.int .i64 ((Cur.rNum s n).1 : Nat)) ∧ RfAt w' g (Cur.rNum s n).2 ∧ Only [g] w w'
theorem le_cons (b : UInt8) (bs : List UInt8) : Cur.le (b :: bs) = 256 * Cur.le bs + b.toNat := by simp [Cur.le]; omega
theorem drop_at (bs : List UInt8) (j : Nat) (h : j < bs.length) : bs.drop j = bs.getD j 0 :: bs.drop (j + 1) := by
  rw [List.drop_eq_getElem_cons h, List.getD_eq_getElem?_getD, List.getElem?_eq_getElem h]; rfl

set_option maxHeartbeats 1000000 in
theorem rnum_any (g : Nat) (s : Cur.St) (n : Int) (w : World) (h : RfAt w g s) (hn : s.bs.length ≤ 140737488355328) (hwf : -9223372036854775808 ≤ n ∧ n ≤ 9223372036854775807) :
    Calls Try.prog 31 #[.pointer (some ⟨g, 0, none⟩), .int .i64 n] w (RfNum w g s n) := by
  obtain ⟨e, bs⟩ := s
  by_cases hwide : e = 0 ∧ (n < 1 ∨ 4 < n)
  · obtain ⟨rfl, hw⟩ := hwide
    obtain ⟨A, m, c, ht, hb, hmc, hc⟩ := h
    simp only at ht hb hn
    have hW : Cur.wideErr 0 n = 1 := by unfold Cur.wideErr; rw [if_pos hw]; rfl
    have ho : Only [g] w (w.setCell ⟨g, 1, none⟩ (.int .i64 ((1 : Nat) : Int))) := (Only.refl _ _).setCell (.inl (by simp)) _
    have hr : RfAt (w.setCell ⟨g, 1, none⟩ (.int .i64 ((1 : Nat) : Int))) g ⟨1, bs⟩ :=
      ⟨A, m, c, ht.set1 _, hb.only ho (fun b off hA hp => by have := ht.apart (by simp) (by simp) hb b off hA hp; simpa using this), hmc, hc⟩
    have h1 := ht.c1
    have HB := Lib.hid (rbytes_any g ⟨1, bs⟩ n _ hr hn hwf)
    have hq : Cur.bytesErr ⟨1, bs⟩ n = 1 := by simp [Cur.bytesErr, Cur.failE]
    have hq2 : Cur.rBytes ⟨1, bs⟩ n = ([], ⟨1, bs⟩) := by unfold Cur.rBytes; rw [hq, if_neg (by omega)]
    have HF := Lib.hid (rfail_any g 0 1 (.slice A m c) w ht)
    have HW := Lib.hid hW
    have HQ := Lib.hid hq2
    have HO := Lib.hid ho
    clear hW hq hq2 hr ho ht hb
    rw [show Cur.failE 0 1 = 1 from rfl] at HF
    generalize w.setCell ⟨g, 1, none⟩ (.int .i64 ((1 : Nat) : Int)) = w1 at *
    have hor : n < 1 ∨ 1 ≤ n ∧ 4 < n := by omega
    clear hw
    rcases hor with hlt | ⟨hlt, hgt⟩
    all_goals
      go_enter Try.func31, Try.ntmps31
      go_wp2_with fail
      refine HF.out.mono ?_
      rintro r w' ⟨rfl, rfl⟩
      go_wp2_with fail
      refine HB.out.mono ?_
      rintro r w2 ⟨A1, k, c1, rfl, hby, hkc, hc1, _, hr, ho⟩
      rw [HQ.out] at hby hr
      have hk0 : k = 0 := by have := hby.1; simp at this; omega
      subst hk0
      go_wp2_with fail
      go_loop [6, 7] (fun x i => i = .int .i64 (-1) ∧ x = .int .i64 0) (fun _ i => 0)
      case atStart => exact ⟨rfl, rfl⟩
      case round =>
        obtain ⟨rfl, rfl⟩ := hrel
        go_wp2_with fail
        go_ret
        have hs : Cur.rNum ⟨0, bs⟩ n = (0, ⟨1, bs⟩) := by
          unfold Cur.rNum
          simp only [HW.out, HQ.out, Cur.le]
        refine ⟨?_, ?_, HO.out.trans ho (by simp)⟩
        · rw [hs]; rfl
        · rw [hs]; exact hr
  · obtain ⟨A, m, c, ht, hb, hmc, hc⟩ := id h
    simp only at ht hb hn
    have h1 := ht.c1
    have HB := Lib.hid (rbytes_any g ⟨e, bs⟩ n w h hn hwf)
    clear ht hb h
    by_cases he : e = 0
    · subst he
      have hn1 : 1 ≤ n := by omega
      have hn4 : n ≤ 4 := by omega
      have hW : Cur.wideErr 0 n = 0 := by unfold Cur.wideErr; rw [if_neg (by omega)]
      have hl4 := rBytes_length ⟨0, bs⟩ n hn4
      have HW := Lib.hid hW
      clear hW hwide
      go_enter Try.func31, Try.ntmps31
      go_wp2_with fail
      refine HB.out.mono ?_
      rintro r w1 ⟨A1, k, c1, rfl, hby, hkc, hc1, _, hr, ho⟩
      have hkl := hby.1
      have hk4 : k ≤ 4 := by omega
      go_wp2_with fail
      go_loop [6, 7] (fun x i => ∃ j : Nat, j ≤ k ∧ i = .int .i64 ((j : Int) - 1) ∧ x = .int .i64 (Cur.le ((Cur.rBytes ⟨0, bs⟩ n).1.drop j) : Nat)) (fun _ i => (intOf i + 1).toNat)
      case atStart => exact ⟨k, by omega, rfl, by rw [List.drop_of_length_le (by omega)]; rfl⟩
      case round =>
        obtain ⟨j, hj, rfl, rfl⟩ := hrel
        rcases Nat.eq_zero_or_pos j with hj0 | hj0
        · subst hj0
          go_wp2_with fail
          go_ret
          have hs : Cur.rNum ⟨0, bs⟩ n = (Cur.le (Cur.rBytes ⟨0, bs⟩ n).1, (Cur.rBytes ⟨0, bs⟩ n).2) := by unfold Cur.rNum; rw [HW.out]
          refine ⟨?_, ?_, ho⟩
          · rw [hs]; rfl
          · rw [hs]; exact hr
        · obtain ⟨i, rfl⟩ : ∃ i, j = i + 1 := ⟨j - 1, by omega⟩
          have hda := drop_at (Cur.rBytes ⟨0, bs⟩ n).1 i (by omega)
          have hle : Cur.le ((Cur.rBytes ⟨0, bs⟩ n).1.drop i) = 256 * Cur.le ((Cur.rBytes ⟨0, bs⟩ n).1.drop (i + 1)) + ((Cur.rBytes ⟨0, bs⟩ n).1.getD i 0).toNat := by rw [hda, le_cons]
          have hx := Cur.le_lt ((Cur.rBytes ⟨0, bs⟩ n).1.drop (i + 1))
          have hxp : 256 ^ ((Cur.rBytes ⟨0, bs⟩ n).1.drop (i + 1)).length ≤ 256 ^ 4 := Nat.pow_le_pow_right (by decide) (by rw [List.length_drop]; omega)
          have hx2 : Cur.le ((Cur.rBytes ⟨0, bs⟩ n).1.drop (i + 1)) < 4294967296 := by omega
          obtain ⟨b, off, rfl, hcell⟩ := hby.2 (by omega)
          have hcm := hcell i (by omega)
          have hd : ((Cur.rBytes ⟨0, bs⟩ n).1.getD i 0).toNat < 256 := ((Cur.rBytes ⟨0, bs⟩ n).1.getD i 0).toNat_lt
          have HL := Lib.hid hle
          clear hcell hle hda hx hxp
          generalize (Cur.rBytes ⟨0, bs⟩ n).1.getD i 0 = d at *
          generalize Cur.le ((Cur.rBytes ⟨0, bs⟩ n).1.drop (i + 1)) = x at *
          go_wp2_with fail
          refine ⟨⟨i, by omega, rfl, ?_⟩, by simp [intOf]⟩
          rw [HL.out, Int.natCast_add, Int.natCast_mul]; rfl
    · have hq : Cur.bytesErr ⟨e, bs⟩ n = e := by unfold Cur.bytesErr; simp only [Cur.failE_pos he]; split <;> (try split) <;> rfl
      have hq2 : Cur.rBytes ⟨e, bs⟩ n = ([], ⟨e, bs⟩) := by unfold Cur.rBytes; rw [hq, if_neg he]
      have hW : Cur.wideErr e n = e := by unfold Cur.wideErr; split <;> simp [Cur.failE_pos he]
      have hee : (((e : Nat) : Int) == 0) = false := by simp; omega
      have HW := Lib.hid hW
      have HQ := Lib.hid hq2
      clear hq hq2 hW hwide
      go_enter Try.func31, Try.ntmps31
      go_wp2_with fail
      refine HB.out.mono ?_
      rintro r w2 ⟨A1, k, c1, rfl, hby, hkc, hc1, _, hr, ho⟩
      rw [HQ.out] at hby hr
      have hk0 : k = 0 := by have := hby.1; simp at this; omega
      subst hk0
      go_wp2_with fail
      go_loop [6, 7] (fun x i => i = .int .i64 (-1) ∧ x = .int .i64 0) (fun _ i => 0)
      case atStart => exact ⟨rfl, rfl⟩
      case round =>
        obtain ⟨rfl, rfl⟩ := hrel
        go_wp2_with fail
        go_ret
        have hs : Cur.rNum ⟨e, bs⟩ n = (0, ⟨e, bs⟩) := by
          unfold Cur.rNum
          simp only [HW.out, HQ.out, Cur.le]
        refine ⟨?_, ?_, ho⟩
        · rw [hs]; rfl
        · rw [hs]; exact hr

def RfText (w : World) (g : Nat) (s : Cur.St) (r : Ending) (w' : World) : Prop :=
  r = .returned (.string (str (Cur.rText s).1)) ∧ RfAt w' g (Cur.rText s).2 ∧ Only [g] w w'
set_option maxHeartbeats 400000 in
theorem rtext_any (g : Nat) (s : Cur.St) (w : World) (h : RfAt w g s) (hn : s.bs.length ≤ 140737488355328) :
    Calls Try.prog 30 #[.pointer (some ⟨g, 0, none⟩)] w (RfText w g s) := by
  have hN := rnum_any g s 1 w h hn (by omega)
  have hlt := rNum_lt s 1 (by omega)
  have hbs := rNum_bs s 1
  have HN := Lib.hid hN
  clear hN h
  go_enter Try.func30, Try.ntmps30
  go_wp2_with fail
  refine HN.out.mono ?_
  rintro r w1 ⟨rfl, hr, ho⟩
  have HB := Lib.hid (rbytes_any g (Cur.rNum s 1).2 ((Cur.rNum s 1).1 : Nat) w1 hr (by omega) (by omega))
  have HT : Hid (Cur.rText s = Cur.rBytes (Cur.rNum s 1).2 ((Cur.rNum s 1).1 : Nat)) := rfl
  generalize Cur.rNum s 1 = q at *
  obtain ⟨x, s1⟩ := q
  simp only at *
  go_wp2_with fail
  refine HB.out.mono ?_
  rintro r w2 ⟨A1, k, c1, rfl, hby, hkc, hc1, _, hr2, ho2⟩
  have hcv := run_string (P := Try.prog) hby 25 5 9 Try.underlying25 Try.underlying5 Try.underlying9 c1
  go_wp2_with fail
  go_ret
  refine ⟨?_, ?_, ho.trans ho2 (by simp)⟩
  · rw [HT.out]; rfl
  · rw [HT.out]; exact hr2

end Go.Proofs.Ythkjgkdglphfcaa
