/- Walks of the program's reader: Num, Text, Left and End. -/
import Derived.Test.YthkjgkdglphfcaaRows
import Derived.Test.YthkjgkdglphfcaaOnly
import Derived.Test.YthkjgkdglphfcaaCurMath
import Derived.Test.YthkjgkdglphfcaaCurReader
import Derived.WalkKit
import Derived.WalkSpells
import Derived.WalkLawsBesides
import Derived.Lib.Hide
namespace Go.Proofs.Ythkjgkdglphfcaa
set_option linter.unusedVariables false
set_option linter.unusedSimpArgs false
open Go.RowKit


def RdNum (w : World) (g : Nat) (s : Cur.St) (n : Int) (r : Ending) (w' : World) : Prop :=
  r = .returned (.int .i64 ((Cur.rNum s n).1 : Nat)) ∧ RdAt w' g (Cur.rNum s n).2 ∧ Only [g] w w'

/-- Behind the bytes: the loop that makes a number of them. -/
theorem rBytes_length (s : Cur.St) (n : Int) (hn : n ≤ 4) : (Cur.rBytes s n).1.length ≤ 4 := by
  unfold Cur.rBytes
  split
  · simp only [List.length_take]; omega
  · simp

set_option maxHeartbeats 1000000 in
theorem num_any (g : Nat) (s : Cur.St) (n : Int) (w : World) (h : RdAt w g s) (hn : s.bs.length ≤ 140737488355328) (hwf : -9223372036854775808 ≤ n ∧ n ≤ 9223372036854775807) :
    Calls Try.prog 29 #[.pointer (some ⟨g, 0, none⟩), .int .i64 n] w (RdNum w g s n) := by
  obtain ⟨e, bs⟩ := s
  by_cases hwide : 1 ≤ n ∧ n ≤ 4
  · obtain ⟨hn1, hn4⟩ := hwide
    have hB := bytes_any g ⟨e, bs⟩ n w h hn hwf
    have hW : Cur.wideErr e n = e := by unfold Cur.wideErr; rw [if_neg (by omega)]
    have hl4 := rBytes_length ⟨e, bs⟩ n hn4
    have HB := Lib.hid hB
    have HW := Lib.hid hW
    clear hB hW
    go_enter Try.func29, Try.ntmps29
    go_wp2_with fail
    refine HB.out.mono ?_
    rintro r w1 ⟨A, k, c, rfl, hby, hkc, hc, _, hr, ho⟩
    have hkl := hby.1
    have hk4 : k ≤ 4 := by omega
    go_wp2_with fail
    go_loop [5, 22] (fun x i => ∃ m : Nat, m ≤ k ∧ i = .int .i64 m ∧ x = .int .i64 (Cur.le ((Cur.rBytes ⟨e, bs⟩ n).1.take m) : Nat)) (fun _ i => k - (intOf i).toNat)
    case atStart => exact ⟨0, by omega, rfl, rfl⟩
    case round =>
      obtain ⟨m, hm, rfl, rfl⟩ := hrel
      by_cases hmk : m < k
      · have hlen : ((Cur.rBytes ⟨e, bs⟩ n).1.take m).length = m := by rw [List.length_take]; omega
        have hsn := take_snoc (Cur.rBytes ⟨e, bs⟩ n).1 m (by omega)
        have hx := Cur.le_lt ((Cur.rBytes ⟨e, bs⟩ n).1.take m)
        have hle := Cur.le_snoc ((Cur.rBytes ⟨e, bs⟩ n).1.take m) ((Cur.rBytes ⟨e, bs⟩ n).1.getD m 0)
        rw [hlen] at hx hle
        rw [← hsn] at hle
        obtain ⟨b, off, rfl, hcell⟩ := hby.2 (by omega)
        have hcm := hcell m hmk
        have hd : ((Cur.rBytes ⟨e, bs⟩ n).1.getD m 0).toNat < 256 := ((Cur.rBytes ⟨e, bs⟩ n).1.getD m 0).toNat_lt
        have hor := Cur.or_go (by omega) hd hx
        have HL := Lib.hid hle
        clear hcell hle hsn hlen hx
        generalize (Cur.rBytes ⟨e, bs⟩ n).1.getD m 0 = d at *
        generalize Cur.le ((Cur.rBytes ⟨e, bs⟩ n).1.take m) = x at *
        go_wp2_with fail
        refine ⟨⟨m + 1, by omega, by go_num, ?_⟩, by simp [intOf]; omega⟩
        rw [HL.out, Int.natCast_add, Int.natCast_mul, Int.natCast_pow]; rfl
      · obtain rfl : m = k := by omega
        have hall : (Cur.rBytes ⟨e, bs⟩ n).1.take m = (Cur.rBytes ⟨e, bs⟩ n).1 := List.take_of_length_le (by omega)
        have HA := Lib.hid hall
        clear hall
        go_wp2_with fail
        go_ret
        have hs : Cur.rNum ⟨e, bs⟩ n = (Cur.le (Cur.rBytes ⟨e, bs⟩ n).1, (Cur.rBytes ⟨e, bs⟩ n).2) := by unfold Cur.rNum; rw [HW.out]
        refine ⟨?_, ?_, ho⟩
        · rw [hs]
          show Ending.returned (.int .i64 _) = _
          rw [HA.out]
        · rw [hs]; exact hr
  · obtain ⟨A, m, c, ht, hb, hmc, hc⟩ := h
    simp only at ht hb hn
    have hW : Cur.wideErr e n = Cur.failE e 1 := by unfold Cur.wideErr; rw [if_pos (by omega)]
    have hz : Cur.failE e 1 ≠ 0 := failE_ne (by omega)
    have ho : Only [g] w (w.setCell ⟨g, 0, none⟩ (.int .i64 (Cur.failE e 1 : Nat))) := (Only.refl _ _).setCell (.inl (by simp)) _
    have hr : RdAt (w.setCell ⟨g, 0, none⟩ (.int .i64 (Cur.failE e 1 : Nat))) g ⟨Cur.failE e 1, bs⟩ :=
      ⟨A, m, c, ht.set0 _, hb.only ho (fun b off hA hp => by have := ht.apart (by simp) (by simp) hb b off hA hp; simpa using this), hmc, hc⟩
    have hB := bytes_any g ⟨Cur.failE e 1, bs⟩ n _ hr hn hwf
    have hq : Cur.bytesErr ⟨Cur.failE e 1, bs⟩ n ≠ 0 := by
      unfold Cur.bytesErr
      simp only [Cur.failE_pos hz]
      split
      · exact hz
      · split <;> exact hz
    have hq2 : Cur.rBytes ⟨Cur.failE e 1, bs⟩ n = ([], ⟨Cur.bytesErr ⟨Cur.failE e 1, bs⟩ n, bs⟩) := by unfold Cur.rBytes; rw [if_neg hq]
    have HF := Lib.hid (fail_any g e 1 59 (.slice A m c) w ht)
    have HB := Lib.hid hB
    have HW := Lib.hid hW
    have HQ := Lib.hid hq2
    have HO := Lib.hid ho
    clear hB hW hq hq2 hr ho ht hb
    generalize w.setCell ⟨g, 0, none⟩ (.int .i64 (Cur.failE e 1 : Nat)) = w1 at *
    have hor : n < 1 ∨ 1 ≤ n ∧ 4 < n := by omega
    clear hwide
    rcases hor with hlt | ⟨hlt, hgt⟩
    all_goals
      go_enter Try.func29, Try.ntmps29
      go_wp2_with fail
      refine HF.out.mono ?_
      rintro r w' ⟨rfl, rfl⟩
      go_wp2_with fail
      refine HB.out.mono ?_
      rintro r w2 ⟨A1, k, c1, rfl, hby, hkc, hc1, _, hr, ho⟩
      rw [HQ.out] at hby hr
      have hk0 : k = 0 := by have := hby.1; simp at this; omega
      subst hk0
      go_wp2_with fail
      go_loop [5, 22] (fun x i => i = .int .i64 0 ∧ x = .int .i64 0) (fun _ i => 0)
      case atStart => exact ⟨rfl, rfl⟩
      case round =>
        obtain ⟨rfl, rfl⟩ := hrel
        go_wp2_with fail
        go_ret
        have hs : Cur.rNum ⟨e, bs⟩ n = (0, ⟨Cur.bytesErr ⟨Cur.failE e 1, bs⟩ n, bs⟩) := by
          unfold Cur.rNum
          simp only [HW.out, HQ.out, Cur.le]
        refine ⟨?_, ?_, HO.out.trans ho (by simp)⟩
        · rw [hs]; rfl
        · rw [hs]; exact hr

def RdText (w : World) (g : Nat) (s : Cur.St) (r : Ending) (w' : World) : Prop :=
  r = .returned (.string (str (Cur.rText s).1)) ∧ RdAt w' g (Cur.rText s).2 ∧ Only [g] w w'
theorem rNum_bs (s : Cur.St) (n : Int) : (Cur.rNum s n).2.bs.length ≤ s.bs.length := by
  unfold Cur.rNum Cur.rBytes
  split
  · simp only [List.length_drop]; omega
  · simp
theorem rNum_lt (s : Cur.St) (n : Int) (hn : n ≤ 4) : (Cur.rNum s n).1 < 4294967296 := by
  unfold Cur.rNum
  have h := Cur.le_lt (Cur.rBytes ⟨Cur.wideErr s.e n, s.bs⟩ n).1
  have h2 := rBytes_length ⟨Cur.wideErr s.e n, s.bs⟩ n hn
  have h3 : 256 ^ (Cur.rBytes ⟨Cur.wideErr s.e n, s.bs⟩ n).1.length ≤ 256 ^ 4 := Nat.pow_le_pow_right (by decide) h2
  simp only
  omega
set_option maxHeartbeats 400000 in
theorem text_any (g : Nat) (s : Cur.St) (w : World) (h : RdAt w g s) (hn : s.bs.length ≤ 140737488355328) :
    Calls Try.prog 28 #[.pointer (some ⟨g, 0, none⟩)] w (RdText w g s) := by
  have hN := num_any g s 1 w h hn (by omega)
  have hlt := rNum_lt s 1 (by omega)
  have hbs := rNum_bs s 1
  have HN := Lib.hid hN
  clear hN h
  go_enter Try.func28, Try.ntmps28
  go_wp2_with fail
  refine HN.out.mono ?_
  rintro r w1 ⟨rfl, hr, ho⟩
  have HB := Lib.hid (bytes_any g (Cur.rNum s 1).2 ((Cur.rNum s 1).1 : Nat) w1 hr (by omega) (by omega))
  have HT : Hid (Cur.rText s = Cur.rBytes (Cur.rNum s 1).2 ((Cur.rNum s 1).1 : Nat)) := rfl
  generalize Cur.rNum s 1 = q at *
  obtain ⟨x, s1⟩ := q
  simp only at *
  go_wp2_with fail
  refine HB.out.mono ?_
  rintro r w2 ⟨A1, k, c1, rfl, hby, hkc, hc1, _, hr2, ho2⟩
  have hcv := run_string (P := Try.prog) hby 25 5 9 Try.underlying25 Try.underlying5 Try.underlying9 c1
  go_wp2_with fail
  go_ret
  refine ⟨?_, ?_, ho.trans ho2 (by simp)⟩
  · rw [HT.out]; rfl
  · rw [HT.out]; exact hr2

theorem left_any (g : Nat) (s : Cur.St) (w : World) (h : RdAt w g s) :
    Calls Try.prog 27 #[.pointer (some ⟨g, 0, none⟩)] w fun r w' => r = .returned (.int .i64 (Cur.rLeft s : Nat)) ∧ w = w' := by
  obtain ⟨e, bs⟩ := s
  obtain ⟨A, m, c, ht, hb, hmc, hc⟩ := h
  simp only at ht hb
  have h0 := ht.c0
  have h1 := ht.c1
  have hq : Cur.rLeft ⟨e, bs⟩ = if e = 0 then m else 0 := by simp [Cur.rLeft, hb.1]
  have HQ := Lib.hid hq
  clear hq hb ht
  by_cases he : e = 0
  · subst he
    go_enter Try.func27, Try.ntmps27
    go_wp2_with fail
    go_ret
    exact ⟨by rw [HQ.out]; rfl, rfl⟩
  · have hne : (((e : Nat) : Int) != 0) = true := by rw [bne_iff_ne]; omega
    go_enter Try.func27, Try.ntmps27
    go_wp2_with fail
    go_ret
    exact ⟨by rw [HQ.out, if_neg he]; rfl, rfl⟩

def RdEnd (w : World) (g : Nat) (s : Cur.St) (r : Ending) (w' : World) : Prop :=
  r = .returned (.int .i64 (Cur.endE s : Nat)) ∧ RdAt w' g ⟨Cur.endE s, s.bs⟩ ∧ Only [g] w w'
end Go.Proofs.Ythkjgkdglphfcaa
