/- Walks of the program's reader, said more: the bytes that are left lie below block B. -/
import Derived.Test.YthkjgkdglphfcaaRows
import Derived.Test.YthkjgkdglphfcaaCurNum
namespace Go.Proofs.Ythkjgkdglphfcaa
set_option linter.unusedVariables false
set_option linter.unusedSimpArgs false
open Go.RowKit

/-- A reader whose bytes lie below block B. -/
def RdB (w : World) (g : Nat) (s : Cur.St) (B : Nat) : Prop :=
  ∃ A n c, Two w g 59 (.int .i64 (s.e : Nat)) (.slice A n c) ∧ Bytes w A n s.bs ∧ n ≤ c ∧ c ≤ 9223372036854775807 ∧ ∀ a, A = some a → 0 < n → a.block < B
theorem RdB.rd {w : World} {g B : Nat} {s : Cur.St} (h : RdB w g s B) : RdAt w g s := by obtain ⟨A, n, c, h1, h2, h3, h4, _⟩ := h; exact ⟨A, n, c, h1, h2, h3, h4⟩
theorem RdB.of {w : World} {g : Nat} {s : Cur.St} (h : RdAt w g s) : RdB w g s w.heap.size := by
  obtain ⟨A, n, c, h1, h2, h3, h4⟩ := h
  refine ⟨A, n, c, h1, h2, h3, h4, fun a ha hn => ?_⟩
  obtain ⟨b, off, hA, hc⟩ := h2.2 hn
  rw [hA] at ha
  cases ha
  exact block_lt_of_cell (hc 0 hn)
theorem RdB.below {w w' : World} {g B : Nat} {s : Cur.St} (h : RdB w g s B) (ho : Below w.heap.size w w') : RdB w' g s B := by
  obtain ⟨A, n, c, h1, h2, h3⟩ := h
  exact ⟨A, n, c, h1.below ho, h2.below ho, h3⟩
theorem RdB.only {w w' : World} {g B : Nat} {s : Cur.St} {S : List Nat} (h : RdB w g s B) (ho : Only S w w') (hg : g ∉ S) (hS : ∀ k ∈ S, B ≤ k) : RdB w' g s B := by
  obtain ⟨A, n, c, h1, h2, h3, h4, h5⟩ := h
  exact ⟨A, n, c, h1.only ho hg, h2.only ho (fun b off hA hn hin => by have := h5 _ hA hn; have := hS b hin; simp only at *; omega), h3, h4, h5⟩
theorem RdB.grown {w w' : World} {g B : Nat} {s : Cur.St} {row : Option Nat} (h : RdB w g s B) (hg : g < B) (ho : w.grownBy w' row) (hr : ∀ k, row = some k → B ≤ k) : RdB w' g s B := by
  obtain ⟨A, n, c, h1, h2, h3, h4, h5⟩ := h
  refine ⟨A, n, c, h1.grown ho (fun e => by have := hr g e.symm; omega), ?_, h3, h4, h5⟩
  rcases Nat.eq_zero_or_pos n with h0 | h0
  · exact ⟨h2.1, fun hn => by omega⟩
  · exact h2.keep fun a ha hlt => ho.block _ hlt fun e => by have := h5 a ha h0; have := hr _ e.symm; omega
def RdBytesB (B : Nat) (w : World) (g : Nat) (s : Cur.St) (n : Int) (r : Ending) (w' : World) : Prop :=
  ∃ A k c, r = .returned (.slice A k c) ∧ Bytes w' A k (Cur.rBytes s n).1 ∧ k ≤ c ∧ c ≤ 9223372036854775807 ∧ (∀ a, A = some a → w.heap.size ≤ a.block) ∧ RdB w' g (Cur.rBytes s n).2 B ∧ Only [g] w w'
/-- Where it fails: nothing is read, the error stands. -/
theorem rdBytes_failedB {B : Nat} {w w' : World} {g : Nat} {s : Cur.St} {n : Int} {e : Nat} (he : Cur.bytesErr s n = e) (h0 : e ≠ 0) (hr : RdB w' g ⟨e, s.bs⟩ B) (ho : Only [g] w w') : RdBytesB B w g s n (.returned (.slice none 0 0)) w' := by
  have hq : Cur.rBytes s n = ([], ⟨e, s.bs⟩) := by unfold Cur.rBytes; rw [he, if_neg h0]
  refine ⟨none, 0, 0, rfl, ?_, Nat.le_refl _, by omega, (fun a ha => by cases ha), ?_, ho⟩
  · rw [hq]; exact Bytes.nil _ _
  · rw [hq]; exact hr
set_option maxHeartbeats 1000000 in
theorem bytes_b (B : Nat) (g : Nat) (s : Cur.St) (n : Int) (w : World) (h : RdB w g s B) (hn : s.bs.length ≤ 140737488355328) (hwf : -9223372036854775808 ≤ n ∧ n ≤ 9223372036854775807) :
    Calls Try.prog 39 #[.pointer (some ⟨g, 0, none⟩), .int .i64 n] w (RdBytesB B w g s n) := by
  obtain ⟨e, bs⟩ := s
  obtain ⟨A, m, c, ht, hb, hmc, hc, hbd⟩ := h
  simp only at ht hb hn
  have hbl := hb.1
  have h0 := ht.c0
  have h1 := ht.c1
  have f1 := ht.free 1
  have HT := Lib.hid ht
  have HB := Lib.hid hb
  by_cases hneg : n < 0
  · have he : Cur.bytesErr ⟨e, bs⟩ n = Cur.failE e 1 := by simp [Cur.bytesErr, hneg]
    have hz : Cur.failE e 1 ≠ 0 := failE_ne (by omega)
    have HE := Lib.hid he
    have HF := Lib.hid fun W h => fail_any g e 1 59 (.slice A m c) W h
    have ht2 := ht.set0 (.int .i64 (Cur.failE e 1 : Nat))
    have k0 := ht2.c0
    have HT2 := Lib.hid ht2
    have hd : (((Cur.failE e 1 : Nat) : Int) != 0) = true := by rw [bne_iff_ne]; omega
    clear he ht ht2 hb
    generalize Cur.failE e 1 = e1 at *
    go_enter Try.func39, Try.ntmps39
    go_wp2_with fail
    refine (HF.out _ HT.out).mono ?_
    rintro r w1 ⟨rfl, rfl⟩
    go_wp2_with fail
    go_ret
    have ho : Only [g] w (w.setCell ⟨g, 0, none⟩ (.int .i64 (e1 : Nat))) := (Only.refl _ _).setCell (.inl (by simp)) _
    exact rdBytes_failedB HE.out hz ⟨A, m, c, HT2.out, HB.out.only ho (fun b off hA hp => by have := HT.out.apart (by simp) (by simp) HB.out b off hA hp; simpa using this), hmc, hc, hbd⟩ ho
  · by_cases hbig : (m : Int) < n
    · have he : Cur.bytesErr ⟨e, bs⟩ n = Cur.failE e 2 := by simp [Cur.bytesErr, hneg, hbl, hbig]
      have hz : Cur.failE e 2 ≠ 0 := failE_ne (by omega)
      have HE := Lib.hid he
      have HF := Lib.hid fun W h => fail_any g e 2 59 (.slice A m c) W h
      have ht2 := ht.set0 (.int .i64 (Cur.failE e 2 : Nat))
      have k0 := ht2.c0
      have HT2 := Lib.hid ht2
      have hd : (((Cur.failE e 2 : Nat) : Int) != 0) = true := by rw [bne_iff_ne]; omega
      clear he ht ht2 hb hbl
      generalize Cur.failE e 2 = e1 at *
      go_enter Try.func39, Try.ntmps39
      go_wp2_with fail
      refine (HF.out _ HT.out).mono ?_
      rintro r w1 ⟨rfl, rfl⟩
      go_wp2_with fail
      go_ret
      have ho : Only [g] w (w.setCell ⟨g, 0, none⟩ (.int .i64 (e1 : Nat))) := (Only.refl _ _).setCell (.inl (by simp)) _
      exact rdBytes_failedB HE.out hz ⟨A, m, c, HT2.out, HB.out.only ho (fun b off hA hp => by have := HT.out.apart (by simp) (by simp) HB.out b off hA hp; simpa using this), hmc, hc, hbd⟩ ho
    · have he : Cur.bytesErr ⟨e, bs⟩ n = e := by simp [Cur.bytesErr, hneg, hbl, hbig]
      have HE := Lib.hid he
      by_cases hz : e = 0
      · subst hz
        obtain ⟨k, rfl⟩ := Int.eq_ofNat_of_zero_le (Int.not_lt.1 hneg)
        have hkm : k ≤ m := by omega
        have hkI : (k : Int) ≤ (c : Int) := by omega
        have hk2 : k ≤ 140737488355328 := by omega
        have HC := Lib.hid (clone_any A k c (bs.take k) w (hb.take hkm) hk2)
        have HL := Lib.hid hbl
        clear he ht hb hbl
        go_enter Try.func39, Try.ntmps39
        go_wp2_with fail
        refine HC.out.mono ?_
        rintro r w1 ⟨A1, c1, rfl, hb1, hc1, hc2, hf, hbel⟩
        have ht1 := HT.out.below hbel
        have g1 := ht1.c1
        have gf := ht1.free 1
        have HT1 := Lib.hid ht1
        clear ht1
        go_wp2_with (refine wpList_cut rfl 25 5 (.tmp 42) (.tmp 43) rfl Try.underlying25 size1 A m c k .i64 rfl rfl hkm ?_)
        go_ret
        have hq : Cur.rBytes ⟨0, bs⟩ (k : Int) = (bs.take k, ⟨0, bs.drop k⟩) := by unfold Cur.rBytes; rw [HE.out, if_pos rfl, Int.toNat_natCast]
        have ho1 : Only [g] w1 (w1.setCell ⟨g, 1, none⟩ (.slice (cutA A c k) (m - k) (c - k))) := (Only.refl _ _).setCell (.inl (by simp)) _
        have hgl := HT.out.lt
        refine ⟨A1, k, c1, rfl, ?_, hc1, hc2, hf, ?_, (only_below [g] hbel).setCell (.inl (by simp)) _⟩
        · rw [hq]
          exact hb1.only ho1 fun b off hA _ => by have := hf _ hA; simp at this ⊢; omega
        · rw [hq]
          refine ⟨cutA A c k, m - k, c - k, HT1.out.set1 _, ?_, by omega, by omega, fun a ha h0 => by obtain ⟨a', hA', hbk⟩ := cutA_block ha; rw [← hbk]; exact hbd a' hA' (by omega)⟩
          refine ((HB.out.below hbel).cut hkm hmc).only ho1 fun b off hA hp => ?_
          have := (HT1.out.set1 (.slice (cutA A c k) (m - k) (c - k))).apart (by simp) (by simp) (((HB.out.below hbel).cut (c := c) hkm hmc).only ho1 ?_) b off hA hp
          · simpa using this
          · intro b off hA hp
            obtain ⟨a', hA', hbk⟩ := cutA_block hA
            have := HT1.out.apart (by simp) (by simp) (HB.out.below hbel)
            obtain ⟨b2, o2, rfl, _⟩ := HB.out.2 (by omega)
            have := this b2 o2 rfl (by omega)
            injection hA' with hA'
            subst hA'
            simp at hbk ⊢
            omega
      · have hne : (((e : Nat) : Int) != 0) = true := by rw [bne_iff_ne]; omega
        clear he ht hb hbl
        go_enter Try.func39, Try.ntmps39
        go_wp2_with fail
        go_ret
        exact rdBytes_failedB HE.out hz ⟨A, m, c, HT.out, HB.out, hmc, hc, hbd⟩ (Only.refl _ _)
def RdNumB (B : Nat) (w : World) (g : Nat) (s : Cur.St) (n : Int) (r : Ending) (w' : World) : Prop :=
  r = .returned (.int .i64 ((Cur.rNum s n).1 : Nat)) ∧ RdB w' g (Cur.rNum s n).2 B ∧ Only [g] w w'

set_option maxHeartbeats 1000000 in
theorem num_b (B : Nat) (g : Nat) (s : Cur.St) (n : Int) (w : World) (h : RdB w g s B) (hn : s.bs.length ≤ 140737488355328) (hwf : -9223372036854775808 ≤ n ∧ n ≤ 9223372036854775807) :
    Calls Try.prog 29 #[.pointer (some ⟨g, 0, none⟩), .int .i64 n] w (RdNumB B w g s n) := by
  obtain ⟨e, bs⟩ := s
  by_cases hwide : 1 ≤ n ∧ n ≤ 4
  · obtain ⟨hn1, hn4⟩ := hwide
    have hB := bytes_b B g ⟨e, bs⟩ n w h hn hwf
    have hW : Cur.wideErr e n = e := by unfold Cur.wideErr; rw [if_neg (by omega)]
    have hl4 := rBytes_length ⟨e, bs⟩ n hn4
    have HB := Lib.hid hB
    have HW := Lib.hid hW
    clear hB hW
    go_enter Try.func29, Try.ntmps29
    go_wp2_with fail
    refine HB.out.mono ?_
    rintro r w1 ⟨A, k, c, rfl, hby, hkc, hc, _, hr, ho⟩
    have hkl := hby.1
    have hk4 : k ≤ 4 := by omega
    go_wp2_with fail
    go_loop [5, 22] (fun x i => ∃ m : Nat, m ≤ k ∧ i = .int .i64 m ∧ x = .int .i64 (Cur.le ((Cur.rBytes ⟨e, bs⟩ n).1.take m) : Nat)) (fun _ i => k - (intOf i).toNat)
    case atStart => exact ⟨0, by omega, rfl, rfl⟩
    case round =>
      obtain ⟨m, hm, rfl, rfl⟩ := hrel
      by_cases hmk : m < k
      · have hlen : ((Cur.rBytes ⟨e, bs⟩ n).1.take m).length = m := by rw [List.length_take]; omega
        have hsn := take_snoc (Cur.rBytes ⟨e, bs⟩ n).1 m (by omega)
        have hx := Cur.le_lt ((Cur.rBytes ⟨e, bs⟩ n).1.take m)
        have hle := Cur.le_snoc ((Cur.rBytes ⟨e, bs⟩ n).1.take m) ((Cur.rBytes ⟨e, bs⟩ n).1.getD m 0)
        rw [hlen] at hx hle
        rw [← hsn] at hle
        obtain ⟨b, off, rfl, hcell⟩ := hby.2 (by omega)
        have hcm := hcell m hmk
        have hd : ((Cur.rBytes ⟨e, bs⟩ n).1.getD m 0).toNat < 256 := ((Cur.rBytes ⟨e, bs⟩ n).1.getD m 0).toNat_lt
        have hor := Cur.or_go (by omega) hd hx
        have HL := Lib.hid hle
        clear hcell hle hsn hlen hx
        generalize (Cur.rBytes ⟨e, bs⟩ n).1.getD m 0 = d at *
        generalize Cur.le ((Cur.rBytes ⟨e, bs⟩ n).1.take m) = x at *
        go_wp2_with fail
        refine ⟨⟨m + 1, by omega, by go_num, ?_⟩, by simp [intOf]; omega⟩
        rw [HL.out, Int.natCast_add, Int.natCast_mul, Int.natCast_pow]; rfl
      · obtain rfl : m = k := by omega
        have hall : (Cur.rBytes ⟨e, bs⟩ n).1.take m = (Cur.rBytes ⟨e, bs⟩ n).1 := List.take_of_length_le (by omega)
        have HA := Lib.hid hall
        clear hall
        go_wp2_with fail
        go_ret
        have hs : Cur.rNum ⟨e, bs⟩ n = (Cur.le (Cur.rBytes ⟨e, bs⟩ n).1, (Cur.rBytes ⟨e, bs⟩ n).2) := by unfold Cur.rNum; rw [HW.out]
        refine ⟨?_, ?_, ho⟩
        · rw [hs]
          show Ending.returned (.int .i64 _) = _
          rw [HA.out]
        · rw [hs]; exact hr
  · obtain ⟨A, m, c, ht, hb, hmc, hc, hbd⟩ := h
    simp only at ht hb hn
    have hW : Cur.wideErr e n = Cur.failE e 1 := by unfold Cur.wideErr; rw [if_pos (by omega)]
    have hz : Cur.failE e 1 ≠ 0 := failE_ne (by omega)
    have ho : Only [g] w (w.setCell ⟨g, 0, none⟩ (.int .i64 (Cur.failE e 1 : Nat))) := (Only.refl _ _).setCell (.inl (by simp)) _
    have hr : RdB (w.setCell ⟨g, 0, none⟩ (.int .i64 (Cur.failE e 1 : Nat))) g ⟨Cur.failE e 1, bs⟩ B :=
      ⟨A, m, c, ht.set0 _, hb.only ho (fun b off hA hp => by have := ht.apart (by simp) (by simp) hb b off hA hp; simpa using this), hmc, hc, hbd⟩
    have hB := bytes_b B g ⟨Cur.failE e 1, bs⟩ n _ hr hn hwf
    have hq : Cur.bytesErr ⟨Cur.failE e 1, bs⟩ n ≠ 0 := by
      unfold Cur.bytesErr
      simp only [Cur.failE_pos hz]
      split
      · exact hz
      · split <;> exact hz
    have hq2 : Cur.rBytes ⟨Cur.failE e 1, bs⟩ n = ([], ⟨Cur.bytesErr ⟨Cur.failE e 1, bs⟩ n, bs⟩) := by unfold Cur.rBytes; rw [if_neg hq]
    have HF := Lib.hid (fail_any g e 1 59 (.slice A m c) w ht)
    have HB := Lib.hid hB
    have HW := Lib.hid hW
    have HQ := Lib.hid hq2
    have HO := Lib.hid ho
    clear hB hW hq hq2 hr ho ht hb
    generalize w.setCell ⟨g, 0, none⟩ (.int .i64 (Cur.failE e 1 : Nat)) = w1 at *
    have hor : n < 1 ∨ 1 ≤ n ∧ 4 < n := by omega
    clear hwide
    rcases hor with hlt | ⟨hlt, hgt⟩
    all_goals
      go_enter Try.func29, Try.ntmps29
      go_wp2_with fail
      refine HF.out.mono ?_
      rintro r w' ⟨rfl, rfl⟩
      go_wp2_with fail
      refine HB.out.mono ?_
      rintro r w2 ⟨A1, k, c1, rfl, hby, hkc, hc1, _, hr, ho⟩
      rw [HQ.out] at hby hr
      have hk0 : k = 0 := by have := hby.1; simp at this; omega
      subst hk0
      go_wp2_with fail
      go_loop [5, 22] (fun x i => i = .int .i64 0 ∧ x = .int .i64 0) (fun _ i => 0)
      case atStart => exact ⟨rfl, rfl⟩
      case round =>
        obtain ⟨rfl, rfl⟩ := hrel
        go_wp2_with fail
        go_ret
        have hs : Cur.rNum ⟨e, bs⟩ n = (0, ⟨Cur.bytesErr ⟨Cur.failE e 1, bs⟩ n, bs⟩) := by
          unfold Cur.rNum
          simp only [HW.out, HQ.out, Cur.le]
        refine ⟨?_, ?_, HO.out.trans ho (by simp)⟩
        · rw [hs]; rfl
        · rw [hs]; exact hr

def RdTextB (B : Nat) (w : World) (g : Nat) (s : Cur.St) (r : Ending) (w' : World) : Prop :=
  r = .returned (.string (str (Cur.rText s).1)) ∧ RdB w' g (Cur.rText s).2 B ∧ Only [g] w w'
set_option maxHeartbeats 400000 in
theorem text_b (B : Nat) (g : Nat) (s : Cur.St) (w : World) (h : RdB w g s B) (hn : s.bs.length ≤ 140737488355328) :
    Calls Try.prog 28 #[.pointer (some ⟨g, 0, none⟩)] w (RdTextB B w g s) := by
  have hN := num_b B g s 1 w h hn (by omega)
  have hlt := rNum_lt s 1 (by omega)
  have hbs := rNum_bs s 1
  have HN := Lib.hid hN
  clear hN h
  go_enter Try.func28, Try.ntmps28
  go_wp2_with fail
  refine HN.out.mono ?_
  rintro r w1 ⟨rfl, hr, ho⟩
  have HB := Lib.hid (bytes_b B g (Cur.rNum s 1).2 ((Cur.rNum s 1).1 : Nat) w1 hr (by omega) (by omega))
  have HT : Hid (Cur.rText s = Cur.rBytes (Cur.rNum s 1).2 ((Cur.rNum s 1).1 : Nat)) := rfl
  generalize Cur.rNum s 1 = q at *
  obtain ⟨x, s1⟩ := q
  simp only at *
  go_wp2_with fail
  refine HB.out.mono ?_
  rintro r w2 ⟨A1, k, c1, rfl, hby, hkc, hc1, _, hr2, ho2⟩
  have hcv := run_string (P := Try.prog) hby 25 5 9 Try.underlying25 Try.underlying5 Try.underlying9 c1
  go_wp2_with fail
  go_ret
  refine ⟨?_, ?_, ho.trans ho2 (by simp)⟩
  · rw [HT.out]; rfl
  · rw [HT.out]; exact hr2

end Go.Proofs.Ythkjgkdglphfcaa
