/- Walks of the document's reader, said more: the bytes that are left lie below block B. -/
import Derived.Test.YthkjgkdglphfcaaRows
import Derived.Test.YthkjgkdglphfcaaCurRefNum
namespace Go.Proofs.Ythkjgkdglphfcaa
set_option linter.unusedVariables false
set_option linter.unusedSimpArgs false
open Go.RowKit

/-- The document's reader whose bytes lie below block B. -/
def RfB (w : World) (g : Nat) (s : Cur.St) (B : Nat) : Prop :=
  ∃ A n c, Two w g 60 (.slice A n c) (.int .i64 (s.e : Nat)) ∧ Bytes w A n s.bs ∧ n ≤ c ∧ c ≤ 9223372036854775807 ∧ ∀ a, A = some a → 0 < n → a.block < B
theorem RfB.rf {w : World} {g B : Nat} {s : Cur.St} (h : RfB w g s B) : RfAt w g s := by obtain ⟨A, n, c, h1, h2, h3, h4, _⟩ := h; exact ⟨A, n, c, h1, h2, h3, h4⟩
theorem RfB.of {w : World} {g : Nat} {s : Cur.St} (h : RfAt w g s) : RfB w g s w.heap.size := by
  obtain ⟨A, n, c, h1, h2, h3, h4⟩ := h
  refine ⟨A, n, c, h1, h2, h3, h4, fun a ha hn => ?_⟩
  obtain ⟨b, off, hA, hc⟩ := h2.2 hn
  rw [hA] at ha
  cases ha
  exact block_lt_of_cell (hc 0 hn)
theorem RfB.below {w w' : World} {g B : Nat} {s : Cur.St} (h : RfB w g s B) (ho : Below w.heap.size w w') : RfB w' g s B := by
  obtain ⟨A, n, c, h1, h2, h3⟩ := h
  exact ⟨A, n, c, h1.below ho, h2.below ho, h3⟩
theorem RfB.grown {w w' : World} {g B : Nat} {s : Cur.St} {row : Option Nat} (h : RfB w g s B) (hg : g < B) (ho : w.grownBy w' row) (hr : ∀ k, row = some k → B ≤ k) : RfB w' g s B := by
  obtain ⟨A, n, c, h1, h2, h3, h4, h5⟩ := h
  refine ⟨A, n, c, h1.grown ho (fun e => by have := hr g e.symm; omega), ?_, h3, h4, h5⟩
  rcases Nat.eq_zero_or_pos n with h0 | h0
  · exact ⟨h2.1, fun hn => by omega⟩
  · exact h2.keep fun a ha hlt => ho.block _ hlt fun e => by have := h5 a ha h0; have := hr _ e.symm; omega
def RfBytesB (B : Nat) (w : World) (g : Nat) (s : Cur.St) (n : Int) (r : Ending) (w' : World) : Prop :=
  ∃ A k c, r = .returned (.slice A k c) ∧ Bytes w' A k (Cur.rBytes s n).1 ∧ k ≤ c ∧ c ≤ 9223372036854775807 ∧ (∀ a, A = some a → w.heap.size ≤ a.block) ∧ RfB w' g (Cur.rBytes s n).2 B ∧ Only [g] w w'
theorem rfBytes_failedB {B : Nat} {w w' : World} {g : Nat} {s : Cur.St} {n : Int} {e : Nat} (he : Cur.bytesErr s n = e) (h0 : e ≠ 0) (hr : RfB w' g ⟨e, s.bs⟩ B) (ho : Only [g] w w') : RfBytesB B w g s n (.returned (.slice none 0 0)) w' := by
  have hq : Cur.rBytes s n = ([], ⟨e, s.bs⟩) := by unfold Cur.rBytes; rw [he, if_neg h0]
  refine ⟨none, 0, 0, rfl, ?_, Nat.le_refl _, by omega, (fun a ha => by cases ha), ?_, ho⟩
  · rw [hq]; exact Bytes.nil _ _
  · rw [hq]; exact hr
set_option maxHeartbeats 1000000 in
theorem rbytes_b (B : Nat) (g : Nat) (s : Cur.St) (n : Int) (w : World) (h : RfB w g s B) (hn : s.bs.length ≤ 140737488355328) (hwf : -9223372036854775808 ≤ n ∧ n ≤ 9223372036854775807) :
    Calls Try.prog 40 #[.pointer (some ⟨g, 0, none⟩), .int .i64 n] w (RfBytesB B w g s n) := by
  obtain ⟨e, bs⟩ := s
  obtain ⟨A, m, c, ht, hb, hmc, hc, hbd⟩ := h
  simp only at ht hb hn
  have hbl := hb.1
  have h0 := ht.c0
  have h1 := ht.c1
  have f1 := ht.free 0
  have HT := Lib.hid ht
  have HB := Lib.hid hb
  by_cases hz : e = 0
  · subst hz
    by_cases hneg : n < 0
    · have he : Cur.bytesErr ⟨0, bs⟩ n = 1 := by simp [Cur.bytesErr, hneg, Cur.failE]
      have HE := Lib.hid he
      have HF := Lib.hid fun W h => rfail_any g 0 1 (.slice A m c) W h
      have ht2 := ht.set1 (.int .i64 ((1 : Nat) : Int))
      have HT2 := Lib.hid ht2
      clear he ht ht2 hb hbl
      go_enter Try.func40, Try.ntmps40
      go_wp2_with fail
      refine (HF.out _ HT.out).mono ?_
      rintro r w1 ⟨rfl, rfl⟩
      go_wp2_with fail
      go_ret
      have ho : Only [g] w (w.setCell ⟨g, 1, none⟩ (.int .i64 ((1 : Nat) : Int))) := (Only.refl _ _).setCell (.inl (by simp)) _
      exact rfBytes_failedB HE.out (by omega) ⟨A, m, c, HT2.out, HB.out.only ho (fun b off hA hp => by have := HT.out.apart (by simp) (by simp) HB.out b off hA hp; simpa using this), hmc, hc, hbd⟩ ho
    · by_cases hbig : (m : Int) < n
      · have he : Cur.bytesErr ⟨0, bs⟩ n = 2 := by simp [Cur.bytesErr, hneg, hbl, hbig, Cur.failE]
        have HE := Lib.hid he
        have HF := Lib.hid fun W h => rfail_any g 0 2 (.slice A m c) W h
        have ht2 := ht.set1 (.int .i64 ((2 : Nat) : Int))
        have HT2 := Lib.hid ht2
        clear he ht ht2 hb hbl
        go_enter Try.func40, Try.ntmps40
        go_wp2_with fail
        refine (HF.out _ HT.out).mono ?_
        rintro r w1 ⟨rfl, rfl⟩
        go_wp2_with fail
        go_ret
        have ho : Only [g] w (w.setCell ⟨g, 1, none⟩ (.int .i64 ((2 : Nat) : Int))) := (Only.refl _ _).setCell (.inl (by simp)) _
        exact rfBytes_failedB HE.out (by omega) ⟨A, m, c, HT2.out, HB.out.only ho (fun b off hA hp => by have := HT.out.apart (by simp) (by simp) HB.out b off hA hp; simpa using this), hmc, hc, hbd⟩ ho
      · have he : Cur.bytesErr ⟨0, bs⟩ n = 0 := by simp [Cur.bytesErr, hneg, hbl, hbig]
        have HE := Lib.hid he
        obtain ⟨k, rfl⟩ := Int.eq_ofNat_of_zero_le (Int.not_lt.1 hneg)
        have hkm : k ≤ m := by omega
        have hkI : (k : Int) ≤ (c : Int) := by omega
        have hk2 : k ≤ 140737488355328 := by omega
        have hX := hb.take hkm
        have h0a := (ht.alloc (.cells #[] 5)).c0
        have hown0 := owns_empty w 5 (Nat.le_refl _)
        obtain ⟨i0, hi, hz0, hz1, hz2⟩ := info_parts u8_info
        have HI := Lib.hid hi
        have HL := Lib.hid hbl
        have HX := Lib.hid hX
        clear he ht hb hbl hi hX
        go_enter Try.func40, Try.ntmps40
        go_wp2_with (first | (refine wpList_cut rfl 25 5 (.tmp 36) (.tmp 37) rfl Try.underlying25 size1 A m c k .i64 rfl rfl hkm ?_) | (at_builtin; refine wpList_append_bytes _ rfl (.tmp 24) (.tmp 30) _ rfl w.heap.size 5 i0 _ 1 Try.underlying25 HI.out hz0 hz1 hz2 rfl (.slice (some ⟨w.heap.size, 0, none⟩) 0 0) 0 [] rfl hown0 A k c (bs.take k) rfl (HX.out.alloc _) (by simp only [maxLen]; omega) (by omega) (by simp) ?_; intro v2 w1 hown hgrow _; have hbel := below_append (below_all.alloc (Nat.le_refl _) _) hgrow hown0 (Nat.le_refl _) (by simp); have ht1 := HT.out.below hbel; have g0 := ht1.c0; have gf := ht1.free 0; have HT1 := Lib.hid ht1; clear ht1 hgrow; simp only [Nat.zero_add, List.nil_append] at hown; obtain ⟨A1, c1, rfl, hb1, hc1, hc2, hf⟩ := own_form hown))
        go_ret
        have hq : Cur.rBytes ⟨0, bs⟩ (k : Int) = (bs.take k, ⟨0, bs.drop k⟩) := by unfold Cur.rBytes; rw [HE.out, if_pos rfl, Int.toNat_natCast]
        have ho1 : Only [g] w1 (w1.setCell ⟨g, 0, none⟩ (.slice (cutA A c k) (m - k) (c - k))) := (Only.refl _ _).setCell (.inl (by simp)) _
        have hgl := HT.out.lt
        simp only [maxLen] at hc2
        refine ⟨A1, k, c1, rfl, ?_, hc1, by omega, fun a ha => (hf a ha).1, ?_, (only_below [g] hbel).setCell (.inl (by simp)) _⟩
        · rw [hq]
          exact hb1.only ho1 fun b off hA _ => by have := hf _ hA; simp at this ⊢; omega
        · rw [hq]
          refine ⟨cutA A c k, m - k, c - k, HT1.out.set0 _, ?_, by omega, by omega, fun a ha h0 => by obtain ⟨a', hA', hbk⟩ := cutA_block ha; rw [← hbk]; exact hbd a' hA' (by omega)⟩
          refine ((HB.out.below hbel).cut hkm hmc).only ho1 fun b off hA hp => ?_
          obtain ⟨a', hA', hbk⟩ := cutA_block hA
          have := HT1.out.apart (by simp) (by simp) (HB.out.below hbel)
          obtain ⟨b2, o2, rfl, _⟩ := HB.out.2 (by omega)
          have := this b2 o2 rfl (by omega)
          injection hA' with hA'
          subst hA'
          simp at hbk ⊢
          omega
  · have he : Cur.bytesErr ⟨e, bs⟩ n = e := by unfold Cur.bytesErr; simp only [Cur.failE_pos hz]; split <;> (try split) <;> rfl
    have HE := Lib.hid he
    have hne : (((e : Nat) : Int) != 0) = true := by rw [bne_iff_ne]; omega
    clear he ht hb hbl
    go_enter Try.func40, Try.ntmps40
    go_wp2_with fail
    go_ret
    exact rfBytes_failedB HE.out hz ⟨A, m, c, HT.out, HB.out, hmc, hc, hbd⟩ (Only.refl _ _)
def RfNumB (B : Nat) (w : World) (g : Nat) (s : Cur.St) (n : Int) (r : Ending) (w' : World) : Prop :=
  r = .returned (.int .i64 ((Cur.rNum s n).1 : Nat)) ∧ RfB w' g (Cur.rNum s n).2 B ∧ Only [g] w w'
set_option maxHeartbeats 1000000 in
theorem rnum_b (B : Nat) (g : Nat) (s : Cur.St) (n : Int) (w : World) (h : RfB w g s B) (hn : s.bs.length ≤ 140737488355328) (hwf : -9223372036854775808 ≤ n ∧ n ≤ 9223372036854775807) :
    Calls Try.prog 31 #[.pointer (some ⟨g, 0, none⟩), .int .i64 n] w (RfNumB B w g s n) := by
  obtain ⟨e, bs⟩ := s
  by_cases hwide : e = 0 ∧ (n < 1 ∨ 4 < n)
  · obtain ⟨rfl, hw⟩ := hwide
    obtain ⟨A, m, c, ht, hb, hmc, hc, hbd⟩ := h
    simp only at ht hb hn
    have hW : Cur.wideErr 0 n = 1 := by unfold Cur.wideErr; rw [if_pos hw]; rfl
    have ho : Only [g] w (w.setCell ⟨g, 1, none⟩ (.int .i64 ((1 : Nat) : Int))) := (Only.refl _ _).setCell (.inl (by simp)) _
    have hr : RfB (w.setCell ⟨g, 1, none⟩ (.int .i64 ((1 : Nat) : Int))) g ⟨1, bs⟩ B :=
      ⟨A, m, c, ht.set1 _, hb.only ho (fun b off hA hp => by have := ht.apart (by simp) (by simp) hb b off hA hp; simpa using this), hmc, hc, hbd⟩
    have h1 := ht.c1
    have HB := Lib.hid (rbytes_b B g ⟨1, bs⟩ n _ hr hn hwf)
    have hq : Cur.bytesErr ⟨1, bs⟩ n = 1 := by simp [Cur.bytesErr, Cur.failE]
    have hq2 : Cur.rBytes ⟨1, bs⟩ n = ([], ⟨1, bs⟩) := by unfold Cur.rBytes; rw [hq, if_neg (by omega)]
    have HF := Lib.hid (rfail_any g 0 1 (.slice A m c) w ht)
    have HW := Lib.hid hW
    have HQ := Lib.hid hq2
    have HO := Lib.hid ho
    clear hW hq hq2 hr ho ht hb
    rw [show Cur.failE 0 1 = 1 from rfl] at HF
    generalize w.setCell ⟨g, 1, none⟩ (.int .i64 ((1 : Nat) : Int)) = w1 at *
    have hor : n < 1 ∨ 1 ≤ n ∧ 4 < n := by omega
    clear hw
    rcases hor with hlt | ⟨hlt, hgt⟩
    all_goals
      go_enter Try.func31, Try.ntmps31
      go_wp2_with fail
      refine HF.out.mono ?_
      rintro r w' ⟨rfl, rfl⟩
      go_wp2_with fail
      refine HB.out.mono ?_
      rintro r w2 ⟨A1, k, c1, rfl, hby, hkc, hc1, _, hr, ho⟩
      rw [HQ.out] at hby hr
      have hk0 : k = 0 := by have := hby.1; simp at this; omega
      subst hk0
      go_wp2_with fail
      go_loop [6, 7] (fun x i => i = .int .i64 (-1) ∧ x = .int .i64 0) (fun _ i => 0)
      case atStart => exact ⟨rfl, rfl⟩
      case round =>
        obtain ⟨rfl, rfl⟩ := hrel
        go_wp2_with fail
        go_ret
        have hs : Cur.rNum ⟨0, bs⟩ n = (0, ⟨1, bs⟩) := by
          unfold Cur.rNum
          simp only [HW.out, HQ.out, Cur.le]
        refine ⟨?_, ?_, HO.out.trans ho (by simp)⟩
        · rw [hs]; rfl
        · rw [hs]; exact hr
  · obtain ⟨A, m, c, ht, hb, hmc, hc, hbd⟩ := id h
    simp only at ht hb hn
    have h1 := ht.c1
    have HB := Lib.hid (rbytes_b B g ⟨e, bs⟩ n w h hn hwf)
    clear ht hb h
    by_cases he : e = 0
    · subst he
      have hn1 : 1 ≤ n := by omega
      have hn4 : n ≤ 4 := by omega
      have hW : Cur.wideErr 0 n = 0 := by unfold Cur.wideErr; rw [if_neg (by omega)]
      have hl4 := rBytes_length ⟨0, bs⟩ n hn4
      have HW := Lib.hid hW
      clear hW hwide
      go_enter Try.func31, Try.ntmps31
      go_wp2_with fail
      refine HB.out.mono ?_
      rintro r w1 ⟨A1, k, c1, rfl, hby, hkc, hc1, _, hr, ho⟩
      have hkl := hby.1
      have hk4 : k ≤ 4 := by omega
      go_wp2_with fail
      go_loop [6, 7] (fun x i => ∃ j : Nat, j ≤ k ∧ i = .int .i64 ((j : Int) - 1) ∧ x = .int .i64 (Cur.le ((Cur.rBytes ⟨0, bs⟩ n).1.drop j) : Nat)) (fun _ i => (intOf i + 1).toNat)
      case atStart => exact ⟨k, by omega, rfl, by rw [List.drop_of_length_le (by omega)]; rfl⟩
      case round =>
        obtain ⟨j, hj, rfl, rfl⟩ := hrel
        rcases Nat.eq_zero_or_pos j with hj0 | hj0
        · subst hj0
          go_wp2_with fail
          go_ret
          have hs : Cur.rNum ⟨0, bs⟩ n = (Cur.le (Cur.rBytes ⟨0, bs⟩ n).1, (Cur.rBytes ⟨0, bs⟩ n).2) := by unfold Cur.rNum; rw [HW.out]
          refine ⟨?_, ?_, ho⟩
          · rw [hs]; rfl
          · rw [hs]; exact hr
        · obtain ⟨i, rfl⟩ : ∃ i, j = i + 1 := ⟨j - 1, by omega⟩
          have hda := drop_at (Cur.rBytes ⟨0, bs⟩ n).1 i (by omega)
          have hle : Cur.le ((Cur.rBytes ⟨0, bs⟩ n).1.drop i) = 256 * Cur.le ((Cur.rBytes ⟨0, bs⟩ n).1.drop (i + 1)) + ((Cur.rBytes ⟨0, bs⟩ n).1.getD i 0).toNat := by rw [hda, le_cons]
          have hx := Cur.le_lt ((Cur.rBytes ⟨0, bs⟩ n).1.drop (i + 1))
          have hxp : 256 ^ ((Cur.rBytes ⟨0, bs⟩ n).1.drop (i + 1)).length ≤ 256 ^ 4 := Nat.pow_le_pow_right (by decide) (by rw [List.length_drop]; omega)
          have hx2 : Cur.le ((Cur.rBytes ⟨0, bs⟩ n).1.drop (i + 1)) < 4294967296 := by omega
          obtain ⟨b, off, rfl, hcell⟩ := hby.2 (by omega)
          have hcm := hcell i (by omega)
          have hd : ((Cur.rBytes ⟨0, bs⟩ n).1.getD i 0).toNat < 256 := ((Cur.rBytes ⟨0, bs⟩ n).1.getD i 0).toNat_lt
          have HL := Lib.hid hle
          clear hcell hle hda hx hxp
          generalize (Cur.rBytes ⟨0, bs⟩ n).1.getD i 0 = d at *
          generalize Cur.le ((Cur.rBytes ⟨0, bs⟩ n).1.drop (i + 1)) = x at *
          go_wp2_with fail
          refine ⟨⟨i, by omega, rfl, ?_⟩, by simp [intOf]⟩
          rw [HL.out, Int.natCast_add, Int.natCast_mul]; rfl
    · have hq : Cur.bytesErr ⟨e, bs⟩ n = e := by unfold Cur.bytesErr; simp only [Cur.failE_pos he]; split <;> (try split) <;> rfl
      have hq2 : Cur.rBytes ⟨e, bs⟩ n = ([], ⟨e, bs⟩) := by unfold Cur.rBytes; rw [hq, if_neg he]
      have hW : Cur.wideErr e n = e := by unfold Cur.wideErr; split <;> simp [Cur.failE_pos he]
      have hee : (((e : Nat) : Int) == 0) = false := by simp; omega
      have HW := Lib.hid hW
      have HQ := Lib.hid hq2
      clear hq hq2 hW hwide
      go_enter Try.func31, Try.ntmps31
      go_wp2_with fail
      refine HB.out.mono ?_
      rintro r w2 ⟨A1, k, c1, rfl, hby, hkc, hc1, _, hr, ho⟩
      rw [HQ.out] at hby hr
      have hk0 : k = 0 := by have := hby.1; simp at this; omega
      subst hk0
      go_wp2_with fail
      go_loop [6, 7] (fun x i => i = .int .i64 (-1) ∧ x = .int .i64 0) (fun _ i => 0)
      case atStart => exact ⟨rfl, rfl⟩
      case round =>
        obtain ⟨rfl, rfl⟩ := hrel
        go_wp2_with fail
        go_ret
        have hs : Cur.rNum ⟨e, bs⟩ n = (0, ⟨e, bs⟩) := by
          unfold Cur.rNum
          simp only [HW.out, HQ.out, Cur.le]
        refine ⟨?_, ?_, ho⟩
        · rw [hs]; rfl
        · rw [hs]; exact hr

def RfTextB (B : Nat) (w : World) (g : Nat) (s : Cur.St) (r : Ending) (w' : World) : Prop :=
  r = .returned (.string (str (Cur.rText s).1)) ∧ RfB w' g (Cur.rText s).2 B ∧ Only [g] w w'
set_option maxHeartbeats 400000 in
theorem rtext_b (B : Nat) (g : Nat) (s : Cur.St) (w : World) (h : RfB w g s B) (hn : s.bs.length ≤ 140737488355328) :
    Calls Try.prog 30 #[.pointer (some ⟨g, 0, none⟩)] w (RfTextB B w g s) := by
  have hN := rnum_b B g s 1 w h hn (by omega)
  have hlt := rNum_lt s 1 (by omega)
  have hbs := rNum_bs s 1
  have HN := Lib.hid hN
  clear hN h
  go_enter Try.func30, Try.ntmps30
  go_wp2_with fail
  refine HN.out.mono ?_
  rintro r w1 ⟨rfl, hr, ho⟩
  have HB := Lib.hid (rbytes_b B g (Cur.rNum s 1).2 ((Cur.rNum s 1).1 : Nat) w1 hr (by omega) (by omega))
  have HT : Hid (Cur.rText s = Cur.rBytes (Cur.rNum s 1).2 ((Cur.rNum s 1).1 : Nat)) := rfl
  generalize Cur.rNum s 1 = q at *
  obtain ⟨x, s1⟩ := q
  simp only at *
  go_wp2_with fail
  refine HB.out.mono ?_
  rintro r w2 ⟨A1, k, c1, rfl, hby, hkc, hc1, _, hr2, ho2⟩
  have hcv := run_string (P := Try.prog) hby 25 5 9 Try.underlying25 Try.underlying5 Try.underlying9 c1
  go_wp2_with fail
  go_ret
  refine ⟨?_, ?_, ho.trans ho2 (by simp)⟩
  · rw [HT.out]; rfl
  · rw [HT.out]; exact hr2

end Go.Proofs.Ythkjgkdglphfcaa
