/- Walks of the document's reader (lamellaref03): Bytes, Num, Text, Left and End. -/
import Derived.Test.YthkjgkdglphfcaaRows
import Derived.Test.YthkjgkdglphfcaaOnly
import Derived.Test.YthkjgkdglphfcaaCurMath
import Derived.Test.YthkjgkdglphfcaaCurReader
import Derived.Test.YthkjgkdglphfcaaCurNum
import Derived.WalkKit
import Derived.WalkSpells
import Derived.WalkLawsBesides
import Derived.Lib.Hide
namespace Go.Proofs.Ythkjgkdglphfcaa
set_option linter.unusedVariables false
set_option linter.unusedSimpArgs false
open Go.RowKit



/-- The document's reader in block g: what is left, and the error. -/
def RfAt (w : World) (g : Nat) (s : Cur.St) : Prop :=
  ∃ A n c, Two w g 60 (.slice A n c) (.int .i64 (s.e : Nat)) ∧ Bytes w A n s.bs ∧ n ≤ c ∧ c ≤ 9223372036854775807
theorem RfAt.lt {w : World} {g : Nat} {s : Cur.St} (h : RfAt w g s) : g < w.heap.size := by obtain ⟨A, n, c, h, _⟩ := h; exact h.lt
theorem RfAt.only {w w' : World} {g : Nat} {s : Cur.St} {S : List Nat} (h : RfAt w g s) (ho : Only S w w') (hg : g ∉ S)
    (hs : ∀ k ∈ S, k < w.heap.size → ∃ T x y, Two w k T x y ∧ (∀ b, x ≠ .int .u8 b) ∧ ∀ b, y ≠ .int .u8 b) : RfAt w' g s := by
  obtain ⟨A, n, c, h1, h2, h3⟩ := h
  refine ⟨A, n, c, h1.only ho hg, h2.only ho fun b off hA hn hin => ?_, h3⟩
  obtain ⟨b', off', hA', hc⟩ := h2.2 hn
  rw [hA] at hA'
  injection hA' with hA'
  injection hA' with e1 e2
  subst e1 e2
  obtain ⟨T, x, y, ht, hx, hy⟩ := hs b hin (block_lt_of_cell (hc 0 hn))
  exact ht.apart hx hy h2 b off hA hn rfl
theorem RfAt.below {w w' : World} {g : Nat} {s : Cur.St} (h : RfAt w g s) (ho : Below w.heap.size w w') : RfAt w' g s := by
  obtain ⟨A, n, c, h1, h2, h3⟩ := h
  exact ⟨A, n, c, h1.below ho, h2.below ho, h3⟩
/-- A reader's block holds no byte. -/
theorem RdAt.noByte {w : World} {g : Nat} {s : Cur.St} (h : RdAt w g s) : ∃ T x y, Two w g T x y ∧ (∀ b, x ≠ .int .u8 b) ∧ ∀ b, y ≠ .int .u8 b := by
  obtain ⟨A, n, c, h1, _⟩ := h
  exact ⟨_, _, _, h1, by simp, by simp⟩
theorem RfAt.noByte {w : World} {g : Nat} {s : Cur.St} (h : RfAt w g s) : ∃ T x y, Two w g T x y ∧ (∀ b, x ≠ .int .u8 b) ∧ ∀ b, y ≠ .int .u8 b := by
  obtain ⟨A, n, c, h1, _⟩ := h
  exact ⟨_, _, _, h1, by simp, by simp⟩

theorem rfail_any (g e c : Nat) (x : Value) (w : World) (h : Two w g 60 x (.int .i64 (e : Nat))) :
    Calls Try.prog 41 #[.pointer (some ⟨g, 0, none⟩), .int .i64 (c : Nat)] w fun r w' => r = .returned (.tuple #[]) ∧ w.setCell ⟨g, 1, none⟩ (.int .i64 (Cur.failE e c : Nat)) = w' := by
  have h0 := h.c1
  have hf := h.free 1
  by_cases he : e = 0
  · subst he
    go_enter Try.func41, Try.ntmps41
    go_wp2_with fail
    go_end0
    exact ⟨rfl, rfl⟩
  · have hs := h.same1
    have hne : (((e : Nat) : Int) == 0) = false := by simp; omega
    have hq : Cur.failE e c = e := Cur.failE_pos he c
    have HS := Lib.hid hs
    have HQ := Lib.hid hq
    clear hs hq
    go_enter Try.func41, Try.ntmps41
    go_wp2_with fail
    go_end0
    exact ⟨rfl, by rw [HQ.out, HS.out]⟩

def RfBytes (w : World) (g : Nat) (s : Cur.St) (n : Int) (r : Ending) (w' : World) : Prop :=
  ∃ A k c, r = .returned (.slice A k c) ∧ Bytes w' A k (Cur.rBytes s n).1 ∧ k ≤ c ∧ c ≤ 9223372036854775807 ∧ (∀ a, A = some a → w.heap.size ≤ a.block) ∧ RfAt w' g (Cur.rBytes s n).2 ∧ Only [g] w w'
theorem rfBytes_failed {w w' : World} {g : Nat} {s : Cur.St} {n : Int} {e : Nat} (he : Cur.bytesErr s n = e) (h0 : e ≠ 0) (hr : RfAt w' g ⟨e, s.bs⟩) (ho : Only [g] w w') : RfBytes w g s n (.returned (.slice none 0 0)) w' := by
  have hq : Cur.rBytes s n = ([], ⟨e, s.bs⟩) := by unfold Cur.rBytes; rw [he, if_neg h0]
  refine ⟨none, 0, 0, rfl, ?_, Nat.le_refl _, by omega, (fun a ha => by cases ha), ?_, ho⟩
  · rw [hq]; exact Bytes.nil _ _
  · rw [hq]; exact hr
set_option maxHeartbeats 1000000 in
theorem rbytes_any (g : Nat) (s : Cur.St) (n : Int) (w : World) (h : RfAt w g s) (hn : s.bs.length ≤ 140737488355328) (hwf : -9223372036854775808 ≤ n ∧ n ≤ 9223372036854775807) :
    Calls Try.prog 40 #[.pointer (some ⟨g, 0, none⟩), .int .i64 n] w (RfBytes w g s n) := by
  obtain ⟨e, bs⟩ := s
  obtain ⟨A, m, c, ht, hb, hmc, hc⟩ := h
  simp only at ht hb hn
  have hbl := hb.1
  have h0 := ht.c0
  have h1 := ht.c1
  have f1 := ht.free 0
  have HT := Lib.hid ht
  have HB := Lib.hid hb
  by_cases hz : e = 0
  · subst hz
    by_cases hneg : n < 0
    · have he : Cur.bytesErr ⟨0, bs⟩ n = 1 := by simp [Cur.bytesErr, hneg, Cur.failE]
      have HE := Lib.hid he
      have HF := Lib.hid fun W h => rfail_any g 0 1 (.slice A m c) W h
      have ht2 := ht.set1 (.int .i64 ((1 : Nat) : Int))
      have HT2 := Lib.hid ht2
      clear he ht ht2 hb hbl
      go_enter Try.func40, Try.ntmps40
      go_wp2_with fail
      refine (HF.out _ HT.out).mono ?_
      rintro r w1 ⟨rfl, rfl⟩
      go_wp2_with fail
      go_ret
      have ho : Only [g] w (w.setCell ⟨g, 1, none⟩ (.int .i64 ((1 : Nat) : Int))) := (Only.refl _ _).setCell (.inl (by simp)) _
      exact rfBytes_failed HE.out (by omega) ⟨A, m, c, HT2.out, HB.out.only ho (fun b off hA hp => by have := HT.out.apart (by simp) (by simp) HB.out b off hA hp; simpa using this), hmc, hc⟩ ho
    · by_cases hbig : (m : Int) < n
      · have he : Cur.bytesErr ⟨0, bs⟩ n = 2 := by simp [Cur.bytesErr, hneg, hbl, hbig, Cur.failE]
        have HE := Lib.hid he
        have HF := Lib.hid fun W h => rfail_any g 0 2 (.slice A m c) W h
        have ht2 := ht.set1 (.int .i64 ((2 : Nat) : Int))
        have HT2 := Lib.hid ht2
        clear he ht ht2 hb hbl
        go_enter Try.func40, Try.ntmps40
        go_wp2_with fail
        refine (HF.out _ HT.out).mono ?_
        rintro r w1 ⟨rfl, rfl⟩
        go_wp2_with fail
        go_ret
        have ho : Only [g] w (w.setCell ⟨g, 1, none⟩ (.int .i64 ((2 : Nat) : Int))) := (Only.refl _ _).setCell (.inl (by simp)) _
        exact rfBytes_failed HE.out (by omega) ⟨A, m, c, HT2.out, HB.out.only ho (fun b off hA hp => by have := HT.out.apart (by simp) (by simp) HB.out b off hA hp; simpa using this), hmc, hc⟩ ho
      · have he : Cur.bytesErr ⟨0, bs⟩ n = 0 := by simp [Cur.bytesErr, hneg, hbl, hbig]
        have HE := Lib.hid he
        obtain ⟨k, rfl⟩ := Int.eq_ofNat_of_zero_le (Int.not_lt.1 hneg)
        have hkm : k ≤ m := by omega
        have hkI : (k : Int) ≤ (c : Int) := by omega
        have hk2 : k ≤ 140737488355328 := by omega
        have hX := hb.take hkm
        have h0a := (ht.alloc (.cells #[] 5)).c0
        have hown0 := owns_empty w 5 (Nat.le_refl _)
        obtain ⟨i0, hi, hz0, hz1, hz2⟩ := info_parts u8_info
        have HI := Lib.hid hi
        have HL := Lib.hid hbl
        have HX := Lib.hid hX
        clear he ht hb hbl hi hX
        go_enter Try.func40, Try.ntmps40
        go_wp2_with (first | (refine wpList_cut rfl 25 5 (.tmp 36) (.tmp 37) rfl Try.underlying25 size1 A m c k .i64 rfl rfl hkm ?_) | (at_builtin; refine wpList_append_bytes _ rfl (.tmp 24) (.tmp 30) _ rfl w.heap.size 5 i0 _ 1 Try.underlying25 HI.out hz0 hz1 hz2 rfl (.slice (some ⟨w.heap.size, 0, none⟩) 0 0) 0 [] rfl hown0 A k c (bs.take k) rfl (HX.out.alloc _) (by simp only [maxLen]; omega) (by omega) (by simp) ?_; intro v2 w1 hown hgrow _; have hbel := below_append (below_all.alloc (Nat.le_refl _) _) hgrow hown0 (Nat.le_refl _) (by simp); have ht1 := HT.out.below hbel; have g0 := ht1.c0; have gf := ht1.free 0; have HT1 := Lib.hid ht1; clear ht1 hgrow; simp only [Nat.zero_add, List.nil_append] at hown; obtain ⟨A1, c1, rfl, hb1, hc1, hc2, hf⟩ := own_form hown))
        go_ret
        have hq : Cur.rBytes ⟨0, bs⟩ (k : Int) = (bs.take k, ⟨0, bs.drop k⟩) := by unfold Cur.rBytes; rw [HE.out, if_pos rfl, Int.toNat_natCast]
        have ho1 : Only [g] w1 (w1.setCell ⟨g, 0, none⟩ (.slice (cutA A c k) (m - k) (c - k))) := (Only.refl _ _).setCell (.inl (by simp)) _
        have hgl := HT.out.lt
        simp only [maxLen] at hc2
        refine ⟨A1, k, c1, rfl, ?_, hc1, by omega, fun a ha => (hf a ha).1, ?_, (only_below [g] hbel).setCell (.inl (by simp)) _⟩
        · rw [hq]
          exact hb1.only ho1 fun b off hA _ => by have := hf _ hA; simp at this ⊢; omega
        · rw [hq]
          refine ⟨cutA A c k, m - k, c - k, HT1.out.set0 _, ?_, by omega, by omega⟩
          refine ((HB.out.below hbel).cut hkm hmc).only ho1 fun b off hA hp => ?_
          obtain ⟨a', hA', hbk⟩ := cutA_block hA
          have := HT1.out.apart (by simp) (by simp) (HB.out.below hbel)
          obtain ⟨b2, o2, rfl, _⟩ := HB.out.2 (by omega)
          have := this b2 o2 rfl (by omega)
          injection hA' with hA'
          subst hA'
          simp at hbk ⊢
          omega
  · have he : Cur.bytesErr ⟨e, bs⟩ n = e := by unfold Cur.bytesErr; simp only [Cur.failE_pos hz]; split <;> (try split) <;> rfl
    have HE := Lib.hid he
    have hne : (((e : Nat) : Int) != 0) = true := by rw [bne_iff_ne]; omega
    clear he ht hb hbl
    go_enter Try.func40, Try.ntmps40
    go_wp2_with fail
    go_ret
    exact rfBytes_failed HE.out hz ⟨A, m, c, HT.out, HB.out, hmc, hc⟩ (Only.refl _ _)
end Go.Proofs.Ythkjgkdglphfcaa
