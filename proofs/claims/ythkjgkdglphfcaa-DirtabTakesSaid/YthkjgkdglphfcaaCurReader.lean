/- Walks of the program's reader (chapter 3): what Read, Bytes, Num, Text, Left, End and Err do to a reader. -/
import Derived.Test.YthkjgkdglphfcaaRows
import Derived.Test.YthkjgkdglphfcaaOnly
import Derived.Test.YthkjgkdglphfcaaCurMath
import Derived.WalkKit
import Derived.WalkSpells
import Derived.WalkLawsBesides
import Derived.Lib.Hide
namespace Go.Proofs.Ythkjgkdglphfcaa
set_option linter.unusedVariables false
set_option linter.unusedSimpArgs false
open Go.RowKit

/-- One cell a byte: what append asks of the element's type. -/
theorem u8_info : (Try.prog.info? 5).map (fun i => (i.zero, i.size, i.bytes)) = some (some (.int .u8 0), 1, 1) := by kernel_rfl

/-! fault -/
theorem fail_any (g e c : Nat) (T : TypeId) (y : Value) (w : World) (h : Two w g T (.int .i64 (e : Nat)) y) :
    Calls Try.prog 35 #[.pointer (some ⟨g, 0, none⟩), .int .i64 (c : Nat)] w fun r w' => r = .returned (.tuple #[]) ∧ w.setCell ⟨g, 0, none⟩ (.int .i64 (Cur.failE e c : Nat)) = w' := by
  have h0 := h.c0
  have hf := h.free 0
  by_cases he : e = 0
  · subst he
    go_enter Try.func35, Try.ntmps35
    go_wp2_with fail
    go_end0
    exact ⟨rfl, rfl⟩
  · have hs := h.same0
    have hne : (((e : Nat) : Int) == 0) = false := by simp; omega
    have hq : Cur.failE e c = e := Cur.failE_pos he c
    have HS := Lib.hid hs
    have HQ := Lib.hid hq
    clear hs hq
    go_enter Try.func35, Try.ntmps35
    go_wp2_with fail
    go_end0
    exact ⟨rfl, by rw [HQ.out, HS.out]⟩
theorem err_any (g e : Nat) (T : TypeId) (y : Value) (w : World) (h : Two w g T (.int .i64 (e : Nat)) y) :
    Calls Try.prog 21 #[.pointer (some ⟨g, 0, none⟩)] w fun r w' => r = .returned (.int .i64 (e : Nat)) ∧ w = w' := by
  have h0 := h.c0
  go_enter Try.func21, Try.ntmps21
  go_wp2_with fail
  go_ret
  exact ⟨rfl, rfl⟩

/-! slices.Clone -/
/-- A slice in new memory (or nil) that holds bs. -/
def Fresh (w : World) (n : Nat) (bs : List UInt8) (r : Ending) (w' : World) : Prop :=
  ∃ A c, r = .returned (.slice A n c) ∧ Bytes w' A n bs ∧ n ≤ c ∧ c ≤ 9223372036854775807 ∧ (∀ a, A = some a → w.heap.size ≤ a.block) ∧ Below w.heap.size w w'
set_option maxHeartbeats 400000 in
theorem clone_any (A : Option Addr) (n c : Nat) (bs : List UInt8) (w : World) (hb : Bytes w A n bs) (hn : n ≤ 140737488355328) :
    Calls Try.prog 37 #[.slice A n c] w (Fresh w n bs) := by
  have hnil := fun (a : Option Addr) (l c : Nat) (W : World) => Lib.run_eql_slice_nil (P := Try.prog) W 25 5 a l c 0 0 Try.underlying25
  obtain ⟨i0, hi, hz0, hz1, hz2⟩ := info_parts u8_info
  have HI := Lib.hid hi
  have HB := Lib.hid hb
  clear hi hb
  rcases A with _ | a
  · have hn0 : n = 0 := by
      rcases Nat.eq_zero_or_pos n with h0 | h0
      · exact h0
      · obtain ⟨_, _, hA, _⟩ := HB.out.2 h0; cases hA
    subst hn0
    have hb0 : bs = [] := List.eq_nil_of_length_eq_zero HB.out.1
    subst hb0
    go_enter Try.func37, Try.ntmps37
    go_wp2_with fail
    go_ret
    exact ⟨none, 0, rfl, Bytes.nil w none, Nat.le_refl _, by omega, fun a ha => (by cases ha), Below.refl _ _⟩
  · have hown0 := owns_empty w 5 (Nat.le_refl _)
    go_enter Try.func37, Try.ntmps37
    go_wp2_with (at_builtin; refine wpList_append_bytes _ rfl (.tmp 5) (.tmp 6) _ rfl w.heap.size 5 i0 _ 1 Try.underlying25 HI.out hz0 hz1 hz2 rfl (.slice (some ⟨w.heap.size, 0, none⟩) 0 0) 0 [] rfl hown0 (some a) n c bs rfl (HB.out.alloc _) (by simp only [maxLen]; omega) (by omega) (by simp) ?_; intro v2 w2 hown hgrow _)
    go_ret
    have hb2 := below_append (below_all.alloc (Nat.le_refl _) _) hgrow hown0 (Nat.le_refl _) (by simp)
    simp only [Nat.zero_add, List.nil_append] at hown
    obtain ⟨A2, c2, rfl, h1, h2, h3, h4⟩ := own_form hown
    exact ⟨A2, c2, rfl, h1, h2, by simpa [maxLen] using h3, fun a ha => (h4 a ha).1, hb2⟩

/-! The reader -/
/-- A reader in block g: the error, and what is left. -/
def RdAt (w : World) (g : Nat) (s : Cur.St) : Prop :=
  ∃ A n c, Two w g 59 (.int .i64 (s.e : Nat)) (.slice A n c) ∧ Bytes w A n s.bs ∧ n ≤ c ∧ c ≤ 9223372036854775807
theorem RdAt.lt {w : World} {g : Nat} {s : Cur.St} (h : RdAt w g s) : g < w.heap.size := by obtain ⟨A, n, c, h, _⟩ := h; exact h.lt
/-- It is as it was, where others are at work. -/
theorem RdAt.only {w w' : World} {g : Nat} {s : Cur.St} {S : List Nat} (h : RdAt w g s) (ho : Only S w w') (hg : g ∉ S)
    (hs : ∀ k ∈ S, k < w.heap.size → ∃ T x y, Two w k T x y ∧ (∀ b, x ≠ .int .u8 b) ∧ ∀ b, y ≠ .int .u8 b) : RdAt w' g s := by
  obtain ⟨A, n, c, h1, h2, h3⟩ := h
  refine ⟨A, n, c, h1.only ho hg, h2.only ho fun b off hA hn hin => ?_, h3⟩
  obtain ⟨b', off', hA', hc⟩ := h2.2 hn
  rw [hA] at hA'
  injection hA' with hA'
  injection hA' with e1 e2
  subst e1 e2
  obtain ⟨T, x, y, ht, hx, hy⟩ := hs b hin (block_lt_of_cell (hc 0 hn))
  exact ht.apart hx hy h2 b off hA hn rfl
theorem RdAt.below {w w' : World} {g : Nat} {s : Cur.St} (h : RdAt w g s) (ho : Below w.heap.size w w') : RdAt w' g s := by
  obtain ⟨A, n, c, h1, h2, h3⟩ := h
  exact ⟨A, n, c, h1.below ho, h2.below ho, h3⟩

def Readed (w : World) (bs : List UInt8) (r : Ending) (w' : World) : Prop := ∃ g, r = .returned (.pointer (some ⟨g, 0, none⟩)) ∧ RdAt w' g ⟨0, bs⟩ ∧ w.heap.size ≤ g ∧ Below w.heap.size w w'
set_option maxHeartbeats 400000 in
theorem read_any (A : Option Addr) (n c : Nat) (bs : List UInt8) (w : World) (hb : Bytes w A n bs) (hn : n ≤ 140737488355328) :
    Calls Try.prog 26 #[.slice A n c] w (Readed w bs) := by
  have HC := Lib.hid (clone_any A n c bs w hb hn)
  clear hb
  go_enter Try.func26, Try.ntmps26
  go_wp2_with fail
  refine HC.out.mono ?_
  rintro e w1 ⟨A1, c1, rfl, hb1, hc1, hc2, hf, hbel⟩
  go_wp2_with fail
  go_ret
  exact ⟨_, rfl, ⟨A1, n, c1, Two.new w1 _ _ _, hb1.alloc _, hc1, hc2⟩, hbel.size, hbel.alloc hbel.size _⟩

def RdBytes (w : World) (g : Nat) (s : Cur.St) (n : Int) (r : Ending) (w' : World) : Prop :=
  ∃ A k c, r = .returned (.slice A k c) ∧ Bytes w' A k (Cur.rBytes s n).1 ∧ k ≤ c ∧ c ≤ 9223372036854775807 ∧ (∀ a, A = some a → w.heap.size ≤ a.block) ∧ RdAt w' g (Cur.rBytes s n).2 ∧ Only [g] w w'
theorem failE_ne {e c : Nat} (h : c ≠ 0) : Cur.failE e c ≠ 0 := by unfold Cur.failE; split <;> omega
/-- Where it fails: nothing is read, the error stands. -/
theorem rdBytes_failed {w w' : World} {g : Nat} {s : Cur.St} {n : Int} {e : Nat} (he : Cur.bytesErr s n = e) (h0 : e ≠ 0) (hr : RdAt w' g ⟨e, s.bs⟩) (ho : Only [g] w w') : RdBytes w g s n (.returned (.slice none 0 0)) w' := by
  have hq : Cur.rBytes s n = ([], ⟨e, s.bs⟩) := by unfold Cur.rBytes; rw [he, if_neg h0]
  refine ⟨none, 0, 0, rfl, ?_, Nat.le_refl _, by omega, (fun a ha => by cases ha), ?_, ho⟩
  · rw [hq]; exact Bytes.nil _ _
  · rw [hq]; exact hr
theorem size1 : (Try.prog.info? 5).map (·.size) = some 1 := by kernel_rfl
set_option maxHeartbeats 1000000 in
theorem bytes_any (g : Nat) (s : Cur.St) (n : Int) (w : World) (h : RdAt w g s) (hn : s.bs.length ≤ 140737488355328) (hwf : -9223372036854775808 ≤ n ∧ n ≤ 9223372036854775807) :
    Calls Try.prog 39 #[.pointer (some ⟨g, 0, none⟩), .int .i64 n] w (RdBytes w g s n) := by
  obtain ⟨e, bs⟩ := s
  obtain ⟨A, m, c, ht, hb, hmc, hc⟩ := h
  simp only at ht hb hn
  have hbl := hb.1
  have h0 := ht.c0
  have h1 := ht.c1
  have f1 := ht.free 1
  have HT := Lib.hid ht
  have HB := Lib.hid hb
  by_cases hneg : n < 0
  · have he : Cur.bytesErr ⟨e, bs⟩ n = Cur.failE e 1 := by simp [Cur.bytesErr, hneg]
    have hz : Cur.failE e 1 ≠ 0 := failE_ne (by omega)
    have HE := Lib.hid he
    have HF := Lib.hid fun W h => fail_any g e 1 59 (.slice A m c) W h
    have ht2 := ht.set0 (.int .i64 (Cur.failE e 1 : Nat))
    have k0 := ht2.c0
    have HT2 := Lib.hid ht2
    have hd : (((Cur.failE e 1 : Nat) : Int) != 0) = true := by rw [bne_iff_ne]; omega
    clear he ht ht2 hb
    generalize Cur.failE e 1 = e1 at *
    go_enter Try.func39, Try.ntmps39
    go_wp2_with fail
    refine (HF.out _ HT.out).mono ?_
    rintro r w1 ⟨rfl, rfl⟩
    go_wp2_with fail
    go_ret
    have ho : Only [g] w (w.setCell ⟨g, 0, none⟩ (.int .i64 (e1 : Nat))) := (Only.refl _ _).setCell (.inl (by simp)) _
    exact rdBytes_failed HE.out hz ⟨A, m, c, HT2.out, HB.out.only ho (fun b off hA hp => by have := HT.out.apart (by simp) (by simp) HB.out b off hA hp; simpa using this), hmc, hc⟩ ho
  · by_cases hbig : (m : Int) < n
    · have he : Cur.bytesErr ⟨e, bs⟩ n = Cur.failE e 2 := by simp [Cur.bytesErr, hneg, hbl, hbig]
      have hz : Cur.failE e 2 ≠ 0 := failE_ne (by omega)
      have HE := Lib.hid he
      have HF := Lib.hid fun W h => fail_any g e 2 59 (.slice A m c) W h
      have ht2 := ht.set0 (.int .i64 (Cur.failE e 2 : Nat))
      have k0 := ht2.c0
      have HT2 := Lib.hid ht2
      have hd : (((Cur.failE e 2 : Nat) : Int) != 0) = true := by rw [bne_iff_ne]; omega
      clear he ht ht2 hb hbl
      generalize Cur.failE e 2 = e1 at *
      go_enter Try.func39, Try.ntmps39
      go_wp2_with fail
      refine (HF.out _ HT.out).mono ?_
      rintro r w1 ⟨rfl, rfl⟩
      go_wp2_with fail
      go_ret
      have ho : Only [g] w (w.setCell ⟨g, 0, none⟩ (.int .i64 (e1 : Nat))) := (Only.refl _ _).setCell (.inl (by simp)) _
      exact rdBytes_failed HE.out hz ⟨A, m, c, HT2.out, HB.out.only ho (fun b off hA hp => by have := HT.out.apart (by simp) (by simp) HB.out b off hA hp; simpa using this), hmc, hc⟩ ho
    · have he : Cur.bytesErr ⟨e, bs⟩ n = e := by simp [Cur.bytesErr, hneg, hbl, hbig]
      have HE := Lib.hid he
      by_cases hz : e = 0
      · subst hz
        obtain ⟨k, rfl⟩ := Int.eq_ofNat_of_zero_le (Int.not_lt.1 hneg)
        have hkm : k ≤ m := by omega
        have hkI : (k : Int) ≤ (c : Int) := by omega
        have hk2 : k ≤ 140737488355328 := by omega
        have HC := Lib.hid (clone_any A k c (bs.take k) w (hb.take hkm) hk2)
        have HL := Lib.hid hbl
        clear he ht hb hbl
        go_enter Try.func39, Try.ntmps39
        go_wp2_with fail
        refine HC.out.mono ?_
        rintro r w1 ⟨A1, c1, rfl, hb1, hc1, hc2, hf, hbel⟩
        have ht1 := HT.out.below hbel
        have g1 := ht1.c1
        have gf := ht1.free 1
        have HT1 := Lib.hid ht1
        clear ht1
        go_wp2_with (refine wpList_cut rfl 25 5 (.tmp 42) (.tmp 43) rfl Try.underlying25 size1 A m c k .i64 rfl rfl hkm ?_)
        go_ret
        have hq : Cur.rBytes ⟨0, bs⟩ (k : Int) = (bs.take k, ⟨0, bs.drop k⟩) := by unfold Cur.rBytes; rw [HE.out, if_pos rfl, Int.toNat_natCast]
        have ho1 : Only [g] w1 (w1.setCell ⟨g, 1, none⟩ (.slice (cutA A c k) (m - k) (c - k))) := (Only.refl _ _).setCell (.inl (by simp)) _
        have hgl := HT.out.lt
        refine ⟨A1, k, c1, rfl, ?_, hc1, hc2, hf, ?_, (only_below [g] hbel).setCell (.inl (by simp)) _⟩
        · rw [hq]
          exact hb1.only ho1 fun b off hA _ => by have := hf _ hA; simp at this ⊢; omega
        · rw [hq]
          refine ⟨cutA A c k, m - k, c - k, HT1.out.set1 _, ?_, by omega, by omega⟩
          refine ((HB.out.below hbel).cut hkm hmc).only ho1 fun b off hA hp => ?_
          have := (HT1.out.set1 (.slice (cutA A c k) (m - k) (c - k))).apart (by simp) (by simp) (((HB.out.below hbel).cut (c := c) hkm hmc).only ho1 ?_) b off hA hp
          · simpa using this
          · intro b off hA hp
            obtain ⟨a', hA', hbk⟩ := cutA_block hA
            have := HT1.out.apart (by simp) (by simp) (HB.out.below hbel)
            obtain ⟨b2, o2, rfl, _⟩ := HB.out.2 (by omega)
            have := this b2 o2 rfl (by omega)
            injection hA' with hA'
            subst hA'
            simp at hbk ⊢
            omega
      · have hne : (((e : Nat) : Int) != 0) = true := by rw [bne_iff_ne]; omega
        clear he ht hb hbl
        go_enter Try.func39, Try.ntmps39
        go_wp2_with fail
        go_ret
        exact rdBytes_failed HE.out hz ⟨A, m, c, HT.out, HB.out, hmc, hc⟩ (Only.refl _ _)
end Go.Proofs.Ythkjgkdglphfcaa
