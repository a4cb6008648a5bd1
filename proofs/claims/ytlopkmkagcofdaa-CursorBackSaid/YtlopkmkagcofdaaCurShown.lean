/- Walks of 'kind' and of 'shown': the document's examples hold. -/
import Derived.Test.YtlopkmkagcofdaaRows
import Derived.Test.YtlopkmkagcofdaaOnly
import Derived.Test.YtlopkmkagcofdaaCurMath
import Derived.Test.YtlopkmkagcofdaaCurReader
import Derived.Test.YtlopkmkagcofdaaCurReader
import Derived.Test.YtlopkmkagcofdaaCurWText
import Derived.Test.YtlopkmkagcofdaaCurNum
import Derived.WalkKit
import Derived.WalkSpells
import Derived.WalkLawsBesides
import Derived.Lib.Hide
import Derived.Deep.AppendLies
import Derived.Deep.RegionLaw
import Derived.Lib.ConvBytes
namespace Go.Proofs.Ytlopkmkagcofdaa
set_option linter.unusedVariables false
set_option linter.unusedSimpArgs false
open Go.RowKit





theorem int_of {x : Int} (h : (Lit.int .i64 x).wf = true) : -9223372036854775808 ≤ x ∧ x ≤ 9223372036854775807 := by
  simpa [Lit.wf, IntKind.min, IntKind.max, IntKind.bits, IntKind.signed] using h
/-- Which of n kinds. -/
def kindF (c n : Int) : Int := (if c < 0 then -(c + 1) else c) % n
theorem kindF_bd (c n : Int) (hn : 0 < n) : 0 ≤ kindF c n ∧ kindF c n < n := ⟨Int.emod_nonneg _ (by omega), Int.emod_lt_of_pos _ hn⟩
theorem kind_any (c n : Int) (w : World) (hc : -9223372036854775808 ≤ c ∧ c ≤ 9223372036854775807) (hn : 1 ≤ n) (hn2 : n ≤ 65536) :
    Calls Try.prog 10 #[.int .i64 c, .int .i64 n] w fun r w' => r = .returned (.int .i64 (kindF c n)) ∧ w = w' := by
  have hbd := kindF_bd c n (by omega)
  by_cases h : c < 0
  · have hq : kindF c n = (-(c + 1)) % n := by unfold kindF; rw [if_pos h]
    have HQ := Lib.hid hq
    clear hq
    go_enter Try.func10, Try.ntmps10
    go_wp2_with fail
    go_ret
    refine ⟨?_, rfl⟩
    rw [HQ.out]
    show Ending.returned (.int .i64 (-((c + 1).tmod n))) = _
    rw [← Int.neg_tmod, Int.tmod_eq_emod_of_nonneg (by omega)]
  · have hq : kindF c n = c % n := by unfold kindF; rw [if_neg h]
    have HQ := Lib.hid hq
    clear hq
    go_enter Try.func10, Try.ntmps10
    go_wp2_with fail
    go_ret
    exact ⟨by rw [HQ.out]; rfl, rfl⟩

theorem Bytes.lt {w : World} {A : Option Addr} {n : Nat} {bs : List UInt8} (h : Bytes w A n bs) {b off : Nat} (hA : A = some ⟨b, off, none⟩) (hn : 0 < n) : b < w.heap.size := by
  obtain ⟨b', off', h1, h2⟩ := h.2 hn
  rw [hA] at h1
  cases h1
  exact block_lt_of_cell (h2 0 hn)
/-- Bytes that were there before keep what they are. -/
theorem Bytes.old {w1 w w' : World} {A : Option Addr} {n : Nat} {bs : List UInt8} (h : Bytes w1 A n bs) (hb : Below w1.heap.size w1 w) {S : List Nat} (ho : Only S w w') (hs : ∀ k ∈ S, w1.heap.size ≤ k) : Bytes w' A n bs :=
  (h.below hb).only ho fun b off hA hn hin => by have := h.lt hA hn; have := hs b hin; omega
/-- A new writer. -/
theorem new_writer (w : World) : WrAt (w.alloc (.cells #[.int .i64 ((0 : Nat) : Int), .slice none 0 0] 30)) w.heap.size w.heap.size [w.heap.size] ⟨0, []⟩ :=
  ⟨_, Two.new w _ _ _, World.ownsRow_nil _ _ _ _, Nat.le_refl _, rfl⟩
set_option maxHeartbeats 800000 in
theorem shown_any (w : World) : Calls Try.prog 9 #[] w fun e w' => e = .returned (.bool true) ∧ Below w.heap.size w w' := by
  have e1 : Cur.wNum ⟨0, []⟩ 258 2 = ⟨0, [2, 1]⟩ := by simp [Cur.wNum, Cur.misfit, Cur.leBytes]
  have e2 : Cur.wText ⟨0, [2, 1]⟩ [97, 98] = ⟨0, [2, 1, 2, 97, 98]⟩ := by simp [Cur.wText, Cur.wNum, Cur.wBytes, Cur.misfit, Cur.leBytes]
  have e3 : Cur.rNum ⟨0, [2, 1, 2, 97, 98]⟩ 2 = (258, ⟨0, [2, 97, 98]⟩) := by simp [Cur.rNum, Cur.rBytes, Cur.bytesErr, Cur.wideErr, Cur.le]
  have e4 : Cur.rText ⟨0, [2, 97, 98]⟩ = ([97, 98], ⟨0, []⟩) := by simp [Cur.rText, Cur.rNum, Cur.rBytes, Cur.bytesErr, Cur.wideErr, Cur.le]
  have h0 := new_writer w
  have H0 := Lib.hid h0
  have E1 := Lib.hid e1
  have E2 := Lib.hid e2
  have E3 := Lib.hid e3
  have E4 := Lib.hid e4
  clear h0 e1 e2 e3 e4
  have hptr : ∀ (W : World) (g : Nat), (binOp .eql 45 (.pointer (some ⟨g, 0, none⟩)) (.pointer none)).run Try.prog W = .ok (.bool false) W := fun W g => by kernel_rfl
  go_enter Try.func9, Try.ntmps9
  go_wp2_with fail
  refine (wnum_any w.heap.size w.heap.size _ _ 258 2 _ H0.out (by simp only [List.length_nil]; omega) (by omega) (by omega)).mono ?_
  rintro r w1 ⟨rfl, S1, hw1, ho1, hs1⟩
  rw [E1.out] at hw1
  go_wp2_with fail
  refine (wtext_any w.heap.size w.heap.size S1 _ [97, 98] w1 hw1 (by simp)).mono ?_
  rintro r w2 ⟨rfl, S2, hw2, ho2, hs2⟩
  rw [E2.out] at hw2
  go_wp2_with fail
  refine (show Calls _ _ _ _ (Fresh w2 5 [2, 1, 2, 97, 98]) from done_any w.heap.size w.heap.size S2 _ w2 hw2 (by simp)).mono ?_
  rintro r w3 ⟨A3, c3, rfl, hb3, hc3, hc4, hf3, hbel3⟩
  have HB3 := Lib.hid hb3
  have hb1 : Hid (Below w.heap.size w w1) := (below_all.alloc (Nat.le_refl _) _ : Below w.heap.size w _).trans (ho1.below (fun k hk => by simp at hk; omega) (by simp))
  have hb2 : Hid (Below w.heap.size w w2) := hb1.out.trans (ho2.below (fun k hk => (hw1.all k hk).1) hb1.out.size)
  have hn3 : Hid (Below w.heap.size w w3) := hb2.out.trans (hbel3.mono hb2.out.size)
  clear hb3
  go_wp2_with fail
  refine (read_any A3 5 c3 _ w3 HB3.out (by omega)).mono ?_
  rintro r w4 ⟨g, rfl, hr4, hg4, hbel4⟩
  have HB4 := Lib.hid (HB3.out.below hbel4)
  have hn4 : Hid (Below w.heap.size w w4) := hn3.out.trans (hbel4.mono hn3.out.size)
  go_wp2_with fail
  refine (show Calls _ _ _ _ (fun r w' => r = .returned (.int .i64 258) ∧ RdAt w' g ⟨0, [2, 97, 98]⟩ ∧ Only [g] w4 w') from (num_any g _ 2 w4 hr4 (by simp) (by omega)).mono fun r w' h => by obtain ⟨h1, h2, h3⟩ := h; rw [E3.out] at h1 h2; exact ⟨h1, h2, h3⟩).mono ?_
  rintro r w5 ⟨rfl, hr5, ho5⟩
  go_wp2_with fail
  refine (show Calls _ _ _ _ (fun r w' => r = .returned (.string ⟨#[97, 98]⟩) ∧ RdAt w' g ⟨0, []⟩ ∧ Only [g] w5 w') from (text_any g _ w5 hr5 (by simp)).mono fun r w' h => by obtain ⟨h1, h2, h3⟩ := h; rw [E4.out] at h1 h2; exact ⟨h1, h2, h3⟩).mono ?_
  rintro r w6 ⟨rfl, hr6, ho6⟩
  have hB5 := HB3.out.old hbel4 ho5 (fun k hk => by simp at hk; omega)
  have hB6 := hB5.only ho6 (fun b off hA hn => by have := HB3.out.lt hA hn; simp; omega)
  have HB6 := Lib.hid hB6
  have hn5 : Hid (Below w.heap.size w w5) := hn4.out.trans (ho5.below (fun k hk => by simp at hk; have := hn3.out.size; omega) hn4.out.size)
  have hn6 : Hid (Below w.heap.size w w6) := hn5.out.trans (ho6.below (fun k hk => by simp at hk; have := hn3.out.size; omega) hn5.out.size)
  have hcv := run_string (P := Try.prog) hB6 28 5 9 Try.underlying28 Try.underlying5 Try.underlying9 c3
  clear hB5 hB6
  go_wp2_with fail
  rotate_left
  · rename_i hno
    exact absurd (str_toList _) hno
  refine (end_any g _ w6 hr6).mono ?_
  rintro r w7 ⟨rfl, hr7, ho7⟩
  have hn7 : Hid (Below w.heap.size w w7) := hn6.out.trans (ho7.below (fun k hk => by simp at hk; have := hn3.out.size; omega) hn6.out.size)
  go_wp2_with fail
  go_ret
  exact ⟨rfl, hn7.out⟩
end Go.Proofs.Ytlopkmkagcofdaa
