/- Walk of CursorStops: behind the first error nothing is read any more. -/
import Derived.Test.YtlopkmkagcofdaaRows
import Derived.Test.YtlopkmkagcofdaaCurOps
namespace Go.Proofs.Ytlopkmkagcofdaa
set_option linter.unusedVariables false
set_option linter.unusedSimpArgs false
open Go.RowKit

theorem rderr_any (g : Nat) (s : Cur.St) (w : World) (h : RdAt w g s) :
    Calls Try.prog 17 #[.pointer (some ⟨g, 0, none⟩)] w fun r w' => r = .returned (.int .i64 (s.e : Nat)) ∧ w = w' := by
  obtain ⟨A, m, c, ht, hb, hmc, hc⟩ := h
  exact err_any g s.e _ _ w ht
theorem dead_rBytes (bs : List UInt8) (n : Int) : Cur.rBytes ⟨2, bs⟩ n = ([], ⟨2, bs⟩) := by
  have h : Cur.bytesErr ⟨2, bs⟩ n = 2 := by unfold Cur.bytesErr Cur.failE; simp
  unfold Cur.rBytes; rw [h]; rfl
theorem dead_rNum (bs : List UInt8) (n : Int) : Cur.rNum ⟨2, bs⟩ n = (0, ⟨2, bs⟩) := by
  have h : Cur.wideErr 2 n = 2 := by unfold Cur.wideErr Cur.failE; simp
  unfold Cur.rNum; rw [h, dead_rBytes]; rfl
theorem dead_rText (bs : List UInt8) : Cur.rText ⟨2, bs⟩ = ([], ⟨2, bs⟩) := by
  unfold Cur.rText; rw [dead_rNum, dead_rBytes]
theorem dead_num (g : Nat) (bs : List UInt8) (n : Int) (w : World) (h : RdAt w g ⟨2, bs⟩) (hn : bs.length ≤ 300) (hwf : -9223372036854775808 ≤ n ∧ n ≤ 9223372036854775807) :
    Calls Try.prog 22 #[.pointer (some ⟨g, 0, none⟩), .int .i64 n] w fun r w' => r = .returned (.int .i64 0) ∧ RdAt w' g ⟨2, bs⟩ ∧ Only [g] w w' :=
  (num_any g ⟨2, bs⟩ n w h (by simp only; omega) hwf).mono fun r w' h => by
    obtain ⟨h1, h2, h3⟩ := h
    rw [dead_rNum] at h1 h2
    exact ⟨h1, h2, h3⟩
theorem dead_text (g : Nat) (bs : List UInt8) (w : World) (h : RdAt w g ⟨2, bs⟩) (hn : bs.length ≤ 300) :
    Calls Try.prog 26 #[.pointer (some ⟨g, 0, none⟩)] w fun r w' => r = .returned (.string ⟨#[]⟩) ∧ RdAt w' g ⟨2, bs⟩ ∧ Only [g] w w' :=
  (text_any g ⟨2, bs⟩ w h (by simp only; omega)).mono fun r w' h => by
    obtain ⟨h1, h2, h3⟩ := h
    rw [dead_rText] at h1 h2
    exact ⟨h1, h2, h3⟩
/-- Reading more than there is (or behind an error). -/
theorem dead_bytes (g e : Nat) (bs : List UInt8) (n : Int) (w : World) (h : RdAt w g ⟨e, bs⟩) (hn : bs.length ≤ 300) (hwf : -9223372036854775808 ≤ n ∧ n ≤ 9223372036854775807)
    (he : Cur.rBytes ⟨e, bs⟩ n = ([], ⟨2, bs⟩)) :
    Calls Try.prog 24 #[.pointer (some ⟨g, 0, none⟩), .int .i64 n] w fun r w' => (∃ A c, r = .returned (.slice A 0 c)) ∧ RdAt w' g ⟨2, bs⟩ ∧ Only [g] w w' :=
  (bytes_any g ⟨e, bs⟩ n w h (by simp only; omega) hwf).mono fun r w' h => by
    obtain ⟨A, k, c, h1, h2, h3, h4, h5, h6, h7⟩ := h
    rw [he] at h2 h6
    obtain rfl : k = 0 := by have := h2.1; simp at this; omega
    exact ⟨⟨A, c, h1⟩, h6, h7⟩
theorem over_rBytes {bs : List UInt8} {n : Int} (h : (bs.length : Int) < n) : Cur.rBytes ⟨0, bs⟩ n = ([], ⟨2, bs⟩) := by
  have h : Cur.bytesErr ⟨0, bs⟩ n = 2 := by unfold Cur.bytesErr; rw [if_neg (by omega), if_pos h]; rfl
  unfold Cur.rBytes; rw [h]; rfl
theorem dead_left (g : Nat) (bs : List UInt8) (w : World) (h : RdAt w g ⟨2, bs⟩) :
    Calls Try.prog 28 #[.pointer (some ⟨g, 0, none⟩)] w fun r w' => r = .returned (.int .i64 0) ∧ w = w' := left_any g ⟨2, bs⟩ w h
theorem dead_end (g : Nat) (bs : List UInt8) (w : World) (h : RdAt w g ⟨2, bs⟩) :
    Calls Try.prog 30 #[.pointer (some ⟨g, 0, none⟩)] w fun r w' => r = .returned (.int .i64 2) ∧ Only [g] w w' :=
  (end_any g ⟨2, bs⟩ w h).mono fun r w' h => by
    obtain ⟨h1, _, h3⟩ := h
    have : Cur.endE ⟨2, bs⟩ = 2 := by unfold Cur.endE Cur.failE; simp
    rw [this] at h1
    exact ⟨h1, h3⟩

set_option maxHeartbeats 1600000 in
theorem cursorStops_walk (A : Option Addr) (n c : Nat) (bs : List UInt8) (more : Int) (L : Option Addr) (len cap : Nat) (l : List OpV) (w : World) (h : Bytes w A n bs ∧ n ≤ c ∧ c ≤ maxLen) (hm0 : (Lit.int .i64 more).wf = true) (hl : OpsIn w L len l ∧ len ≤ cap ∧ cap ≤ maxLen) :
    Calls Try.prog 7 #[.slice A n c, .int .i64 more, .slice L len cap] w fun e w' => e = .returned (.bool true) ∧ Below w.heap.size w w' := by
  have hmore := int_of hm0
  obtain ⟨hb, hnc, hcm⟩ := h
  have hcm : c ≤ 9223372036854775807 := by simpa [maxLen] using hcm
  obtain ⟨hl, hlc, hlm⟩ := hl
  have hlm : cap ≤ 9223372036854775807 := by simpa [maxLen] using hlm
  obtain ⟨m, hm⟩ : ∃ m, m = min n 300 := ⟨_, rfl⟩
  have hbm := hb.take (show m ≤ n by omega)
  have hk := kindF_bd more 1000 (by omega)
  generalize bs.take m = ds at *
  have hdl := hbm.1
  have HB := Lib.hid hbm
  have HL := Lib.hid hl
  have hptr : ∀ (W : World) (g : Nat), (binOp .eql 45 (.pointer (some ⟨g, 0, none⟩)) (.pointer none)).run Try.prog W = .ok (.bool false) W := fun W g => by kernel_rfl
  have HK := Lib.hid (kind_any more 1000)
  clear hb hbm hl hm0
  generalize kindF more 1000 = km at *
  rcases (show (m = n ∧ n ≤ 300) ∨ (m = 300 ∧ 300 < n) by omega) with ⟨rfl, hlt⟩ | ⟨rfl, hlt⟩
  all_goals
    clear hm
    go_enter Try.func7, Try.ntmps7
    go_wp2_with fail
    refine (shown_any w).mono ?_
    rintro r w1 ⟨rfl, hb1⟩
    go_wp2_with fail
    refine (read_any A _ c ds w1 (HB.out.below hb1) (by omega)).mono ?_
    rintro r w2 ⟨g, rfl, hr2, hg2, hb2⟩
    have hbel : Hid (Below w.heap.size w w2) := below_then hb1 hb2
    have hgw : w.heap.size ≤ g := by have := hb1.size; omega
    go_wp2_with fail
    refine (HK.out w2 hmore (by omega) (by omega)).mono ?_
    rintro r w' ⟨rfl, rfl⟩
    go_wp2_with fail
    refine (dead_bytes g 0 ds _ w2 hr2 (by omega) (by omega) (over_rBytes (by omega))).mono ?_
    rintro r w3 ⟨⟨A3, c3, rfl⟩, hr3, ho3⟩
    have hbel3 : Below w.heap.size w w3 := hbel.out.trans (ho3.below (fun k hk => by simp at hk; omega) hbel.out.size)
    go_wp2_with fail
    refine (rderr_any g _ w3 hr3).mono ?_
    rintro r w' ⟨rfl, rfl⟩
    go_wp2_with fail
    clear hr2 hg2 hb2 hbel HB HK hk hb1 ho3
    go_loopw [9] (fun i wr => ∃ m : Nat, i = .int .i64 m ∧ m ≤ len ∧ m ≤ 40 ∧ RdAt wr g ⟨2, ds⟩ ∧ Below w.heap.size w wr) (fun i _ => 40 - (intOf i).toNat)
    case atStart => exact ⟨0, rfl, by omega, by omega, hr3, hbel3⟩
    case round =>
      obtain ⟨i, rfl, hi1, hi2, hr4, hbel4⟩ := hrel
      clear hr3 hbel3
      by_cases hcase : i < len ∧ i < 40
      · obtain ⟨hlt1, hlt2⟩ := hcase
        obtain ⟨b, off, o, rfl, hoi, hof, hk0, hx0, hn0, hs0⟩ := HL.out.at_ hlt1
        have hwn := int_of hof.2.2.1
        have hbl := block_lt_of_cell hn0
        have hc4 := (hbel4.cell (p := ⟨b, off + i * 4 + 2, none⟩) hbl).trans hn0
        have HN := Lib.hid hn0
        clear hk0 hx0 hs0 hn0 hoi hof
        generalize o.n = on at *
        go_wp2_with fail
        refine (dead_num g ds on wr hr4 (by omega) hwn).mono ?_
        rintro r w5 ⟨rfl, hr5, ho5⟩
        have hbel5 : Below w.heap.size w w5 := hbel4.trans (ho5.below (fun k hk => by simp at hk; omega) hbel4.size)
        have hc5 := (hbel5.cell (p := ⟨b, off + i * 4 + 2, none⟩) hbl).trans HN.out
        clear hc4 hr4 ho5
        go_wp2_with fail
        refine (dead_bytes g 2 ds on w5 hr5 (by omega) hwn (dead_rBytes ds on)).mono ?_
        rintro r w6 ⟨⟨A6, c6, rfl⟩, hr6, ho6⟩
        have hbel6 : Below w.heap.size w w6 := hbel5.trans (ho6.below (fun k hk => by simp at hk; omega) hbel5.size)
        clear hc5 hr5 ho6
        go_wp2_with fail
        refine (dead_text g ds w6 hr6 (by omega)).mono ?_
        rintro r w7 ⟨rfl, hr7, ho7⟩
        have hbel7 : Below w.heap.size w w7 := hbel6.trans (ho7.below (fun k hk => by simp at hk; omega) hbel6.size)
        clear hr6 ho7
        go_wp2_with fail
        refine (dead_left g ds w7 hr7).mono ?_
        rintro r w' ⟨rfl, rfl⟩
        go_wp2_with fail
        refine (rderr_any g _ w7 hr7).mono ?_
        rintro r w' ⟨rfl, rfl⟩
        go_wp2_with fail
        exact ⟨⟨i + 1, by go_num, by omega, by omega, hr7, hbel7⟩, by simp [intOf]; omega⟩
      · rcases (show i = len ∨ (i < len ∧ i = 40) by omega) with rfl | ⟨hlt1, rfl⟩
        all_goals
          go_wp2_with fail
          refine (dead_end g ds wr hr4).mono ?_
          rintro r w5 ⟨rfl, ho5⟩
          have hbel5 : Below w.heap.size w w5 := hbel4.trans (ho5.below (fun k hk => by simp at hk; omega) hbel4.size)
          go_wp2_with fail
          go_ret
          exact ⟨rfl, hbel5⟩
end Go.Proofs.Ytlopkmkagcofdaa
