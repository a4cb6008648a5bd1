/- Walk of CursorWide: a number is written just if the bytes hold it. -/
import Derived.Test.YtlopkmkagcofdaaRows
import Derived.Test.YtlopkmkagcofdaaCurShown
namespace Go.Proofs.Ytlopkmkagcofdaa
set_option linter.unusedVariables false
set_option linter.unusedSimpArgs false
open Go.RowKit

theorem werr_any (base g : Nat) (S : List Nat) (s : Cur.St) (w : World) (h : WrAt w base g S s) :
    Calls Try.prog 17 #[.pointer (some ⟨g, 0, none⟩)] w fun r w' => r = .returned (.int .i64 (s.e : Nat)) ∧ w = w' := by
  obtain ⟨v, ht, hv, hb, rfl⟩ := h
  exact err_any g s.e _ v w ht
/-- A new writer, behind shown. -/
theorem misfit_iff (x n : Int) (h1 : 1 ≤ n) (h2 : n ≤ 4) (h3 : 0 ≤ x) : Cur.misfit x n ↔ ¬ x < (256 : Int) ^ n.toNat := by
  have h : n = 1 ∨ n = 2 ∨ n = 3 ∨ n = 4 := by omega
  unfold Cur.misfit
  rcases h with rfl | rfl | rfl | rfl <;> simp <;> omega
set_option maxHeartbeats 1600000 in
theorem cursorWide_walk (x n : Int) (w : World) (hx0 : (Lit.int .i64 x).wf = true) (hn0 : (Lit.int .i64 n).wf = true) :
    Calls Try.prog 4 #[.int .i64 x, .int .i64 n] w fun e w' => e = .returned (.bool true) ∧ Below w.heap.size w w' := by
  have hx := int_of hx0
  have hn := int_of hn0
  clear hx0 hn0
  by_cases hmay : 1 ≤ n ∧ n ≤ 4 ∧ 0 ≤ x ∧ x ≤ 4294967295
  · obtain ⟨m1, m2, m3, m4⟩ := hmay
    have h : n = 1 ∨ n = 2 ∨ n = 3 ∨ n = 4 := by omega
    rcases h with rfl | rfl | rfl | rfl
    · by_cases hmis : x < 256
      · have hs : Cur.wNum ⟨0, []⟩ x 1 = ⟨0, Cur.leBytes x.toNat 1⟩ := by unfold Cur.wNum; rw [if_neg (by rw [misfit_iff x 1 m1 m2 m3]; simp; omega)]; rfl
        have hl := Cur.leBytes_length x.toNat 1
        have HS := Lib.hid hs
        have HL := Lib.hid hl
        clear hs hl
        generalize Cur.leBytes x.toNat 1 = q at *
        go_enter Try.func4, Try.ntmps4
        go_wp2_with fail
        refine (shown_any w).mono ?_
        rintro r w0 ⟨rfl, hb0⟩
        go_wp2_with fail
        refine (wnum_any w0.heap.size w0.heap.size _ _ x 1 _ (new_writer w0) (by simp only [List.length_nil]; omega) hx hn).mono ?_
        rintro r w1 ⟨rfl, S1, hw1, ho1, hs1⟩
        rw [HS.out] at hw1
        have hb1 : Hid (Below w0.heap.size w0 w1) := (below_all.alloc (Nat.le_refl _) _ : Below w0.heap.size w0 _).trans (ho1.below (fun k hk => by simp at hk; omega) (by simp))
        go_wp2_with fail
        refine (werr_any _ _ _ _ w1 hw1).mono ?_
        rintro r w2 ⟨rfl, rfl⟩
        go_wp2_with fail
        refine (show Calls _ _ _ _ (fun r w' => r = .returned (.int .i64 1) ∧ Below w1.heap.size w1 w') from (len_any w0.heap.size w0.heap.size S1 _ w1 hw1 (by simp only [HL.out]; omega)).mono fun r w' h => by obtain ⟨h1, h2⟩ := h; rw [show Cur.wDone ⟨0, q⟩ = q from rfl, HL.out] at h1; exact ⟨h1, h2⟩).mono ?_
        rintro r w3 ⟨rfl, hbel3⟩
        go_wp2_with fail
        go_ret
        exact ⟨rfl, below_then hb0 (hb1.out.trans (hbel3.mono hb1.out.size))⟩
      · have hs : Cur.wNum ⟨0, []⟩ x 1 = ⟨1, []⟩ := by unfold Cur.wNum; rw [if_pos (by rw [misfit_iff x 1 m1 m2 m3]; simp; omega)]; rfl
        have HS := Lib.hid hs
        clear hs
        go_enter Try.func4, Try.ntmps4
        go_wp2_with fail
        refine (shown_any w).mono ?_
        rintro r w0 ⟨rfl, hb0⟩
        go_wp2_with fail
        refine (wnum_any w0.heap.size w0.heap.size _ _ x 1 _ (new_writer w0) (by simp only [List.length_nil]; omega) hx hn).mono ?_
        rintro r w1 ⟨rfl, S1, hw1, ho1, hs1⟩
        rw [HS.out] at hw1
        have hb1 : Hid (Below w0.heap.size w0 w1) := (below_all.alloc (Nat.le_refl _) _ : Below w0.heap.size w0 _).trans (ho1.below (fun k hk => by simp at hk; omega) (by simp))
        go_wp2_with fail
        refine (werr_any _ _ _ _ w1 hw1).mono ?_
        rintro r w2 ⟨rfl, rfl⟩
        go_wp2_with fail
        refine (show Calls _ _ _ _ (Fresh w1 0 []) from done_any w0.heap.size w0.heap.size S1 _ w1 hw1 (by simp)).mono ?_
        rintro r w3 ⟨A3, c3, rfl, hb3, hc3, hc4, hf3, hbel3⟩
        go_wp2_with fail
        go_ret
        exact ⟨rfl, below_then hb0 (hb1.out.trans (hbel3.mono hb1.out.size))⟩
        all_goals (exfalso; simp at *; omega)
    · by_cases hmis : x < 65536
      · have hs : Cur.wNum ⟨0, []⟩ x 2 = ⟨0, Cur.leBytes x.toNat 2⟩ := by unfold Cur.wNum; rw [if_neg (by rw [misfit_iff x 2 m1 m2 m3]; simp; omega)]; rfl
        have hl := Cur.leBytes_length x.toNat 2
        have HS := Lib.hid hs
        have HL := Lib.hid hl
        clear hs hl
        generalize Cur.leBytes x.toNat 2 = q at *
        go_enter Try.func4, Try.ntmps4
        go_wp2_with fail
        refine (shown_any w).mono ?_
        rintro r w0 ⟨rfl, hb0⟩
        go_wp2_with fail
        refine (wnum_any w0.heap.size w0.heap.size _ _ x 2 _ (new_writer w0) (by simp only [List.length_nil]; omega) hx hn).mono ?_
        rintro r w1 ⟨rfl, S1, hw1, ho1, hs1⟩
        rw [HS.out] at hw1
        have hb1 : Hid (Below w0.heap.size w0 w1) := (below_all.alloc (Nat.le_refl _) _ : Below w0.heap.size w0 _).trans (ho1.below (fun k hk => by simp at hk; omega) (by simp))
        go_wp2_with fail
        refine (werr_any _ _ _ _ w1 hw1).mono ?_
        rintro r w2 ⟨rfl, rfl⟩
        go_wp2_with fail
        refine (show Calls _ _ _ _ (fun r w' => r = .returned (.int .i64 2) ∧ Below w1.heap.size w1 w') from (len_any w0.heap.size w0.heap.size S1 _ w1 hw1 (by simp only [HL.out]; omega)).mono fun r w' h => by obtain ⟨h1, h2⟩ := h; rw [show Cur.wDone ⟨0, q⟩ = q from rfl, HL.out] at h1; exact ⟨h1, h2⟩).mono ?_
        rintro r w3 ⟨rfl, hbel3⟩
        go_wp2_with fail
        go_ret
        exact ⟨rfl, below_then hb0 (hb1.out.trans (hbel3.mono hb1.out.size))⟩
      · have hs : Cur.wNum ⟨0, []⟩ x 2 = ⟨1, []⟩ := by unfold Cur.wNum; rw [if_pos (by rw [misfit_iff x 2 m1 m2 m3]; simp; omega)]; rfl
        have HS := Lib.hid hs
        clear hs
        go_enter Try.func4, Try.ntmps4
        go_wp2_with fail
        refine (shown_any w).mono ?_
        rintro r w0 ⟨rfl, hb0⟩
        go_wp2_with fail
        refine (wnum_any w0.heap.size w0.heap.size _ _ x 2 _ (new_writer w0) (by simp only [List.length_nil]; omega) hx hn).mono ?_
        rintro r w1 ⟨rfl, S1, hw1, ho1, hs1⟩
        rw [HS.out] at hw1
        have hb1 : Hid (Below w0.heap.size w0 w1) := (below_all.alloc (Nat.le_refl _) _ : Below w0.heap.size w0 _).trans (ho1.below (fun k hk => by simp at hk; omega) (by simp))
        go_wp2_with fail
        refine (werr_any _ _ _ _ w1 hw1).mono ?_
        rintro r w2 ⟨rfl, rfl⟩
        go_wp2_with fail
        refine (show Calls _ _ _ _ (Fresh w1 0 []) from done_any w0.heap.size w0.heap.size S1 _ w1 hw1 (by simp)).mono ?_
        rintro r w3 ⟨A3, c3, rfl, hb3, hc3, hc4, hf3, hbel3⟩
        go_wp2_with fail
        go_ret
        exact ⟨rfl, below_then hb0 (hb1.out.trans (hbel3.mono hb1.out.size))⟩
        all_goals (exfalso; simp at *; omega)
    · by_cases hmis : x < 16777216
      · have hs : Cur.wNum ⟨0, []⟩ x 3 = ⟨0, Cur.leBytes x.toNat 3⟩ := by unfold Cur.wNum; rw [if_neg (by rw [misfit_iff x 3 m1 m2 m3]; simp; omega)]; rfl
        have hl := Cur.leBytes_length x.toNat 3
        have HS := Lib.hid hs
        have HL := Lib.hid hl
        clear hs hl
        generalize Cur.leBytes x.toNat 3 = q at *
        go_enter Try.func4, Try.ntmps4
        go_wp2_with fail
        refine (shown_any w).mono ?_
        rintro r w0 ⟨rfl, hb0⟩
        go_wp2_with fail
        refine (wnum_any w0.heap.size w0.heap.size _ _ x 3 _ (new_writer w0) (by simp only [List.length_nil]; omega) hx hn).mono ?_
        rintro r w1 ⟨rfl, S1, hw1, ho1, hs1⟩
        rw [HS.out] at hw1
        have hb1 : Hid (Below w0.heap.size w0 w1) := (below_all.alloc (Nat.le_refl _) _ : Below w0.heap.size w0 _).trans (ho1.below (fun k hk => by simp at hk; omega) (by simp))
        go_wp2_with fail
        refine (werr_any _ _ _ _ w1 hw1).mono ?_
        rintro r w2 ⟨rfl, rfl⟩
        go_wp2_with fail
        refine (show Calls _ _ _ _ (fun r w' => r = .returned (.int .i64 3) ∧ Below w1.heap.size w1 w') from (len_any w0.heap.size w0.heap.size S1 _ w1 hw1 (by simp only [HL.out]; omega)).mono fun r w' h => by obtain ⟨h1, h2⟩ := h; rw [show Cur.wDone ⟨0, q⟩ = q from rfl, HL.out] at h1; exact ⟨h1, h2⟩).mono ?_
        rintro r w3 ⟨rfl, hbel3⟩
        go_wp2_with fail
        go_ret
        exact ⟨rfl, below_then hb0 (hb1.out.trans (hbel3.mono hb1.out.size))⟩
      · have hs : Cur.wNum ⟨0, []⟩ x 3 = ⟨1, []⟩ := by unfold Cur.wNum; rw [if_pos (by rw [misfit_iff x 3 m1 m2 m3]; simp; omega)]; rfl
        have HS := Lib.hid hs
        clear hs
        go_enter Try.func4, Try.ntmps4
        go_wp2_with fail
        refine (shown_any w).mono ?_
        rintro r w0 ⟨rfl, hb0⟩
        go_wp2_with fail
        refine (wnum_any w0.heap.size w0.heap.size _ _ x 3 _ (new_writer w0) (by simp only [List.length_nil]; omega) hx hn).mono ?_
        rintro r w1 ⟨rfl, S1, hw1, ho1, hs1⟩
        rw [HS.out] at hw1
        have hb1 : Hid (Below w0.heap.size w0 w1) := (below_all.alloc (Nat.le_refl _) _ : Below w0.heap.size w0 _).trans (ho1.below (fun k hk => by simp at hk; omega) (by simp))
        go_wp2_with fail
        refine (werr_any _ _ _ _ w1 hw1).mono ?_
        rintro r w2 ⟨rfl, rfl⟩
        go_wp2_with fail
        refine (show Calls _ _ _ _ (Fresh w1 0 []) from done_any w0.heap.size w0.heap.size S1 _ w1 hw1 (by simp)).mono ?_
        rintro r w3 ⟨A3, c3, rfl, hb3, hc3, hc4, hf3, hbel3⟩
        go_wp2_with fail
        go_ret
        exact ⟨rfl, below_then hb0 (hb1.out.trans (hbel3.mono hb1.out.size))⟩
        all_goals (exfalso; simp at *; omega)
    · by_cases hmis : x < 4294967296
      · have hs : Cur.wNum ⟨0, []⟩ x 4 = ⟨0, Cur.leBytes x.toNat 4⟩ := by unfold Cur.wNum; rw [if_neg (by rw [misfit_iff x 4 m1 m2 m3]; simp; omega)]; rfl
        have hl := Cur.leBytes_length x.toNat 4
        have HS := Lib.hid hs
        have HL := Lib.hid hl
        clear hs hl
        generalize Cur.leBytes x.toNat 4 = q at *
        go_enter Try.func4, Try.ntmps4
        go_wp2_with fail
        refine (shown_any w).mono ?_
        rintro r w0 ⟨rfl, hb0⟩
        go_wp2_with fail
        refine (wnum_any w0.heap.size w0.heap.size _ _ x 4 _ (new_writer w0) (by simp only [List.length_nil]; omega) hx hn).mono ?_
        rintro r w1 ⟨rfl, S1, hw1, ho1, hs1⟩
        rw [HS.out] at hw1
        have hb1 : Hid (Below w0.heap.size w0 w1) := (below_all.alloc (Nat.le_refl _) _ : Below w0.heap.size w0 _).trans (ho1.below (fun k hk => by simp at hk; omega) (by simp))
        go_wp2_with fail
        refine (werr_any _ _ _ _ w1 hw1).mono ?_
        rintro r w2 ⟨rfl, rfl⟩
        go_wp2_with fail
        refine (show Calls _ _ _ _ (fun r w' => r = .returned (.int .i64 4) ∧ Below w1.heap.size w1 w') from (len_any w0.heap.size w0.heap.size S1 _ w1 hw1 (by simp only [HL.out]; omega)).mono fun r w' h => by obtain ⟨h1, h2⟩ := h; rw [show Cur.wDone ⟨0, q⟩ = q from rfl, HL.out] at h1; exact ⟨h1, h2⟩).mono ?_
        rintro r w3 ⟨rfl, hbel3⟩
        go_wp2_with fail
        go_ret
        exact ⟨rfl, below_then hb0 (hb1.out.trans (hbel3.mono hb1.out.size))⟩
      · omega
  · have hs : Cur.wNum ⟨0, []⟩ x n = ⟨1, []⟩ := by
      have : Cur.misfit x n := by
        by_cases h1 : 1 ≤ n ∧ n ≤ 4 ∧ 0 ≤ x
        · rw [misfit_iff x n h1.1 h1.2.1 h1.2.2]
          have h : n = 1 ∨ n = 2 ∨ n = 3 ∨ n = 4 := by omega
          rcases h with rfl | rfl | rfl | rfl <;> simp <;> omega
        · unfold Cur.misfit; omega
      unfold Cur.wNum; rw [if_pos this]; rfl
    have HS := Lib.hid hs
    clear hs
    obtain ⟨q, hd⟩ : ∃ q, decide (x ≤ 4294967295) = q := ⟨_, rfl⟩
    cases q
    all_goals
      go_enter Try.func4, Try.ntmps4
      go_wp2_with fail
      refine (shown_any w).mono ?_
      rintro r w0 ⟨rfl, hb0⟩
      go_wp2_with fail
      refine (wnum_any w0.heap.size w0.heap.size _ _ x n _ (new_writer w0) (by simp only [List.length_nil]; omega) hx hn).mono ?_
      rintro r w1 ⟨rfl, S1, hw1, ho1, hs1⟩
      rw [HS.out] at hw1
      have hb1 : Hid (Below w0.heap.size w0 w1) := (below_all.alloc (Nat.le_refl _) _ : Below w0.heap.size w0 _).trans (ho1.below (fun k hk => by simp at hk; omega) (by simp))
      go_wp2_with fail
      all_goals first
        | (exfalso; simp_all; done)
        | (exfalso; simp at *; omega)
        | (refine (werr_any _ _ _ _ w1 hw1).mono ?_
           rintro r w2 ⟨rfl, rfl⟩
           go_wp2_with fail
           refine (show Calls _ _ _ _ (Fresh w1 0 []) from done_any w0.heap.size w0.heap.size S1 _ w1 hw1 (by simp)).mono ?_
           rintro r w3 ⟨A3, c3, rfl, hb3, hc3, hc4, hf3, hbel3⟩
           go_wp2_with fail
           go_ret
           exact ⟨rfl, below_then hb0 (hb1.out.trans (hbel3.mono hb1.out.size))⟩)
end Go.Proofs.Ytlopkmkagcofdaa
