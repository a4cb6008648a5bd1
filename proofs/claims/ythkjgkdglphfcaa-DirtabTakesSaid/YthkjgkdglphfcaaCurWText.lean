/- Walks of the program's writer: Num at every number, Text, Done and Len. -/
import Derived.Test.YthkjgkdglphfcaaRows
import Derived.Test.YthkjgkdglphfcaaOnly
import Derived.Test.YthkjgkdglphfcaaCurMath
import Derived.Test.YthkjgkdglphfcaaCurReader
import Derived.Test.YthkjgkdglphfcaaCurReader
import Derived.Test.YthkjgkdglphfcaaCurWriter
import Derived.Test.YthkjgkdglphfcaaCurWNum
import Derived.WalkKit
import Derived.WalkSpells
import Derived.WalkLawsBesides
import Derived.Lib.Hide
import Derived.Deep.AppendLies
import Derived.Deep.RegionLaw
import Derived.Lib.ConvBytes
namespace Go.Proofs.Ythkjgkdglphfcaa
set_option linter.unusedVariables false
set_option linter.unusedSimpArgs false
open Go.RowKit





set_option maxRecDepth 100000 in
set_option maxHeartbeats 2000000 in
theorem wnum_any (base g : Nat) (S : List Nat) (s : Cur.St) (x n : Int) (w : World) (h : WrAt w base g S s) (hn : s.bs.length + 4 ≤ 140737488355328)
    (hx : -9223372036854775808 ≤ x ∧ x ≤ 9223372036854775807) (hw : -9223372036854775808 ≤ n ∧ n ≤ 9223372036854775807) :
    Calls Try.prog 19 #[.pointer (some ⟨g, 0, none⟩), .int .i64 x, .int .i64 n] w (Wrote w base g S (Cur.wNum s x n)) := by
  obtain ⟨e, bs⟩ := s
  by_cases hmis : Cur.misfit x n
  · have hq : Cur.wNum ⟨e, bs⟩ x n = ⟨Cur.failE e 1, bs⟩ := by unfold Cur.wNum; rw [if_pos hmis]
    have hz : Cur.failE e 1 ≠ 0 := failE_ne (by omega)
    obtain ⟨hw2, ho2⟩ := h.err (Cur.failE e 1)
    obtain ⟨v, ht, hv, hb, rfl⟩ := h
    have k0 := (ht.set0 (.int .i64 (Cur.failE e 1 : Nat))).c0
    have HF := Lib.hid (fail_any g e 1 45 v w ht)
    have hd : (((Cur.failE e 1 : Nat) : Int) == 0) = false := by simp; omega
    have HQ := Lib.hid hq
    have HW2 := Lib.hid hw2
    have HO2 := Lib.hid ho2
    simp only at hw2 HW2
    have hcs : n < 1 ∨ (1 ≤ n ∧ 4 < n) ∨ (1 ≤ n ∧ n ≤ 4 ∧ x < 0) ∨ (∃ X k : Nat, x = (X : Int) ∧ n = (k : Int) ∧ 1 ≤ k ∧ k ≤ 4 ∧ (((X : Int) / 2 ^ (8 * k)) != 0) = true) := by
      by_cases c1 : n < 1
      · exact .inl c1
      · by_cases c2 : 4 < n
        · exact .inr (.inl ⟨by omega, c2⟩)
        · by_cases c3 : x < 0
          · exact .inr (.inr (.inl ⟨by omega, by omega, c3⟩))
          · obtain ⟨X, rfl⟩ := Int.eq_ofNat_of_zero_le (Int.not_lt.1 c3)
            obtain ⟨k, rfl⟩ := Int.eq_ofNat_of_zero_le (show 0 ≤ n by omega)
            refine .inr (.inr (.inr ⟨X, k, rfl, rfl, by omega, by omega, ?_⟩))
            unfold Cur.misfit at hmis
            simp only [c1, c2, c3, false_or, Int.toNat_natCast] at hmis
            rw [bne_iff_ne]
            have hp : (256 : Int) ^ k = 2 ^ (8 * k) := by
              have := Cur.pow256 k
              have h2 : ((256 ^ k : Nat) : Int) = ((2 ^ (8 * k) : Nat) : Int) := by rw [this]
              simpa using h2
            rw [← hp]; exact hmis
    clear hq hw2 ho2 ht hv hmis
    generalize Cur.failE e 1 = e1 at *
    generalize w.setCell ⟨g, 0, none⟩ (.int .i64 (e1 : Nat)) = w1 at *
    rcases hcs with c1 | ⟨c1, c2⟩ | ⟨c1, c2, c3⟩ | ⟨X, k, rfl, rfl, c1, c2, c3⟩
    all_goals
      go_enter Try.func19, Try.ntmps19
      go_wp2_with fail
      refine HF.out.mono ?_
      rintro r w' ⟨rfl, rfl⟩
      go_wp2_with fail
      go_loop [6] (fun i => i = .int .i64 0) (fun _ => 0)
      case atStart => rfl
      case round =>
        subst hrel
        go_wp2_with fail
        go_end0
        exact ⟨rfl, _, by rw [HQ.out]; exact HW2.out, HO2.out, fun j hj => .inl hj⟩
  · have hfit : ∃ X k : Nat, x = (X : Int) ∧ n = (k : Int) ∧ 1 ≤ k ∧ k ≤ 4 ∧ X < 256 ^ k := by
      unfold Cur.misfit at hmis
      have c3 : 0 ≤ x := by omega
      have c1 : 0 ≤ n := by omega
      obtain ⟨X, rfl⟩ := Int.eq_ofNat_of_zero_le c3
      obtain ⟨k, rfl⟩ := Int.eq_ofNat_of_zero_le c1
      refine ⟨X, k, rfl, rfl, by omega, by omega, ?_⟩
      have h0 : (X : Int) / (256 : Int) ^ k = 0 := by
        have h4 : ¬ ¬ (X : Int) / (256 : Int) ^ (k : Int).toNat = 0 := fun hh => hmis (.inr (.inr (.inr hh)))
        rw [Int.toNat_natCast] at h4
        exact Classical.not_not.1 h4
      have h1 : ((X / 256 ^ k : Nat) : Int) = 0 := by rw [← h0]; simp
      have h2 : X / 256 ^ k = 0 := by omega
      exact (Nat.div_eq_zero_iff_lt (Nat.pow_pos (by decide))).1 h2
    obtain ⟨X, k, rfl, rfl, hk1, hk4, hX⟩ := hfit
    by_cases he : e = 0
    · subst he
      have hq : Cur.wNum ⟨0, bs⟩ (X : Int) (k : Int) = ⟨0, bs ++ Cur.leBytes X k⟩ := by
        unfold Cur.wNum; rw [if_neg hmis]; simp
      rw [hq]
      exact wnum_fit base g S bs X k w h hk1 hk4 hX hn
    · have hq : Cur.wNum ⟨e, bs⟩ (X : Int) (k : Int) = ⟨e, bs⟩ := by
        unfold Cur.wNum; rw [if_neg hmis, if_neg he]
      have hqq : (((X : Int) / 2 ^ (8 * k)) != 0) = false := by
        rw [bne_eq_false_iff_eq]
        rw [Cur.pow256] at hX
        have : ((X : Int) / 2 ^ (8 * k)) = ((X / 2 ^ (8 * k) : Nat) : Int) := by simp
        rw [this, Nat.div_eq_of_lt hX]; rfl
      have HH := Lib.hid h
      obtain ⟨v, ht, hv, hb, rfl⟩ := h
      have k0 := ht.c0
      have hd : (((e : Nat) : Int) == 0) = false := by simp; omega
      have HQ := Lib.hid hq
      clear hq ht hv hmis hX
      go_enter Try.func19, Try.ntmps19
      go_wp2_with fail
      go_loop [6] (fun i => i = .int .i64 0) (fun _ => 0)
      case atStart => rfl
      case round =>
        subst hrel
        go_wp2_with fail
        go_end0
        rw [HQ.out]
        exact wrote_same HH.out

theorem run_bytes_of (t : List UInt8) (W : World) : (convert 9 25 (.string (str t))).run Try.prog W = .ok (.slice (some ⟨W.heap.size, 0, none⟩) t.length (grownCap W t.length 0 5)) (Lib.bytesWorld W 5 (str t)) := by
  have := Lib.run_convert_string_bytes (P := Try.prog) W 9 25 5 (str t) Try.underlying9 Try.underlying25 Try.underlying5
  rw [this, str_size]
theorem Wrote.then_ {w w1 w2 : World} {base g : Nat} {S S1 : List Nat} {s1 s2 : Cur.St} {r : Ending} (h1 : Only S w w1) (hs : ∀ k ∈ S1, k ∈ S ∨ w.heap.size ≤ k) (h : Wrote w1 base g S1 s2 r w2) : Wrote w base g S s2 r w2 := by
  obtain ⟨hr, S2, hw, ho, hs2⟩ := h
  refine ⟨hr, S2, hw, h1.trans ho hs, fun k hk => ?_⟩
  rcases hs2 k hk with h | h
  · exact hs k h
  · have := h1.size; exact .inr (by omega)
theorem wNum_length (s : Cur.St) (x n : Int) : (Cur.wNum s x n).bs.length ≤ s.bs.length + 4 := by
  unfold Cur.wNum
  split
  · simp
  · rename_i hm
    split
    · simp only [List.length_append, Cur.leBytes_length]
      unfold Cur.misfit at hm
      omega
    · simp
set_option maxHeartbeats 400000 in
theorem wtext_any (base g : Nat) (S : List Nat) (s : Cur.St) (t : List UInt8) (w : World) (h : WrAt w base g S s) (hn : s.bs.length + t.length + 4 ≤ 140737488355328) :
    Calls Try.prog 18 #[.pointer (some ⟨g, 0, none⟩), .string (str t)] w (Wrote w base g S (Cur.wText s t)) := by
  have hsz := str_size t
  by_cases hbig : 255 < t.length
  · have hq : Cur.wText s t = ⟨Cur.failE s.e 3, s.bs⟩ := by unfold Cur.wText; rw [if_pos hbig]
    obtain ⟨hw2, ho2⟩ := h.err (Cur.failE s.e 3)
    obtain ⟨v, ht, hv, hb, rfl⟩ := h
    have HF := Lib.hid (fail_any g s.e 3 45 v w ht)
    have HQ := Lib.hid hq
    have HW2 := Lib.hid hw2
    have HO2 := Lib.hid ho2
    clear hq hw2 ho2 ht hv
    go_enter Try.func18, Try.ntmps18
    go_wp2_with fail
    refine HF.out.mono ?_
    rintro r w' ⟨rfl, rfl⟩
    go_wp2_with fail
    refine bodyPost_ret (results_none rfl _ _ _) rfl ?_
    rw [HQ.out]
    exact ⟨rfl, _, HW2.out, HO2.out, fun k hk => .inl hk⟩
  · have hq : Cur.wText s t = Cur.wBytes (Cur.wNum s t.length 1) t := by unfold Cur.wText; rw [if_neg hbig]
    have hl := wNum_length s t.length 1
    have HN := Lib.hid (wnum_any base g S s t.length 1 w h (by omega) (by omega) (by omega))
    have hcv := run_bytes_of t
    have HQ := Lib.hid hq
    clear hq h
    go_enter Try.func18, Try.ntmps18
    go_wp2_with fail
    refine HN.out.mono ?_
    rintro r w1 ⟨rfl, S1, hw1, ho1, hs1⟩
    generalize Cur.wNum s t.length 1 = s1 at *
    go_wp2_with fail
    have hbw := bytesWorld_below w1 5 (str t)
    have hby := bytesWorld_bytes w1 5 t
    have hw2 := hw1.below hbw
    have ho2 : Only S w (Lib.bytesWorld w1 5 (str t)) := ho1.trans (only_below S1 hbw) (fun k hk => hs1 k hk)
    generalize Lib.bytesWorld w1 5 (str t) = w2 at *
    refine (wbytes_any base g S1 s1 _ _ _ t w2 hw2 hby (by omega)).mono ?_
    rintro r w3 h3
    obtain ⟨rfl, _⟩ := id h3
    have H3 := Lib.hid (Wrote.then_ (s1 := s1) ho2 hs1 h3)
    clear h3
    go_wp2_with fail
    go_end0
    rw [HQ.out]
    exact H3.out

/-- What Done gives: the bytes, in new memory (nil behind an error). -/
def Doned (w : World) (s : Cur.St) (r : Ending) (w' : World) : Prop := Fresh w (Cur.wDone s).length (Cur.wDone s) r w'
theorem done_any (base g : Nat) (S : List Nat) (s : Cur.St) (w : World) (h : WrAt w base g S s) (hn : s.bs.length ≤ 140737488355328) :
    Calls Try.prog 20 #[.pointer (some ⟨g, 0, none⟩)] w (Doned w s) := by
  obtain ⟨e, bs⟩ := s
  obtain ⟨v, ht, hv, hb, rfl⟩ := h
  simp only at ht hv hn
  obtain ⟨A, c, rfl, hby, hnc, hc, _⟩ := own_form hv
  have h0 := ht.c0
  have h1 := ht.c1
  by_cases he : e = 0
  · subst he
    have hq : Cur.wDone ⟨0, bs⟩ = bs := rfl
    have HC := Lib.hid (clone_any A bs.length c bs w hby hn)
    have HQ := Lib.hid hq
    clear hq ht hv hby
    go_enter Try.func20, Try.ntmps20
    go_wp2_with fail
    refine HC.out.mono ?_
    rintro r w1 ⟨A1, c1, rfl, hb1, hc1, hc2, hf, hbel⟩
    go_wp2_with fail
    go_ret
    unfold Doned
    rw [HQ.out]
    exact ⟨A1, c1, rfl, hb1, hc1, hc2, hf, hbel⟩
  · have hne : (((e : Nat) : Int) != 0) = true := by rw [bne_iff_ne]; omega
    have hq : Cur.wDone ⟨e, bs⟩ = [] := by simp [Cur.wDone, he]
    have HQ := Lib.hid hq
    clear hq ht hv hby
    go_enter Try.func20, Try.ntmps20
    go_wp2_with fail
    go_ret
    unfold Doned
    rw [HQ.out]
    exact ⟨none, 0, rfl, Bytes.nil _ _, Nat.le_refl _, by omega, fun a ha => (by cases ha), Below.refl _ _⟩
def Lenned (w : World) (s : Cur.St) (r : Ending) (w' : World) : Prop := r = .returned (.int .i64 ((Cur.wDone s).length : Nat)) ∧ Below w.heap.size w w'
end Go.Proofs.Ythkjgkdglphfcaa
