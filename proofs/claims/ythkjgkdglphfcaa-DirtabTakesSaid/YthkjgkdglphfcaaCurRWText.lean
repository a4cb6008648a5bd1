/- Walks of the document's writer (lamellaref03): Num at every number, Text and Done. -/
import Derived.Test.YthkjgkdglphfcaaRows
import Derived.Test.YthkjgkdglphfcaaOnly
import Derived.Test.YthkjgkdglphfcaaCurMath
import Derived.Test.YthkjgkdglphfcaaCurReader
import Derived.Test.YthkjgkdglphfcaaCurReader
import Derived.Test.YthkjgkdglphfcaaCurRWNum
import Derived.WalkKit
import Derived.WalkSpells
import Derived.WalkLawsBesides
import Derived.Lib.Hide
import Derived.Deep.AppendLies
import Derived.Deep.RegionLaw
import Derived.Lib.ConvBytes
namespace Go.Proofs.Ythkjgkdglphfcaa
set_option linter.unusedVariables false
set_option linter.unusedSimpArgs false
open Go.RowKit





theorem wNum_failed {e : Nat} (he : e ≠ 0) (bs : List UInt8) (x n : Int) : Cur.wNum ⟨e, bs⟩ x n = ⟨e, bs⟩ := by
  unfold Cur.wNum
  split
  · simp [Cur.failE_pos he]
  · simp [he]
theorem wBytes_failed {e : Nat} (he : e ≠ 0) (bs ys : List UInt8) : Cur.wBytes ⟨e, bs⟩ ys = ⟨e, bs⟩ := by simp [Cur.wBytes, he]
theorem wText_failed {e : Nat} (he : e ≠ 0) (bs t : List UInt8) : Cur.wText ⟨e, bs⟩ t = ⟨e, bs⟩ := by
  unfold Cur.wText
  split
  · simp [Cur.failE_pos he]
  · rw [wNum_failed he, wBytes_failed he]
set_option maxRecDepth 100000 in
set_option maxHeartbeats 2000000 in
theorem rwnum_any (base g : Nat) (S : List Nat) (s : Cur.St) (x n : Int) (w : World) (h : RwAt w base g S s) (hn : s.bs.length + 4 ≤ 140737488355328)
    (hx : -9223372036854775808 ≤ x ∧ x ≤ 9223372036854775807) (hw : -9223372036854775808 ≤ n ∧ n ≤ 9223372036854775807) :
    Calls Try.prog 24 #[.pointer (some ⟨g, 0, none⟩), .int .i64 x, .int .i64 n] w (Rwrote w base g S (Cur.wNum s x n)) := by
  obtain ⟨e, bs⟩ := s
  by_cases he : e = 0
  · subst he
    by_cases hmis : Cur.misfit x n
    · have hq : Cur.wNum ⟨0, bs⟩ x n = ⟨1, bs⟩ := by unfold Cur.wNum; rw [if_pos hmis]; rfl
      obtain ⟨hw2, ho2⟩ := h.err 1
      obtain ⟨v, ht, hv, hb, rfl⟩ := h
      have k0 := ht.c1
      have f0 := ht.free 1
      have HQ := Lib.hid hq
      have HW2 := Lib.hid hw2
      have HO2 := Lib.hid ho2
      have hcs : n < 1 ∨ (1 ≤ n ∧ 4 < n) ∨ (1 ≤ n ∧ n ≤ 4 ∧ x < 0) ∨ (∃ X k : Nat, x = (X : Int) ∧ n = (k : Int) ∧ 1 ≤ k ∧ k ≤ 4 ∧ (((X : Int) / 2 ^ (8 * k)) != 0) = true) := by
        by_cases c1 : n < 1
        · exact .inl c1
        · by_cases c2 : 4 < n
          · exact .inr (.inl ⟨by omega, c2⟩)
          · by_cases c3 : x < 0
            · exact .inr (.inr (.inl ⟨by omega, by omega, c3⟩))
            · obtain ⟨X, rfl⟩ := Int.eq_ofNat_of_zero_le (Int.not_lt.1 c3)
              obtain ⟨k, rfl⟩ := Int.eq_ofNat_of_zero_le (show 0 ≤ n by omega)
              refine .inr (.inr (.inr ⟨X, k, rfl, rfl, by omega, by omega, ?_⟩))
              unfold Cur.misfit at hmis
              simp only [c1, c2, c3, false_or, Int.toNat_natCast] at hmis
              rw [bne_iff_ne]
              have hp : (256 : Int) ^ k = 2 ^ (8 * k) := by
                have := Cur.pow256 k
                have h2 : ((256 ^ k : Nat) : Int) = ((2 ^ (8 * k) : Nat) : Int) := by rw [this]
                simpa using h2
              rw [← hp]; exact hmis
      clear hq hw2 ho2 ht hv hmis
      rcases hcs with c1 | ⟨c1, c2⟩ | ⟨c1, c2, c3⟩ | ⟨X, k, rfl, rfl, c1, c2, c3⟩
      all_goals
        go_enter Try.func24, Try.ntmps24
        go_wp2_with fail
        refine bodyPost_ret (results_none rfl _ _ _) rfl ?_
        exact ⟨rfl, _, by rw [HQ.out]; exact HW2.out, HO2.out, fun j hj => .inl hj⟩
    · have hfit : ∃ X k : Nat, x = (X : Int) ∧ n = (k : Int) ∧ 1 ≤ k ∧ k ≤ 4 ∧ X < 256 ^ k := by
        unfold Cur.misfit at hmis
        have c3 : 0 ≤ x := by omega
        have c1 : 0 ≤ n := by omega
        obtain ⟨X, rfl⟩ := Int.eq_ofNat_of_zero_le c3
        obtain ⟨k, rfl⟩ := Int.eq_ofNat_of_zero_le c1
        refine ⟨X, k, rfl, rfl, by omega, by omega, ?_⟩
        have h0 : (X : Int) / (256 : Int) ^ k = 0 := by
          have h4 : ¬ ¬ (X : Int) / (256 : Int) ^ (k : Int).toNat = 0 := fun hh => hmis (.inr (.inr (.inr hh)))
          rw [Int.toNat_natCast] at h4
          exact Classical.not_not.1 h4
        have h1 : ((X / 256 ^ k : Nat) : Int) = 0 := by rw [← h0]; simp
        have h2 : X / 256 ^ k = 0 := by omega
        exact (Nat.div_eq_zero_iff_lt (Nat.pow_pos (by decide))).1 h2
      obtain ⟨X, k, rfl, rfl, hk1, hk4, hX⟩ := hfit
      have hq : Cur.wNum ⟨0, bs⟩ (X : Int) (k : Int) = ⟨0, bs ++ Cur.leBytes X k⟩ := by
        unfold Cur.wNum; rw [if_neg hmis]; simp
      rw [hq]
      exact rwnum_fit base g S bs X k w h hk1 hk4 hX hn
  · rw [wNum_failed he]
    have HH := Lib.hid h
    obtain ⟨v, ht, hv, hb, rfl⟩ := h
    have k0 := ht.c1
    have hd : (((e : Nat) : Int) != 0) = true := by rw [bne_iff_ne]; omega
    clear ht hv
    go_enter Try.func24, Try.ntmps24
    go_wp2_with fail
    refine bodyPost_ret (results_none rfl _ _ _) rfl ?_
    exact rwrote_same HH.out

theorem Rwrote.then_ {w w1 w2 : World} {base g : Nat} {S S1 : List Nat} {s1 s2 : Cur.St} {r : Ending} (h1 : Only S w w1) (hs : ∀ k ∈ S1, k ∈ S ∨ w.heap.size ≤ k) (h : Rwrote w1 base g S1 s2 r w2) : Rwrote w base g S s2 r w2 := by
  obtain ⟨hr, S2, hw, ho, hs2⟩ := h
  refine ⟨hr, S2, hw, h1.trans ho hs, fun k hk => ?_⟩
  rcases hs2 k hk with h | h
  · exact hs k h
  · have := h1.size; exact .inr (by omega)
set_option maxHeartbeats 800000 in
theorem rwtext_any (base g : Nat) (S : List Nat) (s : Cur.St) (t : List UInt8) (w : World) (h : RwAt w base g S s) (hn : s.bs.length + t.length + 4 ≤ 140737488355328) :
    Calls Try.prog 23 #[.pointer (some ⟨g, 0, none⟩), .string (str t)] w (Rwrote w base g S (Cur.wText s t)) := by
  have hsz := str_size t
  have hcv := run_bytes_of t
  obtain ⟨e, bs⟩ := s
  simp only at hn
  have hcs : (e = 0 ∧ 255 < t.length) ∨ (e = 0 ∧ t.length ≤ 255) ∨ e ≠ 0 := by omega
  rcases hcs with ⟨rfl, hbig⟩ | ⟨rfl, hsm⟩ | he
  · have hq : Cur.wText ⟨0, bs⟩ t = ⟨3, bs⟩ := by unfold Cur.wText; rw [if_pos hbig]; rfl
    obtain ⟨hw2, ho2⟩ := h.err 3
    obtain ⟨v, ht, hv, hb, rfl⟩ := h
    have k0 := ht.c1
    have f0 := ht.free 1
    have HN := Lib.hid (rwnum_any base g _ ⟨3, bs⟩ ((t.length : Int) % 256) 1 _ hw2 (by simp only; omega) (by omega) (by omega))
    rw [wNum_failed (by omega)] at HN
    rw [hq]
    have HO2 := Lib.hid ho2
    clear hq hw2 ho2 ht hv
    go_enter Try.func23, Try.ntmps23
    go_wp2_with fail
    refine HN.out.mono ?_
    rintro r w1 ⟨rfl, S1, hw1, ho1, hs1⟩
    go_wp2_with fail
    have hbw := bytesWorld_below w1 5 (str t)
    have hby := bytesWorld_bytes w1 5 t
    have hw2 := hw1.below hbw
    have ho2 := (HO2.out.trans ho1 (fun k hk => .inl hk)).trans (only_below S1 hbw) (fun k hk => by
      rcases hs1 k hk with h | h
      · exact .inl h
      · have := HO2.out.size; exact .inr (by omega))
    have hs2 : ∀ k ∈ S1, k ∈ (g :: v.ownBlock.toList) ∨ w.heap.size ≤ k := fun k hk => by
      rcases hs1 k hk with h | h
      · exact .inl h
      · have := HO2.out.size; exact .inr (by omega)
    generalize Lib.bytesWorld w1 5 (str t) = w2 at *
    refine (rwbytes_any base g S1 ⟨3, bs⟩ _ _ _ t w2 hw2 hby (by simp only; omega)).mono ?_
    rintro r w3 h3
    rw [wBytes_failed (by omega)] at h3
    obtain ⟨rfl, _⟩ := id h3
    have H3 := Lib.hid (Rwrote.then_ (s1 := ⟨3, bs⟩) ho2 hs2 h3)
    clear h3
    go_wp2_with fail
    go_end0
    exact H3.out
  · have hq : Cur.wText ⟨0, bs⟩ t = Cur.wBytes (Cur.wNum ⟨0, bs⟩ t.length 1) t := by unfold Cur.wText; rw [if_neg (by omega)]
    have hl := wNum_length ⟨0, bs⟩ t.length 1
    simp only at hl
    have k0 : w.cell? ⟨g, 1, none⟩ = some (.int .i64 ((0 : Nat) : Int)) := by obtain ⟨v, ht, _⟩ := h; exact ht.c1
    have HN := Lib.hid (rwnum_any base g S ⟨0, bs⟩ t.length 1 w h (by simp only; omega) (by omega) (by omega))
    have HQ := Lib.hid hq
    have hmod : ((t.length : Int) % 256) = (t.length : Int) := by omega
    clear hq h
    go_enter Try.func23, Try.ntmps23
    go_wp2_with fail
    refine HN.out.mono ?_
    rintro r w1 ⟨rfl, S1, hw1, ho1, hs1⟩
    generalize Cur.wNum ⟨0, bs⟩ t.length 1 = s1 at *
    go_wp2_with fail
    have hbw := bytesWorld_below w1 5 (str t)
    have hby := bytesWorld_bytes w1 5 t
    have hw2 := hw1.below hbw
    have ho2 : Only S w (Lib.bytesWorld w1 5 (str t)) := ho1.trans (only_below S1 hbw) (fun k hk => hs1 k hk)
    generalize Lib.bytesWorld w1 5 (str t) = w2 at *
    refine (rwbytes_any base g S1 s1 _ _ _ t w2 hw2 hby (by omega)).mono ?_
    rintro r w3 h3
    obtain ⟨rfl, _⟩ := id h3
    have H3 := Lib.hid (Rwrote.then_ (s1 := s1) ho2 hs1 h3)
    clear h3
    go_wp2_with fail
    go_end0
    rw [HQ.out]
    exact H3.out
  · rw [wText_failed he]
    have k0 : w.cell? ⟨g, 1, none⟩ = some (.int .i64 (e : Int)) := by obtain ⟨v, ht, _⟩ := h; exact ht.c1
    have hd : (((e : Nat) : Int) == 0) = false := by simp; omega
    have HN := Lib.hid (rwnum_any base g S ⟨e, bs⟩ ((t.length : Int) % 256) 1 w h (by simp only; omega) (by omega) (by omega))
    rw [wNum_failed he] at HN
    clear h
    go_enter Try.func23, Try.ntmps23
    go_wp2_with fail
    refine HN.out.mono ?_
    rintro r w1 ⟨rfl, S1, hw1, ho1, hs1⟩
    go_wp2_with fail
    have hbw := bytesWorld_below w1 5 (str t)
    have hby := bytesWorld_bytes w1 5 t
    have hw2 := hw1.below hbw
    have ho2 : Only S w (Lib.bytesWorld w1 5 (str t)) := ho1.trans (only_below S1 hbw) (fun k hk => hs1 k hk)
    generalize Lib.bytesWorld w1 5 (str t) = w2 at *
    refine (rwbytes_any base g S1 ⟨e, bs⟩ _ _ _ t w2 hw2 hby (by simp only; omega)).mono ?_
    rintro r w3 h3
    rw [wBytes_failed he] at h3
    obtain ⟨rfl, _⟩ := id h3
    have H3 := Lib.hid (Rwrote.then_ (s1 := ⟨e, bs⟩) ho2 hs1 h3)
    clear h3
    go_wp2_with fail
    go_end0
    exact H3.out

set_option maxHeartbeats 400000 in
theorem rdone_any (base g : Nat) (S : List Nat) (s : Cur.St) (w : World) (h : RwAt w base g S s) (hn : s.bs.length ≤ 140737488355328) :
    Calls Try.prog 25 #[.pointer (some ⟨g, 0, none⟩)] w (Doned w s) := by
  obtain ⟨e, bs⟩ := s
  obtain ⟨v, ht, hv, hb, rfl⟩ := h
  simp only at ht hv hn
  obtain ⟨A, c, rfl, hby, hnc, hc, _⟩ := own_form hv
  have h0 := ht.c1
  have h1 := ht.c0
  have h1a := fun o => (ht.alloc o).c0
  by_cases he : e = 0
  · subst he
    have hq : Cur.wDone ⟨0, bs⟩ = bs := rfl
    have HQ := Lib.hid hq
    have HB := Lib.hid hby
    obtain ⟨i0, hi, hz0, hz1, hz2⟩ := info_parts u8_info
    have HI := Lib.hid hi
    have hown0 := owns_empty w 5 (Nat.le_refl _)
    clear hq ht hv hby hi
    go_enter Try.func25, Try.ntmps25
    go_wp2_with (at_builtin; refine wpList_append_bytes _ rfl (.tmp 8) (.tmp 12) _ rfl w.heap.size 5 i0 _ 1 Try.underlying25 HI.out hz0 hz1 hz2 rfl (.slice (some ⟨w.heap.size, 0, none⟩) 0 0) 0 [] rfl hown0 A bs.length c bs rfl (HB.out.alloc _) (by simp only [maxLen]; omega) (by omega) (by simp) ?_; intro v2 w2 hown hgrow _)
    go_ret
    have hb2 := below_append (below_all.alloc (Nat.le_refl _) _) hgrow hown0 (Nat.le_refl _) (by simp)
    simp only [Nat.zero_add, List.nil_append] at hown
    obtain ⟨A2, c2, rfl, g1, g2, g3, g4⟩ := own_form hown
    unfold Doned
    rw [HQ.out]
    exact ⟨A2, c2, rfl, g1, g2, by simpa [maxLen] using g3, fun a ha => (g4 a ha).1, hb2⟩
  · have hne : (((e : Nat) : Int) != 0) = true := by rw [bne_iff_ne]; omega
    have hq : Cur.wDone ⟨e, bs⟩ = [] := by simp [Cur.wDone, he]
    have HQ := Lib.hid hq
    clear hq ht hv hby
    go_enter Try.func25, Try.ntmps25
    go_wp2_with fail
    go_ret
    unfold Doned
    rw [HQ.out]
    exact ⟨none, 0, rfl, Bytes.nil _ _, Nat.le_refl _, by omega, fun a ha => (by cases ha), Below.refl _ _⟩
end Go.Proofs.Ythkjgkdglphfcaa
