/- Walk: DirtabTakes: any bytes are read as a list, or refused, as the document says. -/
import Derived.Test.YthkjgkdglphfcaaRows
import Derived.Test.YthkjgkdglphfcaaDirRefTake
namespace Go.Proofs.Ythkjgkdglphfcaa
set_option linter.unusedVariables false
set_option linter.unusedSimpArgs false
open Go.RowKit

theorem EntsIn.none (w : World) : EntsIn w none 0 [] := ⟨rfl, fun h => absurd h (by omega)⟩
/-- The program's answer and the document's are one. -/
theorem takes_one {w1 w2 w3 : World} {bs : List UInt8} {r r' : Ending} (h : TakeRes w1 bs r w2) (h' : TakeRes w2 bs r' w3) :
    ∃ l A c A' c' e, r = .returned (.tuple #[.slice A l.length c, .int .i64 e]) ∧ r' = .returned (.tuple #[.slice A' l.length c', .int .i64 e]) ∧ EntsIn w3 A l.length l ∧ EntsIn w3 A' l.length l ∧ Below w1.heap.size w1 w3 := by
  obtain ⟨h1, hb⟩ := h
  obtain ⟨h1', hb'⟩ := h'
  have hb2 := below_then hb hb'
  rcases h1 with ⟨l, A, c, ht, rfl, he, _⟩ | ⟨hn, rfl⟩
  · rcases h1' with ⟨l', A', c', ht', rfl, he', _⟩ | ⟨hn, _⟩
    · obtain rfl := take_one ht ht'
      exact ⟨l, A, c, A', c', 0, rfl, rfl, he.below hb', he', hb2⟩
    · exact absurd ⟨l, ht⟩ hn
  · rcases h1' with ⟨l', A', c', ht', _⟩ | ⟨_, rfl⟩
    · exact absurd ⟨l', ht'⟩ hn
    · exact ⟨[], none, 0, none, 0, 2, rfl, rfl, EntsIn.none _, EntsIn.none _, hb2⟩
theorem ents_short {w : World} {bs : List UInt8} {r : Ending} {w' : World} (h : TakeRes w bs r w') {l : List Ent} {A : Option Addr} {c : Nat} {e : Int} (hr : r = .returned (.tuple #[.slice A l.length c, .int .i64 e])) : l.length ≤ bs.length := by
  subst hr
  rcases h.1 with ⟨l', A', c', ht, he, _⟩ | ⟨_, he⟩
  · simp at he
    have := encL_ge l'
    rw [ht.2] at this
    omega
  · rw [show l = [] from by simp_all]
    simp
set_option maxRecDepth 100000 in
set_option maxHeartbeats 4000000 in
theorem dirtabTakes_walk (A : Option Addr) (n c : Nat) (b : List UInt8) (w : World) (h : Bytes w A n b ∧ n ≤ c ∧ c ≤ maxLen) :
    Calls Try.prog 4 #[.slice A n c] w fun r w' => r = .returned (.bool true) ∧ Below w.heap.size w w' := by
  obtain ⟨hb, hnc, hcm⟩ := h
  have hcm' : c ≤ 9223372036854775807 := hcm
  have HB := Lib.hid hb
  obtain ⟨i1, hi1, hy0, hy1, hy2⟩ := info_parts u8_info
  have HI1 := Lib.hid hi1
  clear hb hi1 hcm
  by_cases h3 : 3000 < n
  · have h3I : (3000 : Int) < (n : Int) := by omega
    have h3c : (3000 : Int) ≤ (c : Int) := by omega
    have h3N : 3000 ≤ c := by omega
    go_enter Try.func4, Try.ntmps4
    go_wp2_with fail
    refine (shown_any w).mono ?_
    rintro r w1 ⟨rfl, hb1⟩
    have HB1 := Lib.hid hb1
    have HY1 := Lib.hid ((HB.out.take (show 3000 ≤ n by omega)).below hb1)
    clear hb1 HB
    generalize hbs : b.take 3000 = bs at *
    clear hbs
    have HO0 := Lib.hid (owns_empty w1 5 (Nat.le_refl _))
    have HYa : Hid (Bytes (w1.alloc (.cells #[] 5)) A 3000 bs) := HY1.out.alloc _
    have HBL := Lib.hid HY1.out.1
    go_wp2_with (at_builtin; refine wpList_append_bytes _ rfl (.tmp 16) (.tmp 17) _ rfl w1.heap.size 5 i1 _ 1 Try.underlying25 HI1.out hy0 hy1 hy2 rfl (.slice (some ⟨w1.heap.size, 0, none⟩) 0 0) 0 [] rfl HO0.out A 3000 c bs rfl HYa.out (by simp only [maxLen]; omega) (by omega) (by simp) ?_; intro v2 w2 hown hgrow _; have HW2 := Lib.hid (below_append (below_all.alloc (Nat.le_refl _) _ : Below w1.heap.size w1 _) hgrow HO0.out (Nat.le_refl _) (by simp)); simp only [Nat.zero_add, List.nil_append] at hown; obtain ⟨A2, c2, rfl, hby2, hmc2, hc2, _⟩ := own_form hown; have HY2 := Lib.hid hby2; clear hown hgrow hby2)
    have HB2 := Lib.hid (below_then HB1.out HW2.out)
    refine (take_any A2 3000 c2 bs w2 HY2.out (by omega)).mono ?_
    rintro r w3 hr3
    have HR3 := Lib.hid hr3
    have HY3 := Lib.hid ((HY1.out.below HW2.out).below hr3.2)
    have HB3 := Lib.hid (below_then HB2.out hr3.2)
    have hrt := fun (r' : Ending) (w4 : World) (h : TakeRes w3 bs r' w4) => takes_one hr3 h
    have HRT := Lib.hid hrt
    obtain ⟨e3, l3, A3, c3, hr⟩ : ∃ (e3 : Int) (l3 : List Ent) (A3 : Option Addr) (c3 : Nat), r = .returned (.tuple #[.slice A3 l3.length c3, .int .i64 e3]) := by
      rcases hr3.1 with ⟨l, A', c', _, h, _⟩ | ⟨_, h⟩
      · exact ⟨_, l, A', c', h⟩
      · exact ⟨2, [], none, 0, h⟩
    subst hr
    have hsh := ents_short hr3 rfl
    clear hr3 hrt HY2 HW2 HO0 HYa HR3 HB2
    go_wp2_with fail
    refine (rtake_any A 3000 c bs w3 HY3.out (by omega)).mono ?_
    rintro r' w4 hr4
    obtain ⟨l, A4, c4, A5, c5, e, h1, rfl, he4, he5, hb4⟩ := HRT.out r' w4 hr4
    have hb5 := hr4.2
    have HE4 := Lib.hid he4
    have HE5 := Lib.hid he5
    have HB4 := Lib.hid (below_then HB3.out hb5)
    injection h1 with h1
    injection h1 with h1
    simp only [Array.mk.injEq, List.cons.injEq, Value.slice.injEq, Value.int.injEq, and_true, true_and] at h1
    obtain ⟨⟨rfl, hll, rfl⟩, rfl⟩ := h1
    rw [← hll] at HE4 HE5 ⊢
    have hsh2 : l3.length ≤ 3000 := by have := HBL.out; omega
    clear hll hr4 he4 he5 hb4 hb5 HRT HY3 HB3 HBL hsh
    generalize l3.length = n3 at *
    go_wp2_with fail
    refine (same_any A3 A5 n3 c3 n3 c5 l l w4 HE4.out HE5.out (by omega) (by omega)).mono ?_
    rintro r w5 ⟨rfl, hb5⟩
    have HB5 := Lib.hid (below_then HB4.out hb5)
    have hdd : decide (l = l) = true := decide_eq_true rfl
    rw [hdd]
    clear hb5 hdd HB4 HE4 HE5
    have hee : (e3 == e3) = true := by rw [beq_iff_eq]
    go_wp2_with fail
    go_ret
    exact ⟨rfl, HB5.out⟩
  · have h3I : (n : Int) ≤ 3000 := by omega
    have h3N : n ≤ 3000 := by omega
    go_enter Try.func4, Try.ntmps4
    go_wp2_with fail
    refine (shown_any w).mono ?_
    rintro r w1 ⟨rfl, hb1⟩
    have HB1 := Lib.hid hb1
    have HY1 := Lib.hid (HB.out.below hb1)
    clear hb1 HB
    generalize hbs : b = bs at *
    clear hbs
    have HO0 := Lib.hid (owns_empty w1 5 (Nat.le_refl _))
    have HYa : Hid (Bytes (w1.alloc (.cells #[] 5)) A n bs) := HY1.out.alloc _
    have HBL := Lib.hid HY1.out.1
    go_wp2_with (at_builtin; refine wpList_append_bytes _ rfl (.tmp 16) (.tmp 17) _ rfl w1.heap.size 5 i1 _ 1 Try.underlying25 HI1.out hy0 hy1 hy2 rfl (.slice (some ⟨w1.heap.size, 0, none⟩) 0 0) 0 [] rfl HO0.out A n c bs rfl HYa.out (by simp only [maxLen]; omega) (by omega) (by simp) ?_; intro v2 w2 hown hgrow _; have HW2 := Lib.hid (below_append (below_all.alloc (Nat.le_refl _) _ : Below w1.heap.size w1 _) hgrow HO0.out (Nat.le_refl _) (by simp)); simp only [Nat.zero_add, List.nil_append] at hown; obtain ⟨A2, c2, rfl, hby2, hmc2, hc2, _⟩ := own_form hown; have HY2 := Lib.hid hby2; clear hown hgrow hby2)
    have HB2 := Lib.hid (below_then HB1.out HW2.out)
    refine (take_any A2 n c2 bs w2 HY2.out (by omega)).mono ?_
    rintro r w3 hr3
    have HR3 := Lib.hid hr3
    have HY3 := Lib.hid ((HY1.out.below HW2.out).below hr3.2)
    have HB3 := Lib.hid (below_then HB2.out hr3.2)
    have hrt := fun (r' : Ending) (w4 : World) (h : TakeRes w3 bs r' w4) => takes_one hr3 h
    have HRT := Lib.hid hrt
    obtain ⟨e3, l3, A3, c3, hr⟩ : ∃ (e3 : Int) (l3 : List Ent) (A3 : Option Addr) (c3 : Nat), r = .returned (.tuple #[.slice A3 l3.length c3, .int .i64 e3]) := by
      rcases hr3.1 with ⟨l, A', c', _, h, _⟩ | ⟨_, h⟩
      · exact ⟨_, l, A', c', h⟩
      · exact ⟨2, [], none, 0, h⟩
    subst hr
    have hsh := ents_short hr3 rfl
    clear hr3 hrt HY2 HW2 HO0 HYa HR3 HB2
    go_wp2_with fail
    refine (rtake_any A n c bs w3 HY3.out (by omega)).mono ?_
    rintro r' w4 hr4
    obtain ⟨l, A4, c4, A5, c5, e, h1, rfl, he4, he5, hb4⟩ := HRT.out r' w4 hr4
    have hb5 := hr4.2
    have HE4 := Lib.hid he4
    have HE5 := Lib.hid he5
    have HB4 := Lib.hid (below_then HB3.out hb5)
    injection h1 with h1
    injection h1 with h1
    simp only [Array.mk.injEq, List.cons.injEq, Value.slice.injEq, Value.int.injEq, and_true, true_and] at h1
    obtain ⟨⟨rfl, hll, rfl⟩, rfl⟩ := h1
    rw [← hll] at HE4 HE5 ⊢
    have hsh2 : l3.length ≤ 3000 := by have := HBL.out; omega
    clear hll hr4 he4 he5 hb4 hb5 HRT HY3 HB3 HBL hsh
    generalize l3.length = n3 at *
    go_wp2_with fail
    refine (same_any A3 A5 n3 c3 n3 c5 l l w4 HE4.out HE5.out (by omega) (by omega)).mono ?_
    rintro r w5 ⟨rfl, hb5⟩
    have HB5 := Lib.hid (below_then HB4.out hb5)
    have hdd : decide (l = l) = true := decide_eq_true rfl
    rw [hdd]
    clear hb5 hdd HB4 HE4 HE5
    have hee : (e3 == e3) = true := by rw [beq_iff_eq]
    go_wp2_with fail
    go_ret
    exact ⟨rfl, HB5.out⟩
end Go.Proofs.Ythkjgkdglphfcaa
