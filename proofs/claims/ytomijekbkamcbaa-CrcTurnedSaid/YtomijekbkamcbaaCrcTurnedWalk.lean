/- The walk of the law CrcTurned. -/
import Derived.Test.YtomijekbkamcbaaRows
import Derived.Test.YtomijekbkamcbaaCrcShown
import Derived.Test.YtomijekbkamcbaaCrcSumsWalk
import Derived.WalkKit
import Derived.WalkSpells
import Derived.WalkLawsBesides
import Derived.Lib.Hide
import Derived.Lib.SmallJoins
import Derived.Deep.QuietTactic
import Derived.BigQuiet
namespace Go.Proofs.Ytomijekbkamcbaa
set_option linter.unusedVariables false
set_option linter.unusedSimpArgs false
open Go.RowKit


/-- The list with one byte turned. -/
theorem set_split (ds : List UInt8) (k : Nat) (hk : k < ds.length) (y : UInt8) : ds = ds.take k ++ ds.getD k 0 :: ds.drop (k + 1) ∧ ds.set k y = ds.take k ++ y :: ds.drop (k + 1) := by
  refine ⟨?_, List.set_eq_take_append_cons_drop.trans (by rw [if_pos hk])⟩
  have h : ds.getD k 0 = ds[k] := by simp [List.getD_eq_getElem?_getD, List.getElem?_eq_getElem hk]
  rw [h, List.getElem_cons_drop, List.take_append_drop]
theorem sum_set (ds : List UInt8) (k : Nat) (hk : k < ds.length) (x : UInt8) (hx : x ≠ 0) : Crc.more Crc.entry 0 (ds.set k (ds.getD k 0 ^^^ x)) ≠ Crc.more Crc.entry 0 ds := by
  intro h
  obtain ⟨h1, h2⟩ := set_split ds k hk (ds.getD k 0 ^^^ x)
  generalize ds.getD k 0 = d at *
  rw [h2] at h
  conv at h => rhs; rw [h1]
  have h3 : d ^^^ x = d := Crc.sum_turned _ _ _ _ h
  apply hx
  have h4 : d ^^^ (d ^^^ x) = d ^^^ d := by rw [h3]
  rwa [← UInt8.xor_assoc, UInt8.xor_self, UInt8.zero_xor] at h4
theorem u8s_set (ds : List UInt8) (k : Nat) (y : UInt8) : (u8s ds).set k (.int .u8 (y.toNat : Nat)) = u8s (ds.set k y) := by simp [u8s, List.map_set]
theorem byte_of {x : Int} (h : (Lit.int .u8 x).wf = true) : ∃ y : UInt8, x = (y.toNat : Nat) := by
  have h2 : 0 ≤ x ∧ x ≤ 255 := by simpa [Lit.wf, IntKind.min, IntKind.max, IntKind.bits, IntKind.signed] using h
  exact ⟨UInt8.ofNat x.toNat, by simp only [UInt8.toNat_ofNat']; omega⟩

set_option maxRecDepth 100000 in
set_option maxHeartbeats 400000 in
theorem crcTurned_walk (A : Option Addr) (n c : Nat) (bs : List UInt8) (p : Int) (y : Int) (w : World) (h : Bytes w A n bs ∧ n ≤ c ∧ c ≤ maxLen) (hp : (Lit.int .i64 p).wf = true) (hy : (Lit.int .u8 y).wf = true) :
    Calls Try.prog 7 #[.slice A n c, .int .i64 p, .int .u8 y] w fun e w' => e = .returned (.bool true) ∧ Below w.heap.size w w' := by
  obtain ⟨hb, hnc, hcm⟩ := h
  obtain ⟨x, rfl⟩ := byte_of hy
  have hcm : c ≤ 9223372036854775807 := by simpa [maxLen] using hcm
  have hz := (zero_of_info tab_zero).1
  obtain ⟨i0, hi, hz0, hz1, hz2⟩ := info_parts u8_info
  obtain ⟨m, hmin⟩ : ∃ m, m = min n 600 := ⟨_, rfl⟩
  have hm : m ≤ n := by omega
  have hm6 : m ≤ 600 := by omega
  have hb6 := hb.take hm
  have HM := Lib.hid hmin
  have HB := Lib.hid hb6
  clear hmin hb hb6 hp hy
  generalize bs.take m = ds at *
  have HI := Lib.hid hi
  clear hi
  by_cases hcase : 0 ≤ p ∧ p < m ∧ ¬ x = 0
  · obtain ⟨hp0, hpm, hx0⟩ := hcase
    obtain ⟨k, rfl⟩ := Int.eq_ofNat_of_zero_le hp0
    have hpk : ((k : Int) < 0) = False := by simp
    have hxb : (((x.toNat : Nat) : Int) == 0) = false := by
      have : ¬ x.toNat = 0 := fun e => hx0 (UInt8.toNat_inj.1 e)
      simp; omega
    have hgt : ¬ (m : Int) ≤ (k : Int) := by omega
    go_enter Try.func7, Try.ntmps7
    go_wp2_with fail
    refine (shown_any w).mono ?_
    rintro e w1 ⟨rfl, hb1⟩
    go_wp2_with fail
    refine (few_named A n c m _ HM.out (by omega) hnc).mono ?_
    rintro e w' ⟨rfl, rfl⟩
    have hs1 := hb1.size
    have HB1 := (HB.out.below hb1).alloc (.cells #[] 5)
    have hown0 := owns_empty w1 5 (Nat.le_refl _)
    go_wp2_with (at_builtin; refine wpList_append_bytes _ rfl (.tmp 11) (.tmp 13) _ rfl w1.heap.size 5 i0 _ 1 Try.underlying29 HI.out hz0 hz1 hz2 rfl (.slice (some ⟨w1.heap.size, 0, none⟩) 0 0) 0 [] rfl hown0 A m c ds rfl HB1 (by simp only [maxLen]; omega) (by omega) (by simp) ?_; intro v2 w2 hown hgrow _; simp only [Nat.zero_add, List.nil_append] at hown; obtain ⟨g, c2, rfl⟩ := Joins.ownsRow_form hown (by omega))
    have hb2 := below_append (hb1.alloc hs1 _) hgrow hown0 hs1 (by simp; omega)
    have hs2 := hb2.size
    have hgl := hown.lt g rfl
    clear hgrow hown0 HB1 HB
    refine (newB w2).mono ?_
    rintro e w3 ⟨rfl, hb3⟩
    have hs3 := hb3.size
    go_wp2_with (refine wpList_store_whole rfl 25 _ _ rfl w3.heap.size tab rfl rfl 25 (tabTo 0) (heap_alloc_new w3 _) tabSize (by rw [tab, tabTo_size, tabTo_size]) tab_one _ (setRow_last w3 _ _ _) ?_)
    have ht := tab_at (w3.alloc (.cells tab 25)) w3.heap.size (0, 0) (heap_alloc_new w3 _)
    have hown3 := (own_below hown hb3).alloc (.cells tab 25)
    have hb4 := (below_then hb2 hb3).alloc (by omega) (.cells tab 25)
    have hg3 : g < w3.heap.size := by omega
    generalize w3.alloc (.cells tab 25) = W3 at *
    generalize w3.heap.size = gt at *
    have hg0 : w.heap.size ≤ g := by omega
    clear hb1 hb2 hb3 hown hs1 hs2 hs3 hgl
    have hX := bytes_own hown3
    have hcm2 : m ≤ 9223372036854775807 := by omega
    refine (sum_any gt Crc.entry _ m c2 ds W3 ht entry_lt256 hX hcm2).mono ?_
    rintro e w' ⟨rfl, rfl⟩
    have hdl : ds.length = m := hX.1
    have hcell := hown3.cellAt k (by omega)
    rw [u8s_at ds k (by omega)] at hcell
    have hfree := hown3.frozenAt k
    have hne := sum_set ds k (by omega) x hx0
    have hst := hown3.stored k (.int .u8 ((ds.getD k 0 ^^^ x).toNat : Nat))
    rw [u8s_set] at hst
    have hxor : bits .xor .u8 ((ds.getD k 0).toNat : Int) (x.toNat : Int) = ((ds.getD k 0 ^^^ x).toNat : Nat) := by
      rw [u8_xor_nat _ _ (by have := (ds.getD k 0).toNat_lt; omega) (by have := x.toNat_lt; omega), UInt8.toNat_xor]
    have HS := Lib.hid hst
    have HT := Lib.hid ht
    have HN := Lib.hid hne
    clear hst ht hX hne hown3 hdl
    generalize ds.getD k 0 ^^^ x = z at *
    generalize ds.getD k 0 = d at *
    generalize Crc.more Crc.entry 0 ds = s1 at *
    generalize ds.set k z = es at *
    go_wp2_with fail
    have hX2 := bytes_own HS.out.1
    have ht2 : TabAt (W3.setCell ⟨g, k, none⟩ (.int .u8 (z.toNat : Nat))) gt Crc.entry := fun i hi => by
      rw [World.cell?_setCell_other _ _ _ _ (fun e => by injection e with e; omega)]
      exact HT.out i hi
    refine (sum_any gt Crc.entry _ m c2 es _ ht2 entry_lt256 hX2 hcm2).mono ?_
    rintro e w' ⟨rfl, rfl⟩
    have hb5 := hb4.setCell (p := ⟨g, k, none⟩) hg0 (.int .u8 (z.toNat : Nat))
    have hbn : (((Crc.more Crc.entry 0 es : Nat) : Int) != (s1 : Int)) = true := by
      have := HN.out
      rw [bne_iff_ne]
      omega
    clear hX2 ht2 HN HS HT hb4
    generalize Crc.more Crc.entry 0 es = s2 at *
    go_wp2_with fail
    go_ret
    exact ⟨rfl, hb5⟩
  · have h3 : p < 0 ∨ (0 ≤ p ∧ (m : Int) ≤ p) ∨ (0 ≤ p ∧ p < (m : Int) ∧ x = 0) := by
      by_cases ha : p < 0
      · exact .inl ha
      · by_cases hb : (m : Int) ≤ p
        · exact .inr (.inl ⟨by omega, hb⟩)
        · by_cases hx : x = 0
          · exact .inr (.inr ⟨by omega, by omega, hx⟩)
          · exact absurd ⟨by omega, by omega, hx⟩ hcase
    clear hcase
    rcases h3 with h3 | ⟨h3, h4⟩ | ⟨h3, h4, rfl⟩
    all_goals
      go_enter Try.func7, Try.ntmps7
      go_wp2_with fail
      refine (shown_any w).mono ?_
      rintro e w1 ⟨rfl, hb1⟩
      go_wp2_with fail
      refine (few_named A n c m _ HM.out (by omega) hnc).mono ?_
      rintro e w' ⟨rfl, rfl⟩
      have hs1 := hb1.size
      have HB1 := (HB.out.below hb1).alloc (.cells #[] 5)
      have hown0 := owns_empty w1 5 (Nat.le_refl _)
      go_wp2_with (at_builtin; refine wpList_append_bytes _ rfl (.tmp 11) (.tmp 13) _ rfl w1.heap.size 5 i0 _ 1 Try.underlying29 HI.out hz0 hz1 hz2 rfl (.slice (some ⟨w1.heap.size, 0, none⟩) 0 0) 0 [] rfl hown0 A m c ds rfl HB1 (by simp only [maxLen]; omega) (by omega) (by simp) ?_; intro v2 w2 hown hgrow _; simp only [Nat.zero_add, List.nil_append] at hown; obtain ⟨A2, c2, rfl, _, _, _, _⟩ := own_form hown)
      have hb2 := below_append (hb1.alloc hs1 _) hgrow hown0 hs1 (by simp; omega)
      go_ret
      exact ⟨rfl, hb2⟩
end Go.Proofs.Ytomijekbkamcbaa
