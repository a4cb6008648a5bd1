/- Walk of SuperTurned: a superblock of which one byte is turned into another one is none. -/
import Derived.Test.YthfghomnbldmfaaRows
import Derived.Test.YthfghomnbldmfaaSupCut
import Derived.Test.YthfghomnbldmfaaSupBackMath
import Derived.Test.YthfghomnbldmfaaSupIn
namespace Go.Proofs.Ythfghomnbldmfaa
set_option linter.unusedVariables false
set_option linter.unusedSimpArgs false
open Go.RowKit

theorem u8s_set (ds : List UInt8) (k : Nat) (y : UInt8) : (u8s ds).set k (.int .u8 (y.toNat : Nat)) = u8s (ds.set k y) := by simp [u8s, List.map_set]
theorem byte_of {x : Int} (h : (Lit.int .u8 x).wf = true) : ∃ y : UInt8, x = (y.toNat : Nat) := by
  have h2 : 0 ≤ x ∧ x ≤ 255 := by simpa [Lit.wf, IntKind.min, IntKind.max, IntKind.bits, IntKind.signed] using h
  exact ⟨UInt8.ofNat x.toNat, by simp only [UInt8.toNat_ofNat']; omega⟩
theorem int_of {x : Int} (h : (Lit.int .i64 x).wf = true) : -9223372036854775808 ≤ x ∧ x ≤ 9223372036854775807 := by
  simpa [Lit.wf, IntKind.min, IntKind.max, IntKind.bits, IntKind.signed] using h
/-- A superblock of an image of 64 bytes. -/
def sup64 (s : Sup) : Sup := ⟨64, s.inodes, 64, 64, 64, 64, 64, s.ids, s.frags, s.root⟩
theorem set64 {w : World} {g : Nat} {s : Sup} (h : SupAt w g s) :
    SupAt ((((((w.setCell ⟨g, 0, none⟩ (.int .i64 64)).setCell ⟨g, 2, none⟩ (.int .i64 64)).setCell ⟨g, 3, none⟩ (.int .i64 64)).setCell ⟨g, 4, none⟩ (.int .i64 64)).setCell ⟨g, 5, none⟩ (.int .i64 64)).setCell ⟨g, 6, none⟩ (.int .i64 64)) g (sup64 s) ∧
      Only [g] w ((((((w.setCell ⟨g, 0, none⟩ (.int .i64 64)).setCell ⟨g, 2, none⟩ (.int .i64 64)).setCell ⟨g, 3, none⟩ (.int .i64 64)).setCell ⟨g, 4, none⟩ (.int .i64 64)).setCell ⟨g, 5, none⟩ (.int .i64 64)).setCell ⟨g, 6, none⟩ (.int .i64 64)) := by
  refine ⟨?_, ?_⟩
  · exact (((((h.set (p := 0) (by omega) 64).set (p := 2) (by omega) 64).set (p := 3) (by omega) 64).set (p := 4) (by omega) 64).set (p := 5) (by omega) 64).set (p := 6) (by omega) 64
  · exact ((((((Only.refl [g] w).setCell (p := ⟨g, 0, none⟩) (.inl (by simp)) _).setCell (p := ⟨g, 2, none⟩) (.inl (by simp)) _).setCell (p := ⟨g, 3, none⟩) (.inl (by simp)) _).setCell (p := ⟨g, 4, none⟩) (.inl (by simp)) _).setCell (p := ⟨g, 5, none⟩) (.inl (by simp)) _).setCell (p := ⟨g, 6, none⟩) (.inl (by simp)) _
theorem tab_only {w w' : World} {g gs : Nat} (h : TabAt w g Crc.entry) (ho : Only [gs] w w') (hne : g ≠ gs) (hg : g < w.heap.size) : TabAt w' g Crc.entry := fun i hi =>
  (World.cell?_of_block (w := w) (a := ⟨g, i, none⟩) (ho.block g hg (by simpa using hne))).trans (h i hi)
theorem bad_putE {s : Sup} (h : supB s = false) : putBs s = [] ∧ putE s = 1 := by unfold putBs putE; rw [h]; exact ⟨rfl, rfl⟩
set_option maxRecDepth 100000 in
set_option maxHeartbeats 4000000 in
theorem superTurned_walk (s : Sup) (p y : Int) (w : World) (hs : SupFine s) (hp : (Lit.int .i64 p).wf = true) (hy : (Lit.int .u8 y).wf = true) :
    Calls Try.prog 6 #[.agg (supCells s), .int .i64 p, .int .u8 y] w fun e w' => e = .returned (.bool true) ∧ Below w.heap.size w w' := by
  have hz := (zero_of_info tab_zero).1
  obtain ⟨x, rfl⟩ := byte_of hy
  have HP := Lib.hid hp
  have HS0 := Lib.hid (SupAt.new w s)
  clear hs hp hy
  unfold supCells
  go_enter Try.func6, Try.ntmps6
  go_wp2_with fail
  refine (shown_any _).mono ?_
  rintro e w1 ⟨rfl, hb1⟩
  have HS1 := Lib.hid (HS0.out.below (by simpa [supCells] using hb1))
  have HB1 : Hid (Below w.heap.size w w1) := (below_all.alloc (Nat.le_refl _) _).trans (hb1.mono (by simp))
  clear hb1 HS0
  go_wp2_with fail
  refine (newB w1).mono ?_
  rintro e w2 ⟨rfl, hb2⟩
  have HS2 := Lib.hid ((HS1.out.below hb2).below (below_all.alloc (Nat.le_refl _) (.cells tab 27)))
  have HB2 : Hid (Below w.heap.size w (w2.alloc (.cells tab 27))) := (below_then HB1.out hb2).alloc (below_then HB1.out hb2).size _
  have HT2 := Lib.hid (tab_new w2)
  have HL2 : Hid (w.heap.size < w2.heap.size ∧ w2.heap.size < (w2.alloc (.cells tab 27)).heap.size) := by
    have h1 := (HS1.out.below hb2).lt
    have h2 : (w2.alloc (.cells tab 27)).heap.size = w2.heap.size + 1 := by simp
    exact (⟨h1, by omega⟩ : w.heap.size < w2.heap.size ∧ w2.heap.size < (w2.alloc (.cells tab 27)).heap.size)
  have HN : Hid (w2.alloc (.cells tab 27) = w2.alloc (.cells tab 27)) := rfl
  go_upto_region 3 with (refine wpList_store_whole rfl 27 _ _ rfl w2.heap.size tab rfl rfl 27 (tabTo 0) (heap_alloc_new w2 _) tabSize (by rw [tab, tabTo_size, tabTo_size]) tab_one _ (setRow_last w2 _ _ _) ?_)
  clear hb2 hz HN
  generalize w2.alloc (.cells tab 27) = w3 at *
  generalize w2.heap.size = gt at *
  have HW := Lib.hid (set64 HS2.out)
  have k0 := HS2.out.c0
  have k1 := HS2.out.c1
  have k2 := HS2.out.c2
  have k3 := HS2.out.c3
  have k4 := HS2.out.c4
  have k5 := HS2.out.c5
  have k6 := HS2.out.c6
  have k7 := HS2.out.c7
  have k8 := HS2.out.c8
  have k9 := HS2.out.c9
  have f0 := HS2.out.free 0
  have f2 := HS2.out.free 2
  have f3 := HS2.out.free 3
  have f4 := HS2.out.free 4
  have f5 := HS2.out.free 5
  have f6 := HS2.out.free 6
  go_wp2_with fail
  have HSW := Lib.hid HW.out.1
  have HOW := Lib.hid HW.out.2
  clear HW k0 k1 k2 k3 k4 k5 k6 k7 k8 k9 f0 f2 f3 f4 f5 f6
  generalize (((((w3.setCell ⟨w.heap.size, 0, none⟩ (.int .i64 64)).setCell ⟨w.heap.size, 2, none⟩ (.int .i64 64)).setCell ⟨w.heap.size, 3, none⟩ (.int .i64 64)).setCell ⟨w.heap.size, 4, none⟩ (.int .i64 64)).setCell ⟨w.heap.size, 5, none⟩ (.int .i64 64)).setCell ⟨w.heap.size, 6, none⟩ (.int .i64 64) = W at *
  have HTW := Lib.hid (tab_only HT2.out HOW.out (by have := HL2.out; omega) HL2.out.2)
  have HLW : Hid (gt < W.heap.size) := Nat.lt_of_lt_of_le HL2.out.2 HOW.out.size
  have HBW : Hid (Below w.heap.size w W) := HB2.out.trans (HOW.out.below (fun k hk => by simp at hk; omega) HB2.out.size)
  have HPut := Lib.hid (put_any gt (sup64 s) W HTW.out HLW.out)
  clear HT2 HL2 HB2 HS2 HOW HSW HS1 HB1
  obtain ⟨b, hb⟩ : ∃ b, supB (sup64 s) = b := ⟨_, rfl⟩
  cases b
  · obtain ⟨p1, p2⟩ := bad_putE hb
    rw [p1, p2] at HPut
    clear hb p1 p2
    refine HPut.out.mono ?_
    rintro r w5 ⟨A5, c5, rfl, hown5, hb5⟩
    have HB5 : Hid (Below w.heap.size w w5) := below_then HBW.out hb5
    clear hown5 hb5
    go_wp2_with fail
    go_ret
    exact ⟨rfl, HB5.out⟩
  · obtain ⟨p1, p2⟩ := put_good hb
    have hP := (supB_iff _).1 hb
    obtain ⟨q1, q2⟩ := enc_ok hP [] (by simp [sup64])
    rw [List.append_nil] at q1 q2
    rw [p1, p2] at HPut
    have HTE := Lib.hid (take_good q1).1
    have HTS := Lib.hid q2
    have HEL := Lib.hid (enc_length (sup64 s))
    have HBAD := Lib.hid (turned_bad (sup64 s))
    clear hb p1 p2 hP q1 q2
    generalize enc (sup64 s) = T at *
    refine HPut.out.mono ?_
    rintro r w5 ⟨A5, c5, rfl, hown5, hb5⟩
    rw [HEL.out] at hown5 ⊢
    have HB5 : Hid (Below w.heap.size w w5) := below_then HBW.out hb5
    have HT5 := Lib.hid (tab_below HTW.out HLW.out hb5)
    have HL5 : Hid (gt < w5.heap.size) := Nat.lt_of_lt_of_le HLW.out hb5.size
    obtain ⟨A5', c5', he5, hby5, hn5, hc5, hfr5⟩ := own_form hown5
    injection he5 with e1 e2 e3
    subst e1 e3
    have hc5 : c5 ≤ 9223372036854775807 := by simpa [maxLen] using hc5
    obtain ⟨b5, hA5⟩ : ∃ b5, A5 = some ⟨b5, 0, none⟩ := by
      rcases hown5.2 with ⟨hv0, _⟩ | ⟨g5, cap5, cur5, hv5, _⟩
      · injection hv0 with _ h2 _; exact absurd h2 (by omega)
      · injection hv5 with h1 _ _; exact ⟨g5, h1⟩
    subst hA5
    have HTk := Lib.hid (take_any gt _ 64 c5 T w5 HT5.out HL5.out hby5 hn5 hc5)
    rw [HTE.out, HTS.out] at HTk
    unfold supCells sup64 at HTk
    have HO5 := Lib.hid hown5
    have HF5 := Lib.hid (hfr5 _ rfl)
    have HGT := Lib.hid HLW.out
    clear hown5 hb5 hby5 hfr5 HPut HTW HLW
    go_wp2_with fail
    refine HTk.out.mono ?_
    rintro r w6 ⟨rfl, hb6⟩
    go_upto_region 14 with fail
    have HO6 := Lib.hid ((own_below (own_below HO5.out hb6) (below_all.alloc (Nat.le_refl _) (.cells (supCells (sup64 s)) 23))))
    have hb6w := below_then HB5.out hb6
    have HB6 : Hid (Below w.heap.size w (w6.alloc (.cells (supCells (sup64 s)) 23))) := hb6w.alloc hb6w.size _
    have HT6 := Lib.hid (tab_below (tab_below HT5.out HL5.out hb6) (Nat.lt_of_lt_of_le HL5.out hb6.size) (below_all.alloc (Nat.le_refl _) (.cells (supCells (sup64 s)) 23)))
    have HL6 : Hid (gt < (w6.alloc (.cells (supCells (sup64 s)) 23)).heap.size) := by show gt < _; have h1 := HL5.out; have h2 := hb6.size; simp; omega
    have HG5 : Hid (W.heap.size ≤ b5 ∧ gt < W.heap.size ∧ w.heap.size ≤ W.heap.size) := (⟨HF5.out.1, HGT.out, HBW.out.size⟩ : W.heap.size ≤ b5 ∧ gt < W.heap.size ∧ w.heap.size ≤ W.heap.size)
    clear hb6 hb6w HO5 HB5 HT5 HL5 HTk HF5 HTE HTS
    unfold supCells sup64 at HO6 HB6 HT6 HL6
    generalize w6.alloc (.cells #[.int .i64 64, .int .i64 s.inodes, .int .i64 64, .int .i64 64, .int .i64 64, .int .i64 64, .int .i64 64, .int .i64 s.ids, .int .i64 s.frags, .int .i64 s.root] 23) = W6 at *
    have hq64 : (p.tmod 64).natAbs < 64 := by rw [Int.natAbs_tmod]; exact Nat.mod_lt _ (by decide)
    generalize p.tmod 64 = q at *
    have HQ := Lib.hid hq64
    clear hq64
    have hq : (∃ k : Nat, q = (k : Int) ∧ k < 64) ∨ (∃ k : Nat, q < 0 ∧ IntKind.i64.wrap (-q) = (k : Int) ∧ k < 64) := by
      have := HQ.out
      by_cases h : 0 ≤ q
      · exact .inl ⟨q.toNat, by omega, by omega⟩
      · exact .inr ⟨(-q).toNat, by omega, by rw [IntWalk.i64_in _ (by omega)]; omega, by omega⟩
    clear HQ HP
    rcases hq with ⟨k, rfl, hk⟩ | ⟨k, hq0, hqw, hk⟩
    · have hk0 : (0 : Int) ≤ (k : Int) := by omega
      have hk1 : (k : Int) < 64 := by omega
      have hk2 : ¬ (k : Int) < 0 := by omega
      by_cases hx0 : x = 0
      · subst hx0
        have hcell := HO6.out.cellAt k (by omega)
        rw [u8s_at T k (by rw [HEL.out]; omega)] at hcell
        have hfree := HO6.out.frozenAt k
        have hst := HO6.out.stored k (.int .u8 ((T.getD k 0 ^^^ 1).toNat : Nat))
        rw [u8s_set] at hst
        have hxor : bits .xor .u8 ((T.getD k 0).toNat : Int) ((1 : UInt8).toNat : Int) = ((T.getD k 0 ^^^ 1).toNat : Nat) := by
          rw [u8_xor_nat _ _ (by have := (T.getD k 0).toNat_lt; omega) (by have := (1 : UInt8).toNat_lt; omega), UInt8.toNat_xor]
        rw [show (((1 : UInt8).toNat : Nat) : Int) = 1 from rfl] at hxor
        have HX := Lib.hid (HBAD.out k (by omega) _ (xor_ne (T.getD k 0) 1 (by decide)))
        have HST := Lib.hid hst
        have HB7 : Hid (Below w.heap.size w (W6.setCell ⟨b5, k, none⟩ (.int .u8 ((T.getD k 0 ^^^ 1).toNat : Nat)))) := HB6.out.setCell (p := ⟨b5, k, none⟩) (by have := HG5.out; show w.heap.size ≤ b5; omega) _
        have HO7 : Hid (Only [b5] W6 (W6.setCell ⟨b5, k, none⟩ (.int .u8 ((T.getD k 0 ^^^ 1).toNat : Nat)))) := (Only.refl _ _).setCell (p := ⟨b5, k, none⟩) (.inl (by simp)) _
        clear hst HBAD
        generalize T.getD k 0 ^^^ 1 = z at *
        generalize T.getD k 0 = d at *
        generalize T.set k z = T2 at *
        go_wp2_with fail
        have HTk2 := Lib.hid (take_any gt _ 64 c5 T2 _ (tab_only HT6.out HO7.out (by have := HG5.out; omega) HL6.out) (Nat.lt_of_lt_of_le HL6.out HO7.out.size) (bytes_own HST.out.1) hn5 hc5)
        rw [(take_bad HX.out).1, (take_bad HX.out).2] at HTk2
        unfold supCells sup0 at HTk2
        refine HTk2.out.mono ?_
        rintro r w9 ⟨rfl, hb9⟩
        have HB9 : Hid (Below w.heap.size w w9) := below_then HB7.out hb9
        clear hb9 HB7 HB6 HST HTk2
        go_wp2_with fail
        go_ret
        exact ⟨rfl, HB9.out.alloc HB9.out.size _⟩
      · have hxb : (((x.toNat : Nat) : Int) == 0) = false := by
          have : ¬ x.toNat = 0 := fun e => hx0 (UInt8.toNat_inj.1 e)
          simp; omega
        have HX0 := Lib.hid hx0
        clear hx0
        have hcell := HO6.out.cellAt k (by omega)
        rw [u8s_at T k (by rw [HEL.out]; omega)] at hcell
        have hfree := HO6.out.frozenAt k
        have hst := HO6.out.stored k (.int .u8 ((T.getD k 0 ^^^ x).toNat : Nat))
        rw [u8s_set] at hst
        have hxor : bits .xor .u8 ((T.getD k 0).toNat : Int) (x.toNat : Int) = ((T.getD k 0 ^^^ x).toNat : Nat) := by
          rw [u8_xor_nat _ _ (by have := (T.getD k 0).toNat_lt; omega) (by have := x.toNat_lt; omega), UInt8.toNat_xor]
        have HX := Lib.hid (HBAD.out k (by omega) _ (xor_ne (T.getD k 0) x HX0.out))
        have HST := Lib.hid hst
        have HB7 : Hid (Below w.heap.size w (W6.setCell ⟨b5, k, none⟩ (.int .u8 ((T.getD k 0 ^^^ x).toNat : Nat)))) := HB6.out.setCell (p := ⟨b5, k, none⟩) (by have := HG5.out; show w.heap.size ≤ b5; omega) _
        have HO7 : Hid (Only [b5] W6 (W6.setCell ⟨b5, k, none⟩ (.int .u8 ((T.getD k 0 ^^^ x).toNat : Nat)))) := (Only.refl _ _).setCell (p := ⟨b5, k, none⟩) (.inl (by simp)) _
        clear hst HBAD
        generalize T.getD k 0 ^^^ x = z at *
        generalize T.getD k 0 = d at *
        generalize T.set k z = T2 at *
        go_wp2_with fail
        have HTk2 := Lib.hid (take_any gt _ 64 c5 T2 _ (tab_only HT6.out HO7.out (by have := HG5.out; omega) HL6.out) (Nat.lt_of_lt_of_le HL6.out HO7.out.size) (bytes_own HST.out.1) hn5 hc5)
        rw [(take_bad HX.out).1, (take_bad HX.out).2] at HTk2
        unfold supCells sup0 at HTk2
        refine HTk2.out.mono ?_
        rintro r w9 ⟨rfl, hb9⟩
        have HB9 : Hid (Below w.heap.size w w9) := below_then HB7.out hb9
        clear hb9 HB7 HB6 HST HTk2
        go_wp2_with fail
        go_ret
        exact ⟨rfl, HB9.out.alloc HB9.out.size _⟩
    · have hk0 : (0 : Int) ≤ (k : Int) := by omega
      have hk1 : (k : Int) < 64 := by omega
      by_cases hx0 : x = 0
      · subst hx0
        have hcell := HO6.out.cellAt k (by omega)
        rw [u8s_at T k (by rw [HEL.out]; omega)] at hcell
        have hfree := HO6.out.frozenAt k
        have hst := HO6.out.stored k (.int .u8 ((T.getD k 0 ^^^ 1).toNat : Nat))
        rw [u8s_set] at hst
        have hxor : bits .xor .u8 ((T.getD k 0).toNat : Int) ((1 : UInt8).toNat : Int) = ((T.getD k 0 ^^^ 1).toNat : Nat) := by
          rw [u8_xor_nat _ _ (by have := (T.getD k 0).toNat_lt; omega) (by have := (1 : UInt8).toNat_lt; omega), UInt8.toNat_xor]
        rw [show (((1 : UInt8).toNat : Nat) : Int) = 1 from rfl] at hxor
        have HX := Lib.hid (HBAD.out k (by omega) _ (xor_ne (T.getD k 0) 1 (by decide)))
        have HST := Lib.hid hst
        have HB7 : Hid (Below w.heap.size w (W6.setCell ⟨b5, k, none⟩ (.int .u8 ((T.getD k 0 ^^^ 1).toNat : Nat)))) := HB6.out.setCell (p := ⟨b5, k, none⟩) (by have := HG5.out; show w.heap.size ≤ b5; omega) _
        have HO7 : Hid (Only [b5] W6 (W6.setCell ⟨b5, k, none⟩ (.int .u8 ((T.getD k 0 ^^^ 1).toNat : Nat)))) := (Only.refl _ _).setCell (p := ⟨b5, k, none⟩) (.inl (by simp)) _
        clear hst HBAD
        generalize T.getD k 0 ^^^ 1 = z at *
        generalize T.getD k 0 = d at *
        generalize T.set k z = T2 at *
        go_wp2_with fail
        have HTk2 := Lib.hid (take_any gt _ 64 c5 T2 _ (tab_only HT6.out HO7.out (by have := HG5.out; omega) HL6.out) (Nat.lt_of_lt_of_le HL6.out HO7.out.size) (bytes_own HST.out.1) hn5 hc5)
        rw [(take_bad HX.out).1, (take_bad HX.out).2] at HTk2
        unfold supCells sup0 at HTk2
        refine HTk2.out.mono ?_
        rintro r w9 ⟨rfl, hb9⟩
        have HB9 : Hid (Below w.heap.size w w9) := below_then HB7.out hb9
        clear hb9 HB7 HB6 HST HTk2
        go_wp2_with fail
        go_ret
        exact ⟨rfl, HB9.out.alloc HB9.out.size _⟩
      · have hxb : (((x.toNat : Nat) : Int) == 0) = false := by
          have : ¬ x.toNat = 0 := fun e => hx0 (UInt8.toNat_inj.1 e)
          simp; omega
        have HX0 := Lib.hid hx0
        clear hx0
        have hcell := HO6.out.cellAt k (by omega)
        rw [u8s_at T k (by rw [HEL.out]; omega)] at hcell
        have hfree := HO6.out.frozenAt k
        have hst := HO6.out.stored k (.int .u8 ((T.getD k 0 ^^^ x).toNat : Nat))
        rw [u8s_set] at hst
        have hxor : bits .xor .u8 ((T.getD k 0).toNat : Int) (x.toNat : Int) = ((T.getD k 0 ^^^ x).toNat : Nat) := by
          rw [u8_xor_nat _ _ (by have := (T.getD k 0).toNat_lt; omega) (by have := x.toNat_lt; omega), UInt8.toNat_xor]
        have HX := Lib.hid (HBAD.out k (by omega) _ (xor_ne (T.getD k 0) x HX0.out))
        have HST := Lib.hid hst
        have HB7 : Hid (Below w.heap.size w (W6.setCell ⟨b5, k, none⟩ (.int .u8 ((T.getD k 0 ^^^ x).toNat : Nat)))) := HB6.out.setCell (p := ⟨b5, k, none⟩) (by have := HG5.out; show w.heap.size ≤ b5; omega) _
        have HO7 : Hid (Only [b5] W6 (W6.setCell ⟨b5, k, none⟩ (.int .u8 ((T.getD k 0 ^^^ x).toNat : Nat)))) := (Only.refl _ _).setCell (p := ⟨b5, k, none⟩) (.inl (by simp)) _
        clear hst HBAD
        generalize T.getD k 0 ^^^ x = z at *
        generalize T.getD k 0 = d at *
        generalize T.set k z = T2 at *
        go_wp2_with fail
        have HTk2 := Lib.hid (take_any gt _ 64 c5 T2 _ (tab_only HT6.out HO7.out (by have := HG5.out; omega) HL6.out) (Nat.lt_of_lt_of_le HL6.out HO7.out.size) (bytes_own HST.out.1) hn5 hc5)
        rw [(take_bad HX.out).1, (take_bad HX.out).2] at HTk2
        unfold supCells sup0 at HTk2
        refine HTk2.out.mono ?_
        rintro r w9 ⟨rfl, hb9⟩
        have HB9 : Hid (Below w.heap.size w w9) := below_then HB7.out hb9
        clear hb9 HB7 HB6 HST HTk2
        go_wp2_with fail
        go_ret
        exact ⟨rfl, HB9.out.alloc HB9.out.size _⟩
end Go.Proofs.Ythfghomnbldmfaa
