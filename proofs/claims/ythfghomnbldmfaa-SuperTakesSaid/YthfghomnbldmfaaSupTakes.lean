/- Walk of SuperTakes: of any image the superblock is read, or refused, as the document says. -/
import Derived.Test.YthfghomnbldmfaaRows
import Derived.Test.YthfghomnbldmfaaSupShown
import Derived.Test.YthfghomnbldmfaaSupRefTake
namespace Go.Proofs.Ythfghomnbldmfaa
set_option linter.unusedVariables false
set_option linter.unusedSimpArgs false
open Go.RowKit

set_option maxRecDepth 100000 in
set_option maxHeartbeats 2000000 in
theorem superTakes_walk (A : Option Addr) (n c : Nat) (bs : List UInt8) (w : World) (h : Bytes w A n bs ∧ n ≤ c ∧ c ≤ maxLen) :
    Calls Try.prog 4 #[.slice A n c] w fun e w' => e = .returned (.bool true) ∧ Below w.heap.size w w' := by
  obtain ⟨hb, hnc, hcm⟩ := h
  have hcm : c ≤ 9223372036854775807 := by simpa [maxLen] using hcm
  have hz := (zero_of_info tab_zero).1
  obtain ⟨i0, hi, hz0, hz1, hz2⟩ := info_parts u8_info
  have HI := Lib.hid hi
  obtain ⟨m, hm⟩ : ∃ m, m = min n 300 := ⟨_, rfl⟩
  have hbm := hb.take (show m ≤ n by omega)
  generalize bs.take m = ds at *
  have HB := Lib.hid hbm
  clear hb hbm hi
  rcases (show (m = n ∧ n ≤ 300) ∨ (m = 300 ∧ 300 < n) by omega) with ⟨rfl, hlt⟩ | ⟨rfl, hlt⟩
  all_goals
    clear hm
    go_enter Try.func4, Try.ntmps4
    go_wp2_with fail
    refine (shown_any _).mono ?_
    rintro e w1 ⟨rfl, hb1⟩
    have HB1 := Lib.hid hb1
    clear hb1
    go_wp2_with fail
    refine (newB w1).mono ?_
    rintro e w2 ⟨rfl, hb2⟩
    have HB2 : Hid (Below w.heap.size w (w2.alloc (.cells tab 27))) := (below_then HB1.out hb2).alloc (below_then HB1.out hb2).size _
    have HT2 := Lib.hid (tab_new w2)
    have HL2 : Hid (w2.heap.size < (w2.alloc (.cells tab 27)).heap.size) := by show w2.heap.size < _; simp
    go_upto_region 5 with (refine wpList_store_whole rfl 27 _ _ rfl w2.heap.size tab rfl rfl 27 (tabTo 0) (heap_alloc_new w2 _) tabSize (by rw [tab, tabTo_size, tabTo_size]) tab_one _ (setRow_last w2 _ _ _) ?_)
    clear hb2 hz HB1
    generalize w2.alloc (.cells tab 27) = w3 at *
    generalize w2.heap.size = gt at *
    have HOW0 := Lib.hid (owns_empty w3 5 (Nat.le_refl _))
    have HBY := Lib.hid ((HB.out.below HB2.out).alloc (.cells #[] 5))
    go_wp2_with (at_builtin; refine wpList_append_bytes _ rfl (.tmp 17) (.tmp 18) _ rfl w3.heap.size 5 i0 _ 1 Try.underlying29 HI.out hz0 hz1 hz2 rfl (.slice (some ⟨w3.heap.size, 0, none⟩) 0 0) 0 [] rfl HOW0.out A _ c ds rfl HBY.out (by simp only [maxLen]; omega) (by omega) (by simp) ?_; intro v4 w4 hown hgrow _)
    have HW4 := Lib.hid (below_append (below_all.alloc (Nat.le_refl _) _ : Below w3.heap.size w3 _) hgrow HOW0.out (Nat.le_refl _) (by simp))
    rw [Nat.zero_add, List.nil_append] at hown
    obtain ⟨A4, c4, rfl, hby4, hn4, hc4, _⟩ := own_form hown
    have HTk := Lib.hid (take_any gt A4 _ c4 ds w4 (tab_below HT2.out HL2.out HW4.out) (Nat.lt_of_lt_of_le HL2.out HW4.out.size) hby4 hn4 (by simpa [maxLen] using hc4))
    have HB4 : Hid (Below w.heap.size w w4) := below_then HB2.out HW4.out
    have HRk := Lib.hid fun w' (hw : Below w.heap.size w w') => refTake_any A _ c ds w' (HB.out.below hw) (by omega) hcm
    unfold supCells at HTk HRk
    generalize takeS ds = s at *
    generalize takeE ds = ee at *
    clear hown hgrow hby4 hn4 hc4 HW4 HBY HOW0 HT2 HL2
    try simp only [Nat.zero_add]
    refine HTk.out.mono ?_
    rintro r w5 ⟨rfl, hb5⟩
    have hb5w := below_then HB4.out hb5
    have HB6 : Hid (Below w.heap.size w (w5.alloc (.cells #[.int .i64 s.size, .int .i64 s.inodes, .int .i64 s.inodeAt, .int .i64 s.dirAt, .int .i64 s.fragAt, .int .i64 s.idAt, .int .i64 s.xattrAt, .int .i64 s.ids, .int .i64 s.frags, .int .i64 s.root] 23))) := hb5w.alloc hb5w.size _
    have HS6 : Hid (SupAt (w5.alloc (.cells #[.int .i64 s.size, .int .i64 s.inodes, .int .i64 s.inodeAt, .int .i64 s.dirAt, .int .i64 s.fragAt, .int .i64 s.idAt, .int .i64 s.xattrAt, .int .i64 s.ids, .int .i64 s.frags, .int .i64 s.root] 23)) w5.heap.size s) := SupAt.new w5 s
    clear hb5 hb5w HTk HB4
    go_upto_region 6 with fail
    generalize w5.alloc (.cells #[.int .i64 s.size, .int .i64 s.inodes, .int .i64 s.inodeAt, .int .i64 s.dirAt, .int .i64 s.fragAt, .int .i64 s.idAt, .int .i64 s.xattrAt, .int .i64 s.ids, .int .i64 s.frags, .int .i64 s.root] 23) = w6 at *
    generalize w5.heap.size = g5 at *
    go_wp2_with fail
    refine (HRk.out w6 HB6.out).mono ?_
    rintro r w7 ⟨rfl, hb7⟩
    have hb7w := below_then HB6.out hb7
    have HB8 : Hid (Below w.heap.size w (w7.alloc (.cells #[.int .i64 s.size, .int .i64 s.inodes, .int .i64 s.inodeAt, .int .i64 s.dirAt, .int .i64 s.fragAt, .int .i64 s.idAt, .int .i64 s.xattrAt, .int .i64 s.ids, .int .i64 s.frags, .int .i64 s.root] 23))) := hb7w.alloc hb7w.size _
    have HS8 : Hid (SupAt (w7.alloc (.cells #[.int .i64 s.size, .int .i64 s.inodes, .int .i64 s.inodeAt, .int .i64 s.dirAt, .int .i64 s.fragAt, .int .i64 s.idAt, .int .i64 s.xattrAt, .int .i64 s.ids, .int .i64 s.frags, .int .i64 s.root] 23)) w7.heap.size s) := SupAt.new w7 s
    have HS86 := Lib.hid ((HS6.out.below hb7).below (below_all.alloc (Nat.le_refl _) (.cells #[.int .i64 s.size, .int .i64 s.inodes, .int .i64 s.inodeAt, .int .i64 s.dirAt, .int .i64 s.fragAt, .int .i64 s.idAt, .int .i64 s.xattrAt, .int .i64 s.ids, .int .i64 s.frags, .int .i64 s.root] 23)))
    clear hb7 hb7w HRk HB6 HS6
    go_upto_region 7 with fail
    generalize w7.alloc (.cells #[.int .i64 s.size, .int .i64 s.inodes, .int .i64 s.inodeAt, .int .i64 s.dirAt, .int .i64 s.fragAt, .int .i64 s.idAt, .int .i64 s.xattrAt, .int .i64 s.ids, .int .i64 s.frags, .int .i64 s.root] 23) = w8 at *
    have j0 := HS8.out.c0
    have j1 := HS8.out.c1
    have j2 := HS8.out.c2
    have j3 := HS8.out.c3
    have j4 := HS8.out.c4
    have j5 := HS8.out.c5
    have j6 := HS8.out.c6
    have j7 := HS8.out.c7
    have j8 := HS8.out.c8
    have j9 := HS8.out.c9
    have l0 := HS86.out.c0
    have l1 := HS86.out.c1
    have l2 := HS86.out.c2
    have l3 := HS86.out.c3
    have l4 := HS86.out.c4
    have l5 := HS86.out.c5
    have l6 := HS86.out.c6
    have l7 := HS86.out.c7
    have l8 := HS86.out.c8
    have l9 := HS86.out.c9
    go_wp2_with fail
    go_ret
    exact ⟨rfl, HB8.out⟩
end Go.Proofs.Ythfghomnbldmfaa
