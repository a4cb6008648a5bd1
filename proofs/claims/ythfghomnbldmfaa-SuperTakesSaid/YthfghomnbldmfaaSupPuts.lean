/- Walk of SuperPuts: whether a superblock may be is as the document says, and it is written so, or refused. -/
import Derived.Test.YthfghomnbldmfaaRows
import Derived.Test.YthfghomnbldmfaaSupShown
import Derived.Test.YthfghomnbldmfaaSupIn
import Derived.Deep.RegionHeld3
namespace Go.Proofs.Ythfghomnbldmfaa
set_option linter.unusedVariables false
set_option linter.unusedSimpArgs false
open Go.RowKit

/-- What a region of the law's end reads: the superblock's cells, and two rows of the same bytes. -/
def PutsS (w6 : World) (g : Nat) (s : Sup) (A B : Option Addr) (n c d : Nat) (v : ByteArray) (w' : World) : Prop :=
  (w'.cell? ⟨g, 0, none⟩ = some (.int .i64 s.size) ∧ w'.cell? ⟨g, 1, none⟩ = some (.int .i64 s.inodes) ∧ w'.cell? ⟨g, 2, none⟩ = some (.int .i64 s.inodeAt) ∧ w'.cell? ⟨g, 3, none⟩ = some (.int .i64 s.dirAt) ∧ w'.cell? ⟨g, 4, none⟩ = some (.int .i64 s.fragAt) ∧
    w'.cell? ⟨g, 5, none⟩ = some (.int .i64 s.idAt) ∧ w'.cell? ⟨g, 6, none⟩ = some (.int .i64 s.xattrAt) ∧ w'.cell? ⟨g, 7, none⟩ = some (.int .i64 s.ids) ∧ w'.cell? ⟨g, 8, none⟩ = some (.int .i64 s.frags) ∧ w'.cell? ⟨g, 9, none⟩ = some (.int .i64 s.root)) ∧
  ((convert 29 9 (.slice A n c)).run Try.prog w' = .ok (.string v) w' ∧ (convert 29 9 (.slice B n d)).run Try.prog w' = .ok (.string v) w') ∧ Below w6.heap.size w6 w'
theorem puts_s {w6 w' : World} {g : Nat} {s : Sup} {A B : Option Addr} {c d : Nat} {bs : List UInt8} (h : SupAt w6 g s) (ha : Bytes w6 A bs.length bs) (hb : Bytes w6 B bs.length bs) (hw : Below w6.heap.size w6 w') : PutsS w6 g s A B bs.length c d (str bs) w' := by
  have h' := h.below hw
  exact ⟨⟨h'.c0, h'.c1, h'.c2, h'.c3, h'.c4, h'.c5, h'.c6, h'.c7, h'.c8, h'.c9⟩,
    ⟨run_string (P := Try.prog) (ha.below hw) 29 5 9 Try.underlying29 Try.underlying5 Try.underlying9 c,
     run_string (P := Try.prog) (hb.below hw) 29 5 9 Try.underlying29 Try.underlying5 Try.underlying9 d⟩, hw⟩
theorem below_drew4 {B : Nat} {a w : World} (h : Below B a w) : Below B a w.drew := ⟨h.os, h.tape, h.output, h.size, h.block⟩
set_option maxRecDepth 100000 in
set_option maxHeartbeats 2000000 in
theorem superPuts_walk (s : Sup) (w : World) (hs : SupFine s) :
    Calls Try.prog 3 #[.agg (supCells s)] w fun e w' => e = .returned (.bool true) ∧ Below w.heap.size w w' := by
  have hz := (zero_of_info tab_zero).1
  have HS0 := Lib.hid (SupAt.new w s)
  clear hs
  unfold supCells
  go_enter Try.func3, Try.ntmps3
  go_wp2_with fail
  refine (shown_any _).mono ?_
  rintro e w1 ⟨rfl, hb1⟩
  have HS1 := Lib.hid (HS0.out.below (by simpa [supCells] using hb1))
  have HB1 : Hid (Below w.heap.size w w1) := (below_all.alloc (Nat.le_refl _) _).trans (hb1.mono (by simp))
  clear hb1 HS0
  go_wp2_with fail
  refine (newB w1).mono ?_
  rintro e w2 ⟨rfl, hb2⟩
  have HS2 := Lib.hid ((HS1.out.below hb2).below (below_all.alloc (Nat.le_refl _) (.cells tab 27)))
  have HB2 : Hid (Below w.heap.size w (w2.alloc (.cells tab 27))) := (below_then HB1.out hb2).alloc (below_then HB1.out hb2).size _
  have HT2 := Lib.hid (tab_new w2)
  have HL2 : Hid (w2.heap.size < (w2.alloc (.cells tab 27)).heap.size) := by show w2.heap.size < _; simp
  have HP := Lib.hid (put_any w2.heap.size s _ HT2.out HL2.out)
  have k0 := HS2.out.c0
  have k1 := HS2.out.c1
  have k2 := HS2.out.c2
  have k3 := HS2.out.c3
  have k4 := HS2.out.c4
  have k5 := HS2.out.c5
  have k6 := HS2.out.c6
  have k7 := HS2.out.c7
  have k8 := HS2.out.c8
  have k9 := HS2.out.c9
  go_wp2_with (refine wpList_store_whole rfl 27 _ _ rfl w2.heap.size tab rfl rfl 27 (tabTo 0) (heap_alloc_new w2 _) tabSize (by rw [tab, tabTo_size, tabTo_size]) tab_one _ (setRow_last w2 _ _ _) ?_)
  clear hb2 k0 k1 k2 k3 k4 k5 k6 k7 k8 k9 hz HT2
  generalize w2.alloc (.cells tab 27) = w3 at *
  refine HP.out.mono ?_
  rintro r w4 ⟨A4, c4, rfl, hown4, hb4⟩
  have HS4 := Lib.hid (HS2.out.below hb4)
  have HB4 : Hid (Below w.heap.size w w4) := below_then HB2.out hb4
  have HY4 := Lib.hid (bytes_own hown4)
  have k0 := HS4.out.c0
  have k1 := HS4.out.c1
  have k2 := HS4.out.c2
  have k3 := HS4.out.c3
  have k4 := HS4.out.c4
  have k5 := HS4.out.c5
  have k6 := HS4.out.c6
  have k7 := HS4.out.c7
  have k8 := HS4.out.c8
  have k9 := HS4.out.c9
  clear hown4 hb4 HP HS2 HB2 HS1 HB1
  go_wp2_with fail
  refine (refPut_any s w4).mono ?_
  rintro r w5 ⟨A5, c5, rfl, hown5, hb5⟩
  have HS5 := Lib.hid (HS4.out.below hb5)
  have HB5 : Hid (Below w.heap.size w w5) := below_then HB4.out hb5
  have HY5 := Lib.hid (bytes_own hown5)
  have HY45 := Lib.hid (HY4.out.below hb5)
  clear hown5 hb5 k0 k1 k2 k3 k4 k5 k6 k7 k8 k9 HS4 HB4 HY4
  generalize putBs s = bs at *
  generalize putE s = ep at *
  have HSS := Lib.hid fun (w' : World) (h : Below w5.heap.size w5 w') => puts_s (c := c4) (d := c5) HS5.out HY45.out HY5.out h
  have hM := fun (w' : World) (h : PutsS w5 w.heap.size s A4 A5 bs.length c4 c5 (str bs) w') => (may_any s w').mono fun r w'' (k : r = .returned (.bool (supB s)) ∧ Below w'.heap.size w' w'') => (⟨k.1, HSS.out w'' (below_then h.2.2 k.2)⟩ : r = .returned (.bool (supB s)) ∧ PutsS w5 w.heap.size s A4 A5 bs.length c4 c5 (str bs) w'')
  have hR := fun (w' : World) (h : PutsS w5 w.heap.size s A4 A5 bs.length c4 c5 (str bs) w') => (refMay_any s w').mono fun r w'' (k : r = .returned (.bool (supB s)) ∧ Below w'.heap.size w' w'') => (⟨k.1, HSS.out w'' (below_then h.2.2 k.2)⟩ : r = .returned (.bool (supB s)) ∧ PutsS w5 w.heap.size s A4 A5 bs.length c4 c5 (str bs) w'')
  have h5 := HSS.out w5.drew (below_drew4 below_all)
  generalize supB s = bm at *
  unfold PutsS at hM hR h5
  have HM := Lib.hid hM
  have HR := Lib.hid hR
  clear hM hR HSS
  generalize bs.length = n at *
  generalize str bs = v at *
  go_wp2_with fail
  go_region_held3 (fun w' => (w'.cell? ⟨w.heap.size, 0, none⟩ = some (.int .i64 s.size) ∧ w'.cell? ⟨w.heap.size, 1, none⟩ = some (.int .i64 s.inodes) ∧ w'.cell? ⟨w.heap.size, 2, none⟩ = some (.int .i64 s.inodeAt) ∧ w'.cell? ⟨w.heap.size, 3, none⟩ = some (.int .i64 s.dirAt) ∧ w'.cell? ⟨w.heap.size, 4, none⟩ = some (.int .i64 s.fragAt) ∧
    w'.cell? ⟨w.heap.size, 5, none⟩ = some (.int .i64 s.idAt) ∧ w'.cell? ⟨w.heap.size, 6, none⟩ = some (.int .i64 s.xattrAt) ∧ w'.cell? ⟨w.heap.size, 7, none⟩ = some (.int .i64 s.ids) ∧ w'.cell? ⟨w.heap.size, 8, none⟩ = some (.int .i64 s.frags) ∧ w'.cell? ⟨w.heap.size, 9, none⟩ = some (.int .i64 s.root)) ∧
    ((convert 29 9 (.slice A4 n c4)).run Try.prog w' = .ok (.string v) w' ∧ (convert 29 9 (.slice A5 n c5)).run Try.prog w' = .ok (.string v) w') ∧ Below w5.heap.size w5 w')
    (assumption)
    (first
      | (go_at_call 12; refine (HM.out _ (by assumption)).mono ?_; rintro r w7 ⟨rfl, h7⟩)
      | (go_at_call 13; refine (HR.out _ (by assumption)).mono ?_; rintro r w8 ⟨rfl, h8⟩))
  all_goals
    go_wp2_with fail
    go_ret
    first
      | exact ⟨rfl, below_then HB5.out h8.2.2⟩
      | exact ⟨rfl, below_then HB5.out h7.2.2⟩
end Go.Proofs.Ythfghomnbldmfaa
