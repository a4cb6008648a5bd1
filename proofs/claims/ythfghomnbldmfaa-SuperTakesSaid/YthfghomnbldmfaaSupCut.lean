/- Walk of SuperCut: what is shorter than a superblock has none; one that is read is one that may be. -/
import Derived.Test.YthfghomnbldmfaaRows
import Derived.Test.YthfghomnbldmfaaSupShown
import Derived.Test.YthfghomnbldmfaaSupLaw
import Derived.Test.YthfghomnbldmfaaSupPuts
import Derived.Deep.RegionHeld3
namespace Go.Proofs.Ythfghomnbldmfaa
set_option linter.unusedVariables false
set_option linter.unusedSimpArgs false
open Go.RowKit

theorem take_good {bs : List UInt8} (h : tkOk bs) : takeE bs = 0 ∧ 64 ≤ bs.length ∧ supB (takeS bs) = true ∧ enc (takeS bs) = bs.take 64 ∧ (takeS bs).size = bs.length := by
  obtain ⟨h1, h2, h3, h4⟩ := (tkOk_iff bs).1 h
  have hs : takeS bs = decS (bs.take 64) := by unfold takeS; rw [if_pos h, tkN_dec bs h1]
  rw [hs]
  exact ⟨by unfold takeE; rw [if_pos h], h1, h2, h3, h4⟩
theorem put_good {s : Sup} (h : supB s = true) : putBs s = enc s ∧ putE s = 0 := by unfold putBs putE; rw [h]; exact ⟨rfl, rfl⟩
theorem puts_sn {w6 w' : World} {g n : Nat} {s : Sup} {A B : Option Addr} {c d : Nat} {bs : List UInt8} (h : SupAt w6 g s) (ha : Bytes w6 A n bs) (hb : Bytes w6 B n bs) (hw : Below w6.heap.size w6 w') : PutsS w6 g s A B n c d (str bs) w' := by
  have h' := h.below hw
  exact ⟨⟨h'.c0, h'.c1, h'.c2, h'.c3, h'.c4, h'.c5, h'.c6, h'.c7, h'.c8, h'.c9⟩,
    ⟨run_string (P := Try.prog) (ha.below hw) 29 5 9 Try.underlying29 Try.underlying5 Try.underlying9 c,
     run_string (P := Try.prog) (hb.below hw) 29 5 9 Try.underlying29 Try.underlying5 Try.underlying9 d⟩, hw⟩
set_option maxRecDepth 100000 in
set_option maxHeartbeats 2000000 in
theorem superCut_walk (A : Option Addr) (n c : Nat) (bs : List UInt8) (w : World) (h : Bytes w A n bs ∧ n ≤ c ∧ c ≤ maxLen) :
    Calls Try.prog 7 #[.slice A n c] w fun e w' => e = .returned (.bool true) ∧ Below w.heap.size w w' := by
  obtain ⟨hb, hnc, hcm⟩ := h
  have hcm : c ≤ 9223372036854775807 := by simpa [maxLen] using hcm
  have hz := (zero_of_info tab_zero).1
  obtain ⟨m, hm⟩ : ∃ m, m = min n 2000 := ⟨_, rfl⟩
  have hbm := hb.take (show m ≤ n by omega)
  generalize bs.take m = ds at *
  have HB := Lib.hid hbm
  clear hb hbm
  rcases (show (m = n ∧ n ≤ 2000) ∨ (m = 2000 ∧ 2000 < n) by omega) with ⟨rfl, hlt⟩ | ⟨rfl, hlt⟩
  all_goals
    clear hm
    go_enter Try.func7, Try.ntmps7
    go_wp2_with fail
    refine (shown_any _).mono ?_
    rintro e w1 ⟨rfl, hb1⟩
    have HB1 := Lib.hid hb1
    clear hb1
    go_wp2_with fail
    refine (newB w1).mono ?_
    rintro e w2 ⟨rfl, hb2⟩
    have HB2 : Hid (Below w.heap.size w (w2.alloc (.cells tab 27))) := (below_then HB1.out hb2).alloc (below_then HB1.out hb2).size _
    have HT2 := Lib.hid (tab_new w2)
    have HL2 : Hid (w2.heap.size < (w2.alloc (.cells tab 27)).heap.size) := by show w2.heap.size < _; simp
    go_wp2_with (refine wpList_store_whole rfl 27 _ _ rfl w2.heap.size tab rfl rfl 27 (tabTo 0) (heap_alloc_new w2 _) tabSize (by rw [tab, tabTo_size, tabTo_size]) tab_one _ (setRow_last w2 _ _ _) ?_)
    clear hb2 hz HB1
    generalize w2.alloc (.cells tab 27) = w3 at *
    have HTk := Lib.hid (take_any w2.heap.size A _ c ds w3 HT2.out HL2.out (HB.out.below HB2.out) (by omega) hcm)
    by_cases hok : tkOk ds
    · obtain ⟨q1, q2, q3, q4, q5⟩ := take_good hok
      generalize takeS ds = s at *
      have HS5 := Lib.hid q5
      obtain ⟨p1, p2⟩ := put_good q3
      have hlen := HB.out.1
      have HPut := Lib.hid fun w' => put_any w2.heap.size s w'
      rw [p1, p2] at HPut
      rw [q1] at HTk
      unfold supCells at HTk
      rw [hlen] at q2 q5
      have hcut : (64 : Int) ≤ (c : Int) := by omega
      have hge : (64 : Int) ≤ (((_ : Nat)) : Int) := Int.ofNat_le.2 q2
      have H64 := Lib.hid (HB.out.take q2)
      have HQ4 := Lib.hid q4
      have hsz : (s.size == (((_ : Nat)) : Int)) = true := beq_iff_eq.2 q5
      try push_cast at hsz hge
      have HM := Lib.hid (may_any s)
      rw [q3] at HM
      clear hok q1 q2 q3 q4 q5 p1 p2 hlen
      refine HTk.out.mono ?_
      rintro r w4 ⟨rfl, hb4⟩
      have HS4 := Lib.hid (SupAt.new w4 s)
      have hb4' := below_then HB2.out hb4
      have HB4 : Hid (Below w.heap.size w (w4.alloc (.cells (supCells s) 23))) := hb4'.alloc hb4'.size _
      have HT4 := Lib.hid (tab_below (tab_below HT2.out HL2.out hb4) (Nat.lt_of_lt_of_le HL2.out hb4.size) (below_all.alloc (Nat.le_refl _) (.cells (supCells s) 23)))
      have HL4 : Hid (w2.heap.size < (w4.alloc (.cells (supCells s) 23)).heap.size) := by show w2.heap.size < _; have h1 := HL2.out; have h2 := hb4.size; simp; omega
      clear hb4 hb4'
      go_wp2_with fail
      refine (HPut.out _ HT4.out HL4.out).mono ?_
      rintro r w5 ⟨A5, c5, rfl, hown5, hb5⟩
      have HS5' := Lib.hid (HS4.out.below hb5)
      have HB5 : Hid (Below w.heap.size w w5) := below_then HB4.out hb5
      have HX5 : Hid (Bytes w5 A5 64 (ds.take 64)) := by have := bytes_own hown5; rw [enc_length, HQ4.out] at this; exact this
      have HY5 := Lib.hid (H64.out.below HB5.out)
      clear hown5 hb5 HS4 HB4 HT4 HL4 HPut H64 HQ4 HTk
      rw [enc_length]
      have HSS := Lib.hid fun (w' : World) (h : Below w5.heap.size w5 w') => puts_sn (c := c5) (d := c) HS5'.out HX5.out HY5.out h
      have hM := fun (w' : World) (h : PutsS w5 w4.heap.size s A5 A 64 c5 c (str (ds.take 64)) w') => (HM.out w').mono fun r w'' (k : r = .returned (.bool true) ∧ Below w'.heap.size w' w'') => (⟨k.1, HSS.out w'' (below_then h.2.2 k.2)⟩ : r = .returned (.bool true) ∧ PutsS w5 w4.heap.size s A5 A 64 c5 c (str (ds.take 64)) w'')
      have h5 := HSS.out w5.drew (below_drew4 below_all)
      unfold PutsS at hM h5
      have HMM := Lib.hid hM
      clear hM HSS HM
      generalize str (ds.take 64) = v at *
      go_wp2_with fail
      go_region_held3 (fun w' => (w'.cell? ⟨w4.heap.size, 0, none⟩ = some (.int .i64 s.size) ∧ w'.cell? ⟨w4.heap.size, 1, none⟩ = some (.int .i64 s.inodes) ∧ w'.cell? ⟨w4.heap.size, 2, none⟩ = some (.int .i64 s.inodeAt) ∧ w'.cell? ⟨w4.heap.size, 3, none⟩ = some (.int .i64 s.dirAt) ∧ w'.cell? ⟨w4.heap.size, 4, none⟩ = some (.int .i64 s.fragAt) ∧
        w'.cell? ⟨w4.heap.size, 5, none⟩ = some (.int .i64 s.idAt) ∧ w'.cell? ⟨w4.heap.size, 6, none⟩ = some (.int .i64 s.xattrAt) ∧ w'.cell? ⟨w4.heap.size, 7, none⟩ = some (.int .i64 s.ids) ∧ w'.cell? ⟨w4.heap.size, 8, none⟩ = some (.int .i64 s.frags) ∧ w'.cell? ⟨w4.heap.size, 9, none⟩ = some (.int .i64 s.root)) ∧
        ((convert 29 9 (.slice A5 64 c5)).run Try.prog w' = .ok (.string v) w' ∧ (convert 29 9 (.slice A 64 c)).run Try.prog w' = .ok (.string v) w') ∧ Below w5.heap.size w5 w')
        (assumption)
        (first
          | (go_at_call 12; refine (HMM.out _ (by assumption)).mono ?_; rintro r w7 ⟨rfl, h7⟩))
      all_goals
        go_wp2_with fail
        go_ret
        exact ⟨rfl, below_then HB5.out h7.2.2⟩
    · obtain ⟨q1, q2⟩ := take_bad hok
      rw [q1, q2] at HTk
      unfold supCells sup0 at HTk
      clear hok q1 q2
      refine HTk.out.mono ?_
      rintro r w4 ⟨rfl, hb4⟩
      have HB4 : Hid (Below w.heap.size w w4) := below_then HB2.out hb4
      clear hb4
      go_wp2_with fail
      go_ret
      exact ⟨rfl, HB4.out.alloc HB4.out.size _⟩
end Go.Proofs.Ythfghomnbldmfaa
