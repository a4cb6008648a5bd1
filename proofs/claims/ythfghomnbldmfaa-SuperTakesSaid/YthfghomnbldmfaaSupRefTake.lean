/- Walk: the document's Take (lamellaref08). -/
import Derived.Test.YthfghomnbldmfaaRows
import Derived.Test.YthfghomnbldmfaaSupTake
import Derived.Test.YthfghomnbldmfaaSupRefPut
import Derived.Test.YthfghomnbldmfaaSupCut
import Derived.Test.YthfghomnbldmfaaCurRefNum
import Derived.Deep.RegionHeld3
namespace Go.Proofs.Ythfghomnbldmfaa
set_option linter.unusedVariables false
set_option linter.unusedSimpArgs false
open Go.RowKit

theorem RfAt.onlySup {w w' : World} {y gs : Nat} {st : Cur.St} {s : Sup} (h : RfAt w y st) (ho : Only [gs] w w') (hne : y ≠ gs) (hs : SupAt w gs s) : RfAt w' y st := by
  obtain ⟨A, n, c, h1, h2, h3⟩ := h
  exact ⟨A, n, c, h1.only ho (by simpa using hne), h2.only ho (fun b off hA hn => by have := hs.apart h2 b off hA hn; simpa using this), h3⟩
/-- What holds while the document's reader reads a superblock. -/
structure RTakeRel (w : World) (gs y g0 : Nat) (x : Sup × Cur.St) (wr : World) : Prop where
  below : Below w.heap.size w wr
  sup : SupAt wr gs x.1
  rd : RfAt wr y x.2
  res : SupAt wr g0 sup0
  ne : gs ≠ y ∧ g0 ≠ gs ∧ g0 ≠ y ∧ w.heap.size ≤ gs ∧ w.heap.size ≤ y ∧ w.heap.size ≤ g0
  len : x.2.bs.length ≤ 64
section
variable {w wr w5 w' : World} {gs y g0 h : Nat} {x : Sup × Cur.St}
theorem RTakeRel.read {st : Cur.St} (H : RTakeRel w gs y g0 x wr) (ho : Only [y] wr w5) (hr : RfAt w5 y st) (hl : st.bs.length ≤ x.2.bs.length) : RTakeRel w gs y g0 (x.1, st) w5 :=
  ⟨H.below.trans (ho.below (fun k hk => by have := H.ne; simp at hk; omega) H.below.size), H.sup.only ho (by have := H.ne; simp; omega), hr, H.res.only ho (by have := H.ne; simp; omega), H.ne, Nat.le_trans hl H.len⟩
theorem RTakeRel.store (H : RTakeRel w gs y g0 x wr) {p : Nat} (hp : p < 10) (v : Int) : RTakeRel w gs y g0 (supSet x.1 p v, x.2) (wr.setCell ⟨gs, p, none⟩ (.int .i64 v)) := by
  have ho : Only [gs] wr (wr.setCell ⟨gs, p, none⟩ (.int .i64 v)) := (Only.refl _ _).setCell (.inl (by simp)) _
  have hn := H.ne
  exact ⟨H.below.trans (ho.below (fun k hk => by simp at hk; omega) H.below.size), H.sup.set hp v, H.rd.onlySup ho (by omega) H.sup, H.res.only ho (by simp; omega), hn, H.len⟩
theorem rf_step (H : RTakeRel w gs y g0 x wr) (n : Nat) (hn : n ≤ 4) : Calls Try.prog 38 #[.pointer (some ⟨y, 0, none⟩), .int .i64 (n : Nat)] wr fun r w5 =>
    r = .returned (.int .i64 ((Cur.rNum x.2 (n : Nat)).1 : Nat)) ∧ ∀ p, p < 10 → (w5.frozen? ⟨gs, p, none⟩ = false ∧ (∃ v, w5.cell? ⟨gs, p, none⟩ = some v)) ∧ RTakeRel w gs y g0 (rdF (n : Nat) x p) (w5.setCell ⟨gs, p, none⟩ (.int .i64 ((Cur.rNum x.2 (n : Nat)).1 : Nat))) :=
  (rnum_any y x.2 (n : Nat) wr H.rd (by have := H.len; omega) (by omega)).mono fun r w5 h => by
    obtain ⟨h1, h2, h3⟩ := h
    have hR := H.read h3 h2 (rNum_bs _ _)
    exact ⟨h1, fun p hp => ⟨⟨hR.sup.free p, hR.sup.some_ hp⟩, hR.store hp _⟩⟩
end
theorem rtake_start (w : World) (A : Option Addr) (c : Nat) (D : List UInt8) (hb : Bytes w A 60 D) (h1 : 60 ≤ c) (h2 : c ≤ 9223372036854775807) : RTakeRel w (w.heap.size + 1 + 1) (w.heap.size + 1) w.heap.size (sup0, ⟨0, D⟩)
    (((w.alloc (.cells (supCells sup0) 23)).alloc (.cells #[.slice A 60 c, .int .i64 ((0 : Nat) : Int)] 73)).alloc (.cells (supCells sup0) 23)) := by
  have hs1 : (w.alloc (.cells (supCells sup0) 23)).heap.size = w.heap.size + 1 := by simp
  have h3 := Two.new (w.alloc (.cells (supCells sup0) 23)) 73 (.slice A 60 c) (.int .i64 ((0 : Nat) : Int))
  have h4 := SupAt.new ((w.alloc (.cells (supCells sup0) 23)).alloc (.cells #[.slice A 60 c, .int .i64 ((0 : Nat) : Int)] 73)) sup0
  have hs2 : ((w.alloc (.cells (supCells sup0) 23)).alloc (.cells #[.slice A 60 c, .int .i64 ((0 : Nat) : Int)] 73)).heap.size = w.heap.size + 1 + 1 := by simp
  rw [hs1] at h3
  rw [hs2] at h4
  have hl := hb.1
  have b1 : Below w.heap.size w (w.alloc (.cells (supCells sup0) 23)) := below_all.alloc (Nat.le_refl _) _
  have b2 := b1.alloc b1.size (.cells #[.slice A 60 c, .int .i64 ((0 : Nat) : Int)] 73)
  have b3 := b2.alloc b2.size (.cells (supCells sup0) 23)
  refine ⟨b3, h4, ⟨A, 60, c, h3.alloc _, hb.below b3, h1, h2⟩, ?_, ⟨by omega, by omega, by omega, by omega, by omega, Nat.le_refl _⟩, by simp only; omega⟩
  exact ((SupAt.new w sup0).below (below_all.alloc (Nat.le_refl _) _)).below (below_all.alloc (Nat.le_refl _) _)
theorem bad_put2 {s : Sup} (h : supB s = false) : putBs s = [] ∧ putE s = 1 := by unfold putBs putE; rw [h]; exact ⟨rfl, rfl⟩
theorem str_ne {a b : List UInt8} (h : a ≠ b) : ¬ (str a).toList = (str b).toList := by rw [str_toList, str_toList]; exact h
set_option maxRecDepth 100000 in
set_option maxHeartbeats 4000000 in
theorem refTake_any (A : Option Addr) (n c : Nat) (bs : List UInt8) (w : World) (hb : Bytes w A n bs) (hnc : n ≤ c) (hcm : c ≤ 9223372036854775807) :
    Calls Try.prog 15 #[.slice A n c] w fun r w' => r = .returned (.tuple #[.agg (supCells (takeS bs)), .int .i64 (takeE bs : Nat)]) ∧ Below w.heap.size w w' := by
  have HB := Lib.hid hb
  have hlen := hb.1
  clear hb
  by_cases h64 : n < 64
  · have HBAD : Hid (¬ tkOk bs) := fun h => by have := h.1; omega
    have h64i : (n : Int) < 64 := by omega
    clear hlen h64
    have HR0 := Lib.hid (SupAt.new w sup0)
    go_enter Try.func15, Try.ntmps15
    go_wp2_with fail
    refine bodyPost_ret (results_cell_tmp_row rfl _ _ w.heap.size 23 (supCells sup0) (0, 0) _ rfl HR0.out Try.underlying23 rfl (supSize sup0)) rfl ?_
    rw [(take_bad HBAD.out).1, (take_bad HBAD.out).2]
    exact ⟨rfl, below_all.alloc (Nat.le_refl _) _⟩
  · have h64l : 64 ≤ bs.length := by omega
    have hge : (64 : Int) ≤ (n : Int) := by omega
    have hc64 : (64 : Int) ≤ (c : Int) := by omega
    have HSt := Lib.hid (show tkSt bs = ⟨0, (bs.take 64).drop 4⟩ from by unfold tkSt; rw [tkSt_long bs h64l])
    have HX : Hid (∀ x1 x2 x3 x4 x5 x6 x7 x8 x9 x10, rdF ((4 : Nat) : Int) (sup0, ⟨0, (bs.take 64).drop 4⟩) 0 = x1 → rdF ((4 : Nat) : Int) x1 2 = x2 → rdF ((4 : Nat) : Int) x2 3 = x3 → rdF ((4 : Nat) : Int) x3 4 = x4 → rdF ((4 : Nat) : Int) x4 5 = x5 → rdF ((4 : Nat) : Int) x5 6 = x6 → rdF ((4 : Nat) : Int) x6 9 = x7 → rdF ((2 : Nat) : Int) x7 1 = x8 → rdF ((2 : Nat) : Int) x8 7 = x9 → rdF ((2 : Nat) : Int) x9 8 = x10 → tkN bs = x10) := by
      intro x1 x2 x3 x4 x5 x6 x7 x8 x9 x10 h1 h2 h3 h4 h5 h6 h7 h8 h9 h10
      rw [show ((4 : Nat) : Int) = 4 from rfl] at h1 h2 h3 h4 h5 h6 h7
      rw [show ((2 : Nat) : Int) = 2 from rfl] at h8 h9 h10
      unfold tkN tkW
      rw [HSt.out]
      unfold rds widePs narrowPs
      simp only [List.foldl_cons, List.foldl_nil]
      rw [h1, h2, h3, h4, h5, h6, h7, h8, h9, h10]
    obtain ⟨b, off, rfl, h60⟩ := (HB.out.take (show 64 ≤ n by omega)).drop (k := 4) (by omega)
    have HR0 := Lib.hid (rtake_start w _ (c - 4) _ h60 (by omega) (by omega))
    clear h60
    generalize hD : (bs.take 64).drop 4 = D at *
    clear hD
    have HLEN := Lib.hid hlen
    have H64 := Lib.hid h64l
    clear hlen h64 HSt h64l
    go_enter Try.func15, Try.ntmps15
    go_upto_region 5 with fail
    have HR1 : Hid (RTakeRel w (w.heap.size + 1 + 1) (w.heap.size + 1) w.heap.size (sup0, ⟨0, D⟩) (((w.alloc (.cells #[.int .i64 0, .int .i64 0, .int .i64 0, .int .i64 0, .int .i64 0, .int .i64 0, .int .i64 0, .int .i64 0, .int .i64 0, .int .i64 0] 23)).alloc (.cells #[.slice (some ⟨b, off + 4, none⟩) 60 (c - 4), .int .i64 0] 73)).alloc (.cells #[.int .i64 0, .int .i64 0, .int .i64 0, .int .i64 0, .int .i64 0, .int .i64 0, .int .i64 0, .int .i64 0, .int .i64 0, .int .i64 0] 23))) := HR0.out
    clear HR0
    generalize ((w.alloc (.cells #[.int .i64 0, .int .i64 0, .int .i64 0, .int .i64 0, .int .i64 0, .int .i64 0, .int .i64 0, .int .i64 0, .int .i64 0, .int .i64 0] 23)).alloc (.cells #[.slice (some ⟨b, off + 4, none⟩) 60 (c - 4), .int .i64 0] 73)).alloc (.cells #[.int .i64 0, .int .i64 0, .int .i64 0, .int .i64 0, .int .i64 0, .int .i64 0, .int .i64 0, .int .i64 0, .int .i64 0, .int .i64 0] 23) = v0 at *
    generalize hgs : w.heap.size + 1 + 1 = gs at *
    generalize hgy : w.heap.size + 1 = y at *
    clear hgs hgy
    obtain ⟨x0, hx0⟩ : ∃ x0 : Sup × Cur.St, (sup0, ⟨0, D⟩) = x0 := ⟨_, rfl⟩
    rw [hx0] at HR1 HX
    clear hx0
    obtain ⟨x1, hx1⟩ : ∃ x, rdF ((4 : Nat) : Int) x0 0 = x := ⟨_, rfl⟩
    have HE1 := Lib.hid hx1
    clear hx1
    go_wp2_with fail
    refine (rf_step HR1.out 4 (by omega)).mono ?_
    rintro r w1 ⟨rfl, hk⟩
    obtain ⟨⟨hf, vv, hc⟩, hR⟩ := hk 0 (by omega)
    rw [HE1.out] at hR
    have HRn := Lib.hid hR
    clear hk hR HR1
    go_upto_region 6 with fail
    clear hf hc
    generalize w1.setCell ⟨gs, 0, none⟩ (.int .i64 ((Cur.rNum x0.2 ((4 : Nat) : Int)).1 : Nat)) = v1 at *
    have HR1 := Lib.hid HRn.out
    clear HRn
    obtain ⟨x2, hx2⟩ : ∃ x, rdF ((4 : Nat) : Int) x1 2 = x := ⟨_, rfl⟩
    have HE2 := Lib.hid hx2
    clear hx2
    go_wp2_with fail
    refine (rf_step HR1.out 4 (by omega)).mono ?_
    rintro r w2 ⟨rfl, hk⟩
    obtain ⟨⟨hf, vv, hc⟩, hR⟩ := hk 2 (by omega)
    rw [HE2.out] at hR
    have HRn := Lib.hid hR
    clear hk hR HR1
    go_upto_region 7 with fail
    clear hf hc
    generalize w2.setCell ⟨gs, 2, none⟩ (.int .i64 ((Cur.rNum x1.2 ((4 : Nat) : Int)).1 : Nat)) = v2 at *
    have HR1 := Lib.hid HRn.out
    clear HRn
    obtain ⟨x3, hx3⟩ : ∃ x, rdF ((4 : Nat) : Int) x2 3 = x := ⟨_, rfl⟩
    have HE3 := Lib.hid hx3
    clear hx3
    go_wp2_with fail
    refine (rf_step HR1.out 4 (by omega)).mono ?_
    rintro r w3 ⟨rfl, hk⟩
    obtain ⟨⟨hf, vv, hc⟩, hR⟩ := hk 3 (by omega)
    rw [HE3.out] at hR
    have HRn := Lib.hid hR
    clear hk hR HR1
    go_upto_region 8 with fail
    clear hf hc
    generalize w3.setCell ⟨gs, 3, none⟩ (.int .i64 ((Cur.rNum x2.2 ((4 : Nat) : Int)).1 : Nat)) = v3 at *
    have HR1 := Lib.hid HRn.out
    clear HRn
    obtain ⟨x4, hx4⟩ : ∃ x, rdF ((4 : Nat) : Int) x3 4 = x := ⟨_, rfl⟩
    have HE4 := Lib.hid hx4
    clear hx4
    go_wp2_with fail
    refine (rf_step HR1.out 4 (by omega)).mono ?_
    rintro r w4 ⟨rfl, hk⟩
    obtain ⟨⟨hf, vv, hc⟩, hR⟩ := hk 4 (by omega)
    rw [HE4.out] at hR
    have HRn := Lib.hid hR
    clear hk hR HR1
    go_upto_region 9 with fail
    clear hf hc
    generalize w4.setCell ⟨gs, 4, none⟩ (.int .i64 ((Cur.rNum x3.2 ((4 : Nat) : Int)).1 : Nat)) = v4 at *
    have HR1 := Lib.hid HRn.out
    clear HRn
    obtain ⟨x5, hx5⟩ : ∃ x, rdF ((4 : Nat) : Int) x4 5 = x := ⟨_, rfl⟩
    have HE5 := Lib.hid hx5
    clear hx5
    go_wp2_with fail
    refine (rf_step HR1.out 4 (by omega)).mono ?_
    rintro r w5 ⟨rfl, hk⟩
    obtain ⟨⟨hf, vv, hc⟩, hR⟩ := hk 5 (by omega)
    rw [HE5.out] at hR
    have HRn := Lib.hid hR
    clear hk hR HR1
    go_upto_region 10 with fail
    clear hf hc
    generalize w5.setCell ⟨gs, 5, none⟩ (.int .i64 ((Cur.rNum x4.2 ((4 : Nat) : Int)).1 : Nat)) = v5 at *
    have HR1 := Lib.hid HRn.out
    clear HRn
    obtain ⟨x6, hx6⟩ : ∃ x, rdF ((4 : Nat) : Int) x5 6 = x := ⟨_, rfl⟩
    have HE6 := Lib.hid hx6
    clear hx6
    go_wp2_with fail
    refine (rf_step HR1.out 4 (by omega)).mono ?_
    rintro r w6 ⟨rfl, hk⟩
    obtain ⟨⟨hf, vv, hc⟩, hR⟩ := hk 6 (by omega)
    rw [HE6.out] at hR
    have HRn := Lib.hid hR
    clear hk hR HR1
    go_upto_region 11 with fail
    clear hf hc
    generalize w6.setCell ⟨gs, 6, none⟩ (.int .i64 ((Cur.rNum x5.2 ((4 : Nat) : Int)).1 : Nat)) = v6 at *
    have HR1 := Lib.hid HRn.out
    clear HRn
    obtain ⟨x7, hx7⟩ : ∃ x, rdF ((4 : Nat) : Int) x6 9 = x := ⟨_, rfl⟩
    have HE7 := Lib.hid hx7
    clear hx7
    go_wp2_with fail
    refine (rf_step HR1.out 4 (by omega)).mono ?_
    rintro r w7 ⟨rfl, hk⟩
    obtain ⟨⟨hf, vv, hc⟩, hR⟩ := hk 9 (by omega)
    rw [HE7.out] at hR
    have HRn := Lib.hid hR
    clear hk hR HR1
    go_upto_region 12 with fail
    clear hf hc
    generalize w7.setCell ⟨gs, 9, none⟩ (.int .i64 ((Cur.rNum x6.2 ((4 : Nat) : Int)).1 : Nat)) = v7 at *
    have HR1 := Lib.hid HRn.out
    clear HRn
    obtain ⟨x8, hx8⟩ : ∃ x, rdF ((2 : Nat) : Int) x7 1 = x := ⟨_, rfl⟩
    have HE8 := Lib.hid hx8
    clear hx8
    go_wp2_with fail
    refine (rf_step HR1.out 2 (by omega)).mono ?_
    rintro r w8 ⟨rfl, hk⟩
    obtain ⟨⟨hf, vv, hc⟩, hR⟩ := hk 1 (by omega)
    rw [HE8.out] at hR
    have HRn := Lib.hid hR
    clear hk hR HR1
    go_upto_region 13 with fail
    clear hf hc
    generalize w8.setCell ⟨gs, 1, none⟩ (.int .i64 ((Cur.rNum x7.2 ((2 : Nat) : Int)).1 : Nat)) = v8 at *
    have HR1 := Lib.hid HRn.out
    clear HRn
    obtain ⟨x9, hx9⟩ : ∃ x, rdF ((2 : Nat) : Int) x8 7 = x := ⟨_, rfl⟩
    have HE9 := Lib.hid hx9
    clear hx9
    go_wp2_with fail
    refine (rf_step HR1.out 2 (by omega)).mono ?_
    rintro r w9 ⟨rfl, hk⟩
    obtain ⟨⟨hf, vv, hc⟩, hR⟩ := hk 7 (by omega)
    rw [HE9.out] at hR
    have HRn := Lib.hid hR
    clear hk hR HR1
    go_upto_region 14 with fail
    clear hf hc
    generalize w9.setCell ⟨gs, 7, none⟩ (.int .i64 ((Cur.rNum x8.2 ((2 : Nat) : Int)).1 : Nat)) = v9 at *
    have HR1 := Lib.hid HRn.out
    clear HRn
    obtain ⟨x10, hx10⟩ : ∃ x, rdF ((2 : Nat) : Int) x9 8 = x := ⟨_, rfl⟩
    have HE10 := Lib.hid hx10
    clear hx10
    go_wp2_with fail
    refine (rf_step HR1.out 2 (by omega)).mono ?_
    rintro r w10 ⟨rfl, hk⟩
    obtain ⟨⟨hf, vv, hc⟩, hR⟩ := hk 8 (by omega)
    rw [HE10.out] at hR
    have HRn := Lib.hid hR
    clear hk hR HR1
    go_upto_region 15 with fail
    clear hf hc
    generalize w10.setCell ⟨gs, 8, none⟩ (.int .i64 ((Cur.rNum x9.2 ((2 : Nat) : Int)).1 : Nat)) = v10 at *
    have HR1 := Lib.hid HRn.out
    clear HRn
    have HXN := Lib.hid (HX.out x1 x2 x3 x4 x5 x6 x7 x8 x9 x10 HE1.out HE2.out HE3.out HE4.out HE5.out HE6.out HE7.out HE8.out HE9.out HE10.out)
    clear HX HE1 HE2 HE3 HE4 HE5 HE6 HE7 HE8 HE9 HE10
    have c0 := HR1.out.sup.c0
    have c1 := HR1.out.sup.c1
    have c2 := HR1.out.sup.c2
    have c3 := HR1.out.sup.c3
    have c4 := HR1.out.sup.c4
    have c5 := HR1.out.sup.c5
    have c6 := HR1.out.sup.c6
    have c7 := HR1.out.sup.c7
    have c8 := HR1.out.sup.c8
    have c9 := HR1.out.sup.c9
    go_wp2_with fail
    clear c0 c1 c2 c3 c4 c5 c6 c7 c8 c9
    obtain ⟨bm, hbm⟩ : ∃ bm, supB x10.1 = bm := ⟨_, rfl⟩
    have HPut := Lib.hid (refPut_any x10.1 v10)
    cases bm
    · obtain ⟨p1, p2⟩ := bad_put2 hbm
      rw [p1, p2] at HPut
      have HBAD : Hid (¬ tkOk bs) := fun h => by have := h.2.2.2.2.1; rw [HXN.out, hbm] at this; cases this
      clear hbm p1 p2
      refine HPut.out.mono ?_
      rintro r w11 ⟨A11, c11, rfl, hown11, hb11⟩
      have HRES : Hid (SupAt w11.drew w.heap.size sup0) := HR1.out.res.below (below_drew4 hb11)
      have HSUP : Hid (SupAt w11.drew gs x10.1) := HR1.out.sup.below (below_drew4 hb11)
      have HBL : Hid (Below w.heap.size w w11.drew) := below_drew4 (below_then HR1.out.below hb11)
      clear hown11 hb11 HPut HR1
      go_wp2_with fail
      go_quiet (fail)
      have HRES2 := Lib.hid (HRES.out.drewN nq)
      have HBL2 := Lib.hid (belowN HBL.out nq)
      clear HRES HBL
      have HRES : Hid (SupAt (w11.drewN nq) w.heap.size sup0) := HRES2.out
      have HBL : Hid (Below w.heap.size w (w11.drewN nq)) := (⟨HBL2.out.os, HBL2.out.tape, HBL2.out.output, HBL2.out.size, HBL2.out.block⟩ : Below w.heap.size w (w11.drewN nq))
      go_upto_region 17 with fail
      refine wp_region_lit ?_
      refine wpList_buildTo rfl 23 _ rfl _ rfl (supCells sup0) (by kernel_rfl) ?_
      refine wpList_store_whole rfl 23 _ _ rfl w.heap.size (supCells sup0) rfl rfl 23 (supCells sup0) HRES.out (supSize sup0) rfl (supOne sup0) _ (setRow_self _ _ _ _ _ HRES.out) ?_
      go_wp2_with fail
      refine bodyPost_ret (results_cell_tmp_row rfl _ _ w.heap.size 23 (supCells sup0) (0, 0) _ rfl HRES.out Try.underlying23 rfl (supSize sup0)) rfl ?_
      rw [(take_bad HBAD.out).1, (take_bad HBAD.out).2]
      exact ⟨rfl, HBL.out⟩
    · obtain ⟨p1, p2⟩ := put_good hbm
      rw [p1, p2] at HPut
      have HBM := Lib.hid hbm
      clear hbm p1 p2
      refine HPut.out.mono ?_
      rintro r w11 ⟨A11, c11, rfl, hown11, hb11⟩
      have HRES : Hid (SupAt w11.drew w.heap.size sup0) := HR1.out.res.below (below_drew4 hb11)
      have HSUP : Hid (SupAt w11.drew gs x10.1) := HR1.out.sup.below (below_drew4 hb11)
      have HBL : Hid (Below w.heap.size w w11.drew) := below_drew4 (below_then HR1.out.below hb11)
      have hel := enc_length x10.1
      rw [hel] at hown11 ⊢
      have hX := bytes_own hown11
      have hY := (HB.out.take (show 64 ≤ n by omega)).below (below_then HR1.out.below hb11)
      have v1 := run_string (P := Try.prog) (show Bytes w11.drew _ _ _ from hX) 29 5 9 Try.underlying29 Try.underlying5 Try.underlying9 c11
      have v2 := run_string (P := Try.prog) (show Bytes w11.drew _ _ _ from hY) 29 5 9 Try.underlying29 Try.underlying5 Try.underlying9 c
      have V1 := Lib.hid fun n => run_string (P := Try.prog) (hX.drewN n) 29 5 9 Try.underlying29 Try.underlying5 Try.underlying9 c11
      have V2 := Lib.hid fun n => run_string (P := Try.prog) (hY.drewN n) 29 5 9 Try.underlying29 Try.underlying5 Try.underlying9 c
      clear hX hY hown11 hb11 HPut HR1 hel
      have hdoc : tkOk bs ↔ enc x10.1 = bs.take 64 ∧ x10.1.size = bs.length := by
        rw [tkOk_iff]
        unfold docOk
        rw [← tkN_dec bs H64.out, HXN.out]
        exact ⟨fun h => ⟨h.2.2.1, h.2.2.2⟩, fun h => ⟨H64.out, HBM.out, h.1, h.2⟩⟩
      by_cases he : enc x10.1 = bs.take 64
      · rw [he] at v1
        have c0 := HSUP.out.c0
        generalize str (bs.take 64) = vv2 at *
        by_cases hsz : x10.1.size = (bs.length : Nat)
        · have HOK : Hid (tkOk bs) := hdoc.2 ⟨he, hsz⟩
          rw [HLEN.out] at hsz
          have hsz2 : (x10.1.size != (n : Int)) = false := by rw [hsz]; simp
          have HTS : Hid (takeS bs = x10.1) := by show takeS bs = x10.1; unfold takeS; rw [if_pos HOK.out, HXN.out]
          have HTE : Hid (takeE bs = 0) := by show takeE bs = 0; unfold takeE; rw [if_pos HOK.out]
          clear hdoc he hsz
          go_wp2_with fail
          go_region_held3 (fun w' => ((convert 29 9 (.slice A11 64 c11)).run Try.prog w' = .ok (.string vv2) w' ∧ (convert 29 9 (.slice (some ⟨b, off, none⟩) 64 c)).run Try.prog w' = .ok (.string vv2) w') ∧ w'.cell? ⟨gs, 0, none⟩ = some (.int .i64 x10.1.size)) (first | exact ⟨⟨v1, v2⟩, c0⟩ | assumption) (fail)
          all_goals
            go_upto_region 18 with fail
            refine wp_region_lit ?_
            refine wpList_load_row rfl 23 _ rfl gs rfl 23 (supCells x10.1) (0, 0) _ HSUP.out Try.underlying23 rfl (supSize x10.1) ?_
            refine wpList_store_whole rfl 23 _ _ rfl w.heap.size (supCells x10.1) rfl rfl 23 (supCells sup0) HRES.out (supSize x10.1) rfl (supOne x10.1) _ rfl ?_
            have HF : Hid (SupAt (w11.drew.setRow w.heap.size (supCells x10.1)) w.heap.size x10.1) := setRow_heap w11.drew w.heap.size _ _ _ _ HRES.out
            have HBF : Hid (Below w.heap.size w (w11.drew.setRow w.heap.size (supCells x10.1))) := below_row HBL.out (Nat.le_refl _) _
            generalize w11.drew.setRow w.heap.size (supCells x10.1) = wF at *
            go_wp2_with fail
            refine bodyPost_ret (results_cell_tmp_row rfl _ _ w.heap.size 23 (supCells x10.1) (0, 0) _ rfl HF.out Try.underlying23 rfl (supSize x10.1)) rfl ?_
            rw [HTS.out, HTE.out]
            exact ⟨rfl, HBF.out⟩
        · have HBAD : Hid (¬ tkOk bs) := fun h => hsz (hdoc.1 h).2
          rw [HLEN.out] at hsz
          have hsz2 : (x10.1.size != (n : Int)) = true := by rw [bne_iff_ne]; exact hsz
          clear hdoc he hsz
          go_wp2_with fail
          go_region_held3 (fun w' => ((convert 29 9 (.slice A11 64 c11)).run Try.prog w' = .ok (.string vv2) w' ∧ (convert 29 9 (.slice (some ⟨b, off, none⟩) 64 c)).run Try.prog w' = .ok (.string vv2) w') ∧ w'.cell? ⟨gs, 0, none⟩ = some (.int .i64 x10.1.size)) (first | exact ⟨⟨v1, v2⟩, c0⟩ | assumption) (fail)
          all_goals
            go_upto_region 17 with fail
            refine wp_region_lit ?_
            refine wpList_buildTo rfl 23 _ rfl _ rfl (supCells sup0) (by kernel_rfl) ?_
            refine wpList_store_whole rfl 23 _ _ rfl w.heap.size (supCells sup0) rfl rfl 23 (supCells sup0) HRES.out (supSize sup0) rfl (supOne sup0) _ (setRow_self _ _ _ _ _ HRES.out) ?_
            go_wp2_with fail
            refine bodyPost_ret (results_cell_tmp_row rfl _ _ w.heap.size 23 (supCells sup0) (0, 0) _ rfl HRES.out Try.underlying23 rfl (supSize sup0)) rfl ?_
            rw [(take_bad HBAD.out).1, (take_bad HBAD.out).2]
            exact ⟨rfl, HBL.out⟩
      · have HBAD : Hid (¬ tkOk bs) := fun h => he (hdoc.1 h).1
        have v1 := fun n => V1.out n
        have v2 := fun n => V2.out n
        have hne := beq_eq_false_iff_ne.2 (str_ne he)
        generalize str (enc x10.1) = vv1 at *
        generalize str (bs.take 64) = vv2 at *
        clear hdoc he
        go_wp2_with fail
        go_quiet (fail)
        have HRES2 := Lib.hid (HRES.out.drewN nq)
        have HBL2 := Lib.hid (belowN HBL.out nq)
        clear HRES HBL
        have HRES : Hid (SupAt (w11.drewN nq) w.heap.size sup0) := HRES2.out
        have HBL : Hid (Below w.heap.size w (w11.drewN nq)) := (⟨HBL2.out.os, HBL2.out.tape, HBL2.out.output, HBL2.out.size, HBL2.out.block⟩ : Below w.heap.size w (w11.drewN nq))
        go_upto_region 17 with fail
        refine wp_region_lit ?_
        refine wpList_buildTo rfl 23 _ rfl _ rfl (supCells sup0) (by kernel_rfl) ?_
        refine wpList_store_whole rfl 23 _ _ rfl w.heap.size (supCells sup0) rfl rfl 23 (supCells sup0) HRES.out (supSize sup0) rfl (supOne sup0) _ (setRow_self _ _ _ _ _ HRES.out) ?_
        go_wp2_with fail
        refine bodyPost_ret (results_cell_tmp_row rfl _ _ w.heap.size 23 (supCells sup0) (0, 0) _ rfl HRES.out Try.underlying23 rfl (supSize sup0)) rfl ?_
        rw [(take_bad HBAD.out).1, (take_bad HBAD.out).2]
        exact ⟨rfl, HBL.out⟩
end Go.Proofs.Ythfghomnbldmfaa
