/- Walks of chapter 8's small functions: whether a superblock may be; and the document's own answer. -/
import Derived.Test.YthfghomnbldmfaaRows
import Derived.Test.YthfghomnbldmfaaOnly
import Derived.WalkKit
import Derived.WalkSpells
import Derived.WalkLawsBesides
import Derived.Lib.Hide
import Derived.Deep.QuietTactic
import Derived.BigQuiet
import Derived.IntWalk
namespace Go.Proofs.Ythfghomnbldmfaa
set_option linter.unusedVariables false
set_option linter.unusedSimpArgs false
open Go.RowKit

structure Sup where
  size : Int
  inodes : Int
  inodeAt : Int
  dirAt : Int
  fragAt : Int
  idAt : Int
  xattrAt : Int
  ids : Int
  frags : Int
  root : Int
instance : Inhabited Sup := ⟨⟨0, 0, 0, 0, 0, 0, 0, 0, 0, 0⟩⟩
def supCells (s : Sup) : Array Value := #[.int .i64 s.size, .int .i64 s.inodes, .int .i64 s.inodeAt, .int .i64 s.dirAt, .int .i64 s.fragAt, .int .i64 s.idAt, .int .i64 s.xattrAt, .int .i64 s.ids, .int .i64 s.frags, .int .i64 s.root]
/-- A superblock lies in block g. -/
def SupAt (w : World) (g : Nat) (s : Sup) : Prop := w.heap[g]? = some (.cells (supCells s) 23 (0, 0))
def SupP (s : Sup) : Prop := (64 ≤ s.inodeAt ∧ s.inodeAt ≤ s.dirAt ∧ s.dirAt ≤ s.fragAt ∧ s.fragAt ≤ s.idAt ∧ s.idAt ≤ s.xattrAt ∧ s.xattrAt ≤ s.size ∧ s.size ≤ 1048576) ∧ (1 ≤ s.inodes ∧ s.inodes ≤ 1024) ∧ (1 ≤ s.ids ∧ s.ids ≤ 2048) ∧ (0 ≤ s.frags ∧ s.frags ≤ 1024) ∧ (0 ≤ s.root ∧ s.root ≤ 4294967295)
instance (s : Sup) : Decidable (SupP s) := by unfold SupP; infer_instance
def supB (s : Sup) : Bool := decide (SupP s)

theorem SupAt.c0 {w : World} {g : Nat} {s : Sup} (h : SupAt w g s) : w.cell? ⟨g, 0, none⟩ = some (.int .i64 s.size) := by rw [cell_of_row w g 0 _ _ (0, 0) h]; rfl
theorem SupAt.c1 {w : World} {g : Nat} {s : Sup} (h : SupAt w g s) : w.cell? ⟨g, 1, none⟩ = some (.int .i64 s.inodes) := by rw [cell_of_row w g 1 _ _ (0, 0) h]; rfl
theorem SupAt.c2 {w : World} {g : Nat} {s : Sup} (h : SupAt w g s) : w.cell? ⟨g, 2, none⟩ = some (.int .i64 s.inodeAt) := by rw [cell_of_row w g 2 _ _ (0, 0) h]; rfl
theorem SupAt.c3 {w : World} {g : Nat} {s : Sup} (h : SupAt w g s) : w.cell? ⟨g, 3, none⟩ = some (.int .i64 s.dirAt) := by rw [cell_of_row w g 3 _ _ (0, 0) h]; rfl
theorem SupAt.c4 {w : World} {g : Nat} {s : Sup} (h : SupAt w g s) : w.cell? ⟨g, 4, none⟩ = some (.int .i64 s.fragAt) := by rw [cell_of_row w g 4 _ _ (0, 0) h]; rfl
theorem SupAt.c5 {w : World} {g : Nat} {s : Sup} (h : SupAt w g s) : w.cell? ⟨g, 5, none⟩ = some (.int .i64 s.idAt) := by rw [cell_of_row w g 5 _ _ (0, 0) h]; rfl
theorem SupAt.c6 {w : World} {g : Nat} {s : Sup} (h : SupAt w g s) : w.cell? ⟨g, 6, none⟩ = some (.int .i64 s.xattrAt) := by rw [cell_of_row w g 6 _ _ (0, 0) h]; rfl
theorem SupAt.c7 {w : World} {g : Nat} {s : Sup} (h : SupAt w g s) : w.cell? ⟨g, 7, none⟩ = some (.int .i64 s.ids) := by rw [cell_of_row w g 7 _ _ (0, 0) h]; rfl
theorem SupAt.c8 {w : World} {g : Nat} {s : Sup} (h : SupAt w g s) : w.cell? ⟨g, 8, none⟩ = some (.int .i64 s.frags) := by rw [cell_of_row w g 8 _ _ (0, 0) h]; rfl
theorem SupAt.c9 {w : World} {g : Nat} {s : Sup} (h : SupAt w g s) : w.cell? ⟨g, 9, none⟩ = some (.int .i64 s.root) := by rw [cell_of_row w g 9 _ _ (0, 0) h]; rfl
theorem SupAt.lt {w : World} {g : Nat} {s : Sup} (h : SupAt w g s) : g < w.heap.size := lt_of_heap h
theorem SupAt.below {w w' : World} {g : Nat} {s : Sup} (h : SupAt w g s) (hb : Below w.heap.size w w') : SupAt w' g s := (hb.block g h.lt).trans h
theorem SupAt.drewN {w : World} {g : Nat} {s : Sup} (h : SupAt w g s) (n : Nat) : SupAt (w.drewN n) g s := h
theorem SupAt.new (w : World) (s : Sup) : SupAt (w.alloc (.cells (supCells s) 23)) w.heap.size s := heap_alloc_new w _
theorem SupAt.only {w w' : World} {g : Nat} {s : Sup} {S : List Nat} (h : SupAt w g s) (ho : Only S w w') (hg : g ∉ S) : SupAt w' g s := ho.at_ h hg
theorem within_any (x a b : Int) (w : World) : Calls Try.prog 30 #[.int .i64 x, .int .i64 a, .int .i64 b] w fun r w' => r = .returned (.bool (decide (a ≤ x ∧ x ≤ b))) ∧ w = w' := by
  have hd : decide (a ≤ x ∧ x ≤ b) = (decide (a ≤ x) && decide (x ≤ b)) := by rw [Bool.decide_and]
  rw [hd]
  clear hd
  generalize hp : decide (a ≤ x) = p
  generalize hq : decide (x ≤ b) = q
  cases p <;> cases q
  all_goals
    go_enter Try.func30, Try.ntmps30
    go_wp2_with fail
    go_ret
    simp_all
theorem nan_any (x : Int) (w : World) : Calls Try.prog 47 #[.int .i64 x] w fun r w' => r = .returned (.bool false) ∧ w = w' := by
  go_enter Try.func47, Try.ntmps47
  go_wp2_with fail
  go_ret
  simp
theorem less_any (x y : Int) (w : World) : Calls Try.prog 43 #[.int .i64 x, .int .i64 y] w fun r w' => r = .returned (.bool (decide (x < y))) ∧ w = w' := by
  go_enter Try.func43, Try.ntmps43
  go_wp2_with (refine (nan_any x w).mono ?_; rintro r w' ⟨rfl, rfl⟩)
  go_ret
  exact ⟨rfl, rfl⟩
theorem of_any (s : Sup) (w : World) : Calls Try.prog 28 #[.agg (supCells s)] w fun r w' =>
    r = .returned (.agg #[.int .i64 64, .int .i64 s.inodeAt, .int .i64 s.dirAt, .int .i64 s.fragAt, .int .i64 s.idAt, .int .i64 s.xattrAt, .int .i64 s.size, .int .i64 1048576]) ∧ Below w.heap.size w w' := by
  unfold supCells
  go_enter Try.func28, Try.ntmps28
  have hi : (Try.prog.info? 60).map (·.size) = some 8 := by kernel_rfl
  have HI := Lib.hid hi
  clear hi
  go_wp2_with fail
  exact bodyPost_ret (results_cell_row rfl _ _ (w.heap.size + 1) 60 _ (0, 0) _ rfl (heap_alloc2_new w _ _) Try.underlying60 rfl HI.out) rfl ⟨rfl, (below_all.alloc (Nat.le_refl _) _).alloc (by simp) _⟩
def placesOf (s : Sup) : List Int := [64, s.inodeAt, s.dirAt, s.fragAt, s.idAt, s.xattrAt, s.size, 1048576]
theorem places_any (s : Sup) (w : World) : Calls Try.prog 31 #[.agg (supCells s)] w fun r w' =>
    (∃ g, r = .returned (.slice (some ⟨g, 0, none⟩) 8 8) ∧ ∀ i z, (placesOf s)[i]? = some z → w'.cell? ⟨g, i, none⟩ = some (.int .i64 z)) ∧ Below w.heap.size w w' := by
  unfold supCells
  go_enter Try.func31, Try.ntmps31
  go_wp2_with fail
  go_ret
  refine ⟨⟨_, rfl, fun i z hz => ?_⟩, (below_all.alloc (Nat.le_refl _) _).alloc (by simp) _⟩
  rw [cell_of_row _ _ _ _ _ _ (heap_at_new _ _ _ (by simp))]
  unfold placesOf at hz
  match i, hz with
  | 0, hz => simp at hz; subst hz; rfl
  | 1, hz => simp at hz; subst hz; rfl
  | 2, hz => simp at hz; subst hz; rfl
  | 3, hz => simp at hz; subst hz; rfl
  | 4, hz => simp at hz; subst hz; rfl
  | 5, hz => simp at hz; subst hz; rfl
  | 6, hz => simp at hz; subst hz; rfl
  | 7, hz => simp at hz; subst hz; rfl
  | i + 8, hz => simp at hz
set_option maxHeartbeats 800000 in
theorem sorted_any (g : Nat) (z : Nat → Int) (w : World) (hz : ∀ i, i < 8 → w.cell? ⟨g, i, none⟩ = some (.int .i64 (z i))) : Calls Try.prog 29 #[.slice (some ⟨g, 0, none⟩) 8 8] w fun r w' =>
    (∃ b, r = .returned (.bool b) ∧ (b = true ↔ ∀ j, j < 7 → z j ≤ z (j + 1))) ∧ ∃ d, w' = w.drewN d := by
  have HZ := Lib.hid hz
  clear hz
  go_enter Try.func29, Try.ntmps29
  go_wp2_with fail
  go_loopw [3] (fun i wr => ∃ k : Nat, i = .int .i64 k ∧ k ≤ 7 ∧ (∀ j, k ≤ j → j < 7 → z j ≤ z (j + 1)) ∧ ∃ d, wr = w.drewN d) (fun i _ => (intOf i).toNat)
  case atStart => exact ⟨7, rfl, by omega, fun j h1 h2 => by omega, 0, rfl⟩
  case round =>
    obtain ⟨k, rfl, hk, hs, hd⟩ := hrel
    have HD := Lib.hid hd
    clear hd
    have HS := Lib.hid hs
    clear hs
    rcases Nat.eq_zero_or_pos k with rfl | hpos
    · go_wp2_with fail
      go_ret
      exact ⟨⟨true, rfl, by simp only [true_iff]; exact fun j hj => HS.out j (by omega) hj⟩, HD.out⟩
    · obtain ⟨q, hq⟩ : ∃ q, q = k - 1 := ⟨_, rfl⟩
      have c1 : wr.cell? ⟨g, k, none⟩ = some (.int .i64 (z k)) := by obtain ⟨d, rfl⟩ := HD.out; exact HZ.out k (by omega)
      have c0 : wr.cell? ⟨g, q, none⟩ = some (.int .i64 (z q)) := by obtain ⟨d, rfl⟩ := HD.out; exact HZ.out q (by omega)
      have hw : IntKind.i64.wrap ((k : Int) - 1) = (q : Int) := by rw [IntWalk.i64_in _ (by omega)]; omega
      have hk0 : (0 : Int) < (k : Int) := by omega
      have hk1 : (0 : Int) ≤ (k : Int) := by omega
      have hk2 : (k : Int) < 8 := by omega
      have hq1 : (0 : Int) ≤ (q : Int) := by omega
      have hq2 : (q : Int) < 8 := by omega
      have HQ := Lib.hid hq
      have HK := Lib.hid hk
      clear hq hk
      have HL := fun n => less_any (z k) (z q) (wr.drewN n)
      have HE : Hid (z k < z q ∨ ¬ z k < z q) := Classical.em _
      rcases HE.out with he | he
      · have hdt : decide (z k < z q) = true := by simpa using he
        rw [hdt] at HL
        have HL := Lib.hid HL
        go_wp2_with fail
        go_quiet ((go_at_call 43; exact Calls.quiet_of_same ((HL.out _).mono fun _ _ h => ⟨h.1, h.2.symm⟩)))
        go_wp2_with fail
        go_ret
        refine ⟨⟨false, rfl, ?_⟩, ?_⟩
        · have h3 := HQ.out
          have h4 := HK.out
          simp only [Bool.false_eq_true, false_iff]
          intro h
          have := h q (by omega)
          rw [show q + 1 = k from by omega] at this
          omega
        · obtain ⟨d, hd⟩ := HD.out; exact ⟨d + nq, by rw [hd]; simp only [World.drewN, Nat.add_assoc]⟩
      · have hdt : decide (z k < z q) = false := by simpa using he
        rw [hdt] at HL
        have HL := Lib.hid HL
        go_wp2_with fail
        go_quiet ((go_at_call 43; exact Calls.quiet_of_same ((HL.out _).mono fun _ _ h => ⟨h.1, h.2.symm⟩)))
        go_wp2_with fail
        refine ⟨⟨q, by first | rfl | go_num, by have := HK.out; have := HQ.out; omega, fun j h1 h2 => ?_, ?_⟩, ?_⟩
        · have h3 := HQ.out
          rcases Nat.lt_or_ge q j with h | h
          · exact HS.out j (by omega) h2
          · obtain rfl : j = q := by omega
            rw [show j + 1 = k from by omega]
            omega
        · obtain ⟨d, hd⟩ := HD.out; exact ⟨d + nq, by rw [hd]; simp only [World.drewN, Nat.add_assoc]⟩
        · have h3 := HQ.out
          simp [intOf]; omega
theorem cells_places (s : Sup) (w : World) (g : Nat) (T : TypeId) (fr : Nat × Nat) (h : w.heap[g]? = some (.cells #[.int .i64 64, .int .i64 s.inodeAt, .int .i64 s.dirAt, .int .i64 s.fragAt, .int .i64 s.idAt, .int .i64 s.xattrAt, .int .i64 s.size, .int .i64 1048576] T fr)) :
    ∀ i, i < 8 → w.cell? ⟨g, i, none⟩ = some (.int .i64 ((placesOf s).getD i 0)) := by
  intro i hi
  rw [cell_of_row _ _ _ _ _ _ h]
  unfold placesOf
  match i, hi with
  | 0, _ => rfl
  | 1, _ => rfl
  | 2, _ => rfl
  | 3, _ => rfl
  | 4, _ => rfl
  | 5, _ => rfl
  | 6, _ => rfl
  | 7, _ => rfl
  | i + 8, h => omega
theorem supB_parts (s : Sup) (b : Bool) (hb : b = true ↔ ∀ j, j < 7 → (placesOf s).getD j 0 ≤ (placesOf s).getD (j + 1) 0) :
    supB s = (b && (decide (1 ≤ s.inodes ∧ s.inodes ≤ 1024) && (decide (1 ≤ s.ids ∧ s.ids ≤ 2048) && (decide (0 ≤ s.frags ∧ s.frags ≤ 1024) && decide (0 ≤ s.root ∧ s.root ≤ 4294967295))))) := by
  have hb2 : b = decide (64 ≤ s.inodeAt ∧ s.inodeAt ≤ s.dirAt ∧ s.dirAt ≤ s.fragAt ∧ s.fragAt ≤ s.idAt ∧ s.idAt ≤ s.xattrAt ∧ s.xattrAt ≤ s.size ∧ s.size ≤ 1048576) := by
    rw [Bool.eq_iff_iff, hb, decide_eq_true_iff]
    constructor
    · intro h
      exact ⟨h 0 (by omega), h 1 (by omega), h 2 (by omega), h 3 (by omega), h 4 (by omega), h 5 (by omega), h 6 (by omega)⟩
    · intro ⟨h0, h1, h2, h3, h4, h5, h6⟩ j hj
      match j, hj with
      | 0, _ => exact h0
      | 1, _ => exact h1
      | 2, _ => exact h2
      | 3, _ => exact h3
      | 4, _ => exact h4
      | 5, _ => exact h5
      | 6, _ => exact h6
      | j + 7, hj => omega
  rw [hb2, Bool.eq_iff_iff]
  unfold supB SupP
  simp only [Bool.and_eq_true, decide_eq_true_iff]
  exact decide_eq_true_iff
set_option maxHeartbeats 800000 in
theorem may_any (s : Sup) (w : World) : Calls Try.prog 12 #[.agg (supCells s)] w fun r w' => r = .returned (.bool (supB s)) ∧ Below w.heap.size w w' := by
  have HP := Lib.hid (supB_parts s)
  have hw1 := within_any s.inodes 1 1024
  have hw2 := within_any s.ids 1 2048
  have hw3 := within_any s.frags 0 1024
  have hw4 := within_any s.root 0 4294967295
  generalize decide (1 ≤ s.inodes ∧ s.inodes ≤ 1024) = p1 at *
  generalize decide (1 ≤ s.ids ∧ s.ids ≤ 2048) = p2 at *
  generalize decide (0 ≤ s.frags ∧ s.frags ≤ 1024) = p3 at *
  generalize decide (0 ≤ s.root ∧ s.root ≤ 4294967295) = p4 at *
  have H1 := Lib.hid hw1
  have H2 := Lib.hid hw2
  have H3 := Lib.hid hw3
  have H4 := Lib.hid hw4
  clear hw1 hw2 hw3 hw4
  have HO := Lib.hid (of_any s)
  unfold supCells
  go_enter Try.func12, Try.ntmps12
  go_wp2_with fail
  refine (HO.out _).mono ?_
  rintro r w1 ⟨rfl, hb1⟩
  have hbel : Below w.heap.size w w1 := (below_all.alloc (Nat.le_refl _) _).trans (hb1.mono (by simp))
  have hs0 := SupAt.new w s
  have hs1 := hs0.below (by simpa [supCells] using hb1)
  have HS1 := Lib.hid hs1
  clear hs0 hs1 hb1
  go_wp2_with fail
  have HS2 := Lib.hid (HS1.out.below (below_all.alloc (Nat.le_refl _) (.cells #[.int .i64 64, .int .i64 s.inodeAt, .int .i64 s.dirAt, .int .i64 s.fragAt, .int .i64 s.idAt, .int .i64 s.xattrAt, .int .i64 s.size, .int .i64 1048576] 60)))
  have HB2 : Hid (Below w.heap.size w (w1.alloc (.cells #[.int .i64 64, .int .i64 s.inodeAt, .int .i64 s.dirAt, .int .i64 s.fragAt, .int .i64 s.idAt, .int .i64 s.xattrAt, .int .i64 s.size, .int .i64 1048576] 60))) := hbel.alloc hbel.size _
  refine (sorted_any w1.heap.size (fun i => (placesOf s).getD i 0) _ (cells_places s _ _ _ _ (heap_alloc_new w1 _))).mono ?_
  rintro r w2 ⟨⟨b, rfl, hb⟩, d, rfl⟩
  have HQ := Lib.hid (HP.out b hb)
  clear hb HP HO HS1 hbel
  generalize w1.alloc (.cells #[.int .i64 64, .int .i64 s.inodeAt, .int .i64 s.dirAt, .int .i64 s.fragAt, .int .i64 s.idAt, .int .i64 s.xattrAt, .int .i64 s.size, .int .i64 1048576] 60) = w2 at *
  have k1 := HS2.out.c1
  have k7 := HS2.out.c7
  have k8 := HS2.out.c8
  have k9 := HS2.out.c9
  cases b
  · go_wp2_with fail
    go_ret
    exact ⟨by rw [HQ.out]; rfl, belowN HB2.out d⟩
  go_wp2_with fail
  refine (H1.out _).mono ?_
  rintro r w' ⟨rfl, rfl⟩
  cases p1
  · go_wp2_with fail
    go_ret
    exact ⟨by rw [HQ.out]; rfl, belowN HB2.out d⟩
  go_wp2_with fail
  refine (H2.out _).mono ?_
  rintro r w' ⟨rfl, rfl⟩
  cases p2
  · go_wp2_with fail
    go_ret
    exact ⟨by rw [HQ.out]; rfl, belowN HB2.out d⟩
  go_wp2_with fail
  refine (H3.out _).mono ?_
  rintro r w' ⟨rfl, rfl⟩
  cases p3
  · go_wp2_with fail
    go_ret
    exact ⟨by rw [HQ.out]; rfl, belowN HB2.out d⟩
  go_wp2_with fail
  refine (H4.out _).mono ?_
  rintro r w' ⟨rfl, rfl⟩
  go_wp2_with fail
  go_ret
  exact ⟨by rw [HQ.out]; rfl, belowN HB2.out d⟩
set_option maxHeartbeats 1600000 in
theorem refMay_any (s : Sup) (w : World) : Calls Try.prog 13 #[.agg (supCells s)] w fun r w' => r = .returned (.bool (supB s)) ∧ Below w.heap.size w w' := by
  have HO := Lib.hid (places_any s)
  have hs0 := SupAt.new w s
  have HS0 := Lib.hid hs0
  clear hs0
  unfold supCells
  go_enter Try.func13, Try.ntmps13
  go_wp2_with fail
  refine (HO.out _).mono ?_
  rintro r w1 ⟨⟨g, rfl, hz⟩, hb1⟩
  have HS1 := Lib.hid (HS0.out.below (by simpa [supCells] using hb1))
  have HB1 : Hid (Below w.heap.size w w1) := (below_all.alloc (Nat.le_refl _) _).trans (hb1.mono (by simp))
  have HZ := Lib.hid hz
  clear hz hb1 HS0 HO
  go_wp2_with fail
  go_loopw [4] (fun i wr => ∃ m : Nat, i = .int .i64 m ∧ 1 ≤ m ∧ m ≤ 8 ∧ (∀ j, j + 1 < m → (placesOf s).getD j 0 ≤ (placesOf s).getD (j + 1) 0) ∧ ∃ d, wr = w1.drewN d) (fun i _ => 8 - (intOf i).toNat)
  case atStart => exact ⟨1, rfl, by omega, by omega, fun j h1 => by omega, 0, rfl⟩
  case round =>
    obtain ⟨m, rfl, hm1, hm8, hs, hd⟩ := hrel
    have HD := Lib.hid hd
    have HS := Lib.hid hs
    have HR : Hid (Below w.heap.size w wr) := by obtain ⟨d, hd⟩ := hd; rw [hd]; exact belowN HB1.out d
    have HSR : Hid (SupAt wr w.heap.size s) := by obtain ⟨d, hd⟩ := hd; rw [hd]; exact HS1.out.drewN d
    clear hs hd
    by_cases hlt : m < 8
    · obtain ⟨q, hq⟩ : ∃ q, q = m - 1 := ⟨_, rfl⟩
      have hat : ∀ i, i < 8 → wr.cell? ⟨g, i, none⟩ = some (.int .i64 ((placesOf s).getD i 0)) := by
        intro i hi
        obtain ⟨d, hd⟩ := HD.out
        rw [hd]
        refine HZ.out i _ ?_
        have hl : i < (placesOf s).length := by simpa [placesOf] using hi
        rw [List.getElem?_eq_getElem hl, List.getD_eq_getElem?_getD, List.getElem?_eq_getElem hl]
        rfl
      have c1 := hat m hlt
      have c0 := hat q (by omega)
      have HV : Hid ((placesOf s).getD m 0 < (placesOf s).getD q 0 → supB s = false) := fun h => by
        rw [supB_parts s false ⟨fun h => (by cases h), fun hj => (by have := hj q (by omega); rw [show q + 1 = m from by omega] at this; omega)⟩]
        rfl
      have HW : Hid (¬ (placesOf s).getD m 0 < (placesOf s).getD q 0 → ∀ j, j + 1 < m + 1 → (placesOf s).getD j 0 ≤ (placesOf s).getD (j + 1) 0) := fun h j hj => by
        rcases Nat.lt_or_ge (j + 1) m with h2 | h2
        · exact HS.out j h2
        · obtain rfl : j = q := by omega
          rw [show j + 1 = m from by omega]
          omega
      generalize (placesOf s).getD m 0 = zm at *
      generalize (placesOf s).getD q 0 = zq at *
      have hw : IntKind.i64.wrap ((m : Int) - 1) = (q : Int) := by rw [IntWalk.i64_in _ (by omega)]; omega
      have hk1 : (0 : Int) ≤ (m : Int) := by omega
      have hk2 : (m : Int) < 8 := by omega
      have hq1 : (0 : Int) ≤ (q : Int) := by omega
      have hq2 : (q : Int) < 8 := by omega
      clear hq hat
      by_cases he : zm < zq
      · have HE := Lib.hid (HV.out he)
        clear HV HW
        go_wp2_with fail
        go_quiet (fail)
        go_wp2_with fail
        go_ret
        exact ⟨by rw [HE.out]; rfl, belowN HR.out nq⟩
      · have HE := Lib.hid (HW.out he)
        clear HV HW
        go_wp2_with fail
        go_quiet (fail)
        go_wp2_with fail
        exact ⟨⟨m + 1, by go_num, by omega, by omega, HE.out, by obtain ⟨d, hd⟩ := HD.out; exact ⟨d + nq, by rw [hd]; simp only [World.drewN, Nat.add_assoc]⟩⟩, by simp [intOf]; omega⟩
    · obtain rfl : m = 8 := by omega
      have k1 := HSR.out.c1
      have k7 := HSR.out.c7
      have k8 := HSR.out.c8
      have k9 := HSR.out.c9
      have HV : Hid (supB s = (true && (decide (1 ≤ s.inodes ∧ s.inodes ≤ 1024) && (decide (1 ≤ s.ids ∧ s.ids ≤ 2048) && (decide (0 ≤ s.frags ∧ s.frags ≤ 1024) && decide (0 ≤ s.root ∧ s.root ≤ 4294967295)))))) :=
        supB_parts s true ⟨fun _ j hj => HS.out j (by omega), fun _ => rfl⟩
      by_cases hall : (1 ≤ s.inodes ∧ s.inodes ≤ 1024 ∧ 1 ≤ s.ids ∧ s.ids ≤ 2048 ∧ 0 ≤ s.frags ∧ s.frags ≤ 1024 ∧ 0 ≤ s.root ∧ s.root ≤ 4294967295)
      · have HE : Hid (supB s = true) := by
          show supB s = true
          rw [HV.out]
          simp
          omega
        obtain ⟨e0, e1, e2, e3, e4, e5, e6, e7⟩ := hall
        clear HV
        go_wp2_with fail
        go_ret
        exact ⟨by rw [HE.out]; rfl, HR.out⟩
      · have HE : Hid (supB s = false) := by
          show supB s = false
          rw [HV.out, Bool.eq_false_iff]
          simp
          omega
        have hb : (s.inodes < 1) ∨ (1 ≤ s.inodes ∧ 1024 < s.inodes) ∨ (1 ≤ s.inodes ∧ s.inodes ≤ 1024 ∧ s.ids < 1) ∨ (1 ≤ s.inodes ∧ s.inodes ≤ 1024 ∧ 1 ≤ s.ids ∧ 2048 < s.ids) ∨ (1 ≤ s.inodes ∧ s.inodes ≤ 1024 ∧ 1 ≤ s.ids ∧ s.ids ≤ 2048 ∧ s.frags < 0) ∨ (1 ≤ s.inodes ∧ s.inodes ≤ 1024 ∧ 1 ≤ s.ids ∧ s.ids ≤ 2048 ∧ 0 ≤ s.frags ∧ 1024 < s.frags) ∨ (1 ≤ s.inodes ∧ s.inodes ≤ 1024 ∧ 1 ≤ s.ids ∧ s.ids ≤ 2048 ∧ 0 ≤ s.frags ∧ s.frags ≤ 1024 ∧ s.root < 0) ∨ (1 ≤ s.inodes ∧ s.inodes ≤ 1024 ∧ 1 ≤ s.ids ∧ s.ids ≤ 2048 ∧ 0 ≤ s.frags ∧ s.frags ≤ 1024 ∧ 0 ≤ s.root ∧ 4294967295 < s.root) := by omega
        clear HV hall
        rcases hb with e0 | ⟨e0, e1⟩ | ⟨e0, e1, e2⟩ | ⟨e0, e1, e2, e3⟩ | ⟨e0, e1, e2, e3, e4⟩ | ⟨e0, e1, e2, e3, e4, e5⟩ | ⟨e0, e1, e2, e3, e4, e5, e6⟩ | ⟨e0, e1, e2, e3, e4, e5, e6, e7⟩
        all_goals
          go_wp2_with fail
          go_ret
          exact ⟨by rw [HE.out]; first | rfl | (simp; omega), HR.out⟩
end Go.Proofs.Ythfghomnbldmfaa
