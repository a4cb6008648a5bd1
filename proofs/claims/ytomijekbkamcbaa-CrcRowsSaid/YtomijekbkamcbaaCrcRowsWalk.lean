/- The walk of the law CrcRows. -/
import Derived.Test.YtomijekbkamcbaaRows
import Derived.Test.YtomijekbkamcbaaCrcShown
import Derived.Test.YtomijekbkamcbaaCrcSumsWalk
import Derived.WalkKit
import Derived.WalkSpells
import Derived.WalkLawsBesides
import Derived.Lib.Hide
import Derived.Lib.SmallJoins
import Derived.Deep.QuietTactic
import Derived.BigQuiet
namespace Go.Proofs.Ytomijekbkamcbaa
set_option linter.unusedVariables false
set_option linter.unusedSimpArgs false
open Go.RowKit



/-- A slice's own cell. -/
theorem slice_info : (Try.prog.info? 29).map (fun i => (i.zero, i.size, i.bytes)) = some (some (.slice none 0 0), 1, 24) := by kernel_rfl

/-- A row cut to a hundred bytes. -/
def RowOf.cut (x : RowOf) : RowOf := ⟨x.A, min x.n 100, x.c, x.bs.take 100⟩
def RowOf.val (x : RowOf) : Value := .slice x.A x.n x.c
def cuts (l : List RowOf) : List RowOf := (l.take 20).map RowOf.cut
theorem cuts_at (l : List RowOf) (m : Nat) (x : RowOf) (hx : l[m]? = some x) (hm : m < 20) : (cuts l).take (m + 1) = (cuts l).take m ++ [x.cut] := by
  have h : (cuts l)[m]? = some x.cut := by simp [cuts, hm, hx]
  obtain ⟨hl, he⟩ := List.getElem?_eq_some_iff.1 h
  rw [List.take_succ_eq_append_getElem hl, he]
def flat (l : List RowOf) : List UInt8 := (l.map (·.bs)).flatten
theorem flat_snoc (l : List RowOf) (x : RowOf) : flat (l ++ [x]) = flat l ++ x.bs := by simp [flat]
def vals (l : List RowOf) : List Value := l.map RowOf.val
theorem vals_snoc (l : List RowOf) (x : RowOf) : vals (l ++ [x]) = vals l ++ [x.val] := by simp [vals]
theorem cut_bytes {w : World} {x : RowOf} (h : Bytes w x.A x.n x.bs) : Bytes w x.A (min x.n 100) x.cut.bs := by
  have h1 := h.take (k := min x.n 100) (Nat.min_le_left _ _)
  have h2 : x.bs.take (min x.n 100) = x.bs.take 100 := by
    rw [← h.1, List.take_eq_take_iff]; omega
  rw [h2] at h1
  exact h1

theorem rows_own {w : World} {base : Nat} {e : TypeId} {v : Value} {n : Nat} {L : List RowOf} (h : w.ownsRow base e 1 v n (vals L)) (hb : ∀ x ∈ L, Bytes w x.A x.n x.bs ∧ x.n ≤ 9223372036854775807) :
    ∃ A c, v = .slice A n c ∧ RowsIn w A n L ∧ c ≤ maxLen ∧ n ≤ c := by
  have hl : L.length = n := by have := h.1; simp [vals] at this; omega
  rcases h.2 with ⟨rfl, rfl⟩ | ⟨g, cap, cur, rfl, hg, hh, hnc, hcm, hcs, htake⟩
  · exact ⟨none, 0, rfl, ⟨hl, fun h => absurd h (by omega), hb⟩, by simp [maxLen], Nat.le_refl _⟩
  · refine ⟨_, cap, rfl, ⟨hl, fun hn => ⟨g, 0, rfl, fun j x hx => ?_⟩, hb⟩, hcm, hnc⟩
    have hj : j < n := by have := (List.getElem?_eq_some_iff.1 hx).1; omega
    rw [cell_of_row w g _ cur e (0, 0) hh, Nat.zero_add]
    have h1 : (vals L)[j]? = some (.slice x.A x.n x.c) := by simp [vals, hx, RowOf.val]
    rw [← htake, List.getElem?_take, if_pos (by omega)] at h1
    simpa using h1
theorem cuts_bytes {w : World} {A : Option Addr} {n : Nat} {l : List RowOf} (h : RowsIn w A n l) {w' : World} (hb : Below w.heap.size w w') : ∀ x ∈ cuts l, Bytes w' x.A x.n x.bs ∧ x.n ≤ 9223372036854775807 := by
  intro x hx
  obtain ⟨y, hy, rfl⟩ := List.mem_map.1 hx
  obtain ⟨h1, h2⟩ := h.2.2 y (List.mem_of_mem_take hy)
  refine ⟨cut_bytes (h1.below hb), ?_⟩
  show min y.n 100 ≤ _
  omega

/-- What holds at each round's head: what was gathered lies in rows of the call's own. -/
structure RowsRel (w : World) (n gt : Nat) (l : List RowOf) (all rows : Value) (m : Nat) (wr : World) : Prop where
  mn : m ≤ n
  m20 : m ≤ 20
  below : Below w.heap.size w wr
  tab : wr.heap[gt]? = some (.cells tab 25 (0, 0))
  all : ∃ s, s ≤ 100 * m ∧ wr.ownsRow w.heap.size 5 1 all s (u8s (flat ((cuts l).take m)))
  rows : wr.ownsRow w.heap.size 29 1 rows m (vals ((cuts l).take m))

theorem step_rows {w wr w1 w2 : World} {n gt m : Nat} {l : List RowOf} {all rows all' rows' : Value} {x : RowOf} (h : RowsRel w n gt l all rows m wr) (hx : l[m]? = some x) (hm : m < 20) (hn : m < n)
    {s k : Nat} (hk : k ≤ 100) (hs : s ≤ 100 * m)
    (hown1 : w1.ownsRow w.heap.size 5 1 all' (s + k) (u8s (flat ((cuts l).take m) ++ x.cut.bs))) (hg1 : wr.grownBy w1 all.ownBlock) (hown0 : wr.ownsRow w.heap.size 5 1 all s (u8s (flat ((cuts l).take m))))
    (o : Obj) (hown2 : w2.ownsRow w.heap.size 29 1 rows' (m + 1) (vals ((cuts l).take m) ++ [x.cut.val])) (hg2 : (w1.alloc o).grownBy w2 rows.ownBlock) (hown3 : (w1.alloc o).ownsRow w.heap.size 29 1 rows m (vals ((cuts l).take m))) :
    RowsRel w n gt l all' rows' (m + 1) w2 := by
  have hsz := h.below.size
  have hb1 : Below w.heap.size w w1 := h.below.grown hg1 hsz fun g hg => (hown0.lt g hg).1
  have hb2 : Below w.heap.size w (w1.alloc o) := hb1.alloc hb1.size o
  refine ⟨by omega, by omega, hb2.grown hg2 hb2.size fun g hg => (hown3.lt g hg).1, ?_, ⟨s + k, by omega, ?_⟩, ?_⟩
  · have t1 := block_kept h.tab hown0 hg1 (own_block_ne hown0 h.tab (by decide))
    have t2 := heap_at_old w1 o gt (lt_of_heap t1) t1
    exact block_kept t2 hown3 hg2 (own_block_ne hown3 t2 (by decide))
  · rw [cuts_at l m x hx hm, flat_snoc]
    exact ((hown1.alloc o)).kept hg2 (own_apart (hown1.alloc o) hown3 (by decide))
  · rw [cuts_at l m x hx hm, vals_snoc]
    exact hown2

set_option maxRecDepth 100000 in
set_option maxHeartbeats 1000000 in
theorem crcRows_walk (A : Option Addr) (n c : Nat) (l : List RowOf) (w : World) (h : RowsIn w A n l ∧ (∀ x ∈ l, x.n ≤ x.c ∧ x.c ≤ maxLen) ∧ n ≤ c ∧ c ≤ maxLen) :
    Calls Try.prog 6 #[.slice A n c] w fun e w' => e = .returned (.bool true) ∧ Below w.heap.size w w' := by
  obtain ⟨hr, hrc, hnc, hcm⟩ := h
  have hcm : c ≤ 9223372036854775807 := by simpa [maxLen] using hcm
  have hz := (zero_of_info tab_zero).1
  obtain ⟨i0, hi, hz0, hz1, hz2⟩ := info_parts u8_info
  obtain ⟨j0, hj, hy0, hy1, hy2⟩ := info_parts slice_info
  have HI := Lib.hid hi
  have HJ := Lib.hid hj
  clear hi hj
  go_enter Try.func6, Try.ntmps6
  go_wp2_with fail
  refine (shown_any w).mono ?_
  rintro e w1 ⟨rfl, hb1⟩
  go_wp2_with fail
  refine (newB w1).mono ?_
  rintro e w2 ⟨rfl, hb2⟩
  go_wp2_with (refine wpList_store_whole rfl 25 _ _ rfl w2.heap.size tab rfl rfl 25 (tabTo 0) (heap_alloc_new w2 _) tabSize (by rw [tab, tabTo_size, tabTo_size]) tab_one _ (setRow_last w2 _ _ _) ?_)
  have hb3 := below_then hb1 hb2
  have hs3 := hb3.size
  obtain ⟨gt, hgt⟩ : ∃ gt, gt = w2.heap.size := ⟨_, rfl⟩
  have hrel0 : RowsRel w n gt l (.slice (some ⟨w2.heap.size + 1, 0, none⟩) 0 0) (.slice (some ⟨w2.heap.size + 1 + 1, 0, none⟩) 0 0) 0 (((w2.alloc (.cells tab 25)).alloc (.cells #[] 5)).alloc (.cells #[] 29)) := by
    refine ⟨by omega, by omega, ((hb3.alloc hs3 _).alloc (by simp; omega) _).alloc (by simp; omega) _, ?_, ⟨0, by omega, ?_⟩, ?_⟩
    · rw [hgt]; exact heap_at_old _ _ _ (by simp; omega) (heap_at_old _ _ _ (by simp) (heap_at_new _ _ _ rfl))
    · exact (owns_empty_at _ _ _ (by simp) (by omega)).alloc _
    · exact owns_empty_at _ _ _ (by simp) (by omega)
  have HW := Lib.hid hgt
  clear hgt hb1 hb2 hb3
  go_loopw [5, 6, 7] (fun all rows i wr => ∃ m : Nat, i = .int .i64 m ∧ RowsRel w n gt l all rows m wr) (fun _ _ i _ => 20 - (intOf i).toNat)
  case atStart => exact ⟨0, rfl, hrel0⟩
  case round =>
    obtain ⟨m, rfl, H⟩ := hrel
    have hmn := H.mn
    have hm20 := H.m20
    by_cases hcase : m < n ∧ m < 20
    · obtain ⟨hlt, hlt20⟩ := hcase
      obtain ⟨b, off, rfl, hc⟩ := hr.2.1 (by omega)
      have hml : m < l.length := by rw [hr.1]; exact hlt
      have hx := List.getElem?_eq_getElem hml
      obtain ⟨hby, hxn⟩ := hr.2.2 _ (List.getElem_mem hml)
      obtain ⟨hxc, hxm⟩ := hrc _ (List.getElem_mem hml)
      have hcm0 := hc m _ hx
      have hbl : b < w.heap.size := block_lt_of_cell hcm0
      have hcm := (H.below.cell (p := ⟨b, off + m, none⟩) hbl).trans hcm0
      have hby := cut_bytes (hby.below H.below)
      have HX := Lib.hid hx
      clear hc hcm0 hx
      generalize l[m] = x at *
      obtain ⟨s, hs, hall⟩ := H.all
      have hrows := H.rows
      have hsz := H.below.size
      have HB := Lib.hid hby
      clear hby
      by_cases hx100 : 100 < x.n
      · have hmin : min x.n 100 = 100 := by omega
        have hcv : x.cut.val = .slice x.A 100 x.c := by simp only [RowOf.cut, RowOf.val, hmin]
        have hby := HB.out
        rw [hmin] at hby
        have HY := Lib.hid hby
        have HV := Lib.hid hcv
        clear hmin hby HB hcv
        go_wp2_with (first | (at_builtin; refine wpList_append_bytes _ rfl (.tmp 32) (.tmp 33) _ rfl w.heap.size 5 i0 _ 1 Try.underlying29 HI.out hz0 hz1 hz2 rfl _ s _ rfl hall x.A 100 x.c x.cut.bs rfl HY.out (by simp only [maxLen]; omega) (by omega) hsz ?_; intro v2 wa hown1 hg1 _) | (at_builtin; refine wpList_append_own _ rfl (.tmp 35) (.tmp 37) _ rfl w.heap.size 29 j0 _ 1 24 Try.underlying36 HJ.out hy0 hy1 hy2 rfl (by decide) _ m _ rfl ((hrows.kept hg1 (own_apart hrows hall (by decide))).alloc _) ⟨wa.heap.size, 0, none⟩ 1 1 [.slice x.A 100 x.c] rfl rfl (cell_one_new _ _ _) (by intro u hu; simp at hu; subst hu; rfl) (by simp only [maxLen]; omega) (by omega) (by have := hg1.size; simp; omega) ?_; intro v3 wb hown2 hg2 _))
        refine ⟨⟨m + 1, by go_num, step_rows H HX.out hlt20 hlt (k := 100) (by omega) hs hown1 hg1 hall _ (by rw [HV.out]; exact hown2) hg2 ((hrows.kept hg1 (own_apart hrows hall (by decide))).alloc _)⟩, by simp [intOf]; omega⟩
      · have hmin : min x.n 100 = x.n := by omega
        have hcv : x.cut.val = .slice x.A x.n x.c := by simp only [RowOf.cut, RowOf.val, hmin]
        have hby := HB.out
        rw [hmin] at hby
        have HY := Lib.hid hby
        have HV := Lib.hid hcv
        clear hmin hby HB hcv
        go_wp2_with (first | (at_builtin; refine wpList_append_bytes _ rfl (.tmp 32) (.tmp 33) _ rfl w.heap.size 5 i0 _ 1 Try.underlying29 HI.out hz0 hz1 hz2 rfl _ s _ rfl hall x.A x.n x.c x.cut.bs rfl HY.out (by simp only [maxLen]; omega) (by omega) hsz ?_; intro v2 wa hown1 hg1 _) | (at_builtin; refine wpList_append_own _ rfl (.tmp 35) (.tmp 37) _ rfl w.heap.size 29 j0 _ 1 24 Try.underlying36 HJ.out hy0 hy1 hy2 rfl (by decide) _ m _ rfl ((hrows.kept hg1 (own_apart hrows hall (by decide))).alloc _) ⟨wa.heap.size, 0, none⟩ 1 1 [.slice x.A x.n x.c] rfl rfl (cell_one_new _ _ _) (by intro u hu; simp at hu; subst hu; rfl) (by simp only [maxLen]; omega) (by omega) (by have := hg1.size; simp; omega) ?_; intro v3 wb hown2 hg2 _))
        refine ⟨⟨m + 1, by go_num, step_rows H HX.out hlt20 hlt (k := x.n) (by omega) hs hown1 hg1 hall _ (by rw [HV.out]; exact hown2) hg2 ((hrows.kept hg1 (own_apart hrows hall (by decide))).alloc _)⟩, by simp [intOf]; omega⟩
    · have hstop : m = min n 20 := by omega
      have hall : (cuts l).take m = cuts l := by
        apply List.take_of_length_le
        simp [cuts, hr.1]; omega
      have hlen : (cuts l).length = m := by simp [cuts, hr.1]; omega
      obtain ⟨s, hs, hown⟩ := H.all
      have hown2 := H.rows
      rw [hall] at hown hown2
      have hsz := H.below.size
      have htab := tab_at wr gt (0, 0) H.tab
      have HT := Lib.hid htab
      have hb := H.below
      obtain ⟨A5, c5, rfl, hX5, _, hc5, _⟩ := own_form hown
      obtain ⟨A6, c6, rfl, hR6, hc6, _⟩ := rows_own hown2 (cuts_bytes hr H.below)
      have hs2 : s ≤ 2000 := by omega
      clear hall hstop htab hown hown2 H hr hrel0
      have hgt := HW.out
      clear HW
      subst hgt
      generalize cuts l = L at *
      have hor : m < n ∧ ¬ m < 20 ∨ n ≤ m := by omega
      clear hcase
      rcases hor with ⟨hc1, hc2⟩ | hc1
      all_goals
        go_wp2_with fail
        refine (row_any w2.heap.size Crc.entry A6 m c6 L wr HT.out entry_lt256 hR6 (by omega)).mono ?_
        rintro e w' ⟨rfl, rfl⟩
        go_wp2_with fail
        refine (sum_any w2.heap.size Crc.entry A5 s c5 (flat L) wr HT.out entry_lt256 hX5 (by omega)).mono ?_
        rintro e w' ⟨rfl, rfl⟩
        rw [show (List.map (·.bs) L).flatten = flat L from rfl]
        generalize Crc.more Crc.entry 0 (flat L) = r at *
        go_wp2_with fail
        go_ret
        exact ⟨rfl, hb⟩
end Go.Proofs.Ytomijekbkamcbaa
