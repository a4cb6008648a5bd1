/- Walks: chapter 10's few; the document's Same and Look. -/
import Derived.Test.YthkjgkdglphfcaaRows
import Derived.Test.YthkjgkdglphfcaaDirLook
import Derived.Test.YthkjgkdglphfcaaDirEq
import Derived.BigQuiet
namespace Go.Proofs.Ythkjgkdglphfcaa
set_option linter.unusedVariables false
set_option linter.unusedSimpArgs false
open Go.RowKit

theorem few_any (A : Option Addr) (n c : Nat) (w : World) (hc : n ≤ c) (hm : c ≤ 9223372036854775807) : Calls Try.prog 9 #[.slice A n c] w fun r w' => r = .returned (.slice A (min n 60) c) ∧ w = w' := by
  by_cases h : 60 < n
  · have hI : (60 : Int) < (n : Int) := by omega
    have hc60 : (60 : Int) ≤ (c : Int) := by omega
    go_enter Try.func9, Try.ntmps9
    go_wp2_with fail
    go_ret
    exact ⟨by rw [Nat.min_eq_right (by omega)]; rfl, rfl⟩
  · have hI : (n : Int) ≤ 60 := by omega
    go_enter Try.func9, Try.ntmps9
    go_wp2_with fail
    go_ret
    exact ⟨by rw [Nat.min_eq_left (by omega)]; rfl, rfl⟩
set_option maxHeartbeats 1000000 in
theorem same_any (A A' : Option Addr) (n c n' c' : Nat) (l l' : List Ent) (w : World) (h : EntsIn w A n l) (h' : EntsIn w A' n' l') (hn : n ≤ 1000000) (hn' : n' ≤ 1000000) :
    Calls Try.prog 12 #[.slice A n c, .slice A' n' c'] w fun r w' => r = .returned (.bool (decide (l = l'))) ∧ Below w.heap.size w w' := by
  have HA := Lib.hid h
  have HA' := Lib.hid h'
  clear h h'
  by_cases hne : n = n'
  · subst hne
    go_enter Try.func12, Try.ntmps12
    go_wp2_with fail
    go_loopw [5] (fun i wr => ∃ k : Nat, i = .int .i64 k ∧ k ≤ n ∧ l.take k = l'.take k ∧ Below w.heap.size w wr) (fun i _ => n - (intOf i).toNat)
    case atStart => exact ⟨0, rfl, by omega, rfl, Below.refl _ _⟩
    case round =>
      obtain ⟨k, rfl, hk, ht, hb⟩ := hrel
      have HT := Lib.hid ht
      have HB := Lib.hid hb
      clear ht hb
      by_cases hlt : k < n
      · obtain ⟨b, off, x, hA, hx, h0, h1, h2⟩ := (HA.out.below HB.out).at_ hlt
        obtain ⟨b', off', x', hA', hx', h0', h1', h2'⟩ := (HA'.out.below HB.out).at_ hlt
        subst hA hA'
        have hk0 : (0 : Int) ≤ (k : Int) := by omega
        have hk1 : (k : Int) < (n : Int) := by omega
        have HX := Lib.hid hx
        have HX' := Lib.hid hx'
        have hq := ent_neq x x'
        obtain ⟨d, hd⟩ : ∃ d, decide (x = x') = d := ⟨_, rfl⟩
        rw [hd] at hq
        have HD := Lib.hid hd
        clear hx hx' hd
        cases d
        · have hxx : x ≠ x' := of_decide_eq_false HD.out
          go_upto_region 6 with fail
          go_big_quiet (fail)
          go_wp2_with fail
          go_ret
          refine ⟨?_, belowN HB.out _⟩
          have e1 : l ≠ l' := by
            rintro rfl
            have := HX.out.symm.trans HX'.out
            injection this with this
            exact hxx this
          rw [decide_eq_false e1]
          rfl
        · have hxx : x = x' := of_decide_eq_true HD.out
          have HT' : Hid (l.take (k + 1) = l'.take (k + 1)) := by
            show l.take (k + 1) = l'.take (k + 1)
            rw [take_snoc_ent HX.out, take_snoc_ent HX'.out, HT.out, hxx]
          clear hxx
          go_upto_region 6 with fail
          go_big_quiet (fail)
          go_wp2_with fail
          exact ⟨⟨k + 1, by go_num, by omega, HT'.out, belowN HB.out _⟩, by simp [intOf]; omega⟩
      · obtain rfl : k = n := by omega
        go_wp2_with fail
        go_ret
        refine ⟨?_, HB.out⟩
        have e1 : l = l' := by
          have := HT.out
          rw [List.take_of_length_le (by rw [HA.out.1]; omega), List.take_of_length_le (by rw [HA'.out.1]; omega)] at this
          exact this
        rw [decide_eq_true e1]
        rfl
  · have hd : ((n : Int) != (n' : Int)) = true := by rw [bne_iff_ne]; omega
    go_enter Try.func12, Try.ntmps12
    go_wp2_with fail
    go_ret
    refine ⟨?_, Below.refl _ _⟩
    rw [decide_eq_false (fun e => hne (by rw [← HA.out.1, ← HA'.out.1, e]))]
    rfl
theorem lkF_snoc (l : List Ent) (x : Ent) (s : List UInt8) (h : lkF l s = none) : lkF (l ++ [x]) s = if x.name == s then some x else none := by
  unfold lkF at h ⊢
  rw [List.find?_append, h, List.find?_cons]
  cases x.name == s <;> rfl
theorem lkF_take {l : List Ent} {k : Nat} {s : List UInt8} {x : Ent} (h : lkF (l.take k) s = some x) : lkF l s = some x := by
  unfold lkF at h ⊢
  rw [← List.take_append_drop k l, List.find?_append, h]
  rfl
set_option maxRecDepth 100000 in
set_option maxHeartbeats 4000000 in
theorem rlook_any (A : Option Addr) (n c : Nat) (l : List Ent) (s : List UInt8) (w : World) (h : EntsIn w A n l) (hn : n ≤ 1000000) : Calls Try.prog 16 #[.slice A n c, .string (str s)] w fun r w' => r = .returned (.tuple #[.agg (entCells (lkX l s)), .int .i64 (lkE l s : Nat)]) ∧ Below w.heap.size w w' := by
  have HA := Lib.hid h
  clear h
  have hss := str_toList s
  have HR0 : Hid (EntAt (w.alloc (.cells #[.string ⟨#[]⟩, .int .i64 0, .int .i64 0] 35)) w.heap.size ent0) := EntAt.new w ent0
  have HB0 : Hid (Below w.heap.size w (w.alloc (.cells #[.string ⟨#[]⟩, .int .i64 0, .int .i64 0] 35))) := below_all.alloc (Nat.le_refl _) _
  go_enter Try.func16, Try.ntmps16
  go_wp2_with fail
  go_loopw [6] (fun i wr => ∃ k : Nat, i = .int .i64 k ∧ k ≤ n ∧ lkF (l.take k) s = none ∧ EntAt wr w.heap.size ent0 ∧ Below w.heap.size w wr) (fun i _ => n - (intOf i).toNat)
  case atStart => exact ⟨0, rfl, by omega, rfl, HR0.out, HB0.out⟩
  case round =>
    obtain ⟨k, rfl, hk, ht, hr, hb⟩ := hrel
    have HT := Lib.hid ht
    have HB := Lib.hid hb
    have HR := Lib.hid hr
    clear ht hb hr HR0 HB0
    have r0 := HR.out.c0
    have r1 := HR.out.c1
    have r2 := HR.out.c2
    have f0 := HR.out.free 0
    have f1 := HR.out.free 1
    have f2 := HR.out.free 2
    by_cases hlt : k < n
    · obtain ⟨b, off, x, hA, hx, h0, h1, h2⟩ := (HA.out.below HB.out).at_ hlt
      subst hA
      have hk0 : (0 : Int) ≤ (k : Int) := by omega
      have hk1 : (k : Int) < (n : Int) := by omega
      have hxs := str_toList x.name
      have HS := Lib.hid (lkF_snoc (l.take k) x s HT.out)
      rw [← take_snoc_ent hx] at HS
      clear hx
      cases hxe : x.name == s
      · have HF : Hid (lkF (l.take (k + 1)) s = none) := by show lkF (l.take (k + 1)) s = none; rw [HS.out, hxe]; rfl
        clear HS
        go_wp2_with fail
        exact ⟨⟨k + 1, by go_num, by omega, HF.out, HR.out, HB.out⟩, by simp [intOf]; omega⟩
      · have hF : lkF l s = some x := lkF_take (k := k + 1) (by rw [HS.out, hxe]; rfl)
        have HF : Hid (lkX l s = x ∧ lkE l s = 0) := by show lkX l s = x ∧ lkE l s = 0; unfold lkX lkE; rw [hF]; exact ⟨rfl, rfl⟩
        clear HS hF
        go_upto_region 5 with fail
        have HF9 : Hid (EntAt (((wr.setCell ⟨w.heap.size, 0, none⟩ (.string (str x.name))).setCell ⟨w.heap.size, 1, none⟩ (.int .i64 x.kind)).setCell ⟨w.heap.size, 2, none⟩ (.int .i64 x.ref)) w.heap.size x) := HR.out.set3 _ _ _
        have HB9 : Hid (Below w.heap.size w (((wr.setCell ⟨w.heap.size, 0, none⟩ (.string (str x.name))).setCell ⟨w.heap.size, 1, none⟩ (.int .i64 x.kind)).setCell ⟨w.heap.size, 2, none⟩ (.int .i64 x.ref))) := below_set3 HB.out (Nat.le_refl _) _ _ _
        go_wp2_with fail
        refine bodyPost_ret (resultsD_cell_tmp_row rfl _ _ w.heap.size 35 (entCells x) (0, 0) _ rfl HF9.out Try.underlying35 rfl (entSize x)) rfl ?_
        rw [HF.out.1, HF.out.2]
        exact ⟨rfl, HB9.out⟩
    · obtain rfl : k = n := by omega
      have hF : lkF l s = none := by have := HT.out; rw [List.take_of_length_le (by rw [HA.out.1]; omega)] at this; exact this
      have HF : Hid (lkX l s = ent0 ∧ lkE l s = 20) := by show lkX l s = ent0 ∧ lkE l s = 20; unfold lkX lkE; rw [hF]; exact ⟨rfl, rfl⟩
      clear hF
      go_upto_region 6 with fail
      have HF9 : Hid (EntAt (((wr.setCell ⟨w.heap.size, 0, none⟩ (.string (str ent0.name))).setCell ⟨w.heap.size, 1, none⟩ (.int .i64 ent0.kind)).setCell ⟨w.heap.size, 2, none⟩ (.int .i64 ent0.ref)) w.heap.size ent0) := HR.out.set3 _ _ _
      have HB9 : Hid (Below w.heap.size w (((wr.setCell ⟨w.heap.size, 0, none⟩ (.string (str ent0.name))).setCell ⟨w.heap.size, 1, none⟩ (.int .i64 ent0.kind)).setCell ⟨w.heap.size, 2, none⟩ (.int .i64 ent0.ref))) := below_set3 HB.out (Nat.le_refl _) _ _ _
      go_wp2_with fail
      refine bodyPost_ret (resultsD_cell_tmp_row rfl _ _ w.heap.size 35 (entCells ent0) (0, 0) _ rfl HF9.out Try.underlying35 rfl (entSize ent0)) rfl ?_
      rw [HF.out.1, HF.out.2]
      exact ⟨rfl, HB9.out⟩
end Go.Proofs.Ythkjgkdglphfcaa
