/- Walk: DirtabMiss: a name that no entry has is not found; two lists of which one goes on behind the other are one list, if the names rise. -/
import Derived.Test.YthkjgkdglphfcaaRows
import Derived.Test.YthkjgkdglphfcaaDirLooks
import Derived.BigQuiet
namespace Go.Proofs.Ythkjgkdglphfcaa
set_option linter.unusedVariables false
set_option linter.unusedSimpArgs false
open Go.RowKit

theorem last_of {l : List Ent} {k : Nat} {x : Ent} (h : l[k]? = some x) (hk : k + 1 = l.length) (last : List UInt8) : lastN last l = x.name := by
  have := take_snoc_ent h
  rw [List.take_of_length_le (by omega)] at this
  rw [this, lastN_snoc]
theorem encL_append (a b : List Ent) : encL (a ++ b) = encL a ++ encL b := by simp [encL, List.flatMap_append]
theorem may_last {x : Ent} {p q : List UInt8} (h : mayB x p = true) : mayB x q = Op.bytesLess q x.name := by
  have h : MayP x p := of_decide_eq_true h
  unfold mayB
  cases hq : Op.bytesLess q x.name
  · exact decide_eq_false fun h2 => by have := h2.2.1; rw [hq] at this; cases this
  · exact decide_eq_true ⟨h.1, hq, h.2.2.1, h.2.2.2⟩
theorem miss_yes {a b : List Ent} (ha : okL [] a = true) (hb : okL [] b = true) (hr : a = [] ∨ ∀ y ∈ b.head?, Op.bytesLess (lastN [] a) y.name = true) : TakeP (encL a ++ encL b) (a ++ b) := by
  refine ⟨?_, encL_append a b⟩
  rw [okL_append, ha, Bool.true_and]
  rcases hr with rfl | hr
  · exact hb
  · cases b with
    | nil => rfl
    | cons y b =>
      simp only [okL, Bool.and_eq_true] at hb ⊢
      refine ⟨?_, hb.2⟩
      rw [may_last (q := lastN [] a) hb.1]
      exact hr y (by simp)
theorem miss_no {a b : List Ent} {y : Ent} (ha : okL [] a = true) (hb : okL [] (y :: b) = true) (hr : Op.bytesLess (lastN [] a) y.name = false) : ¬ ∃ l, TakeP (encL a ++ encL (y :: b)) l := by
  simp only [okL, Bool.and_eq_true] at hb
  refine take_stuck (rest := encL (y :: b)) ha rfl ?_ ?_
  · intro h
    rw [encL_cons] at h
    exact encX_ne y (List.append_eq_nil_iff.1 h).1
  · rintro ⟨_, h2⟩
    rw [encL_cons, (dec_enc hb.1 (encL b)).1, may_last (q := lastN [] a) hb.1, hr] at h2
    cases h2
theorem lkF_there {l : List Ent} {k : Nat} {x : Ent} {s : List UInt8} (h : l[k]? = some x) : (lkF (l.take (k + 1)) s).isSome = ((lkF (l.take k) s).isSome || (x.name == s)) := by
  rw [take_snoc_ent h]
  unfold lkF
  rw [List.find?_append, List.find?_cons]
  cases List.find? (fun (x : Ent) => x.name == s) (l.take k) <;> cases x.name == s <;> rfl
theorem lkE_eq (l : List Ent) (s : List UInt8) {b : Bool} (h : (lkF l s).isSome = b) : lkE l s = if b then 0 else 20 := by unfold lkE; rw [h]
set_option maxRecDepth 100000 in
set_option maxHeartbeats 4000000 in
theorem dirtabMiss_walk (A : Option Addr) (n c : Nat) (l : List Ent) (A' : Option Addr) (n' c' : Nat) (l' : List Ent) (s : ByteArray) (w : World) (h : EntsIn w A n l ∧ n ≤ c ∧ c ≤ maxLen) (h' : EntsIn w A' n' l' ∧ n' ≤ c' ∧ c' ≤ maxLen) (hs : s.size ≤ maxLen) :
    Calls Try.prog 7 #[.slice A n c, .slice A' n' c', .string s] w fun r w' => r = .returned (.bool true) ∧ Below w.heap.size w w' := by
  obtain ⟨hl, hnc, hcm⟩ := h
  obtain ⟨hl', hnc', hcm'⟩ := h'
  obtain ⟨t, rfl⟩ : ∃ t, s = str t := ⟨s.data.toList, by simp [str]⟩
  obtain ⟨i0, hi, hz0, hz1, hz2⟩ := info_parts u8_info
  have HI := Lib.hid hi
  obtain ⟨m, hm⟩ : ∃ m, m = min n 60 := ⟨_, rfl⟩
  obtain ⟨m', hm'⟩ : ∃ m', m' = min n' 60 := ⟨_, rfl⟩
  have hlm := hl.take (show m ≤ n by omega)
  have hlm' := hl'.take (show m' ≤ n' by omega)
  have HL := Lib.hid hlm
  have HL' := Lib.hid hlm'
  have hm60 : m ≤ 60 := by omega
  have hm60' : m' ≤ 60 := by omega
  have hmc : m ≤ c := by omega
  have hmc' : m' ≤ c' := by omega
  have hcq : c ≤ 9223372036854775807 := hcm
  have hcq' : c' ≤ 9223372036854775807 := hcm'
  have HF := Lib.hid (fun (w' : World) => few_any A n c w' hnc hcq)
  have HF' := Lib.hid (fun (w' : World) => few_any A' n' c' w' hnc' hcq')
  rw [← hm] at HF
  rw [← hm'] at HF'
  generalize l.take m = lm at *
  generalize l'.take m' = lm' at *
  clear hl hl' hlm hlm' hm hm' hs hcm hcm' hi
  go_enter Try.func7, Try.ntmps7
  go_wp2_with fail
  refine (shown_any w).mono ?_
  rintro r w1 ⟨rfl, hb1⟩
  have HB1 := Lib.hid hb1
  clear hb1
  go_wp2_with fail
  refine (HF.out w1).mono ?_
  rintro r w' ⟨rfl, rfl⟩
  go_wp2_with fail
  refine (HF'.out w1).mono ?_
  rintro r w' ⟨rfl, rfl⟩
  go_wp2_with fail
  refine (put_any A m c lm w1 (HL.out.below HB1.out) (by omega) hmc).mono ?_
  rintro r w2 ⟨A2, c2, rfl, hby2, hc2, hc2', hb2⟩
  have HB2 := Lib.hid (below_then HB1.out hb2)
  have HY2 := Lib.hid hby2
  have HLN := Lib.hid (putBs_len lm 60 (by rw [HL.out.1]; exact hm60))
  clear hb2 hby2 HB1 HF HF'
  go_wp2_with fail
  refine (put_any A' m' c' lm' w2 (HL'.out.below HB2.out) (by omega) hmc').mono ?_
  rintro r w3 ⟨A3, c3, rfl, hby3, hc3, hc3', hb3⟩
  have HB3 := Lib.hid (below_then HB2.out hb3)
  have HY3 := Lib.hid (HY2.out.below hb3)
  have HZ3 := Lib.hid hby3
  have HLN' := Lib.hid (putBs_len lm' 60 (by rw [HL'.out.1]; exact hm60'))
  clear hb3 hby3 HB2 HY2
  cases hok : okL [] lm
  · obtain ⟨e1, e2⟩ := put_bad hok
    rw [e2]
    clear e1 e2
    generalize putE lm' = e' at *
    go_wp2_with fail
    go_ret
    exact ⟨rfl, HB3.out⟩
  · cases hok' : okL [] lm'
    · obtain ⟨_, e2⟩ := put_ok hok
      obtain ⟨_, e2'⟩ := put_bad hok'
      rw [e2, e2']
      clear e2 e2'
      go_wp2_with fail
      go_ret
      exact ⟨rfl, HB3.out⟩
    · obtain ⟨htp, e2⟩ := put_ok hok
      obtain ⟨htp', e2'⟩ := put_ok hok'
      rw [e2, e2']
      have HTP := Lib.hid htp
      have HTP' := Lib.hid htp'
      clear e2 e2' htp htp'
      go_wp2_with fail
      go_loopw [12, 13] (fun th i wr => ∃ k : Nat, i = .int .i64 k ∧ k ≤ m ∧ th = .bool ((lkF (lm.take k) t).isSome) ∧ wr = w3) (fun _ i _ => m - (intOf i).toNat)
      case atStart => exact ⟨0, rfl, by omega, rfl, rfl⟩
      case round =>
        obtain ⟨k, rfl, hk, rfl, rfl⟩ := hrel
        by_cases hlt : k < m
        · obtain ⟨b, off, x, rfl, hx, h0, h1, h2⟩ := (HL.out.below HB3.out).at_ hlt
          have hk0 : (0 : Int) ≤ (k : Int) := by omega
          have hk1 : (k : Int) < (m : Int) := by omega
          have HT := Lib.hid (lkF_there (s := t) hx)
          have hss := str_toList t
          have hxs := str_toList x.name
          clear hx
          obtain ⟨th, hth⟩ : ∃ th, (lkF (lm.take k) t).isSome = th := ⟨_, rfl⟩
          obtain ⟨q, hq⟩ : ∃ q, (x.name == t) = q := ⟨_, rfl⟩
          rw [hth, hq] at HT
          rw [hth]
          clear hth
          cases th
          · cases q
            · go_wp2_with fail
              exact ⟨⟨k + 1, by go_num, by omega, by rw [HT.out]; rfl, trivial⟩, by simp [intOf]; omega⟩
            · go_wp2_with fail
              exact ⟨⟨k + 1, by go_num, by omega, by rw [HT.out]; rfl, trivial⟩, by simp [intOf]; omega⟩
          · go_wp2_with fail
            exact ⟨⟨k + 1, by go_num, by omega, by rw [HT.out]; rfl, trivial⟩, by simp [intOf]; omega⟩
        · obtain rfl : k = m := by omega
          rw [List.take_of_length_le (l := lm) (by rw [HL.out.1]; omega)]
          obtain ⟨th, hth⟩ : ∃ th, (lkF lm t).isSome = th := ⟨_, rfl⟩
          have HLE := Lib.hid (lkE_eq lm t hth)
          rw [hth]
          clear hth
          go_wp2_with fail
          refine (look_any A2 _ c2 _ t wr HY3.out (by have := HLN.out; omega)).mono ?_
          intro r w4 hr
          obtain ⟨rfl, hb4⟩ := look_of HTP.out hr
          rw [HLE.out]
          clear hr HLE
          generalize lkX lm t = x9 at *
          have HB5 : Hid (Below wr.heap.size wr (w4.alloc (.cells (entCells x9) 35))) := hb4.alloc hb4.size _
          clear hb4
          unfold entCells at HB5 ⊢
          cases th
          all_goals
            first | rw [if_pos rfl] | rw [if_neg (by simp)]
            go_upto_region 16 with fail
            generalize w4.alloc (.cells #[.string (str x9.name), .int .i64 x9.kind, .int .i64 x9.ref] 35) = w5 at *
            generalize w4.heap.size = gx at *
            have HB6 := Lib.hid (below_then HB3.out HB5.out)
            have HY6 : Hid (Bytes (w5.alloc (.cells #[] 5)) A2 (putBs lm).length (putBs lm)) := (HY3.out.below HB5.out).below (below_all.alloc (Nat.le_refl _) _)
            have HZ6 : Hid (Bytes w5 A3 (putBs lm').length (putBs lm')) := HZ3.out.below HB5.out
            have HOW0 := Lib.hid (owns_empty w5 5 (Nat.le_refl _))
            clear HB5
            go_wp2_with (at_builtin; first
              | (refine wpList_append_bytes _ rfl (.tmp 76) (.tmp 77) _ rfl w5.heap.size 5 i0 _ 1 Try.underlying25 HI.out hz0 hz1 hz2 rfl (.slice (some ⟨w5.heap.size, 0, none⟩) 0 0) 0 [] rfl HOW0.out A2 _ c2 (putBs lm) rfl HY6.out (by have := HLN.out; simp only [maxLen]; omega) (by have := HLN.out; omega) (by simp) ?_; intro v7 w7 hown7 hgrow7 _; have HW7 := Lib.hid (below_append (below_all.alloc (Nat.le_refl _) _ : Below w5.heap.size w5 _) hgrow7 HOW0.out (Nat.le_refl _) (by simp)); rw [Nat.zero_add, List.nil_append] at hown7; have HO7 := Lib.hid hown7; have HZ7 := Lib.hid (HZ6.out.below HW7.out); clear hown7 hgrow7)
              | (refine wpList_append_bytes _ rfl (.tmp 78) (.tmp 79) _ rfl w5.heap.size 5 i0 _ 1 Try.underlying25 HI.out hz0 hz1 hz2 rfl _ _ (putBs lm) rfl HO7.out A3 _ c3 (putBs lm') rfl HZ7.out (by have := HLN.out; have := HLN'.out; simp only [maxLen]; omega) (by have := HLN.out; have := HLN'.out; omega) (by have := HW7.out.size; omega) ?_; intro v8 w8 hown8 hgrow8 _; have HW8 := Lib.hid (below_append HW7.out hgrow8 HO7.out (Nat.le_refl _) HW7.out.size); obtain ⟨A8, c8, rfl, hby8, hn8, hc8, _⟩ := own_form hown8; have HBY8 := Lib.hid hby8; clear hown8 hgrow8 hby8))
            have HB8 := Lib.hid (below_then HB6.out HW8.out)
            have HTk := Lib.hid (take_any A8 _ c8 (putBs lm ++ putBs lm') w8 HBY8.out (by have := HLN.out; have := HLN'.out; omega))
            clear HOW0 HW7 HO7 HZ7 HBY8 HY6 HZ6 HW8 HB6
            have hm1 : lm.length = k := HL.out.1
            have hm2 : lm'.length = m' := HL'.out.1
            have hEq : putBs lm = encL lm ∧ putBs lm' = encL lm' := ⟨HTP.out.2.symm, HTP'.out.2.symm⟩
            have HLl := Lib.hid (HL.out.below HB8.out)
            have HLl' := Lib.hid (HL'.out.below HB8.out)
            rcases Nat.eq_zero_or_pos k with hk0 | hk0
            · have HYes : Hid (TakeP (putBs lm ++ putBs lm') (lm ++ lm')) := by
                have := miss_yes hok hok' (.inl (List.eq_nil_of_length_eq_zero (hm1.trans hk0)))
                rw [← hEq.1, ← hEq.2] at this
                exact this
              have hz : ((k : Int) == 0) = true := by rw [beq_iff_eq]; omega
              have hsum : (lm ++ lm').length = k + m' := by rw [List.length_append, hm1, hm2]
              have HSum := Lib.hid hsum
              clear hm1 hm2 hEq hk0 hsum
              refine HTk.out.mono ?_
              rintro r w9 ⟨hr, hb9⟩
              rcases hr with ⟨l9, A9, c9, h9, rfl, _⟩ | ⟨h9, _⟩
              · obtain rfl := take_one h9 HYes.out
                rw [HSum.out]
                have HB9 := Lib.hid (below_then HB8.out hb9)
                clear h9 hb9
                go_upto_region 17 with fail
                go_big_quiet (fail)
                go_wp2_with fail
                go_ret
                exact ⟨rfl, belowN HB9.out _⟩
              · exact absurd ⟨_, HYes.out⟩ h9
            · rcases Nat.eq_zero_or_pos m' with hm0 | hm0
              · have HYes : Hid (TakeP (putBs lm ++ putBs lm') (lm ++ lm')) := by
                  have := miss_yes hok hok' (.inr (by rw [List.eq_nil_of_length_eq_zero (hm2.trans hm0)]; simp))
                  rw [← hEq.1, ← hEq.2] at this
                  exact this
                have hz : ((k : Int) == 0) = false := by rw [beq_eq_false_iff_ne]; omega
                have hz' : ((m' : Int) == 0) = true := by rw [beq_iff_eq]; omega
                have hsum : (lm ++ lm').length = k + m' := by rw [List.length_append, hm1, hm2]
                have HSum := Lib.hid hsum
                clear hm1 hm2 hEq hk0 hm0 hsum
                refine HTk.out.mono ?_
                rintro r w9 ⟨hr, hb9⟩
                rcases hr with ⟨l9, A9, c9, h9, rfl, _⟩ | ⟨h9, _⟩
                · obtain rfl := take_one h9 HYes.out
                  rw [HSum.out]
                  have HB9 := Lib.hid (below_then HB8.out hb9)
                  clear h9 hb9
                  go_upto_region 17 with fail
                  go_big_quiet (fail)
                  go_wp2_with fail
                  go_ret
                  exact ⟨rfl, belowN HB9.out _⟩
                · exact absurd ⟨_, HYes.out⟩ h9
              · have hz : ((k : Int) == 0) = false := by rw [beq_eq_false_iff_ne]; omega
                have hz' : ((m' : Int) == 0) = false := by rw [beq_eq_false_iff_ne]; omega
                obtain ⟨pk, hpk⟩ : ∃ pk, pk = k - 1 := ⟨_, rfl⟩
                obtain ⟨b, off, x, rfl, hx, x0, _, _⟩ := HLl.out.at_ (show pk < k by omega)
                obtain ⟨b', off', y, rfl, hy, y0, _, _⟩ := HLl'.out.at_ hm0
                have hlast := last_of hx (show pk + 1 = lm.length by omega) []
                obtain ⟨q, hq⟩ : ∃ q, Op.bytesLess x.name y.name = q := ⟨_, rfl⟩
                have hpkI : (k : Int) - 1 = (pk : Int) := by omega
                have hpkw : IntKind.i64.wrap (pk : Int) = (pk : Int) := by rw [IntKind.wrap_i64]; omega
                have hp0 : (0 : Int) ≤ (pk : Int) := by omega
                have hp1 : (pk : Int) < (k : Int) := by omega
                have hmI : (0 : Int) < (m' : Int) := by omega
                have hxs := str_toList x.name
                have hys := str_toList y.name
                have HQ := Lib.hid (show Op.bytesLess (lastN [] lm) y.name = q from by rw [hlast]; exact hq)
                have hhead : lm'.head? = some y := by rw [List.head?_eq_getElem?]; exact hy
                have HHd := Lib.hid hhead
                have hsum : (lm ++ lm').length = k + m' := by rw [List.length_append, hm1, hm2]
                have HSum := Lib.hid hsum
                have HEq := Lib.hid hEq
                clear hm1 hm2 hEq hk0 hm0 hsum hpk hx hy hlast hhead HLl HLl'
                rw [Nat.zero_mul, Nat.add_zero] at y0
                cases q
                · have HNo : Hid (¬ ∃ l, TakeP (putBs lm ++ putBs lm') l) := by
                    cases hb' : lm' with
                    | nil => have := HHd.out; rw [hb'] at this; cases this
                    | cons y' b9 =>
                      have := HHd.out
                      rw [hb'] at this hok'
                      injection this with this
                      subst this
                      have h9 := miss_no hok hok' HQ.out
                      rw [← hb', ← HEq.out.1, ← HEq.out.2] at h9
                      rw [← hb']
                      exact h9
                  refine HTk.out.mono ?_
                  rintro r w9 ⟨hr, hb9⟩
                  rcases hr with ⟨l9, A9, c9, h9, _⟩ | ⟨_, rfl⟩
                  · exact absurd ⟨l9, h9⟩ HNo.out
                  · have HB9 := Lib.hid (below_then HB8.out hb9)
                    have hx9 := (hb9.cell (p := ⟨b, off + pk * 3, none⟩) (block_lt_of_cell x0)).trans x0
                    have hy9 := (hb9.cell (p := ⟨b', off', none⟩) (block_lt_of_cell y0)).trans y0
                    clear x0 y0
                    clear hb9
                    go_upto_region 17 with fail
                    go_big_quiet (fail)
                    go_wp2_with fail
                    go_ret
                    exact ⟨rfl, belowN HB9.out _⟩
                · have HYes : Hid (TakeP (putBs lm ++ putBs lm') (lm ++ lm')) := by
                    have := miss_yes hok hok' (.inr (by rw [HHd.out]; intro y' hy'; cases hy'; exact HQ.out))
                    rw [← HEq.out.1, ← HEq.out.2] at this
                    exact this
                  refine HTk.out.mono ?_
                  rintro r w9 ⟨hr, hb9⟩
                  rcases hr with ⟨l9, A9, c9, h9, rfl, _⟩ | ⟨h9, _⟩
                  · obtain rfl := take_one h9 HYes.out
                    rw [HSum.out]
                    have HB9 := Lib.hid (below_then HB8.out hb9)
                    have hx9 := (hb9.cell (p := ⟨b, off + pk * 3, none⟩) (block_lt_of_cell x0)).trans x0
                    have hy9 := (hb9.cell (p := ⟨b', off', none⟩) (block_lt_of_cell y0)).trans y0
                    clear x0 y0
                    clear h9 hb9
                    go_upto_region 17 with fail
                    go_big_quiet (fail)
                    go_wp2_with fail
                    go_ret
                    exact ⟨rfl, belowN HB9.out _⟩
                  · exact absurd ⟨_, HYes.out⟩ h9
end Go.Proofs.Ythkjgkdglphfcaa
