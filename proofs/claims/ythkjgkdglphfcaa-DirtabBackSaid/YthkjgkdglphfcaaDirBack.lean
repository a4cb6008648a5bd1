/- Walk: DirtabBack: a list that was put is taken as it was, each entry is found by its name, and it is none, or shorter, if it is cut. -/
import Derived.Test.YthkjgkdglphfcaaRows
import Derived.Test.YthkjgkdglphfcaaDirLooks
import Derived.BigQuiet
namespace Go.Proofs.Ythkjgkdglphfcaa
set_option linter.unusedVariables false
set_option linter.unusedSimpArgs false
open Go.RowKit

theorem int_of {x : Int} (h : (Lit.int .i64 x).wf = true) : -9223372036854775808 ≤ x ∧ x ≤ 9223372036854775807 := by
  simpa [Lit.wf, IntKind.min, IntKind.max, IntKind.bits, IntKind.signed] using h
theorem lk_own : ∀ (l : List Ent) (last : List UInt8), okL last l = true → ∀ (i : Nat) (x : Ent), l[i]? = some x → lkF l x.name = some x
  | [], _, _, i, x, h => by simp at h
  | y :: l, last, hok, i, x, h => by
    simp only [okL, Bool.and_eq_true] at hok
    unfold lkF
    rw [List.find?_cons]
    match i with
    | 0 =>
      simp at h
      subst h
      simp
    | i + 1 =>
      have h1 : l[i]? = some x := by simpa using h
      have hne : (y.name == x.name) = false := by
        rw [beq_eq_false_iff_ne]
        intro e
        have := okL_less l y.name hok.2 i x h1
        rw [e, less_irrefl] at this
        cases this
      rw [hne]
      exact lk_own l y.name hok.2 i x h1
theorem back_own {l : List Ent} {bs : List UInt8} (h : TakeP bs l) {i : Nat} {x : Ent} (hx : l[i]? = some x) : lkX l x.name = x ∧ lkE l x.name = 0 := by
  have := lk_own l [] h.1 i x hx
  unfold lkX lkE
  rw [this]
  exact ⟨rfl, rfl⟩
theorem back_cut {l l' : List Ent} {bs : List UInt8} {a : Nat} (h : TakeP bs l) (ha : a < bs.length) (h' : TakeP (bs.take a) l') : l'.length < l.length := by
  obtain ⟨l2, g1, g2, _⟩ := take_prefix l' l [] (bs.drop a) h'.1 h.1 (by rw [h.2, h'.2, List.take_append_drop])
  cases l2 with
  | nil =>
    have := congrArg List.length g2
    simp only [encL, List.flatMap_nil, List.length_nil, List.length_drop] at this
    omega
  | cons y l2 =>
    have := congrArg List.length g1
    rw [List.length_append, List.length_cons] at this
    omega
set_option maxRecDepth 100000 in
set_option maxHeartbeats 4000000 in
theorem dirtabBack_walk (A : Option Addr) (n c : Nat) (l : List Ent) (at_ : Int) (w : World) (h : EntsIn w A n l ∧ n ≤ c ∧ c ≤ maxLen) (hat0 : (Lit.int .i64 at_).wf = true) :
    Calls Try.prog 6 #[.slice A n c, .int .i64 at_] w fun r w' => r = .returned (.bool true) ∧ Below w.heap.size w w' := by
  obtain ⟨hl, hnc, hcm⟩ := h
  have hat := int_of hat0
  clear hat0
  obtain ⟨m, hm⟩ : ∃ m, m = min n 60 := ⟨_, rfl⟩
  have hlm := hl.take (show m ≤ n by omega)
  have HL := Lib.hid hlm
  have hm60 : m ≤ 60 := by omega
  have hmc : m ≤ c := by omega
  have hcm' : c ≤ 9223372036854775807 := hcm
  have HF := Lib.hid (fun (w' : World) => few_any A n c w' hnc hcm')
  rw [← hm] at HF
  generalize l.take m = lm at *
  clear hl hlm hm hcm
  go_enter Try.func6, Try.ntmps6
  go_wp2_with fail
  refine (shown_any w).mono ?_
  rintro r w1 ⟨rfl, hb1⟩
  have HB1 := Lib.hid hb1
  clear hb1
  go_wp2_with fail
  refine (HF.out w1).mono ?_
  rintro r w' ⟨rfl, rfl⟩
  go_wp2_with fail
  refine (put_any A m c lm w1 (HL.out.below HB1.out) (by omega) hmc).mono ?_
  rintro r w2 ⟨A2, c2, rfl, hby2, hc2, hc2', hb2⟩
  have HB2 := Lib.hid (below_then HB1.out hb2)
  have HY2 := Lib.hid hby2
  have HLN := Lib.hid (putBs_len lm 60 (by rw [HL.out.1]; exact hm60))
  clear hb2 hby2 HB1 HF
  cases hok : okL [] lm
  · obtain ⟨e1, e2⟩ := put_bad hok
    rw [e1, e2]
    clear e1 e2
    have hl0 : ([] : List UInt8).length = 0 := rfl
    rw [hl0]
    go_wp2_with fail
    go_ret
    exact ⟨rfl, HB2.out⟩
  · obtain ⟨e1, e2⟩ := put_ok hok
    rw [e2]
    have HTP := Lib.hid e1
    clear e1 e2
    obtain ⟨bs, hbs⟩ : ∃ bs, putBs lm = bs := ⟨_, rfl⟩
    rw [hbs] at HTP HY2 HLN hc2 ⊢
    clear hbs hok
    obtain ⟨bl, hbl⟩ : ∃ bl, bs.length = bl := ⟨_, rfl⟩
    rw [hbl] at HY2 HLN hc2 ⊢
    have HBL := Lib.hid hbl
    clear hbl
    have hbl60 : bl ≤ 261 * 60 := HLN.out
    clear HLN
    go_wp2_with fail
    refine (take_any A2 bl c2 bs w2 HY2.out (by omega)).mono ?_
    rintro r w3 ⟨hr, hb3⟩
    have HB3 := Lib.hid (below_then HB2.out hb3)
    have HY3 := Lib.hid (HY2.out.below hb3)
    clear hb3 HB2 HY2
    rcases hr with ⟨l3, A3, c3, h3, rfl, he3, hc3, hc3'⟩ | ⟨h3, _⟩
    rotate_left
    · exact absurd ⟨_, HTP.out⟩ h3
    obtain rfl := take_one HTP.out h3
    have hlmm : lm.length = m := HL.out.1
    rw [hlmm] at he3 hc3 ⊢
    have HE3 := Lib.hid he3
    clear he3 h3 hlmm
    go_wp2_with fail
    refine (same_any A A3 m c m c3 lm lm w3 (HL.out.below HB3.out) HE3.out (by omega) (by omega)).mono ?_
    rintro r w4 ⟨rfl, hb4⟩
    have HB4 := Lib.hid (below_then HB3.out hb4)
    have HY4 := Lib.hid (HY3.out.below hb4)
    have hdd : decide (lm = lm) = true := decide_eq_true rfl
    rw [hdd]
    clear hb4 hdd HB3 HE3 HY3
    go_wp2_with fail
    go_loopw [11] (fun i wr => ∃ k : Nat, i = .int .i64 k ∧ k ≤ m ∧ Below w.heap.size w wr ∧ Bytes wr A2 bl bs) (fun i _ => m - (intOf i).toNat)
    case atStart => exact ⟨0, rfl, by omega, HB4.out, HY4.out⟩
    case round =>
      obtain ⟨k, rfl, hk, hB, hY⟩ := hrel
      have HB := Lib.hid hB
      have HY := Lib.hid hY
      clear hB hY HB4 HY4
      by_cases hlt : k < m
      · obtain ⟨b, off, x, hA, hx, h0, h1, h2⟩ := (HL.out.below HB.out).at_ hlt
        subst hA
        have hk0 : (0 : Int) ≤ (k : Int) := by omega
        have hk1 : (k : Int) < (m : Int) := by omega
        have hq := ent_neq x x
        have hdx : decide (x = x) = true := decide_eq_true rfl
        rw [hdx] at hq
        clear hdx
        obtain ⟨hX, hE⟩ := back_own HTP.out hx
        have HX := Lib.hid hX
        have HE := Lib.hid hE
        clear hx hX hE
        go_wp2_with fail
        refine (look_any A2 bl c2 bs x.name wr HY.out (by omega)).mono ?_
        intro r w5 hr
        obtain ⟨rfl, hb5⟩ := look_of HTP.out hr
        rw [HX.out, HE.out]
        clear hr
        have hb6 : Below wr.heap.size wr (w5.alloc (.cells (entCells x) 35)) := hb5.alloc hb5.size _
        have HB6 := Lib.hid (below_then HB.out hb6)
        have HY6 := Lib.hid (HY.out.below hb6)
        have HE6 : Hid (EntAt (w5.alloc (.cells (entCells x) 35)) w5.heap.size x) := EntAt.new w5 x
        have e0 := (hb6.cell (p := ⟨b, off + k * 3, none⟩) (block_lt_of_cell h0)).trans h0
        have e1 := (hb6.cell (p := ⟨b, off + k * 3 + 1, none⟩) (block_lt_of_cell h1)).trans h1
        have e2 := (hb6.cell (p := ⟨b, off + k * 3 + 2, none⟩) (block_lt_of_cell h2)).trans h2
        clear h0 h1 h2 hb5 hb6 HX HE
        unfold entCells at *
        go_upto_region 14 with fail
        generalize w5.alloc (.cells #[.string (str x.name), .int .i64 x.kind, .int .i64 x.ref] 35) = w6 at *
        generalize w5.heap.size = gx at *
        have c0 := HE6.out.c0
        have c1 := HE6.out.c1
        have c2' := HE6.out.c2
        go_big_quiet (fail)
        go_wp2_with fail
        exact ⟨⟨k + 1, by go_num, by omega, belowN HB6.out _, HY6.out⟩, by simp [intOf]; omega⟩
      · obtain rfl : k = m := by omega
        clear hlt hk
        by_cases ha : at_ < 0
        · go_wp2_with fail
          go_ret
          exact ⟨rfl, HB.out⟩
        · obtain ⟨a, rfl⟩ := Int.eq_ofNat_of_zero_le (show 0 ≤ at_ by omega)
          have ha0 : (0 : Int) ≤ (a : Int) := by omega
          by_cases hb : bl ≤ a
          · have hbI : (bl : Int) ≤ (a : Int) := by omega
            go_wp2_with fail
            go_ret
            exact ⟨rfl, HB.out⟩
          · have hbI : (a : Int) < (bl : Int) := by omega
            have hac : (a : Int) ≤ (c2 : Int) := by omega
            have HYa := Lib.hid (HY.out.take (show a ≤ bl by omega))
            have HCut := Lib.hid fun (l' : List Ent) (h' : TakeP (bs.take a) l') => back_cut HTP.out (by have := HBL.out; omega) h'
            have HLm := Lib.hid HL.out.1
            clear ha hat
            go_wp2_with fail
            refine (take_any A2 a c2 (bs.take a) wr HYa.out (by omega)).mono ?_
            rintro r w5 ⟨hr, hb5⟩
            have HB5 := Lib.hid (below_then HB.out hb5)
            clear hb5
            rcases hr with ⟨l5, A5, c5, h5, rfl, _⟩ | ⟨_, rfl⟩
            · have hlt := HCut.out l5 h5
              rw [HLm.out] at hlt
              have hltI : (l5.length : Int) < (k : Int) := by omega
              clear h5
              generalize l5.length = n5 at *
              go_wp2_with fail
              go_ret
              exact ⟨rfl, HB5.out⟩
            · go_wp2_with fail
              go_ret
              exact ⟨rfl, HB5.out⟩
end Go.Proofs.Ythkjgkdglphfcaa
