/- Walk: DirtabLooks: in a list any name is found, or not, as the document says. -/
import Derived.Test.YthkjgkdglphfcaaRows
import Derived.Test.YthkjgkdglphfcaaDirShown
import Derived.Test.YthkjgkdglphfcaaDirRefPut
import Derived.Test.YthkjgkdglphfcaaDirSame
namespace Go.Proofs.Ythkjgkdglphfcaa
set_option linter.unusedVariables false
set_option linter.unusedSimpArgs false
open Go.RowKit

theorem put_ok {l : List Ent} (h : okL [] l = true) : TakeP (putBs l) l ∧ putE l = 0 := by
  have h2 : putBs l = encL l := by unfold putBs; rw [h]; rfl
  have h3 : putE l = 0 := by unfold putE; rw [h]; rfl
  exact ⟨⟨h, h2.symm⟩, h3⟩
theorem put_bad {l : List Ent} (h : okL [] l = false) : putBs l = [] ∧ putE l = 1 := by
  unfold putBs putE
  rw [h]
  exact ⟨rfl, rfl⟩
theorem encL_le : ∀ (l : List Ent) (last : List UInt8), okL last l = true → (encL l).length ≤ 261 * l.length
  | [], _, _ => by simp [encL]
  | x :: l, last, h => by
    simp only [okL, Bool.and_eq_true] at h
    have h1 := encX_length (may_name h.1).1
    have h2 := encL_le l x.name h.2
    rw [encL_cons, List.length_append, List.length_cons]
    omega
theorem putBs_len (l : List Ent) (n : Nat) (h : l.length ≤ n) : (putBs l).length ≤ 261 * n := by
  cases hok : okL [] l
  · rw [(put_bad hok).1]; simp
  · have := encL_le l [] hok
    have h2 : putBs l = encL l := by unfold putBs; rw [hok]; rfl
    rw [h2]
    exact Nat.le_trans this (Nat.mul_le_mul_left _ h)
set_option maxRecDepth 100000 in
set_option maxHeartbeats 4000000 in
theorem dirtabLooks_walk (A : Option Addr) (n c : Nat) (l : List Ent) (s : ByteArray) (w : World) (h : EntsIn w A n l ∧ n ≤ c ∧ c ≤ maxLen) (hs : s.size ≤ maxLen) :
    Calls Try.prog 5 #[.slice A n c, .string s] w fun r w' => r = .returned (.bool true) ∧ Below w.heap.size w w' := by
  obtain ⟨hl, hnc, hcm⟩ := h
  obtain ⟨t, rfl⟩ : ∃ t, s = str t := ⟨s.data.toList, by simp [str]⟩
  obtain ⟨m, hm⟩ : ∃ m, m = min n 60 := ⟨_, rfl⟩
  have hlm := hl.take (show m ≤ n by omega)
  have HL := Lib.hid hlm
  have hm60 : m ≤ 60 := by omega
  have hmc : m ≤ c := by omega
  have hcm' : c ≤ 9223372036854775807 := hcm
  have HF := Lib.hid (fun (w' : World) => few_any A n c w' hnc hcm')
  rw [← hm] at HF
  generalize l.take m = lm at *
  clear hl hlm hm hs hcm
  go_enter Try.func5, Try.ntmps5
  go_wp2_with fail
  refine (shown_any w).mono ?_
  rintro r w1 ⟨rfl, hb1⟩
  have HB1 := Lib.hid hb1
  clear hb1
  go_wp2_with fail
  refine (HF.out w1).mono ?_
  rintro r w' ⟨rfl, rfl⟩
  go_wp2_with fail
  refine (rput_any A m c lm w1 (HL.out.below HB1.out) (by omega) hmc).mono ?_
  rintro r w2 ⟨A2, c2, rfl, hby2, hc2, hc2', hb2⟩
  have HB2 := Lib.hid (below_then HB1.out hb2)
  have HY2 := Lib.hid hby2
  have HLN := Lib.hid (putBs_len lm 60 (by rw [HL.out.1]; exact hm60))
  clear hb2 hby2 HB1
  cases hok : okL [] lm
  · obtain ⟨e1, e2⟩ := put_bad hok
    rw [e2]
    clear e1 e2
    go_wp2_with fail
    go_ret
    exact ⟨rfl, HB2.out⟩
  · obtain ⟨e1, e2⟩ := put_ok hok
    rw [e2]
    have HTP := Lib.hid e1
    clear e1 e2
    go_wp2_with fail
    refine (look_any A2 _ c2 _ t w2 HY2.out (by have := HLN.out; omega)).mono ?_
    intro r w3 hr
    obtain ⟨rfl, hb3⟩ := look_of HTP.out hr
    clear hr
    have HRL := Lib.hid (fun (w' : World) (h : EntsIn w' A m lm) => rlook_any A m c lm t w' h (by omega))
    generalize lkX lm t = x at *
    generalize lkE lm t = e at *
    have hb4 : Below w2.heap.size w2 (w3.alloc (.cells (entCells x) 35)) := hb3.alloc hb3.size _
    have HB4 := Lib.hid (below_then HB2.out hb4)
    have HE4 : Hid (EntAt (w3.alloc (.cells (entCells x) 35)) w3.heap.size x) := EntAt.new w3 x
    clear hb3 hb4 HB2
    unfold entCells at *
    go_upto_region 7 with fail
    generalize w3.alloc (.cells #[.string (str x.name), .int .i64 x.kind, .int .i64 x.ref] 35) = w4 at *
    generalize w3.heap.size = gx at *
    go_wp2_with fail
    refine (HRL.out w4 (HL.out.below HB4.out)).mono ?_
    rintro r w5 ⟨rfl, hb5⟩
    have hb6 : Below w4.heap.size w4 (w5.alloc (.cells #[.string (str x.name), .int .i64 x.kind, .int .i64 x.ref] 35)) := hb5.alloc hb5.size _
    have HB6 := Lib.hid (below_then HB4.out hb6)
    have HE6 := Lib.hid (HE4.out.below hb6)
    have HE7 : Hid (EntAt (w5.alloc (.cells #[.string (str x.name), .int .i64 x.kind, .int .i64 x.ref] 35)) w5.heap.size x) := EntAt.new w5 x
    clear hb5 hb6 HE4 HB4 HRL
    go_upto_region 8 with fail
    generalize w5.alloc (.cells #[.string (str x.name), .int .i64 x.kind, .int .i64 x.ref] 35) = w6 at *
    generalize w5.heap.size = gy at *
    have c0 := HE6.out.c0
    have c1 := HE6.out.c1
    have c2' := HE6.out.c2
    have d0 := HE7.out.c0
    have d1 := HE7.out.c1
    have d2 := HE7.out.c2
    have hq := ent_eql x x
    have hdx : decide (x = x) = true := decide_eq_true rfl
    rw [hdx] at hq
    clear hdx
    go_wp2_with fail
    go_ret
    exact ⟨rfl, HB6.out⟩
end Go.Proofs.Ythkjgkdglphfcaa
