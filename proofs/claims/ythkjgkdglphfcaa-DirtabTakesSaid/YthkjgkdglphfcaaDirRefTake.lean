/- Walk: the document's Take (lamellaref10): the list that bytes are, or none. -/
import Derived.Test.YthkjgkdglphfcaaRows
import Derived.Test.YthkjgkdglphfcaaDirFit
import Derived.Test.YthkjgkdglphfcaaDirRReader
import Derived.Test.YthkjgkdglphfcaaDirPuts
namespace Go.Proofs.Ythkjgkdglphfcaa
set_option linter.unusedVariables false
set_option linter.unusedSimpArgs false
open Go.RowKit

/-- What holds at each round's head. -/
structure DRt (w : World) (y B : Nat) (bs : List UInt8) (l : List Ent) (out : Value) (st : Cur.St) (wr : World) : Prop where
  below : Below w.heap.size w wr
  rd : RfB wr y st B
  sem : RtS bs l st
  own : wr.ownsRow B 35 3 out l.length (entVs l)
  far : w.heap.size ≤ y ∧ y < B ∧ B ≤ wr.heap.size
/-- What holds while an entry is read. -/
structure DRx (w : World) (y B : Nat) (l : List Ent) (out : Value) (st : Cur.St) (wr : World) : Prop where
  below : Below w.heap.size w wr
  rd : RfB wr y st B
  own : wr.ownsRow B 35 3 out l.length (entVs l)
  far : w.heap.size ≤ y ∧ y < B ∧ B ≤ wr.heap.size
section
variable {w wr w5 w' : World} {y B : Nat} {l : List Ent} {out v' : Value} {st st' : Cur.St} {x : Ent} {bs : List UInt8}
theorem DRt.rx (H : DRt w y B bs l out st wr) : DRx w y B l out st wr := ⟨H.below, H.rd, H.own, H.far⟩
theorem DRx.read (H : DRx w y B l out st wr) (ho : Only [y] wr w5) (hr : RfB w5 y st' B) : DRx w y B l out st' w5 := by
  have hf := H.far
  have hs := ho.size
  exact ⟨H.below.trans (ho.below (fun k hk => by simp at hk; omega) H.below.size), hr, own_only H.own ho (fun k hk => by have := (H.own.lt k hk).1; simp; omega), hf.1, hf.2.1, by omega⟩
theorem DRx.later (H : DRx w y B l out st wr) (hb : Below wr.heap.size wr w') : DRx w y B l out st w' :=
  ⟨below_then H.below hb, H.rd.below hb, own_below H.own hb, H.far.1, H.far.2.1, by have := H.far.2.2; have := hb.size; omega⟩
theorem DRx.appended (H : DRx w y B l out st wr) (hgr : wr.grownBy w' out.ownBlock) (hown : w'.ownsRow B 35 3 v' (l.length + 1) (entVs (l ++ [x]))) (hs : RtS bs (l ++ [x]) st) : DRt w y B bs (l ++ [x]) v' st w' := by
  have hf := H.far
  have hrow : ∀ k, out.ownBlock = some k → B ≤ k := fun k hk => (H.own.lt k hk).1
  refine ⟨⟨hgr.os.trans H.below.os, hgr.tape.trans H.below.tape, hgr.output.trans H.below.output, Nat.le_trans H.below.size hgr.size, fun k hk => ?_⟩, H.rd.grown hf.2.1 hgr hrow, hs, ?_, hf.1, hf.2.1, by have := hgr.size; omega⟩
  · refine (hgr.block k (by have := H.below.size; omega) fun e => ?_).trans (H.below.block k hk)
    have := hrow k e.symm
    omega
  · rw [List.length_append]
    exact hown
end
theorem putBs_ok {l : List Ent} (h : okL [] l = true) : putBs l = encL l := by unfold putBs; rw [h]; rfl
set_option maxRecDepth 100000 in
set_option maxHeartbeats 4000000 in
theorem rtake_any (A : Option Addr) (n c : Nat) (bs : List UInt8) (w : World) (hb : Bytes w A n bs) (hn : n ≤ 3000) : Calls Try.prog 14 #[.slice A n c] w (TakeRes w bs) := by
  have hlen := hb.1
  have HLEN := Lib.hid hlen
  have HBY := Lib.hid hb
  obtain ⟨i0, hi, hz0, hz1, hz2⟩ := info_parts ent_info
  have HI := Lib.hid hi
  obtain ⟨i1, hi1, hy0, hy1, hy2⟩ := info_parts u8_info
  have HI1 := Lib.hid hi1
  have HO0 := Lib.hid (owns_empty w 5 (Nat.le_refl _))
  have HBa : Hid (Bytes (w.alloc (.cells #[] 5)) A n bs) := hb.alloc _
  clear hb hlen hi hi1
  go_enter Try.func14, Try.ntmps14
  go_wp2_with (at_builtin; refine wpList_append_bytes _ rfl (.tmp 10) (.tmp 11) _ rfl w.heap.size 5 i1 _ 1 Try.underlying25 HI1.out hy0 hy1 hy2 rfl (.slice (some ⟨w.heap.size, 0, none⟩) 0 0) 0 [] rfl HO0.out A n c bs rfl HBa.out (by simp only [maxLen]; omega) (by omega) (by simp) ?_; intro v1 w1 hown hgrow _; have HW1 := Lib.hid (below_append (below_all.alloc (Nat.le_refl _) _ : Below w.heap.size w _) hgrow HO0.out (Nat.le_refl _) (by simp)); simp only [Nat.zero_add, List.nil_append] at hown; obtain ⟨A1, c1, rfl, hby1, hmc1, hc1, _⟩ := own_form hown; have HY1 := Lib.hid hby1; clear hown hgrow hby1)
  have hal1 : Below w1.heap.size w1 (w1.alloc (.cells #[.slice A1 n c1, .int .i64 0] 60)) := below_all.alloc (Nat.le_refl _) _
  have hrf : RfAt (w1.alloc (.cells #[.slice A1 n c1, .int .i64 0] 60)) w1.heap.size ⟨0, bs⟩ := ⟨A1, n, c1, Two.new w1 _ _ _, HY1.out.below hal1, hmc1, by simpa [maxLen] using hc1⟩
  have hsz : w1.heap.size < (w1.alloc (.cells #[.slice A1 n c1, .int .i64 0] 60)).heap.size := hrf.lt
  have hrel0 : Hid (DRt w w1.heap.size (w1.alloc (.cells #[.slice A1 n c1, .int .i64 0] 60)).heap.size bs [] (.slice none 0 0) ⟨0, bs⟩ (w1.alloc (.cells #[.slice A1 n c1, .int .i64 0] 60))) :=
    ⟨below_then HW1.out hal1, RfB.of hrf, RtS.start bs, World.ownsRow_nil _ _ _ _, HW1.out.size, hsz, Nat.le_refl _⟩
  clear hal1 hrf hsz HW1 HO0 HBa HY1
  generalize w1.alloc (.cells #[.slice A1 n c1, .int .i64 0] 60) = w2 at *
  generalize w1.heap.size = y at *
  generalize w2.heap.size = B at *
  go_loopw [5] (fun out wr => ∃ l st, DRt w y B bs l out st wr ∧ out = .slice (match out with | .slice A _ _ => A | _ => none) l.length (match out with | .slice _ _ c => c | _ => 0)) (fun out _ => bs.length + 7 - lenOf out)
  case atStart => exact ⟨[], ⟨0, bs⟩, hrel0.out, rfl⟩
  case round =>
    obtain ⟨l, ⟨e, rest⟩, hD, hout⟩ := hrel
    have HD := Lib.hid hD
    have HOUT := Lib.hid hout
    have hrl : rest.length ≤ 3000 := by have h1 := hD.sem.len; have h2 := HLEN.out; simp only at h1; omega
    have HRL := Lib.hid hrl
    have hll : l.length ≤ 600 := by have h1 := hD.sem.size; have h2 := HLEN.out; omega
    obtain ⟨A3, n3, c3, ht3, hby3, hn3, hc3, _⟩ := hD.rd
    simp only at ht3 hby3
    have hn3l := hby3.1
    have k0 := ht3.c0
    have k1 := ht3.c1
    clear hrel0 hD hout ht3 hby3 hrl
    by_cases he : e = 0
    · subst he
      by_cases hr0 : rest = []
      · subst hr0
        have hn0 : n3 = 0 := by simpa using hn3l.symm
        subst hn0
        obtain ⟨hbs, hno⟩ := HD.out.sem.done
        have HBS := Lib.hid hbs
        have HNO := Lib.hid hno
        obtain ⟨A4, c4, hv, he4, hc4, hc4'⟩ := ents_own HD.out.own
        subst hv
        have HE4 := Lib.hid he4
        clear hbs hno he4 hn3l
        go_wp2_with fail
        refine (rput_any A4 l.length c4 l wr HE4.out (by omega) hc4).mono ?_
        rintro r w5 ⟨A5, c5, rfl, hby5, hc5, hc5', hb5⟩
        have HB5 := Lib.hid (below_then HD.out.below hb5)
        have HE5 := Lib.hid (HE4.out.below hb5)
        have HY5 := Lib.hid hby5
        have j0 := (hb5.cell (p := ⟨y, 0, none⟩) (block_lt_of_cell k0)).trans k0
        have j1 := (hb5.cell (p := ⟨y, 1, none⟩) (block_lt_of_cell k1)).trans k1
        clear hby5 hb5 k0 k1
        cases hok : okL [] l
        · obtain ⟨_, e2⟩ := put_bad hok
          have HN := Lib.hid (HNO.out hok)
          rw [e2]
          clear e2 hok
          go_wp2_with fail
          go_ret2
          exact ⟨.inr ⟨HN.out, rfl⟩, HB5.out⟩
        · obtain ⟨e1, e2⟩ := put_ok hok
          have e3 := putBs_ok hok
          rw [← HBS.out] at e3
          have HTP : Hid (TakeP bs l) := by rw [e3] at e1; exact e1
          rw [e2]
          have hq : (putBs l).length = n := by rw [e3]; exact HLEN.out
          rw [hq] at hc5 ⊢
          rw [e3, HLEN.out] at HY5
          clear e1 e2 e3 hok hq
          have v5 := run_string (P := Try.prog) HY5.out 25 5 9 Try.underlying25 Try.underlying5 Try.underlying9 c5
          have v6 := run_string (P := Try.prog) (HBY.out.below HB5.out) 25 5 9 Try.underlying25 Try.underlying5 Try.underlying9 c
          go_wp2_with fail
          go_ret2
          exact ⟨.inl ⟨l, A4, c4, HTP.out, rfl, HE5.out, hc4, hc4'⟩, HB5.out⟩
      · have hne : RtS bs (l ++ [decX ⟨0, rest⟩]) (decS ⟨0, rest⟩) := by
          refine HD.out.sem.step hr0 ?_
          have h1 := rTextD_bs ⟨0, rest⟩
          have h2 := rNum_bs (Cur.rText ⟨0, rest⟩).2 1
          have h3 := rNum_bs (decK ⟨0, rest⟩).2 4
          unfold decS decR
          unfold decK at h3 ⊢
          simp only at h1
          omega
        have hpos : rest.length ≠ 0 := fun e => hr0 (List.eq_nil_of_length_eq_zero e)
        have hposI : (0 : Int) < (n3 : Int) := by omega
        have HTX := Lib.hid (rtext_b B y ⟨0, rest⟩ wr HD.out.rd (by have := HRL.out; show rest.length ≤ _; omega))
        unfold RfTextB at HTX
        obtain ⟨s1, hs1⟩ : ∃ s1, (Cur.rText ⟨0, rest⟩).2 = s1 := ⟨_, rfl⟩
        obtain ⟨tn, htn⟩ : ∃ tn, (Cur.rText ⟨0, rest⟩).1 = tn := ⟨_, rfl⟩
        have hb1 := rTextD_bs ⟨0, rest⟩
        rw [hs1] at hb1
        rw [hs1, htn] at HTX
        have HS1 : Hid (s1.bs.length ≤ 3000) := Nat.le_trans hb1 HRL.out
        have hk := (rNum_bs s1 1)
        obtain ⟨s2, hs2⟩ : ∃ s2, (Cur.rNum s1 1).2 = s2 := ⟨_, rfl⟩
        obtain ⟨z1, hz1'⟩ : ∃ z1, (Cur.rNum s1 1).1 = z1 := ⟨_, rfl⟩
        rw [hs2] at hk
        have HS2 : Hid (s2.bs.length ≤ 3000) := Nat.le_trans hk HS1.out
        obtain ⟨s3, hs3⟩ : ∃ s3, (Cur.rNum s2 4).2 = s3 := ⟨_, rfl⟩
        obtain ⟨z2, hz2'⟩ : ∃ z2, (Cur.rNum s2 4).1 = z2 := ⟨_, rfl⟩
        have hdx : decX ⟨0, rest⟩ = ⟨tn, z1, z2⟩ := by unfold decX decR decK; rw [htn, hs1, hz1', hs2, hz2']
        have hds : decS ⟨0, rest⟩ = s3 := by unfold decS decR decK; rw [hs1, hs2, hs3]
        rw [hdx, hds] at hne
        have HNE := Lib.hid hne
        have HNum1 := Lib.hid fun (w5 : World) (h : RfB w5 y s1 B) => rnum_b B y s1 1 w5 h (by have := HS1.out; omega) (by omega)
        have HNum2 := Lib.hid fun (w5 : World) (h : RfB w5 y s2 B) => rnum_b B y s2 4 w5 h (by have := HS2.out; omega) (by omega)
        unfold RfNumB at HNum1 HNum2
        rw [hs2, hz1'] at HNum1
        rw [hs3, hz2'] at HNum2
        have HX := Lib.hid HD.out.rx
        clear hs1 htn hb1 hk hs2 hz1' hs3 hz2' hdx hds hne hr0 hpos HD
        go_wp2_with fail
        refine HTX.out.mono ?_
        rintro r w5 ⟨rfl, hr5, ho5⟩
        have HX5 := Lib.hid (HX.out.read ho5 hr5)
        clear hr5 ho5 HTX HX k0 k1
        go_wp2_with fail
        refine (HNum1.out w5 HX5.out.rd).mono ?_
        rintro r w6 ⟨rfl, hr6, ho6⟩
        have HX6 := Lib.hid (HX5.out.read ho6 hr6)
        clear hr6 ho6 HX5 HNum1
        go_wp2_with fail
        refine (HNum2.out w6 HX6.out.rd).mono ?_
        rintro r w7 ⟨rfl, hr7, ho7⟩
        have HX7 := Lib.hid (HX6.out.read ho7 hr7)
        clear hr7 ho7 HX6 HNum2
        have HE8 : Hid (EntsIn (w7.alloc (.cells #[.string (str tn), .int .i64 (z1 : Nat), .int .i64 (z2 : Nat)] 35)) (some ⟨w7.heap.size, 0, none⟩) 1 [⟨tn, z1, z2⟩]) := EntsIn.new w7 ⟨tn, z1, z2⟩
        have HX8 : Hid (DRx w y B l u5 s3 (w7.alloc (.cells #[.string (str tn), .int .i64 (z1 : Nat), .int .i64 (z2 : Nat)] 35))) := HX7.out.later (below_all.alloc (Nat.le_refl _) _)
        clear HX7
        go_wp2_with (at_builtin; refine wpList_append_ents rfl (.tmp 25) (.tmp 30) _ rfl B 35 i0 _ 32 Try.underlying22 HI.out hz0 hz1 hz2 rfl u5 l.length l rfl HX8.out.own (some ⟨w7.heap.size, 0, none⟩) 1 1 [⟨tn, z1, z2⟩] rfl HE8.out (by simp only [maxLen]; omega) (by omega) HX8.out.far.2.2 ?_; intro v9 w9 hown hgrow _; have HD9 := Lib.hid (HX8.out.appended hgrow hown HNE.out); obtain ⟨A9, c9, rfl⟩ := own_slice hown; clear hown hgrow)
        have hlo : lenOf u5 = l.length := by rw [HOUT.out]; rfl
        refine ⟨⟨l ++ [⟨tn, z1, z2⟩], s3, HD9.out, by rw [List.length_append]; rfl⟩, ?_⟩
        show bs.length + 7 - lenOf (.slice A9 (l.length + 1) c9) < bs.length + 7 - lenOf u5
        have hlo2 : lenOf (.slice A9 (l.length + 1) c9) = l.length + 1 := rfl
        have h1 := HD9.out.sem.size
        rw [List.length_append] at h1
        simp only [List.length_singleton] at h1
        omega
    · have HBAD := Lib.hid (HD.out.sem.bad he)
      have hne : (((e : Nat) : Int) == 0) = false := by rw [beq_eq_false_iff_ne]; omega
      have hne2 : (((e : Nat) : Int) != 0) = true := by rw [bne_iff_ne]; omega
      obtain ⟨A4, c4, hv, he4, hc4, hc4'⟩ := ents_own HD.out.own
      subst hv
      have HE4 := Lib.hid he4
      clear he4 he
      go_wp2_with fail
      refine (rput_any A4 l.length c4 l wr HE4.out (by omega) hc4).mono ?_
      rintro r w5 ⟨A5, c5, rfl, hby5, hc5, hc5', hb5⟩
      have HB5 := Lib.hid (below_then HD.out.below hb5)
      have j0 := (hb5.cell (p := ⟨y, 0, none⟩) (block_lt_of_cell k0)).trans k0
      have j1 := (hb5.cell (p := ⟨y, 1, none⟩) (block_lt_of_cell k1)).trans k1
      clear hby5 hb5 k0 k1
      generalize putBs l = pb at *
      generalize putE l = pe at *
      go_wp2_with fail
      go_ret2
      exact ⟨.inr ⟨HBAD.out, rfl⟩, HB5.out⟩
end Go.Proofs.Ythkjgkdglphfcaa
