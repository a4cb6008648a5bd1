/- Walk: dirtab.Take: the list that bytes are, or none. -/
import Derived.Test.YthkjgkdglphfcaaRows
import Derived.Test.YthkjgkdglphfcaaDirRow
import Derived.Test.YthkjgkdglphfcaaDirReader
import Derived.Deep.DeepCutAuto
import Derived.Deep.RegionHeld3
namespace Go.Proofs.Ythkjgkdglphfcaa
set_option linter.unusedVariables false
set_option linter.unusedSimpArgs false
open Go.RowKit

theorem rderr_any (g : Nat) (s : Cur.St) (w : World) (h : RdAt w g s) :
    Calls Try.prog 21 #[.pointer (some ⟨g, 0, none⟩)] w fun r w' => r = .returned (.int .i64 (s.e : Nat)) ∧ w = w' := by
  obtain ⟨A, m, c, ht, hb, hmc, hc⟩ := h
  exact err_any g s.e _ _ w ht
theorem EntAt.set1 {w : World} {g : Nat} {x : Ent} (h : EntAt w g x) (v : Int) : EntAt (w.setCell ⟨g, 1, none⟩ (.int .i64 v)) g ⟨x.name, v, x.ref⟩ := heap_setCell_same w g 1 _ _ _ h
theorem EntAt.set2 {w : World} {g : Nat} {x : Ent} (h : EntAt w g x) (v : Int) : EntAt (w.setCell ⟨g, 2, none⟩ (.int .i64 v)) g ⟨x.name, x.kind, v⟩ := heap_setCell_same w g 2 _ _ _ h
/-- What holds at each round's head. -/
structure DTk (w : World) (y B : Nat) (bs : List UInt8) (l : List Ent) (out : Value) (rest : List UInt8) (wr : World) : Prop where
  below : Below w.heap.size w wr
  rd : RdB wr y ⟨0, rest⟩ B
  ok : okL [] l = true
  eq : bs = encL l ++ rest
  own : wr.ownsRow B 35 3 out l.length (entVs l)
  far : w.heap.size ≤ y ∧ y < B ∧ B ≤ wr.heap.size
/-- What holds while an entry is read. -/
structure DTx (w : World) (y B gx : Nat) (l : List Ent) (out : Value) (st : Cur.St) (x : Ent) (wr : World) : Prop where
  below : Below w.heap.size w wr
  rd : RdB wr y st B
  own : wr.ownsRow B 35 3 out l.length (entVs l)
  ent : EntAt wr gx x
  far : w.heap.size ≤ y ∧ y < B ∧ B ≤ gx ∧ some gx ≠ out.ownBlock
section
variable {w wr w5 w' : World} {y B gx : Nat} {l : List Ent} {out : Value} {st st' : Cur.St} {x : Ent} {bs rest : List UInt8}
theorem DTk.text (H : DTk w y B bs l out rest wr) (ho : Only [y] wr w5) (hr : RdB w5 y st B) (tn : List UInt8) :
    DTx w y B w5.heap.size l out st ⟨tn, 0, 0⟩ (w5.alloc (.cells #[.string (str tn), .int .i64 0, .int .i64 0] 35)) := by
  have hf := H.far
  have h5 : Below w.heap.size w w5 := H.below.trans (ho.below (fun k hk => by simp at hk; omega) H.below.size)
  have hown5 := own_only H.own ho fun k hk => by have := (H.own.lt k hk).1; simp; omega
  refine ⟨h5.alloc h5.size _, hr.below (below_all.alloc (Nat.le_refl _) _), own_below hown5 (below_all.alloc (Nat.le_refl _) _), EntAt.new w5 ⟨tn, 0, 0⟩, hf.1, hf.2.1, by have := ho.size; omega, fun e => ?_⟩
  have := (hown5.lt _ e.symm).2
  omega
theorem DTx.read (H : DTx w y B gx l out st x wr) (ho : Only [y] wr w5) (hr : RdB w5 y st' B) : DTx w y B gx l out st' x w5 := by
  have hf := H.far
  exact ⟨H.below.trans (ho.below (fun k hk => by simp at hk; omega) H.below.size), hr, own_only H.own ho (fun k hk => by have := (H.own.lt k hk).1; simp; omega), H.ent.only ho (by simp; omega), hf⟩
theorem DTx.stored (H : DTx w y B gx l out st x wr) (x' : Ent) (p : Nat) (u : Value) (he : EntAt (wr.setCell ⟨gx, p, none⟩ u) gx x') : DTx w y B gx l out st x' (wr.setCell ⟨gx, p, none⟩ u) := by
  have hf := H.far
  have ho : Only [gx] wr (wr.setCell ⟨gx, p, none⟩ u) := (Only.refl _ _).setCell (.inl (by simp)) _
  exact ⟨H.below.trans (ho.below (fun k hk => by simp at hk; omega) H.below.size), H.rd.only ho (by simp; omega) (by simp; omega), own_only H.own ho (fun k hk => by simp; rintro rfl; exact hf.2.2.2 hk.symm), he, hf⟩
theorem DTx.later (H : DTx w y B gx l out st x wr) (hb : Below wr.heap.size wr w') : DTx w y B gx l out st x w' :=
  ⟨below_then H.below hb, H.rd.below hb, own_below H.own hb, H.ent.below hb, H.far⟩
end
theorem below_drewD {B : Nat} {a w : World} (h : Below B a w) : Below B a w.drew := ⟨h.os, h.tape, h.output, h.size, h.block⟩
theorem DTx.appended {w wr w' : World} {y B gx : Nat} {l : List Ent} {out v' : Value} {st : Cur.St} {x : Ent} {bs : List UInt8} (H : DTx w y B gx l out st x wr) (hgr : wr.grownBy w' out.ownBlock)
    (hown : w'.ownsRow B 35 3 v' (l.length + 1) (entVs (l ++ [x]))) (n1 : okL [] (l ++ [x]) = true) (n2 : bs = encL (l ++ [x]) ++ st.bs) (n3 : st = ⟨0, st.bs⟩) :
    EntAt w' gx x ∧ DTk w y B bs (l ++ [x]) v' st.bs w' := by
  have hf := H.far
  have hrow : ∀ k, out.ownBlock = some k → B ≤ k := fun k hk => (H.own.lt k hk).1
  have hrd := H.rd.grown hf.2.1 hgr hrow
  rw [n3] at hrd
  have hgl := H.ent.lt
  refine ⟨(hgr.block gx H.ent.lt hf.2.2.2).trans H.ent, ⟨⟨hgr.os.trans H.below.os, hgr.tape.trans H.below.tape, hgr.output.trans H.below.output, Nat.le_trans H.below.size hgr.size, fun k hk => ?_⟩, hrd, n1, n2, ?_, hf.1, hf.2.1, by have := hgr.size; omega⟩⟩
  · refine (hgr.block k (by have := H.below.size; omega) fun e => ?_).trans (H.below.block k hk)
    have := hrow k e.symm
    omega
  · rw [List.length_append]
    exact hown
theorem own_slice {w : World} {base : Nat} {e : TypeId} {v : Value} {n : Nat} {xs : List Value} (h : w.ownsRow base e 3 v n xs) : ∃ A c, v = .slice A n c := by
  rcases h.2 with ⟨rfl, rfl⟩ | ⟨g, cap, cur, rfl, _⟩
  · exact ⟨_, _, rfl⟩
  · exact ⟨_, _, rfl⟩
theorem rTextD_bs (s : Cur.St) : (Cur.rText s).2.bs.length ≤ s.bs.length := by
  have h := rNum_bs s 1
  have h2 : (Cur.rText s).2.bs.length ≤ (Cur.rNum s 1).2.bs.length := by
    unfold Cur.rText
    generalize Cur.rNum s 1 = q
    unfold Cur.rBytes
    split
    · simp only [List.length_drop]; omega
    · exact Nat.le_refl _
  omega
theorem encL_ge : ∀ l : List Ent, l.length ≤ (encL l).length
  | [] => by simp
  | x :: l => by
    have h1 := encL_ge l
    have h2 : (encX x).length ≠ 0 := fun e => encX_ne x (List.eq_nil_of_length_eq_zero e)
    rw [encL_cons, List.length_append, List.length_cons]
    omega
/-- What Take gives. -/
def TakeRes (w : World) (bs : List UInt8) (r : Ending) (w' : World) : Prop :=
  ((∃ l A c, TakeP bs l ∧ r = .returned (.tuple #[.slice A l.length c, .int .i64 0]) ∧ EntsIn w' A l.length l ∧ l.length ≤ c ∧ c ≤ maxLen) ∨ ((¬ ∃ l, TakeP bs l) ∧ r = .returned (.tuple #[.slice none 0 0, .int .i64 2]))) ∧ Below w.heap.size w w'
def lenOf : Value → Nat
  | .slice _ n _ => n
  | _ => 0
set_option maxRecDepth 100000 in
set_option maxHeartbeats 4000000 in
theorem take_any (A : Option Addr) (n c : Nat) (bs : List UInt8) (w : World) (hb : Bytes w A n bs) (hn : n ≤ 1000000) : Calls Try.prog 13 #[.slice A n c] w (TakeRes w bs) := by
  have hlen := hb.1
  have HLEN := Lib.hid hlen
  have HRd := Lib.hid (read_any A n c bs w hb (by omega))
  obtain ⟨i0, hi, hz0, hz1, hz2⟩ := info_parts ent_info
  have HI := Lib.hid hi
  clear hb hlen hi
  go_enter Try.func13, Try.ntmps13
  go_wp2_with fail
  refine HRd.out.mono ?_
  rintro r w1 ⟨y, rfl, hr1, hy1, hb1⟩
  have hrel0 : DTk w y w1.heap.size bs [] (.slice none 0 0) bs w1 := ⟨hb1, RdB.of hr1, rfl, rfl, World.ownsRow_nil _ _ _ _, hy1, hr1.lt, Nat.le_refl _⟩
  clear hr1 hy1 hb1 HRd
  go_wp2_with fail
  generalize w1.heap.size = B at *
  go_loopw [5, 6] (fun out last wr => ∃ l rest, last = .string (str (lastN [] l)) ∧ DTk w y B bs l out rest wr ∧ out = .slice (match out with | .slice A _ _ => A | _ => none) l.length (match out with | .slice _ _ c => c | _ => 0)) (fun out _ _ => bs.length + 1 - lenOf out)
  case atStart => exact ⟨[], bs, rfl, hrel0, rfl⟩
  case round =>
    obtain ⟨l, rest, rfl, hD, hout⟩ := hrel
    have HD := Lib.hid hD
    have hn' : rest.length ≤ 1000000 := by have h1 := HLEN.out; have h2 := congrArg List.length hD.eq; rw [List.length_append] at h2; omega
    have HN := Lib.hid hn'
    have hge := encL_ge l
    have hlen9 : (encL l).length + rest.length = bs.length := by have h2 := congrArg List.length hD.eq; rw [List.length_append] at h2; omega
    have HGE := Lib.hid hge
    have HL9 := Lib.hid hlen9
    have HOUT := Lib.hid hout
    clear hrel0 hD hn' hge hlen9 hout
    have HLF := Lib.hid (left_any y ⟨0, rest⟩ wr HD.out.rd.rd)
    by_cases hr0 : rest = []
    · subst hr0
      have h0 : Cur.rLeft ⟨0, ([] : List UInt8)⟩ = 0 := rfl
      rw [h0] at HLF
      clear h0
      go_wp2_with fail
      refine HLF.out.mono ?_
      rintro r w' ⟨rfl, rfl⟩
      go_wp2_with fail
      go_ret2
      obtain ⟨A1, c1, hv, he, hc1, hc2⟩ := ents_own HD.out.own
      rw [hv]
      refine ⟨.inl ⟨l, A1, c1, ⟨HD.out.ok, ?_⟩, rfl, he, hc1, hc2⟩, HD.out.below⟩
      have := HD.out.eq
      rw [List.append_nil] at this
      exact this.symm
    · have hpos : rest.length ≠ 0 := fun e => hr0 (List.eq_nil_of_length_eq_zero e)
      have hlf : Cur.rLeft ⟨0, rest⟩ = rest.length := by unfold Cur.rLeft; simp
      rw [hlf] at HLF
      have hposI : (0 : Int) < (rest.length : Int) := by omega
      have HR0 := Lib.hid hr0
      clear hlf hr0 hpos
      go_wp2_with fail
      refine HLF.out.mono ?_
      rintro r w' ⟨rfl, rfl⟩
      have HTX := Lib.hid (text_b B y ⟨0, rest⟩ wr HD.out.rd (by have := HN.out; show rest.length ≤ _; omega))
      unfold RdTextB at HTX
      obtain ⟨s1, hs1⟩ : ∃ s1, (Cur.rText ⟨0, rest⟩).2 = s1 := ⟨_, rfl⟩
      obtain ⟨tn, htn⟩ : ∃ tn, (Cur.rText ⟨0, rest⟩).1 = tn := ⟨_, rfl⟩
      have hb1 := rTextD_bs ⟨0, rest⟩
      rw [hs1] at hb1
      rw [hs1, htn] at HTX
      have HS1 : Hid (s1.bs.length ≤ 1000000) := Nat.le_trans hb1 HN.out
      have hk := (rNum_bs s1 1)
      obtain ⟨s2, hs2⟩ : ∃ s2, (Cur.rNum s1 1).2 = s2 := ⟨_, rfl⟩
      obtain ⟨z1, hz1'⟩ : ∃ z1, (Cur.rNum s1 1).1 = z1 := ⟨_, rfl⟩
      rw [hs2] at hk
      have HS2 : Hid (s2.bs.length ≤ 1000000) := Nat.le_trans hk HS1.out
      obtain ⟨s3, hs3⟩ : ∃ s3, (Cur.rNum s2 4).2 = s3 := ⟨_, rfl⟩
      obtain ⟨z2, hz2'⟩ : ∃ z2, (Cur.rNum s2 4).1 = z2 := ⟨_, rfl⟩
      have hdx : decX ⟨0, rest⟩ = ⟨tn, z1, z2⟩ := by unfold decX decR decK; rw [htn, hs1, hz1', hs2, hz2']
      have hds : decS ⟨0, rest⟩ = s3 := by unfold decS decR decK; rw [hs1, hs2, hs3]
      have HDX := Lib.hid hdx
      have HDS := Lib.hid hds
      have HNum1 := Lib.hid fun (w5 : World) (h : RdB w5 y s1 B) => num_b B y s1 1 w5 h (by have := HS1.out; omega) (by omega)
      have HNum2 := Lib.hid fun (w5 : World) (h : RdB w5 y s2 B) => num_b B y s2 4 w5 h (by have := HS2.out; omega) (by omega)
      unfold RdNumB at HNum1 HNum2
      rw [hs2, hz1'] at HNum1
      rw [hs3, hz2'] at HNum2
      clear hs1 htn hb1 hk hs2 hz1' hs3 hz2' hdx hds HLF
      go_wp2_with fail
      refine HTX.out.mono ?_
      rintro r w5 ⟨rfl, hr5, ho5⟩
      have HT5 := Lib.hid (HD.out.text ho5 hr5 tn)
      clear hr5 ho5 HTX
      go_upto_region 6 with fail
      generalize w5.alloc (.cells #[.string (str tn), .int .i64 0, .int .i64 0] 35) = wa at *
      generalize w5.heap.size = gx at *
      go_wp2_with fail
      refine (HNum1.out wa HT5.out.rd).mono ?_
      rintro r w6 ⟨rfl, hr6, ho6⟩
      have HT6 := Lib.hid (HT5.out.read ho6 hr6)
      have e1 := HT6.out.ent.c1
      have f1 := HT6.out.ent.free 1
      have HT7 := Lib.hid (HT6.out.stored _ 1 _ (HT6.out.ent.set1 (z1 : Nat)))
      clear hr6 ho6 HT5 HNum1
      go_upto_region 7 with fail
      clear e1 f1 HT6
      generalize w6.setCell ⟨gx, 1, none⟩ (.int .i64 (z1 : Nat)) = wb at *
      go_wp2_with fail
      refine (HNum2.out wb HT7.out.rd).mono ?_
      rintro r w8 ⟨rfl, hr8, ho8⟩
      have HT8 := Lib.hid (HT7.out.read ho8 hr8)
      have e2 := HT8.out.ent.c2
      have f2 := HT8.out.ent.free 2
      have HT9 := Lib.hid (HT8.out.stored _ 2 _ (HT8.out.ent.set2 (z2 : Nat)))
      clear hr8 ho8 HT7 HNum2
      go_upto_region 8 with fail
      clear e2 f2 HT8
      generalize w8.setCell ⟨gx, 2, none⟩ (.int .i64 (z2 : Nat)) = wc at *
      have HER := Lib.hid (rderr_any y s3 wc HT9.out.rd.rd)
      obtain ⟨e, he⟩ : ∃ e, s3.e = e := ⟨_, rfl⟩
      rw [he] at HER
      have HE := Lib.hid he
      have c0 := HT9.out.ent.c0
      have c1 := HT9.out.ent.c1
      have c2 := HT9.out.ent.c2
      obtain ⟨mb, hmb⟩ : ∃ mb, mayB ⟨tn, z1, z2⟩ (lastN [] l) = mb := ⟨_, rfl⟩
      have HM := Lib.hid (may_any ⟨tn, z1, z2⟩ (lastN [] l))
      rw [hmb] at HM
      have HMB := Lib.hid hmb
      clear he hmb
      rcases Decidable.em (e = 0) with h0 | h0
      · subst h0
        have hor := HM.out
        go_wp2_with fail
        refine HER.out.mono ?_
        rintro r w' ⟨rfl, rfl⟩
        go_wp2_with fail
        refine (HM.out _).mono ?_
        rintro r wd ⟨rfl, hbd⟩
        have HTd := Lib.hid (HT9.out.later hbd)
        clear hbd HM HER hor c0 c1 c2 HT9
        cases mb
        · have HSt : Hid (¬ ∃ l, TakeP bs l) := take_stuck HD.out.ok HD.out.eq HR0.out (by rw [HDX.out, HMB.out]; exact fun h => by cases h.2)
          go_wp2_with fail
          go_ret2
          exact ⟨.inr ⟨HSt.out, rfl⟩, HTd.out.below⟩
        · obtain ⟨n1, n2, n3⟩ := take_next HD.out.ok HD.out.eq (by rw [HDS.out]; exact HE.out) (by rw [HDX.out]; exact HMB.out)
          rw [HDX.out] at n1 n2
          rw [HDS.out] at n2 n3
          have HN1 := Lib.hid n1
          have HN2 := Lib.hid n2
          have HN3 := Lib.hid n3
          clear n1 n2 n3
          go_upto_region 10 with fail
          have c0 := HTd.out.ent.c0
          have c1 := HTd.out.ent.c1
          have c2 := HTd.out.ent.c2
          refine wp_region_held_drew (S := fun w' => w'.cell? ⟨gx, 0, none⟩ = some (.string (str tn)) ∧ w'.cell? ⟨gx, 1, none⟩ = some (.int .i64 z1) ∧ w'.cell? ⟨gx, 2, none⟩ = some (.int .i64 z2)) (by kernel_rfl) ⟨c0, c1, c2⟩ (fun hHeld => ?_)
          refine wpAnyH_take (i := 0) (v := u5) rfl (by kernel_rfl) (by kernel_rfl) (by kernel_rfl) (fun _ _ _ h => h) (Or.inl ⟨by rfl, fun w hSw => by (try dsimp only at hSw); go_simp⟩) hHeld ?_
          try simp only [Act.put, List.setIfInBounds_toArray, List.set_cons_zero, List.set_cons_succ]
          refine wpAnyH_take (i := 1) (v := (.agg #[.string (str tn), .int .i64 z1, .int .i64 z2])) rfl (by kernel_rfl) (by kernel_rfl) (by kernel_rfl) (fun _ _ _ h => h) (Or.inl ⟨by rfl, fun w hSw => by (try dsimp only at hSw); obtain ⟨q0, q1, q2⟩ := hSw; go_simp⟩) hHeld ?_
          try simp only [Act.put, List.setIfInBounds_toArray, List.set_cons_zero, List.set_cons_succ]
          refine wpAnyH_take (i := 4) (v := (.pointer (some ⟨gx, 0, none⟩))) rfl (by kernel_rfl) (by kernel_rfl) (by kernel_rfl) (fun _ _ _ h => h) (Or.inl ⟨by rfl, fun w hSw => by (try dsimp only at hSw); go_simp⟩) hHeld ?_
          try simp only [Act.put, List.setIfInBounds_toArray, List.set_cons_zero, List.set_cons_succ]
          refine wpAnyH_take (i := 5) (v := (.string (str tn))) rfl (by kernel_rfl) (by kernel_rfl) (by kernel_rfl) (fun _ _ _ h => h) (Or.inl ⟨by rfl, fun w hSw => by (try dsimp only at hSw); obtain ⟨q0, q1, q2⟩ := hSw; go_simp⟩) hHeld ?_
          try simp only [Act.put, List.setIfInBounds_toArray, List.set_cons_zero, List.set_cons_succ]
          refine wpAnyH_ready (rs := [2]) (by kernel_rfl) (by simp) ?_
          refine AllReadyH.cons rfl (fun K hK => ?_) AllReadyH.nil
          go_simp
          have hal : Below wd.heap.size wd (wd.alloc (.cells #[.string (str tn), .int .i64 z1, .int .i64 z2] 35)).drew := below_drewD (below_all.alloc (Nat.le_refl _) _)
          have HE' : Hid (EntAt (wd.alloc (.cells #[.string (str tn), .int .i64 z1, .int .i64 z2] 35)).drew wd.heap.size ⟨tn, z1, z2⟩) := EntAt.new wd ⟨tn, z1, z2⟩
          have HTe := Lib.hid (HTd.out.later hal)
          clear hal HTd c0 c1 c2
          generalize (wd.alloc (.cells #[.string (str tn), .int .i64 z1, .int .i64 z2] 35)).drew = we at *
          generalize wd.heap.size = ge at *
          refine hK.out _ _ ⟨HTe.out.ent.c0, HTe.out.ent.c1, HTe.out.ent.c2⟩ (fun hHeld => ?_)
          clear hK K
          try simp only [Act.put, List.setIfInBounds_toArray, List.set_cons_zero, List.set_cons_succ]
          refine wpAnyH_ready (rs := [3]) (by kernel_rfl) (by simp) ?_
          refine AllReadyH.cons rfl (fun K hK => ?_) AllReadyH.nil
          rw [if_pos (by rfl)]
          have hBe : B ≤ we.heap.size := by have h1 := HTe.out.far; have h2 := HTe.out.ent.lt; omega
          have hll : l.length + 1 ≤ 1000001 := by have h1 := HGE.out; have h2 := HL9.out; have h3 := HLEN.out; omega
          refine wp_append_ent (.tmp 33) (.tmp 35) 22 rfl B 35 i0 _ 32 Try.underlying22 HI.out hz0 hz1 hz2 rfl u5 l.length l rfl HTe.out.own ge ⟨tn, z1, z2⟩ rfl (fun j u hu => by rw [cell_of_row we ge j _ _ (0, 0) HE'.out]; exact hu) (by simp only [maxLen]; omega) (by omega) hBe ?_
          intro v' w' hown' hgr' _
          obtain ⟨hE9, hD9⟩ := HTe.out.appended (bs := bs) hgr' hown' HN1.out HN2.out HN3.out
          have HD9 := Lib.hid hD9
          refine hK.out _ _ ⟨hE9.c0, hE9.c1, hE9.c2⟩ (fun hHeld => ?_)
          clear hK K
          try simp only [Act.put, List.setIfInBounds_toArray, List.set_cons_zero, List.set_cons_succ]
          refine wpAnyH_ready (rs := [6]) (by kernel_rfl) (by simp) ?_
          refine AllReadyH.cons rfl (fun K hK => ?_) AllReadyH.nil
          go_simp
          refine hK.out _ _ ⟨hE9.c0, hE9.c1, hE9.c2⟩ (fun hHeld => ?_)
          clear hK K
          try simp only [Act.put, List.setIfInBounds_toArray, List.set_cons_zero, List.set_cons_succ]
          refine wpAnyH_ready (rs := [7]) (by kernel_rfl) (by simp) ?_
          refine AllReadyH.cons rfl (fun K hK => ?_) AllReadyH.nil
          go_simp
          refine hK.out _ _ ⟨hE9.c0, hE9.c1, hE9.c2⟩ (fun hHeld => ?_)
          clear hK K
          try simp only [Act.put, List.setIfInBounds_toArray, List.set_cons_zero, List.set_cons_succ]
          refine wpAnyH_done (by kernel_rfl) ?_ _
          obtain ⟨A9, c9, hv'⟩ := own_slice hown'
          subst hv'
          have hll' : l.length + 1 ≤ bs.length := by
            have h1 := encL_ge (l ++ [⟨tn, z1, z2⟩])
            have h2 := congrArg List.length HN2.out
            rw [List.length_append] at h1 h2
            simp only [List.length_singleton] at h1
            omega
          have hlo : lenOf (.slice A9 (l.length + 1) c9) = l.length + 1 := rfl
          have hlo2 : lenOf u5 = l.length := by rw [HOUT.out]; rfl
          go_wp2_with fail
          refine ⟨⟨l ++ [⟨tn, z1, z2⟩], s3.bs, by rw [lastN_snoc], HD9.out, by rw [List.length_append]; rfl⟩, ?_⟩
          show bs.length + 1 - lenOf (.slice A9 (l.length + 1) c9) < bs.length + 1 - lenOf u5
          omega
      · have hne : (((e : Nat) : Int) != 0) = true := by rw [bne_iff_ne]; omega
        have HSt : Hid (¬ ∃ l, TakeP bs l) := take_stuck HD.out.ok HD.out.eq HR0.out (by rw [HDS.out, HE.out]; exact fun h => h0 h.1)
        clear h0
        go_wp2_with fail
        refine HER.out.mono ?_
        rintro r w' ⟨rfl, rfl⟩
        go_wp2_with fail
        go_ret2
        exact ⟨.inr ⟨HSt.out, rfl⟩, HT9.out.below⟩
end Go.Proofs.Ythkjgkdglphfcaa
