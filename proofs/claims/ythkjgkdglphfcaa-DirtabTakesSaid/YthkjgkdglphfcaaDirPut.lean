/- Walk: dirtab.Put: a list is written, or refused. -/
import Derived.Test.YthkjgkdglphfcaaRows
import Derived.Test.YthkjgkdglphfcaaDirMath
import Derived.Test.YthkjgkdglphfcaaCurWText
namespace Go.Proofs.Ythkjgkdglphfcaa
set_option linter.unusedVariables false
set_option linter.unusedSimpArgs false
open Go.RowKit

theorem werr_any (base g : Nat) (S : List Nat) (s : Cur.St) (w : World) (h : WrAt w base g S s) :
    Calls Try.prog 21 #[.pointer (some ⟨g, 0, none⟩)] w fun r w' => r = .returned (.int .i64 (s.e : Nat)) ∧ w = w' := by
  obtain ⟨v, ht, hv, hb, rfl⟩ := h
  exact err_any g s.e _ v w ht
theorem new_writer (w : World) : WrAt (w.alloc (.cells #[.int .i64 ((0 : Nat) : Int), .slice none 0 0] 45)) w.heap.size w.heap.size [w.heap.size] ⟨0, []⟩ :=
  ⟨_, Two.new w _ _ _, World.ownsRow_nil _ _ _ _, Nat.le_refl _, rfl⟩
/-- A writer without an error that holds bs. -/
structure DPut (w : World) (B gw : Nat) (bs : List UInt8) (wr : World) : Prop where
  below : Below w.heap.size w wr
  wr : ∃ S, WrAt wr B gw S ⟨0, bs⟩
  base : w.heap.size ≤ B
theorem DPut.later {w wr w' : World} {B gw : Nat} {bs : List UInt8} (H : DPut w B gw bs wr) (hb : Below wr.heap.size wr w') : DPut w B gw bs w' := by
  obtain ⟨S, h1⟩ := H.wr
  exact ⟨below_then H.below hb, ⟨S, h1.below hb⟩, H.base⟩
/-- A writer, beside an entry that is no part of it. -/
structure DPutX (w : World) (B gw gx : Nat) (x : Ent) (bs : List UInt8) (wr : World) : Prop where
  below : Below w.heap.size w wr
  ent : EntAt wr gx x
  wr : ∃ S, WrAt wr B gw S ⟨0, bs⟩ ∧ gx ∉ S
  base : w.heap.size ≤ B
theorem DPutX.forget {w wr : World} {B gw gx : Nat} {x : Ent} {bs : List UInt8} (H : DPutX w B gw gx x bs wr) : DPut w B gw bs wr := by
  obtain ⟨S, h, _⟩ := H.wr
  exact ⟨H.below, ⟨S, h⟩, H.base⟩
theorem DPut.with_ {w wr w' : World} {B gw : Nat} {bs : List UInt8} {x : Ent} (H : DPut w B gw bs wr) (hb : Below (wr.alloc (.cells (entCells x) 35)).heap.size (wr.alloc (.cells (entCells x) 35)) w') : DPutX w B gw wr.heap.size x bs w' := by
  obtain ⟨S, h⟩ := H.wr
  have ha : Below wr.heap.size wr (wr.alloc (.cells (entCells x) 35)) := below_all.alloc (Nat.le_refl _) _
  exact ⟨below_then (below_then H.below ha) hb, (EntAt.new wr x).below hb, ⟨S, (h.below ha).below hb, fun hin => by have := (h.all _ hin).2; omega⟩, H.base⟩
theorem DPutX.step {w wr w5 : World} {B gw gx : Nat} {x : Ent} {S : List Nat} {bs bs' : List UInt8} {r : Ending} (H : DPutX w B gw gx x bs wr) (hW : WrAt wr B gw S ⟨0, bs⟩) (h2 : gx ∉ S) (k : Wrote wr B gw S ⟨0, bs'⟩ r w5) :
    r = .returned (.tuple #[]) ∧ DPutX w B gw gx x bs' w5 := by
  obtain ⟨hr, S', hw', ho, hs'⟩ := k
  refine ⟨hr, ⟨H.below.trans (ho.below (fun j hj => Nat.le_trans H.base (hW.all j hj).1) H.below.size), H.ent.only ho h2, ⟨S', hw', fun hin => ?_⟩, H.base⟩⟩
  rcases hs' gx hin with h | h
  · exact h2 h
  · have := H.ent.lt; omega
theorem dnum_step {w wr : World} {B gw gx : Nat} {x : Ent} {bs : List UInt8} (H : DPutX w B gw gx x bs wr) (z : Int) (n : Nat) (hn : 1 ≤ n ∧ n ≤ 4) (h0 : 0 ≤ z) (h1 : z < (256 : Int) ^ n) (hz : z < 4294967296) (hl : bs.length ≤ 1000000) :
    Calls Try.prog 19 #[.pointer (some ⟨gw, 0, none⟩), .int .i64 z, .int .i64 (n : Nat)] wr fun r w' => r = .returned (.tuple #[]) ∧ DPutX w B gw gx x (bs ++ Cur.leBytes z.toNat n) w' := by
  obtain ⟨S, hW, h2⟩ := H.wr
  refine (wnum_any B gw S _ z (n : Nat) wr hW (by simp only; omega) (by omega) (by omega)).mono fun r w' h => ?_
  rw [wNum_fit bs z n hn h0 h1] at h
  exact H.step hW h2 h
theorem dtext_step {w wr : World} {B gw gx : Nat} {x : Ent} {bs t : List UInt8} (H : DPutX w B gw gx x bs wr) (ht : t.length ≤ 255) (hl : bs.length ≤ 1000000) :
    Calls Try.prog 18 #[.pointer (some ⟨gw, 0, none⟩), .string (str t)] wr fun r w' => r = .returned (.tuple #[]) ∧ DPutX w B gw gx x (bs ++ (Cur.leBytes t.length 1 ++ t)) w' := by
  obtain ⟨S, hW, h2⟩ := H.wr
  refine (wtext_any B gw S _ t wr hW (by simp only; omega)).mono fun r w' h => ?_
  rw [wText_fit bs t ht] at h
  exact H.step hW h2 h
/-- What Put gives. -/
def PutRes (w : World) (bs : List UInt8) (e : Nat) (r : Ending) (w' : World) : Prop :=
  ∃ A c, r = .returned (.tuple #[.slice A bs.length c, .int .i64 (e : Nat)]) ∧ Bytes w' A bs.length bs ∧ bs.length ≤ c ∧ c ≤ 9223372036854775807 ∧ Below w.heap.size w w'
/-- What holds at each round's head. -/
structure PutRel (w : World) (B gw len : Nat) (l : List Ent) (k : Nat) (wr : World) : Prop where
  kn : k ≤ len
  ok : okL [] (l.take k) = true
  put : DPut w B gw (encL (l.take k)) wr
  short : (encL (l.take k)).length ≤ 261 * k
set_option maxRecDepth 100000 in
set_option maxHeartbeats 4000000 in
theorem put_any (A : Option Addr) (len cap : Nat) (l : List Ent) (w : World) (hl : EntsIn w A len l) (hn : len ≤ 1000) (hc : len ≤ cap) : Calls Try.prog 10 #[.slice A len cap] w (PutRes w (putBs l) (putE l)) := by
  have HL := Lib.hid hl
  clear hl
  go_enter Try.func10, Try.ntmps10
  go_wp2_with fail
  have hrel0 : PutRel w w.heap.size w.heap.size len l 0 (w.alloc (.cells #[.int .i64 0, .slice none 0 0] 45)) :=
    ⟨by omega, rfl, ⟨below_all.alloc (Nat.le_refl _) _, ⟨_, new_writer w⟩, Nat.le_refl _⟩, by simp [encL]⟩
  go_loopw [5, 10] (fun last i wr => ∃ k : Nat, i = .int .i64 k ∧ last = .string (str (lastN [] (l.take k))) ∧ PutRel w w.heap.size w.heap.size len l k wr) (fun _ i _ => len - (intOf i).toNat)
  case atStart => exact ⟨0, rfl, rfl, hrel0⟩
  case round =>
    obtain ⟨k, rfl, rfl, hR⟩ := hrel
    have HR := Lib.hid hR
    clear hR hrel0
    by_cases hlt : k < len
    · obtain ⟨b, off, x, rfl, hx, h0, h1, h2⟩ := HL.out.at_ hlt
      have hbl := block_lt_of_cell h0
      have hbr := HR.out.put.below
      have c0 := (hbr.cell (p := ⟨b, off + k * 3, none⟩) hbl).trans h0
      have c1 := (hbr.cell (p := ⟨b, off + k * 3 + 1, none⟩) hbl).trans h1
      have c2 := (hbr.cell (p := ⟨b, off + k * 3 + 2, none⟩) hbl).trans h2
      have hk0 : (0 : Int) ≤ (k : Int) := by omega
      have hk1 : (k : Int) < (len : Int) := by omega
      have HT := Lib.hid (take_snoc_ent hx)
      clear h0 h1 h2 hx
      obtain ⟨mb, hmb⟩ : ∃ mb, mayB x (lastN [] (l.take k)) = mb := ⟨_, rfl⟩
      have HM := Lib.hid (may_any x (lastN [] (l.take k)))
      rw [hmb] at HM
      have hsn := okL_snoc [] (l.take k) x
      rw [← HT.out, hmb, HR.out.ok] at hsn
      have hsl := lastN_snoc [] (l.take k) x
      rw [← HT.out] at hsl
      have HSL := Lib.hid hsl
      generalize lastN [] (l.take k) = last at *
      have hW0 := fun w' => HR.out.put.with_ (x := x) (w' := w')
      have HW0 := Lib.hid hW0
      clear hsl hW0
      cases mb
      · have HBad := Lib.hid (okL_take (k + 1) hsn)
        clear hsn hmb
        go_wp2_with fail
        refine (HM.out _).mono ?_
        rintro r w1 ⟨rfl, hb1⟩
        have HB1 := Lib.hid (HW0.out w1 hb1).below
        clear hb1
        go_wp2_with fail
        go_ret2
        have he : putE l = 1 := by unfold putE; rw [HBad.out]; rfl
        have hbs : putBs l = [] := by unfold putBs; rw [HBad.out]; rfl
        rw [he, hbs]
        exact ⟨none, 0, rfl, Bytes.nil _ _, Nat.le_refl _, by omega, HB1.out⟩
      · have HOK := Lib.hid hsn
        obtain ⟨n1, ⟨n2, n3⟩, n4, n5⟩ := may_name hmb
        have HN := Lib.hid (encX_length n1)
        have HSH := Lib.hid HR.out.short
        have HE := Lib.hid (encL_snoc (l.take k) x)
        rw [← HT.out] at HE
        clear hsn hmb
        go_wp2_with fail
        refine (HM.out _).mono ?_
        rintro r w1 ⟨rfl, hb1⟩
        have HX1 := Lib.hid (HW0.out w1 hb1)
        have k0 := HX1.out.ent.c0
        generalize encL (l.take k) = bs at *
        have hbl9 : bs.length ≤ 300000 := by have := HSH.out; omega
        have HBL9 := Lib.hid hbl9
        clear hb1 HM HW0 c0 c1 c2 hbl9
        go_wp2_with fail
        refine (dtext_step HX1.out n1 (by have := HBL9.out; omega)).mono ?_
        rintro r w2 ⟨rfl, hx2⟩
        have HX2 := Lib.hid hx2
        have k1 := HX2.out.ent.c1
        clear hx2 k0 HX1
        go_wp2_with fail
        refine (dnum_step HX2.out x.kind 1 (by omega) (by omega) (by omega) (by omega) (by have := HBL9.out; simp only [List.length_append, Cur.leBytes_length]; omega)).mono ?_
        rintro r w3 ⟨rfl, hx3⟩
        have HX3 := Lib.hid hx3
        have k2 := HX3.out.ent.c2
        clear hx3 k1 HX2
        go_wp2_with fail
        refine (dnum_step HX3.out x.ref 4 (by omega) (by omega) (by omega) (by omega) (by have := HBL9.out; simp only [List.length_append, Cur.leBytes_length]; omega)).mono ?_
        rintro r w4 ⟨rfl, hx4⟩
        have HX4 := Lib.hid hx4
        have k3 := HX4.out.ent.c0
        have hfin : PutRel w w.heap.size w.heap.size len l (k + 1) w4 := by
          refine ⟨by omega, HOK.out, ?_, ?_⟩
          · rw [HE.out]
            have := hx4.forget
            simp only [List.append_assoc] at this
            unfold encX
            simp only [List.append_assoc]
            exact this
          · rw [HE.out, List.length_append]
            have := HN.out
            have := HSH.out
            omega
        have HFin := Lib.hid hfin
        clear hx4 k2 HX3 hfin
        go_wp2_with fail
        exact ⟨⟨k + 1, by go_num, by rw [HSL.out], HFin.out⟩, by simp [intOf]; omega⟩
    · obtain rfl : k = len := by have := HR.out.kn; omega
      have hall : l.take k = l := List.take_of_length_le (by rw [HL.out.1]; omega)
      have hok := HR.out.ok
      have hput := HR.out.put
      have hsh := HR.out.short
      rw [hall] at hok hput hsh
      have HE : Hid (putE l = 0) := by show putE l = 0; unfold putE; rw [hok]; rfl
      have HBS : Hid (putBs l = encL l) := by show putBs l = encL l; unfold putBs; rw [hok]; rfl
      obtain ⟨S, hW⟩ := hput.wr
      have HB := Lib.hid hput.below
      have HD := Lib.hid (show Calls Try.prog 20 #[.pointer (some ⟨w.heap.size, 0, none⟩)] wr (Fresh wr (encL l).length (encL l)) from done_any w.heap.size w.heap.size S _ wr hW (by simp only; omega))
      have HW := Lib.hid hW
      clear hall hok hput hsh hW
      go_wp2_with fail
      refine HD.out.mono ?_
      rintro r w1 ⟨A1, c1, rfl, hby, hc1, hc2, hf, hb1⟩
      have HY := Lib.hid hby
      have HC1 := Lib.hid hc1
      have HC2 := Lib.hid hc2
      have HBB := Lib.hid (below_then HB.out hb1)
      have hW1 := HW.out.below hb1
      clear hby hc1 hc2 hf hb1
      go_wp2_with fail
      refine (werr_any _ _ S _ w1 hW1).mono ?_
      rintro r w' ⟨rfl, rfl⟩
      go_wp2_with fail
      go_ret2
      rw [HE.out, HBS.out]
      exact ⟨A1, c1, rfl, HY.out, HC1.out, HC2.out, HBB.out⟩
end Go.Proofs.Ythkjgkdglphfcaa
