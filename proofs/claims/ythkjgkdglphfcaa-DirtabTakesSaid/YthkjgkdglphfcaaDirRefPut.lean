/- Walk: chapter 10's document: Put. -/
import Derived.Test.YthkjgkdglphfcaaRows
import Derived.Test.YthkjgkdglphfcaaDirPut
import Derived.Test.YthkjgkdglphfcaaCurRWText
import Derived.BigQuiet
import Derived.Deep.QuietTactic
import Derived.Deep.DeepCutAuto
namespace Go.Proofs.Ythkjgkdglphfcaa
set_option linter.unusedVariables false
set_option linter.unusedSimpArgs false
open Go.RowKit

theorem new_rwriter (w : World) : RwAt (w.alloc (.cells #[.slice none 0 0, .int .i64 ((0 : Nat) : Int)] 52)) w.heap.size w.heap.size [w.heap.size] ⟨0, []⟩ :=
  ⟨_, Two.new w _ _ _, World.ownsRow_nil _ _ _ _, Nat.le_refl _, rfl⟩
/-- A writer without an error that holds bs. -/
structure RPut (w : World) (B gw : Nat) (bs : List UInt8) (wr : World) : Prop where
  below : Below w.heap.size w wr
  wr : ∃ S, RwAt wr B gw S ⟨0, bs⟩
  base : w.heap.size ≤ B
theorem RPut.later {w wr w' : World} {B gw : Nat} {bs : List UInt8} (H : RPut w B gw bs wr) (hb : Below wr.heap.size wr w') : RPut w B gw bs w' := by
  obtain ⟨S, h1⟩ := H.wr
  exact ⟨below_then H.below hb, ⟨S, h1.below hb⟩, H.base⟩
/-- A writer, beside an entry that is no part of it. -/
structure RPutX (w : World) (B gw gx : Nat) (x : Ent) (bs : List UInt8) (wr : World) : Prop where
  below : Below w.heap.size w wr
  ent : EntAt wr gx x
  wr : ∃ S, RwAt wr B gw S ⟨0, bs⟩ ∧ gx ∉ S
  base : w.heap.size ≤ B
theorem RPutX.forget {w wr : World} {B gw gx : Nat} {x : Ent} {bs : List UInt8} (H : RPutX w B gw gx x bs wr) : RPut w B gw bs wr := by
  obtain ⟨S, h, _⟩ := H.wr
  exact ⟨H.below, ⟨S, h⟩, H.base⟩
theorem RPut.with_ {w wr w' : World} {B gw : Nat} {bs : List UInt8} {x : Ent} (H : RPut w B gw bs wr) (hb : Below (wr.alloc (.cells (entCells x) 35)).heap.size (wr.alloc (.cells (entCells x) 35)) w') : RPutX w B gw wr.heap.size x bs w' := by
  obtain ⟨S, h⟩ := H.wr
  have ha : Below wr.heap.size wr (wr.alloc (.cells (entCells x) 35)) := below_all.alloc (Nat.le_refl _) _
  exact ⟨below_then (below_then H.below ha) hb, (EntAt.new wr x).below hb, ⟨S, (h.below ha).below hb, fun hin => by have := (h.all _ hin).2; omega⟩, H.base⟩
theorem RPutX.step {w wr w5 : World} {B gw gx : Nat} {x : Ent} {S : List Nat} {bs bs' : List UInt8} {r : Ending} (H : RPutX w B gw gx x bs wr) (hW : RwAt wr B gw S ⟨0, bs⟩) (h2 : gx ∉ S) (k : Rwrote wr B gw S ⟨0, bs'⟩ r w5) :
    r = .returned (.tuple #[]) ∧ RPutX w B gw gx x bs' w5 := by
  obtain ⟨hr, S', hw', ho, hs'⟩ := k
  refine ⟨hr, ⟨H.below.trans (ho.below (fun j hj => Nat.le_trans H.base (hW.all j hj).1) H.below.size), H.ent.only ho h2, ⟨S', hw', fun hin => ?_⟩, H.base⟩⟩
  rcases hs' gx hin with h | h
  · exact h2 h
  · have := H.ent.lt; omega
theorem rnum_stepD {w wr : World} {B gw gx : Nat} {x : Ent} {bs : List UInt8} (H : RPutX w B gw gx x bs wr) (z : Int) (n : Nat) (hn : 1 ≤ n ∧ n ≤ 4) (h0 : 0 ≤ z) (h1 : z < (256 : Int) ^ n) (hz : z < 4294967296) (hl : bs.length ≤ 1000000) :
    Calls Try.prog 24 #[.pointer (some ⟨gw, 0, none⟩), .int .i64 z, .int .i64 (n : Nat)] wr fun r w' => r = .returned (.tuple #[]) ∧ RPutX w B gw gx x (bs ++ Cur.leBytes z.toNat n) w' := by
  obtain ⟨S, hW, h2⟩ := H.wr
  refine (rwnum_any B gw S _ z (n : Nat) wr hW (by simp only; omega) (by omega) (by omega)).mono fun r w' h => ?_
  rw [wNum_fit bs z n hn h0 h1] at h
  exact H.step hW h2 h
theorem rtext_stepD {w wr : World} {B gw gx : Nat} {x : Ent} {bs t : List UInt8} (H : RPutX w B gw gx x bs wr) (ht : t.length ≤ 255) (hl : bs.length ≤ 1000000) :
    Calls Try.prog 23 #[.pointer (some ⟨gw, 0, none⟩), .string (str t)] wr fun r w' => r = .returned (.tuple #[]) ∧ RPutX w B gw gx x (bs ++ (Cur.leBytes t.length 1 ++ t)) w' := by
  obtain ⟨S, hW, h2⟩ := H.wr
  refine (rwtext_any B gw S _ t wr hW (by simp only; omega)).mono fun r w' h => ?_
  rw [wText_fit bs t ht] at h
  exact H.step hW h2 h
theorem valid_nil : validN [] ≠ 0 := by decide
theorem less_nil (s : List UInt8) : Op.bytesLess [] s = !(s == []) := by cases s <;> rfl
theorem mayB_first (x : Ent) : mayB x [] = (decide (validN x.name = 0) && (decide (1 ≤ x.kind ∧ x.kind ≤ 3) && decide (0 ≤ x.ref ∧ x.ref ≤ 4294967295))) := by
  unfold mayB MayP
  rw [Bool.eq_iff_iff]
  simp only [Bool.and_eq_true, decide_eq_true_iff]
  refine decide_eq_true_iff.trans ?_
  rw [less_nil]
  constructor
  · rintro ⟨h1, _, h2, h3⟩
    exact ⟨h1, h2, h3⟩
  · rintro ⟨h1, h2, h3⟩
    refine ⟨h1, ?_, h2, h3⟩
    cases hx : x.name
    · rw [hx] at h1; exact absurd h1 valid_nil
    · rfl
theorem RPutX.drewN {w wr : World} {B gw gx : Nat} {x : Ent} {bs : List UInt8} (H : RPutX w B gw gx x bs wr) (n : Nat) : RPutX w B gw gx x bs (wr.drewN n) :=
  ⟨belowN H.below n, H.ent, H.wr, H.base⟩
/-- What holds at each round's head. -/
structure RPutRel (w : World) (B gw len : Nat) (l : List Ent) (k : Nat) (wr : World) : Prop where
  kn : k ≤ len
  ok : okL [] (l.take k) = true
  put : RPut w B gw (encL (l.take k)) wr
  short : (encL (l.take k)).length ≤ 261 * k
set_option maxRecDepth 100000 in
set_option maxHeartbeats 4000000 in
theorem rput_any (A : Option Addr) (len cap : Nat) (l : List Ent) (w : World) (hl : EntsIn w A len l) (hn : len ≤ 1000) (hc : len ≤ cap) : Calls Try.prog 11 #[.slice A len cap] w (PutRes w (putBs l) (putE l)) := by
  have HL := Lib.hid hl
  clear hl
  go_enter Try.func11, Try.ntmps11
  go_wp2_with fail
  have hrel0 : RPutRel w w.heap.size w.heap.size len l 0 (w.alloc (.cells #[.slice none 0 0, .int .i64 0] 52)) :=
    ⟨by omega, rfl, ⟨below_all.alloc (Nat.le_refl _) _, ⟨_, new_rwriter w⟩, Nat.le_refl _⟩, by simp [encL]⟩
  go_loopw [5] (fun i wr => ∃ k : Nat, i = .int .i64 k ∧ RPutRel w w.heap.size w.heap.size len l k wr) (fun i _ => len - (intOf i).toNat)
  case atStart => exact ⟨0, rfl, hrel0⟩
  case round =>
    obtain ⟨k, rfl, hR⟩ := hrel
    have HR := Lib.hid hR
    clear hR hrel0
    by_cases hlt : k < len
    · obtain ⟨b, off, x, rfl, hx, h0, h1, h2⟩ := HL.out.at_ hlt
      have hbl := block_lt_of_cell h0
      have hbr := HR.out.put.below
      have c0 := (hbr.cell (p := ⟨b, off + k * 3, none⟩) hbl).trans h0
      have c1 := (hbr.cell (p := ⟨b, off + k * 3 + 1, none⟩) hbl).trans h1
      have c2 := (hbr.cell (p := ⟨b, off + k * 3 + 2, none⟩) hbl).trans h2
      have hk0 : (0 : Int) ≤ (k : Int) := by omega
      have hk1 : (k : Int) < (len : Int) := by omega
      have HT := Lib.hid (take_snoc_ent hx)
      have HX0 : Hid (RPutX w w.heap.size w.heap.size wr.heap.size x (encL (l.take k)) (wr.alloc (.cells #[.string (str x.name), .int .i64 x.kind, .int .i64 x.ref] 35))) := HR.out.put.with_ (x := x) (Below.refl _ _)
      have HBK : Hid (∀ i y, i < k → l[i]? = some y → (wr.alloc (.cells #[.string (str x.name), .int .i64 x.kind, .int .i64 x.ref] 35)).cell? ⟨b, off + i * 3, none⟩ = some (.string (str y.name))) := by
        intro i y hik hy
        obtain ⟨b', off', y', hA, hy', e0, _, _⟩ := HL.out.at_ (show i < len by omega)
        rw [hy] at hy'
        cases hy'
        injection hA with hA
        injection hA with q1 q2
        subst q1 q2
        exact ((HX0.out.below).cell (p := ⟨_, _, none⟩) (block_lt_of_cell e0)).trans e0
      clear h0 h1 h2 hx hbl hbr
      go_upto_region 6 with fail
      clear c0 c1 c2
      generalize wr.alloc (.cells #[.string (str x.name), .int .i64 x.kind, .int .i64 x.ref] 35) = wa at *
      generalize wr.heap.size = gx at *
      have x0 := HX0.out.ent.c0
      have x1 := HX0.out.ent.c1
      have x2 := HX0.out.ent.c2
      have hxn := str_toList x.name
      have HV := Lib.hid (refValid_any x.name)
      generalize hv : validN x.name = v at *
      have HVv := Lib.hid hv
      clear hv
      obtain ⟨mb, hmb⟩ : ∃ mb, mayB x (lastN [] (l.take k)) = mb := ⟨_, rfl⟩
      have HMB := Lib.hid hmb
      clear hmb
      go_cut [56] (fun u w' => ∃ nq, u = .bool (!mb) ∧ w' = wa.drewN nq)
      case first =>
        rcases Nat.eq_zero_or_pos k with hkz | hkp
        · have hkd : decide (0 < k) = false := by rw [decide_eq_false_iff_not]; omega
          have hlast : lastN [] (l.take k) = [] := by rw [hkz]; rfl
          rw [hlast] at HMB
          have hm : mb = (decide (v = 0) && (decide (1 ≤ x.kind ∧ x.kind ≤ 3) && decide (0 ≤ x.ref ∧ x.ref ≤ 4294967295))) := by
            rw [← HMB.out, ← HVv.out]
            exact mayB_first x
          have HM := Lib.hid hm
          clear hm hlast hkz hlt
          by_cases hall : v = 0 ∧ 1 ≤ x.kind ∧ x.kind ≤ 3 ∧ 0 ≤ x.ref ∧ x.ref ≤ 4294967295
          · obtain ⟨rfl, e1, e2, e3, e4⟩ := hall
            have HE : Hid (mb = true) := by show mb = true; rw [HM.out]; simp; omega
            have hd0 : decide (x.kind < 1) = false := decide_eq_false (by omega)
            have hd1 : decide ((3 : Int) < x.kind) = false := decide_eq_false (by omega)
            have hd2 : decide (x.ref < 0) = false := decide_eq_false (by omega)
            have hd3 : decide ((4294967295 : Int) < x.ref) = false := decide_eq_false (by omega)
            clear e1 e2 e3 e4
            go_big_quiet ((go_at_call 22; exact Calls.quiet_of_same ((HV.out _).mono fun _ _ h => ⟨h.1, h.2.symm⟩)))
            go_wp2_with fail
            go_meet
            exact ⟨nq, by rw [HE.out]; rfl, rfl⟩
          · have HE : Hid (mb = false) := by
              show mb = false
              rw [HM.out, Bool.eq_false_iff]
              intro h
              simp only [Bool.and_eq_true, decide_eq_true_iff] at h
              exact hall ⟨h.1, h.2.1.1, h.2.1.2, h.2.2.1, h.2.2.2⟩
            have hbad : v ≠ 0 ∨ (v = 0 ∧ x.kind < 1) ∨ (v = 0 ∧ 1 ≤ x.kind ∧ 3 < x.kind) ∨ (v = 0 ∧ 1 ≤ x.kind ∧ x.kind ≤ 3 ∧ x.ref < 0) ∨ (v = 0 ∧ 1 ≤ x.kind ∧ x.kind ≤ 3 ∧ 0 ≤ x.ref ∧ 4294967295 < x.ref) := by
              clear HE HM
              omega
            clear HM hall
            rcases hbad with hv | ⟨rfl, e1⟩ | ⟨rfl, e1, e2⟩ | ⟨rfl, e1, e2, e3⟩ | ⟨rfl, e1, e2, e3, e4⟩
            · have hv2 : ((v : Int) != 0) = true := by rw [bne_iff_ne]; omega
              clear hv
              go_big_quiet ((go_at_call 22; exact Calls.quiet_of_same ((HV.out _).mono fun _ _ h => ⟨h.1, h.2.symm⟩)))
              go_wp2_with fail
              go_meet
              exact ⟨nq, by rw [HE.out]; rfl, rfl⟩
            · have hd0 : decide (x.kind < 1) = true := decide_eq_true (by omega)
              clear e1
              go_big_quiet ((go_at_call 22; exact Calls.quiet_of_same ((HV.out _).mono fun _ _ h => ⟨h.1, h.2.symm⟩)))
              go_wp2_with fail
              go_meet
              exact ⟨nq, by rw [HE.out]; rfl, rfl⟩
            · have hd0 : decide (x.kind < 1) = false := decide_eq_false (by omega)
              have hd1 : decide ((3 : Int) < x.kind) = true := decide_eq_true (by omega)
              clear e1 e2
              go_big_quiet ((go_at_call 22; exact Calls.quiet_of_same ((HV.out _).mono fun _ _ h => ⟨h.1, h.2.symm⟩)))
              go_wp2_with fail
              go_meet
              exact ⟨nq, by rw [HE.out]; rfl, rfl⟩
            · have hd0 : decide (x.kind < 1) = false := decide_eq_false (by omega)
              have hd1 : decide ((3 : Int) < x.kind) = false := decide_eq_false (by omega)
              have hd2 : decide (x.ref < 0) = true := decide_eq_true (by omega)
              clear e1 e2 e3
              go_big_quiet ((go_at_call 22; exact Calls.quiet_of_same ((HV.out _).mono fun _ _ h => ⟨h.1, h.2.symm⟩)))
              go_wp2_with fail
              go_meet
              exact ⟨nq, by rw [HE.out]; rfl, rfl⟩
            · have hd0 : decide (x.kind < 1) = false := decide_eq_false (by omega)
              have hd1 : decide ((3 : Int) < x.kind) = false := decide_eq_false (by omega)
              have hd2 : decide (x.ref < 0) = false := decide_eq_false (by omega)
              have hd3 : decide ((4294967295 : Int) < x.ref) = true := decide_eq_true (by omega)
              clear e1 e2 e3 e4
              go_big_quiet ((go_at_call 22; exact Calls.quiet_of_same ((HV.out _).mono fun _ _ h => ⟨h.1, h.2.symm⟩)))
              go_wp2_with fail
              go_meet
              exact ⟨nq, by rw [HE.out]; rfl, rfl⟩
        · obtain ⟨pk, hpk⟩ : ∃ pk, pk = k - 1 := ⟨_, rfl⟩
          obtain ⟨y, hy⟩ : ∃ y, l[pk]? = some y := ⟨_, List.getElem?_eq_getElem (by rw [HL.out.1]; omega)⟩
          have hpkI : (k : Int) - 1 = (pk : Int) := by omega
          have hp0 : (0 : Int) ≤ (pk : Int) := by omega
          have hp1 : (pk : Int) < (len : Int) := by omega
          have hkI : (0 : Int) < (k : Int) := by omega
          have hpkw : IntKind.i64.wrap (pk : Int) = (pk : Int) := by rw [IntKind.wrap_i64]; omega
          have y0 := HBK.out pk y (by omega) hy
          have hyn := str_toList y.name
          have hlast : lastN [] (l.take k) = y.name := by
            rw [show k = pk + 1 by omega, take_snoc_ent hy, lastN_snoc]
          rw [hlast] at HMB
          obtain ⟨ls, hls⟩ : ∃ ls, Op.bytesLess y.name x.name = ls := ⟨_, rfl⟩
          have hm : mb = (decide (v = 0) && (ls && (decide (1 ≤ x.kind ∧ x.kind ≤ 3) && decide (0 ≤ x.ref ∧ x.ref ≤ 4294967295)))) := by
            rw [← HMB.out, ← HVv.out, ← hls]
            unfold mayB MayP
            rw [Bool.eq_iff_iff]
            simp only [Bool.and_eq_true, decide_eq_true_iff]
            exact decide_eq_true_iff
          have HM := Lib.hid hm
          clear hpk hy hlast hm hkI hlt
          by_cases hall : v = 0 ∧ ls = true ∧ 1 ≤ x.kind ∧ x.kind ≤ 3 ∧ 0 ≤ x.ref ∧ x.ref ≤ 4294967295
          · obtain ⟨rfl, rfl, e1, e2, e3, e4⟩ := hall
            have HE : Hid (mb = true) := by show mb = true; rw [HM.out]; simp; omega
            have hd0 : decide (x.kind < 1) = false := decide_eq_false (by omega)
            have hd1 : decide ((3 : Int) < x.kind) = false := decide_eq_false (by omega)
            have hd2 : decide (x.ref < 0) = false := decide_eq_false (by omega)
            have hd3 : decide ((4294967295 : Int) < x.ref) = false := decide_eq_false (by omega)
            clear e1 e2 e3 e4
            go_big_quiet ((go_at_call 22; exact Calls.quiet_of_same ((HV.out _).mono fun _ _ h => ⟨h.1, h.2.symm⟩)))
            go_wp2_with fail
            go_meet
            exact ⟨nq, by rw [HE.out]; rfl, rfl⟩
          · have HE : Hid (mb = false) := by
              show mb = false
              rw [HM.out, Bool.eq_false_iff]
              intro h
              simp only [Bool.and_eq_true, decide_eq_true_iff] at h
              exact hall ⟨h.1, h.2.1, h.2.2.1.1, h.2.2.1.2, h.2.2.2.1, h.2.2.2.2⟩
            have hbad : v ≠ 0 ∨ (v = 0 ∧ ls = false) ∨ (v = 0 ∧ ls = true ∧ x.kind < 1) ∨ (v = 0 ∧ ls = true ∧ 1 ≤ x.kind ∧ 3 < x.kind) ∨ (v = 0 ∧ ls = true ∧ 1 ≤ x.kind ∧ x.kind ≤ 3 ∧ x.ref < 0) ∨ (v = 0 ∧ ls = true ∧ 1 ≤ x.kind ∧ x.kind ≤ 3 ∧ 0 ≤ x.ref ∧ 4294967295 < x.ref) := by
              clear HE HM
              cases ls <;> simp at hall ⊢ <;> omega
            clear HM hall
            rcases hbad with hv | ⟨rfl, rfl⟩ | ⟨rfl, rfl, e1⟩ | ⟨rfl, rfl, e1, e2⟩ | ⟨rfl, rfl, e1, e2, e3⟩ | ⟨rfl, rfl, e1, e2, e3, e4⟩
            · have hv2 : ((v : Int) != 0) = true := by rw [bne_iff_ne]; omega
              clear hv
              go_big_quiet ((go_at_call 22; exact Calls.quiet_of_same ((HV.out _).mono fun _ _ h => ⟨h.1, h.2.symm⟩)))
              go_wp2_with fail
              go_meet
              exact ⟨nq, by rw [HE.out]; rfl, rfl⟩
            · go_big_quiet ((go_at_call 22; exact Calls.quiet_of_same ((HV.out _).mono fun _ _ h => ⟨h.1, h.2.symm⟩)))
              go_wp2_with fail
              go_meet
              exact ⟨nq, by rw [HE.out]; rfl, rfl⟩
            · have hd0 : decide (x.kind < 1) = true := decide_eq_true (by omega)
              clear e1
              go_big_quiet ((go_at_call 22; exact Calls.quiet_of_same ((HV.out _).mono fun _ _ h => ⟨h.1, h.2.symm⟩)))
              go_wp2_with fail
              go_meet
              exact ⟨nq, by rw [HE.out]; rfl, rfl⟩
            · have hd0 : decide (x.kind < 1) = false := decide_eq_false (by omega)
              have hd1 : decide ((3 : Int) < x.kind) = true := decide_eq_true (by omega)
              clear e1 e2
              go_big_quiet ((go_at_call 22; exact Calls.quiet_of_same ((HV.out _).mono fun _ _ h => ⟨h.1, h.2.symm⟩)))
              go_wp2_with fail
              go_meet
              exact ⟨nq, by rw [HE.out]; rfl, rfl⟩
            · have hd0 : decide (x.kind < 1) = false := decide_eq_false (by omega)
              have hd1 : decide ((3 : Int) < x.kind) = false := decide_eq_false (by omega)
              have hd2 : decide (x.ref < 0) = true := decide_eq_true (by omega)
              clear e1 e2 e3
              go_big_quiet ((go_at_call 22; exact Calls.quiet_of_same ((HV.out _).mono fun _ _ h => ⟨h.1, h.2.symm⟩)))
              go_wp2_with fail
              go_meet
              exact ⟨nq, by rw [HE.out]; rfl, rfl⟩
            · have hd0 : decide (x.kind < 1) = false := decide_eq_false (by omega)
              have hd1 : decide ((3 : Int) < x.kind) = false := decide_eq_false (by omega)
              have hd2 : decide (x.ref < 0) = false := decide_eq_false (by omega)
              have hd3 : decide ((4294967295 : Int) < x.ref) = true := decide_eq_true (by omega)
              clear e1 e2 e3 e4
              go_big_quiet ((go_at_call 22; exact Calls.quiet_of_same ((HV.out _).mono fun _ _ h => ⟨h.1, h.2.symm⟩)))
              go_wp2_with fail
              go_meet
              exact ⟨nq, by rw [HE.out]; rfl, rfl⟩
      case rest =>
        obtain ⟨nq, rfl, rfl⟩ := hcut
        have hsn := okL_snoc [] (l.take k) x
        rw [← HT.out, HMB.out, HR.out.ok] at hsn
        have HX1 : Hid (RPutX w w.heap.size w.heap.size gx x (encL (l.take k)) (wa.drewN nq)) := HX0.out.drewN nq
        clear HX0 HBK HV HVv x0 x1 x2 hxn
        generalize wa.drewN nq = wb at *
        cases mb
        · have HBad := Lib.hid (okL_take (k + 1) hsn)
          have HB1 := Lib.hid HX1.out.below
          clear hsn
          go_wp2_with fail
          go_ret2
          have he : putE l = 1 := by unfold putE; rw [HBad.out]; rfl
          have hbs : putBs l = [] := by unfold putBs; rw [HBad.out]; rfl
          rw [he, hbs]
          exact ⟨none, 0, rfl, Bytes.nil _ _, Nat.le_refl _, by omega, HB1.out⟩
        · have HOK := Lib.hid hsn
          obtain ⟨n1, ⟨n2, n3⟩, n4, n5⟩ := may_name HMB.out
          have HN := Lib.hid (encX_length n1)
          have HSH := Lib.hid HR.out.short
          have HE := Lib.hid (encL_snoc (l.take k) x)
          rw [← HT.out] at HE
          clear hsn
          have k0 := HX1.out.ent.c0
          generalize encL (l.take k) = bs at *
          have hbl9 : bs.length ≤ 300000 := by have := HSH.out; omega
          have HBL9 := Lib.hid hbl9
          clear hbl9
          go_wp2_with fail
          refine (rtext_stepD HX1.out n1 (by have := HBL9.out; omega)).mono ?_
          rintro r w2 ⟨rfl, hx2⟩
          have HX2 := Lib.hid hx2
          have k1 := HX2.out.ent.c1
          clear hx2 k0 HX1
          go_wp2_with fail
          refine (rnum_stepD HX2.out x.kind 1 (by omega) (by omega) (by omega) (by omega) (by have := HBL9.out; simp only [List.length_append, Cur.leBytes_length]; omega)).mono ?_
          rintro r w3 ⟨rfl, hx3⟩
          have HX3 := Lib.hid hx3
          have k2 := HX3.out.ent.c2
          clear hx3 k1 HX2
          go_wp2_with fail
          refine (rnum_stepD HX3.out x.ref 4 (by omega) (by omega) (by omega) (by omega) (by have := HBL9.out; simp only [List.length_append, Cur.leBytes_length]; omega)).mono ?_
          rintro r w4 ⟨rfl, hx4⟩
          have hfin : RPutRel w w.heap.size w.heap.size len l (k + 1) w4 := by
            refine ⟨by omega, HOK.out, ?_, ?_⟩
            · rw [HE.out]
              have := hx4.forget
              simp only [List.append_assoc] at this
              unfold encX
              simp only [List.append_assoc]
              exact this
            · rw [HE.out, List.length_append]
              have := HN.out
              have := HSH.out
              omega
          have HFin := Lib.hid hfin
          clear hx4 k2 HX3 hfin
          go_wp2_with fail
          exact ⟨⟨k + 1, by go_num, HFin.out⟩, by simp [intOf]; omega⟩
    · obtain rfl : k = len := by have := HR.out.kn; omega
      have hall : l.take k = l := List.take_of_length_le (by rw [HL.out.1]; omega)
      have hok := HR.out.ok
      have hput := HR.out.put
      have hsh := HR.out.short
      rw [hall] at hok hput hsh
      have HE : Hid (putE l = 0) := by show putE l = 0; unfold putE; rw [hok]; rfl
      have HBS : Hid (putBs l = encL l) := by show putBs l = encL l; unfold putBs; rw [hok]; rfl
      obtain ⟨S, hW⟩ := hput.wr
      have HB := Lib.hid hput.below
      have HD := Lib.hid (show Calls Try.prog 25 #[.pointer (some ⟨w.heap.size, 0, none⟩)] wr (Fresh wr (encL l).length (encL l)) from rdone_any w.heap.size w.heap.size S _ wr hW (by simp only; omega))
      clear hall hok hput hsh hW
      go_wp2_with fail
      refine HD.out.mono ?_
      rintro r w1 ⟨A1, c1, rfl, hby, hc1, hc2, hf, hb1⟩
      have HY := Lib.hid hby
      have HC1 := Lib.hid hc1
      have HC2 := Lib.hid hc2
      have HBB := Lib.hid (below_then HB.out hb1)
      clear hby hc1 hc2 hf hb1
      go_wp2_with fail
      go_ret2
      rw [HE.out, HBS.out]
      exact ⟨A1, c1, rfl, HY.out, HC1.out, HC2.out, HBB.out⟩
end Go.Proofs.Ythkjgkdglphfcaa
