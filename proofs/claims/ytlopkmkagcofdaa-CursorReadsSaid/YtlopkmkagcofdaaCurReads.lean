/- Walk of CursorReads: any bytes are read by any calls as the document says. -/
import Derived.Test.YtlopkmkagcofdaaRows
import Derived.Test.YtlopkmkagcofdaaCurStops
import Derived.Test.YtlopkmkagcofdaaCurRefNum
import Derived.Deep.RegionHeld3
import Derived.Deep.QuietTactic
import Derived.Deep.RegionWith
namespace Go.Proofs.Ytlopkmkagcofdaa
set_option linter.unusedVariables false
set_option linter.unusedSimpArgs false
open Go.RowKit

/-- A region that draws its order, behind its first operations: what is left only reads: it is walked in the text's order. -/
theorem wpAny_tail {P : Program} {ops : Array Oper} {Q : Exit → Act → World → Prop} {fuel : Nat} {listed : Array Bool} {a : Act} {w : World} (k : Nat) {l : List Oper} (hl : ops.toList.drop k = l) (hf : l.length = fuel) (hs : Region.noSelect ops = true)
    (hB : Region.lexFrom .any ops fuel k listed = true) (h : wpQuiet P ops (fun w' => ∃ n, w' = w.drewN n) (fun a' => ∀ w', (∃ n, w' = w.drewN n) → Q .normal a' w') l a) : wpAny P .any ops Q fuel listed a w := by
  subst hf
  exact wpAny_of_quiet (C := fun w' => ∃ n, w' = w.drewN n) (fun _ w' hw' h => h w' hw') _ _ _ _ ⟨0, rfl⟩ (wpAnyQ_lex hs l k listed a (fun j => by rw [← hl]; simp) hB h)
/-- The program's reader and the document's stand alike. -/
structure Both (w : World) (g y : Nat) (s : Cur.St) : Prop where
  rd : RdAt w g s
  rf : RfAt w y s
  ne : g ≠ y
  len : s.bs.length ≤ 300
theorem Both.stepD {w w' : World} {g y : Nat} {s s' : Cur.St} (h : Both w g y s) (ho : Only [g] w w') : RfAt w' y s :=
  h.rf.only ho (by simp; exact fun e => h.ne e.symm) (fun k hk _ => by simp at hk; subst hk; exact h.rd.noByte)
theorem Both.stepF {w w' : World} {g y : Nat} {s s' : Cur.St} (h : RdAt w g s) (k : RfAt w y s') (hne : g ≠ y) (ho : Only [y] w w') : RdAt w' g s :=
  h.only ho (by simpa using hne) (fun i hi _ => by simp at hi; subst hi; exact k.noByte)
theorem RdAt.drew {w : World} {g : Nat} {s : Cur.St} (h : RdAt w g s) : RdAt w.drew g s := h
theorem RfAt.drew {w : World} {g : Nat} {s : Cur.St} (h : RfAt w g s) : RfAt w.drew g s := h
theorem Both.drew {w : World} {g y : Nat} {s : Cur.St} (h : Both w g y s) : Both w.drew g y s := ⟨h.rd, h.rf, h.ne, h.len⟩
theorem below_drew {B : Nat} {a w : World} (h : Below B a w) : Below B a w.drew := ⟨h.os, h.tape, h.output, h.size, h.block⟩
theorem rBytes_bs (s : Cur.St) (n : Int) : (Cur.rBytes s n).2.bs.length ≤ s.bs.length := by
  unfold Cur.rBytes
  split
  · simp only [List.length_drop]; omega
  · exact Nat.le_refl _
theorem rText_bs (s : Cur.St) : (Cur.rText s).2.bs.length ≤ s.bs.length := Nat.le_trans (rBytes_bs _ _) (rNum_bs s 1)
/-- What holds at each round's head. -/
structure ReadsRel (w : World) (len g y : Nat) (A : Option Addr) (k : Nat) (ds : List UInt8) (m : Nat) (wr : World) : Prop where
  mn : m ≤ len
  m40 : m ≤ 40
  below : Below w.heap.size w wr
  both : ∃ s, Both wr g y s
  own : Bytes wr A k ds

theorem reads_start {w w2 w3 w4 : World} {A2 A4 : Option Addr} {k len c4 g : Nat} {ds : List UInt8} (hb2 : Below w.heap.size w w2) (hby : Bytes w2 A2 k ds) (hk : k ≤ 300) (hr3 : RdAt w3 g ⟨0, ds⟩) (hg3 : w2.heap.size ≤ g) (hb3 : Below w2.heap.size w2 w3)
    (hb34 : Below w3.heap.size w3 w4) (hby4 : Bytes w4 A4 k ds) (hmc4 : k ≤ c4) (hc4 : c4 ≤ maxLen) :
    ReadsRel w len g w4.heap.size A2 k ds 0 (w4.alloc (.cells #[.slice A4 k c4, .int .i64 0] 48)) ∧ (∀ b off, A2 = some ⟨b, off, none⟩ → 0 < k → b ≠ g ∧ b ≠ w4.heap.size) ∧ w.heap.size ≤ g ∧ w.heap.size ≤ w4.heap.size := by
  have hs2 := hb2.size
  have hb4 : Below w.heap.size w w4 := below_then (below_then hb2 hb3) hb34
  have hs4 := hb4.size
  have h34 := hb34.size
  have hg := hr3.lt
  have hdl := hby.1
  have hal : Below w4.heap.size w4 (w4.alloc (.cells #[.slice A4 k c4, .int .i64 0] 48)) := below_all.alloc (Nat.le_refl _) _
  have hf4 : RfAt (w4.alloc (.cells #[.slice A4 k c4, .int .i64 0] 48)) w4.heap.size ⟨0, ds⟩ := ⟨A4, k, c4, Two.new w4 _ _ _, hby4.below hal, hmc4, by simpa [maxLen] using hc4⟩
  exact ⟨⟨by omega, by omega, below_then hb4 hal, ⟨⟨0, ds⟩, (hr3.below hb34).below hal, hf4, by omega, by simp only; omega⟩, ((hby.below hb3).below hb34).below hal⟩, fun b off hA h0 => by have := hby.lt hA h0; have := hb3.size; omega, by omega, hs4⟩
theorem only_undrew {S : List Nat} {w w' : World} (h : Only S w.drew w') : Only S w w' := ⟨h.os, h.tape, h.output, h.size, h.block⟩
theorem reads_step {w wr w5 w6 : World} {len g y k m : Nat} {A : Option Addr} {ds : List UInt8} {s s' : Cur.St} (hR : ReadsRel w len g y A k ds m wr) (hS : Both wr g y s) (ho5 : Only [g] wr w5) (ho6 : Only [y] w5 w6) (hr5 : RdAt w5 g s') (hf5 : RfAt w5 y s) (hf6 : RfAt w6 y s') (hl : s'.bs.length ≤ s.bs.length)
    (hA : ∀ b off, A = some ⟨b, off, none⟩ → 0 < k → b ≠ g ∧ b ≠ y) (hgw : w.heap.size ≤ g) (hyw : w.heap.size ≤ y) (hm : m < len) (hm40 : m < 40) : ReadsRel w len g y A k ds (m + 1) w6 ∧ Both w6 g y s' := by
  have h5 := hR.below.trans (ho5.below (B := w.heap.size) (fun i hi => by simp at hi; omega) hR.below.size)
  have hB : Both w6 g y s' := ⟨Both.stepF hr5 hf5 hS.ne ho6, hf6, hS.ne, Nat.le_trans hl hS.len⟩
  refine ⟨⟨by omega, by omega, h5.trans (ho6.below (fun i hi => by simp at hi; omega) h5.size), ⟨s', hB⟩, ?_⟩, hB⟩
  exact (hR.own.only ho5 fun b off e hk => by have := hA b off e hk; simp; omega).only ho6 fun b off e hk => by have := hA b off e hk; simp; omega
theorem reads_end {w wr w5 w6 : World} {len g y k m : Nat} {A : Option Addr} {ds : List UInt8} {s s' : Cur.St} (hR : ReadsRel w len g y A k ds m wr) (hS : Both wr g y s) (ho5 : Only [g] wr w5) (ho6 : Only [y] w5 w6) (hr5 : RdAt w5 g s') (hf5 : RfAt w5 y s) (hf6 : RfAt w6 y s')
    (hA : ∀ b off, A = some ⟨b, off, none⟩ → 0 < k → b ≠ g ∧ b ≠ y) (hgw : w.heap.size ≤ g) (hyw : w.heap.size ≤ y) : Below w.heap.size w w6 ∧ RdAt w6 g s' ∧ w6.cell? ⟨y, 1, none⟩ = some (.int .i64 (s'.e : Nat)) ∧ Bytes w6 A k ds := by
  have h5 := hR.below.trans (ho5.below (B := w.heap.size) (fun i hi => by simp at hi; omega) hR.below.size)
  refine ⟨h5.trans (ho6.below (fun i hi => by simp at hi; omega) h5.size), Both.stepF hr5 hf5 hS.ne ho6, ?_, ?_⟩
  · obtain ⟨_, _, _, ht, _⟩ := hf6; exact ht.c1
  · exact (hR.own.only ho5 fun b off e hk => by have := hA b off e hk; simp; omega).only ho6 fun b off e hk => by have := hA b off e hk; simp; omega
theorem ReadsRel.drewN {w wr : World} {len g y k m : Nat} {A : Option Addr} {ds : List UInt8} (h : ReadsRel w len g y A k ds m wr) (n : Nat) : ReadsRel w len g y A k ds m (wr.drewN n) :=
  ⟨h.mn, h.m40, belowN h.below n, h.both.elim fun s b => ⟨s, b.rd, b.rf, b.ne, b.len⟩, h.own⟩
theorem RdAt.drewN {w : World} {g : Nat} {s : Cur.St} (h : RdAt w g s) (n : Nat) : RdAt (w.drewN n) g s := h
theorem RfAt.drewN {w : World} {g : Nat} {s : Cur.St} (h : RfAt w g s) (n : Nat) : RfAt (w.drewN n) g s := h
set_option maxRecDepth 100000 in
set_option maxHeartbeats 4000000 in
theorem cursorReads_walk (A : Option Addr) (n c : Nat) (bs : List UInt8) (L : Option Addr) (len cap : Nat) (l : List OpV) (w : World) (h : Bytes w A n bs ∧ n ≤ c ∧ c ≤ maxLen) (hl : OpsIn w L len l ∧ len ≤ cap ∧ cap ≤ maxLen) :
    Calls Try.prog 5 #[.slice A n c, .slice L len cap] w fun e w' => e = .returned (.bool true) ∧ Below w.heap.size w w' := by
  obtain ⟨hb, hnc, hcm⟩ := h
  have hcm : c ≤ 9223372036854775807 := by simpa [maxLen] using hcm
  obtain ⟨hl, hlc, hlm⟩ := hl
  have hlm : cap ≤ 9223372036854775807 := by simpa [maxLen] using hlm
  obtain ⟨i0, hi, hz0, hz1, hz2⟩ := info_parts u8_info
  obtain ⟨m, hm⟩ : ∃ m, m = min n 300 := ⟨_, rfl⟩
  have hbm := hb.take (show m ≤ n by omega)
  generalize bs.take m = ds at *
  have hdl := hbm.1
  have HB := Lib.hid hbm
  have HL := Lib.hid hl
  have HI := Lib.hid hi
  have hptr : ∀ (W : World) (g : Nat), (binOp .eql 45 (.pointer (some ⟨g, 0, none⟩)) (.pointer none)).run Try.prog W = .ok (.bool false) W := fun W g => by kernel_rfl
  clear hb hbm hl hi
  rcases (show (m = n ∧ n ≤ 300) ∨ (m = 300 ∧ 300 < n) by omega) with ⟨rfl, hlt⟩ | ⟨rfl, hlt⟩
  all_goals
    clear hm
    go_enter Try.func5, Try.ntmps5
    go_wp2_with fail
    refine (shown_any w).mono ?_
    rintro r w1 ⟨rfl, hb1⟩
    have hs1 := hb1.size
    have HB1 := (HB.out.below hb1).alloc (.cells #[] 5)
    have hown0 := owns_empty w1 5 (Nat.le_refl _)
    go_wp2_with (at_builtin; refine wpList_append_bytes _ rfl (.tmp 17) (.tmp 18) _ rfl w1.heap.size 5 i0 _ 1 Try.underlying28 HI.out hz0 hz1 hz2 rfl (.slice (some ⟨w1.heap.size, 0, none⟩) 0 0) 0 [] rfl hown0 A _ c ds rfl HB1 (by simp only [maxLen]; omega) (by omega) (by simp) ?_; intro v2 w2 hown hgrow _)
    have hb2 := below_append (hb1.alloc hs1 _) hgrow hown0 hs1 (by simp; omega)
    simp only [Nat.zero_add, List.nil_append] at hown
    obtain ⟨A2, c2, rfl, hby, hmc2, hc2, _⟩ := own_form hown
    have hs2 := hb2.size
    clear hown hgrow hown0 HB1
    refine (read_any A2 _ c2 ds w2 hby (by omega)).mono ?_
    rintro r w3 ⟨g, rfl, hr3, hg3, hb3⟩
    have hbel3 : Below w.heap.size w w3 := below_then hb2 hb3
    have hs3 := hbel3.size
    have HB3 := (HB.out.below hbel3).alloc (.cells #[] 5)
    have hown0 := owns_empty w3 5 (Nat.le_refl _)
    go_wp2_with (at_builtin; refine wpList_append_bytes _ rfl (.tmp 22) (.tmp 23) _ rfl w3.heap.size 5 i0 _ 1 Try.underlying28 HI.out hz0 hz1 hz2 rfl (.slice (some ⟨w3.heap.size, 0, none⟩) 0 0) 0 [] rfl hown0 A _ c ds rfl HB3 (by simp only [maxLen]; omega) (by omega) (by simp) ?_; intro v4 w4 hown hgrow _; simp only [Nat.zero_add, List.nil_append] at hown; obtain ⟨A4, c4, rfl, hby4, hmc4, hc4, _⟩ := own_form hown)
    have hb34 : Below w3.heap.size w3 w4 := below_append (below_all.alloc (Nat.le_refl _) _) hgrow hown0 (Nat.le_refl _) (by simp)
    have hs34 := hb34.size
    obtain ⟨hrel0, hA, hgw, hyw⟩ := reads_start (len := len) hb2 hby (by omega) hr3 hg3 hb3 hb34 hby4 hmc4 hc4
    clear hb34 hby4 hmc4 hc4 hown hgrow hr3 hown0 HB3 hb3 hby hmc2 hc2 hb2 hg3 hbel3 hb1
    generalize w4.heap.size = y at *
    go_loopw [9] (fun i wr => ∃ m : Nat, i = .int .i64 m ∧ ReadsRel w len g y A2 _ ds m wr) (fun i _ => 40 - (intOf i).toNat)
    case atStart => exact ⟨0, rfl, hrel0⟩
    case round =>
      obtain ⟨i, rfl, hR⟩ := hrel
      have hbr := hR.below
      have hsr := hbr.size
      obtain ⟨s, hS⟩ := hR.both
      clear hrel0
      by_cases hcase : i < len ∧ i < 40
      · obtain ⟨hlt1, hlt2⟩ := hcase
        obtain ⟨b, off, o, rfl, hoi, hof, hk0, hx0, hn0, hs0⟩ := HL.out.at_ hlt1
        have hwk := int_of hof.1
        have hwn := int_of hof.2.2.1
        have hbl := block_lt_of_cell hn0
        have ck := (hbr.cell (p := ⟨b, off + i * 4, none⟩) hbl).trans hk0
        have cn := (hbr.cell (p := ⟨b, off + i * 4 + 2, none⟩) hbl).trans hn0
        have hq := kindF_bd o.k 3 (by omega)
        have HK := Lib.hid (kind_any o.k 3)
        have HN := Lib.hid hn0
        have HS := Lib.hid hS
        have hi0 : (0 : Int) ≤ (i : Int) := by omega
        have hi1 : (i : Int) < (len : Int) := by omega
        clear hk0 hx0 hs0 hn0 hoi hof hS
        generalize o.n = on at *
        generalize o.k = ok at *
        generalize kindF ok 3 = q at *
        rcases (show q = 0 ∨ q = 1 ∨ q = 2 by omega) with rfl | rfl | rfl
        · go_wp2_with fail
          refine (HK.out wr hwk (by omega) (by omega)).mono ?_
          rintro r w' ⟨rfl, rfl⟩
          go_wp2_with fail
          go_region_held3 (fun w' => w'.cell? ⟨b, off + i * 4 + 2, none⟩ = some (.int .i64 on)) (go_keep)
            (first
              | (go_at_call 22; refine (num_any g s on _ HS.out.rd.drew (by have := HS.out.len; omega) hwn).mono ?_; rintro r w5 ⟨rfl, hr5, ho5⟩; have hf5 := HS.out.drew.stepD (s' := s) ho5; have b5 : Below w.heap.size w w5 := (below_drew hbr).trans (ho5.below (B := w.heap.size) (fun k hk => by simp at hk; omega) (by simpa using hsr)); have c5 : w5.cell? ⟨b, off + i * 4 + 2, none⟩ = some (.int .i64 on) := (b5.cell (p := ⟨b, off + i * 4 + 2, none⟩) hbl).trans HN.out)
              | (go_at_call 23; refine (rnum_any y s on _ hf5 (by have := HS.out.len; omega) hwn).mono ?_; rintro r w6 ⟨rfl, hf6, ho6⟩; have b6 : Below w.heap.size w w6 := b5.trans (ho6.below (B := w.heap.size) (fun k hk => by simp at hk; omega) b5.size); have c6 : w6.cell? ⟨b, off + i * 4 + 2, none⟩ = some (.int .i64 on) := (b6.cell (p := ⟨b, off + i * 4 + 2, none⟩) hbl).trans HN.out))
          obtain ⟨hR6, hB6⟩ := reads_step hR HS.out (only_undrew ho5) ho6 hr5 hf5 hf6 (rNum_bs s on) hA hgw hyw hlt1 hlt2
          clear hr5 ho5 hf5 hf6 ho6 c5 c6 b5 b6
          go_wp2_with fail
          generalize (Cur.rNum s on).2 = s6 at *
          have g1 := Lib.hid fun n => left_any g s6 (w6.drewN n) (hB6.rd.drewN n)
          have g2 := Lib.hid fun n => rleft_any y s6 (w6.drewN n) (hB6.rf.drewN n)
          have g3 := Lib.hid fun n => rderr_any g s6 (w6.drewN n) (hB6.rd.drewN n)
          have hy1 : w6.cell? ⟨y, 1, none⟩ = some (.int .i64 (s6.e : Nat)) := by obtain ⟨_, _, _, ht, _⟩ := hB6.rf; exact ht.c1
          clear hB6
          generalize Cur.rLeft s6 = lf at *
          generalize s6.e = e6 at *
          go_quiet ((first | (go_at_call 28; exact Calls.quiet_of_same ((g1.out _).mono fun _ _ h => ⟨h.1, h.2.symm⟩)) | (go_at_call 29; exact Calls.quiet_of_same ((g2.out _).mono fun _ _ h => ⟨h.1, h.2.symm⟩)) | (go_at_call 17; exact Calls.quiet_of_same ((g3.out _).mono fun _ _ h => ⟨h.1, h.2.symm⟩))))
          go_wp2_with fail
          exact ⟨⟨i + 1, by go_num, hR6.drewN _⟩, by simp [intOf]; omega⟩
        · go_wp2_with fail
          refine (HK.out wr hwk (by omega) (by omega)).mono ?_
          rintro r w' ⟨rfl, rfl⟩
          go_wp2_with fail
          refine wp_region_held_drew (S := fun w' => w'.cell? ⟨b, off + i * 4 + 2, none⟩ = some (.int .i64 on)) (by kernel_rfl) (by exact cn) (fun hHeld => ?_)
          refine wpAnyH_take (i := 0) (v := (.pointer (some ⟨g, 0, none⟩))) rfl (by kernel_rfl) (by kernel_rfl) (by kernel_rfl) (fun _ _ _ h => h) (Or.inl ⟨by rfl, fun w hSw => by (try dsimp only at hSw); go_simp⟩) hHeld ?_
          try simp only [Act.put, List.setIfInBounds_toArray, List.set_cons_zero, List.set_cons_succ]
          refine wpAnyH_take (i := 1) (v := (.slice (some ⟨b, off, none⟩) len cap)) rfl (by kernel_rfl) (by kernel_rfl) (by kernel_rfl) (fun _ _ _ h => h) (Or.inl ⟨by rfl, fun w hSw => by (try dsimp only at hSw); go_simp⟩) hHeld ?_
          try simp only [Act.put, List.setIfInBounds_toArray, List.set_cons_zero, List.set_cons_succ]
          refine wpAnyH_take (i := 2) (v := (.int .i64 (i : Nat))) rfl (by kernel_rfl) (by kernel_rfl) (by kernel_rfl) (fun _ _ _ h => h) (Or.inl ⟨by rfl, fun w hSw => by (try dsimp only at hSw); go_simp⟩) hHeld ?_
          try simp only [Act.put, List.setIfInBounds_toArray, List.set_cons_zero, List.set_cons_succ]
          refine wpAnyH_take (i := 3) (v := (.pointer (some ⟨b, off + i * 4, none⟩))) rfl (by kernel_rfl) (by kernel_rfl) (by kernel_rfl) (fun _ _ _ h => h) (Or.inl ⟨by rfl, fun w hSw => by (try dsimp only at hSw); go_simp⟩) hHeld ?_
          try simp only [Act.put, List.setIfInBounds_toArray, List.set_cons_zero, List.set_cons_succ]
          refine wpAnyH_take (i := 4) (v := (.pointer (some ⟨b, off + i * 4 + 2, none⟩))) rfl (by kernel_rfl) (by kernel_rfl) (by kernel_rfl) (fun _ _ _ h => h) (Or.inl ⟨by rfl, fun w hSw => by (try dsimp only at hSw); go_simp⟩) hHeld ?_
          try simp only [Act.put, List.setIfInBounds_toArray, List.set_cons_zero, List.set_cons_succ]
          refine wpAnyH_take (i := 5) (v := (.int .i64 on)) rfl (by kernel_rfl) (by kernel_rfl) (by kernel_rfl) (fun _ _ _ h => h) (Or.inl ⟨by rfl, fun w hSw => by (try dsimp only at hSw); go_simp⟩) hHeld ?_
          try simp only [Act.put, List.setIfInBounds_toArray, List.set_cons_zero, List.set_cons_succ]
          refine wpAnyH_take (i := 8) (v := (.pointer (some ⟨y, 0, none⟩))) rfl (by kernel_rfl) (by kernel_rfl) (by kernel_rfl) (fun _ _ _ h => h) (Or.inl ⟨by rfl, fun w hSw => by (try dsimp only at hSw); go_simp⟩) hHeld ?_
          try simp only [Act.put, List.setIfInBounds_toArray, List.set_cons_zero, List.set_cons_succ]
          refine wpAnyH_take (i := 9) (v := (.slice (some ⟨b, off, none⟩) len cap)) rfl (by kernel_rfl) (by kernel_rfl) (by kernel_rfl) (fun _ _ _ h => h) (Or.inl ⟨by rfl, fun w hSw => by (try dsimp only at hSw); go_simp⟩) hHeld ?_
          try simp only [Act.put, List.setIfInBounds_toArray, List.set_cons_zero, List.set_cons_succ]
          refine wpAnyH_take (i := 10) (v := (.int .i64 (i : Nat))) rfl (by kernel_rfl) (by kernel_rfl) (by kernel_rfl) (fun _ _ _ h => h) (Or.inl ⟨by rfl, fun w hSw => by (try dsimp only at hSw); go_simp⟩) hHeld ?_
          try simp only [Act.put, List.setIfInBounds_toArray, List.set_cons_zero, List.set_cons_succ]
          refine wpAnyH_take (i := 11) (v := (.pointer (some ⟨b, off + i * 4, none⟩))) rfl (by kernel_rfl) (by kernel_rfl) (by kernel_rfl) (fun _ _ _ h => h) (Or.inl ⟨by rfl, fun w hSw => by (try dsimp only at hSw); go_simp⟩) hHeld ?_
          try simp only [Act.put, List.setIfInBounds_toArray, List.set_cons_zero, List.set_cons_succ]
          refine wpAnyH_take (i := 12) (v := (.pointer (some ⟨b, off + i * 4 + 2, none⟩))) rfl (by kernel_rfl) (by kernel_rfl) (by kernel_rfl) (fun _ _ _ h => h) (Or.inl ⟨by rfl, fun w hSw => by (try dsimp only at hSw); go_simp⟩) hHeld ?_
          try simp only [Act.put, List.setIfInBounds_toArray, List.set_cons_zero, List.set_cons_succ]
          refine wpAnyH_take (i := 13) (v := (.int .i64 on)) rfl (by kernel_rfl) (by kernel_rfl) (by kernel_rfl) (fun _ _ _ h => h) (Or.inl ⟨by rfl, fun w hSw => by (try dsimp only at hSw); go_simp⟩) hHeld ?_
          try simp only [Act.put, List.setIfInBounds_toArray, List.set_cons_zero, List.set_cons_succ]
          refine wpAnyH_ready (rs := [6]) (by kernel_rfl) (by simp) ?_
          refine AllReadyH.cons rfl (fun K hK => ?_) AllReadyH.nil
          go_simp
          refine (bytes_any g s on _ HS.out.rd.drew (by have := HS.out.len; omega) hwn).mono ?_
          rintro r w5 ⟨A5, k5, c5', rfl, hby5, hkc5, hc5, hn5, hr5, ho5⟩
          have hf5 := HS.out.drew.stepD (s' := s) ho5
          have b5 : Below w.heap.size w w5 := (below_drew hbr).trans (ho5.below (B := w.heap.size) (fun k hk => by simp at hk; omega) (by simpa using hsr))
          have c5 : w5.cell? ⟨b, off + i * 4 + 2, none⟩ = some (.int .i64 on) := (b5.cell (p := ⟨b, off + i * 4 + 2, none⟩) hbl).trans HN.out
          have v5 := run_string (P := Try.prog) hby5 28 5 9 Try.underlying28 Try.underlying5 Try.underlying9 c5'
          go_wp2_with fail
          refine hK.out _ _ c5 (fun hHeld => ?_)
          clear hK K
          try simp only [Act.put, List.setIfInBounds_toArray, List.set_cons_zero, List.set_cons_succ]
          refine wpAnyH_ready (rs := [7, 14]) (by kernel_rfl) (by simp) ?_
          refine AllReadyH.cons rfl (fun K hK => ?_) (AllReadyH.cons rfl (fun K hK => ?_) AllReadyH.nil)
          · go_simp
            refine hK.out _ _ c5 (fun hHeld => ?_)
            clear hK K
            try simp only [Act.put, List.setIfInBounds_toArray, List.set_cons_zero, List.set_cons_succ]
            refine wpAnyH_ready (rs := [14]) (by kernel_rfl) (by simp) ?_
            refine AllReadyH.cons rfl (fun K hK => ?_) AllReadyH.nil
            go_simp
            refine (rbytes_any y s on _ hf5 (by have := HS.out.len; omega) hwn).mono ?_
            rintro r w6 ⟨A6, k6, c6', rfl, hby6, hkc6, hc6, hn6, hf6, ho6⟩
            have b6 : Below w.heap.size w w6 := b5.trans (ho6.below (B := w.heap.size) (fun k hk => by simp at hk; omega) b5.size)
            have c6 : w6.cell? ⟨b, off + i * 4 + 2, none⟩ = some (.int .i64 on) := (b6.cell (p := ⟨b, off + i * 4 + 2, none⟩) hbl).trans HN.out
            have v6 := run_string (P := Try.prog) hby6 28 5 9 Try.underlying28 Try.underlying5 Try.underlying9 c6'
            have v7 := run_string (P := Try.prog) (hby5.only ho6 (fun b' off' e hk => by have h1 := hn5 _ e; have h2 := HS.out.rf.lt; simp at h1 ⊢; omega)) 28 5 9 Try.underlying28 Try.underlying5 Try.underlying9 c5'
            go_wp2_with fail
            refine hK.out _ _ c6 (fun hHeld => ?_)
            clear hK K
            try simp only [Act.put, List.setIfInBounds_toArray, List.set_cons_zero, List.set_cons_succ]
            refine wpAnyH_ready (rs := [15]) (by kernel_rfl) (by simp) ?_
            refine AllReadyH.cons rfl (fun K hK => ?_) AllReadyH.nil
            go_simp
            refine hK.out _ _ c6 (fun hHeld => ?_)
            clear hK K
            try simp only [Act.put, List.setIfInBounds_toArray, List.set_cons_zero, List.set_cons_succ]
            refine wpAnyH_ready (rs := [16]) (by kernel_rfl) (by simp) ?_
            refine AllReadyH.cons rfl (fun K hK => ?_) AllReadyH.nil
            go_simp
            refine hK.out _ _ c6 (fun hHeld => ?_)
            clear hK K
            try simp only [Act.put, List.setIfInBounds_toArray, List.set_cons_zero, List.set_cons_succ]
            refine wpAnyH_ready (rs := [17]) (by kernel_rfl) (by simp) ?_
            refine AllReadyH.cons rfl (fun K hK => ?_) AllReadyH.nil
            go_simp
            refine hK.out _ _ c6 (fun hHeld => ?_)
            clear hK K
            try simp only [Act.put, List.setIfInBounds_toArray, List.set_cons_zero, List.set_cons_succ]
            refine wpAnyH_done (by kernel_rfl) ?_ _
            obtain ⟨hR6, hB6⟩ := reads_step hR HS.out (only_undrew ho5) ho6 hr5 hf5 hf6 (rBytes_bs s on) hA hgw hyw hlt1 hlt2
            clear hr5 ho5 hf5 hf6 ho6 c5 c6 b5 b6 v5 v6 v7 hby5 hby6 hn5 hn6 hHeld
            go_wp2_with fail
            generalize (Cur.rBytes s on).2 = s6 at *
            have g1 := Lib.hid fun n => left_any g s6 (w6.drewN n) (hB6.rd.drewN n)
            have g2 := Lib.hid fun n => rleft_any y s6 (w6.drewN n) (hB6.rf.drewN n)
            have g3 := Lib.hid fun n => rderr_any g s6 (w6.drewN n) (hB6.rd.drewN n)
            have hy1 : w6.cell? ⟨y, 1, none⟩ = some (.int .i64 (s6.e : Nat)) := by obtain ⟨_, _, _, ht, _⟩ := hB6.rf; exact ht.c1
            clear hB6
            generalize Cur.rLeft s6 = lf at *
            generalize s6.e = e6 at *
            go_quiet ((first | (go_at_call 28; exact Calls.quiet_of_same ((g1.out _).mono fun _ _ h => ⟨h.1, h.2.symm⟩)) | (go_at_call 29; exact Calls.quiet_of_same ((g2.out _).mono fun _ _ h => ⟨h.1, h.2.symm⟩)) | (go_at_call 17; exact Calls.quiet_of_same ((g3.out _).mono fun _ _ h => ⟨h.1, h.2.symm⟩))))
            go_wp2_with fail
            exact ⟨⟨i + 1, by go_num, hR6.drewN _⟩, by simp [intOf]; omega⟩
          · go_simp
            refine (rbytes_any y s on _ hf5 (by have := HS.out.len; omega) hwn).mono ?_
            rintro r w6 ⟨A6, k6, c6', rfl, hby6, hkc6, hc6, hn6, hf6, ho6⟩
            have b6 : Below w.heap.size w w6 := b5.trans (ho6.below (B := w.heap.size) (fun k hk => by simp at hk; omega) b5.size)
            have c6 : w6.cell? ⟨b, off + i * 4 + 2, none⟩ = some (.int .i64 on) := (b6.cell (p := ⟨b, off + i * 4 + 2, none⟩) hbl).trans HN.out
            have v6 := run_string (P := Try.prog) hby6 28 5 9 Try.underlying28 Try.underlying5 Try.underlying9 c6'
            have v7 := run_string (P := Try.prog) (hby5.only ho6 (fun b' off' e hk => by have h1 := hn5 _ e; have h2 := HS.out.rf.lt; simp at h1 ⊢; omega)) 28 5 9 Try.underlying28 Try.underlying5 Try.underlying9 c5'
            go_wp2_with fail
            refine hK.out _ _ c6 (fun hHeld => ?_)
            clear hK K
            try simp only [Act.put, List.setIfInBounds_toArray, List.set_cons_zero, List.set_cons_succ]
            refine wpAnyH_ready (rs := [7, 15]) (by kernel_rfl) (by simp) ?_
            refine AllReadyH.cons rfl (fun K hK => ?_) (AllReadyH.cons rfl (fun K hK => ?_) AllReadyH.nil)
            · go_simp
              refine hK.out _ _ c6 (fun hHeld => ?_)
              clear hK K
              try simp only [Act.put, List.setIfInBounds_toArray, List.set_cons_zero, List.set_cons_succ]
              refine wpAnyH_ready (rs := [15]) (by kernel_rfl) (by simp) ?_
              refine AllReadyH.cons rfl (fun K hK => ?_) AllReadyH.nil
              go_simp
              refine hK.out _ _ c6 (fun hHeld => ?_)
              clear hK K
              try simp only [Act.put, List.setIfInBounds_toArray, List.set_cons_zero, List.set_cons_succ]
              refine wpAnyH_ready (rs := [16]) (by kernel_rfl) (by simp) ?_
              refine AllReadyH.cons rfl (fun K hK => ?_) AllReadyH.nil
              go_simp
              refine hK.out _ _ c6 (fun hHeld => ?_)
              clear hK K
              try simp only [Act.put, List.setIfInBounds_toArray, List.set_cons_zero, List.set_cons_succ]
              refine wpAnyH_ready (rs := [17]) (by kernel_rfl) (by simp) ?_
              refine AllReadyH.cons rfl (fun K hK => ?_) AllReadyH.nil
              go_simp
              refine hK.out _ _ c6 (fun hHeld => ?_)
              clear hK K
              try simp only [Act.put, List.setIfInBounds_toArray, List.set_cons_zero, List.set_cons_succ]
              refine wpAnyH_done (by kernel_rfl) ?_ _
              obtain ⟨hR6, hB6⟩ := reads_step hR HS.out (only_undrew ho5) ho6 hr5 hf5 hf6 (rBytes_bs s on) hA hgw hyw hlt1 hlt2
              clear hr5 ho5 hf5 hf6 ho6 c5 c6 b5 b6 v5 v6 v7 hby5 hby6 hn5 hn6 hHeld
              go_wp2_with fail
              generalize (Cur.rBytes s on).2 = s6 at *
              have g1 := Lib.hid fun n => left_any g s6 (w6.drewN n) (hB6.rd.drewN n)
              have g2 := Lib.hid fun n => rleft_any y s6 (w6.drewN n) (hB6.rf.drewN n)
              have g3 := Lib.hid fun n => rderr_any g s6 (w6.drewN n) (hB6.rd.drewN n)
              have hy1 : w6.cell? ⟨y, 1, none⟩ = some (.int .i64 (s6.e : Nat)) := by obtain ⟨_, _, _, ht, _⟩ := hB6.rf; exact ht.c1
              clear hB6
              generalize Cur.rLeft s6 = lf at *
              generalize s6.e = e6 at *
              go_quiet ((first | (go_at_call 28; exact Calls.quiet_of_same ((g1.out _).mono fun _ _ h => ⟨h.1, h.2.symm⟩)) | (go_at_call 29; exact Calls.quiet_of_same ((g2.out _).mono fun _ _ h => ⟨h.1, h.2.symm⟩)) | (go_at_call 17; exact Calls.quiet_of_same ((g3.out _).mono fun _ _ h => ⟨h.1, h.2.symm⟩))))
              go_wp2_with fail
              exact ⟨⟨i + 1, by go_num, hR6.drewN _⟩, by simp [intOf]; omega⟩
            · go_simp
              refine hK.out _ _ c6 (fun hHeld => ?_)
              clear hK K
              try simp only [Act.put, List.setIfInBounds_toArray, List.set_cons_zero, List.set_cons_succ]
              refine wpAnyH_ready (rs := [7]) (by kernel_rfl) (by simp) ?_
              refine AllReadyH.cons rfl (fun K hK => ?_) AllReadyH.nil
              go_simp
              refine hK.out _ _ c6 (fun hHeld => ?_)
              clear hK K
              try simp only [Act.put, List.setIfInBounds_toArray, List.set_cons_zero, List.set_cons_succ]
              refine wpAnyH_ready (rs := [16]) (by kernel_rfl) (by simp) ?_
              refine AllReadyH.cons rfl (fun K hK => ?_) AllReadyH.nil
              go_simp
              refine hK.out _ _ c6 (fun hHeld => ?_)
              clear hK K
              try simp only [Act.put, List.setIfInBounds_toArray, List.set_cons_zero, List.set_cons_succ]
              refine wpAnyH_ready (rs := [17]) (by kernel_rfl) (by simp) ?_
              refine AllReadyH.cons rfl (fun K hK => ?_) AllReadyH.nil
              go_simp
              refine hK.out _ _ c6 (fun hHeld => ?_)
              clear hK K
              try simp only [Act.put, List.setIfInBounds_toArray, List.set_cons_zero, List.set_cons_succ]
              refine wpAnyH_done (by kernel_rfl) ?_ _
              obtain ⟨hR6, hB6⟩ := reads_step hR HS.out (only_undrew ho5) ho6 hr5 hf5 hf6 (rBytes_bs s on) hA hgw hyw hlt1 hlt2
              clear hr5 ho5 hf5 hf6 ho6 c5 c6 b5 b6 v5 v6 v7 hby5 hby6 hn5 hn6 hHeld
              go_wp2_with fail
              generalize (Cur.rBytes s on).2 = s6 at *
              have g1 := Lib.hid fun n => left_any g s6 (w6.drewN n) (hB6.rd.drewN n)
              have g2 := Lib.hid fun n => rleft_any y s6 (w6.drewN n) (hB6.rf.drewN n)
              have g3 := Lib.hid fun n => rderr_any g s6 (w6.drewN n) (hB6.rd.drewN n)
              have hy1 : w6.cell? ⟨y, 1, none⟩ = some (.int .i64 (s6.e : Nat)) := by obtain ⟨_, _, _, ht, _⟩ := hB6.rf; exact ht.c1
              clear hB6
              generalize Cur.rLeft s6 = lf at *
              generalize s6.e = e6 at *
              go_quiet ((first | (go_at_call 28; exact Calls.quiet_of_same ((g1.out _).mono fun _ _ h => ⟨h.1, h.2.symm⟩)) | (go_at_call 29; exact Calls.quiet_of_same ((g2.out _).mono fun _ _ h => ⟨h.1, h.2.symm⟩)) | (go_at_call 17; exact Calls.quiet_of_same ((g3.out _).mono fun _ _ h => ⟨h.1, h.2.symm⟩))))
              go_wp2_with fail
              exact ⟨⟨i + 1, by go_num, hR6.drewN _⟩, by simp [intOf]; omega⟩
        · go_wp2_with fail
          refine (HK.out wr hwk (by omega) (by omega)).mono ?_
          rintro r w' ⟨rfl, rfl⟩
          go_wp2_with fail
          refine (text_any g s wr HS.out.rd (by have := HS.out.len; omega)).mono ?_
          rintro r w5 ⟨rfl, hr5, ho5⟩
          have hf5 := HS.out.stepD (s' := s) ho5
          go_wp2_with fail
          refine (rtext_any y s w5 hf5 (by have := HS.out.len; omega)).mono ?_
          rintro r w6 ⟨rfl, hf6, ho6⟩
          obtain ⟨hR6, hB6⟩ := reads_step hR HS.out ho5 ho6 hr5 hf5 hf6 (rText_bs s) hA hgw hyw hlt1 hlt2
          clear hr5 ho5 hf5 hf6 ho6
          go_wp2_with fail
          generalize (Cur.rText s).2 = s6 at *
          have g1 := Lib.hid fun n => left_any g s6 (w6.drewN n) (hB6.rd.drewN n)
          have g2 := Lib.hid fun n => rleft_any y s6 (w6.drewN n) (hB6.rf.drewN n)
          have g3 := Lib.hid fun n => rderr_any g s6 (w6.drewN n) (hB6.rd.drewN n)
          have hy1 : w6.cell? ⟨y, 1, none⟩ = some (.int .i64 (s6.e : Nat)) := by obtain ⟨_, _, _, ht, _⟩ := hB6.rf; exact ht.c1
          clear hB6
          generalize Cur.rLeft s6 = lf at *
          generalize s6.e = e6 at *
          go_quiet ((first | (go_at_call 28; exact Calls.quiet_of_same ((g1.out _).mono fun _ _ h => ⟨h.1, h.2.symm⟩)) | (go_at_call 29; exact Calls.quiet_of_same ((g2.out _).mono fun _ _ h => ⟨h.1, h.2.symm⟩)) | (go_at_call 17; exact Calls.quiet_of_same ((g3.out _).mono fun _ _ h => ⟨h.1, h.2.symm⟩))))
          go_wp2_with fail
          exact ⟨⟨i + 1, by go_num, hR6.drewN _⟩, by simp [intOf]; omega⟩
      · have HS := Lib.hid hS
        clear hS hsr
        rcases (show i = len ∨ (i < len ∧ i = 40) by have := hR.mn; have := hR.m40; omega) with rfl | ⟨hlt1, rfl⟩
        all_goals
          go_wp2_with fail
          refine wp_region_any (by kernel_rfl) ?_
          change wpAny _ _ _ _ _ _ _ (World.drew _)
          refine wpAny_take (i := 0) (v := .pointer (some ⟨g, 0, none⟩)) rfl (by kernel_rfl) (by kernel_rfl) (by kernel_rfl) (fun _ _ _ h => h) (Or.inl ⟨by rfl, fun w => by go_simp⟩) ?_
          refine wpAny_take (i := 2) (v := .pointer (some ⟨y, 0, none⟩)) rfl (by kernel_rfl) (by kernel_rfl) (by kernel_rfl) (fun _ _ _ h => h) (Or.inl ⟨by rfl, fun w => by go_simp⟩) ?_
          refine wpAny_ready (rs := [1]) (by kernel_rfl) (by simp) ?_
          refine AllReady.cons rfl (fun K hK => ?_) AllReady.nil
          go_simp
          refine (end_any g s _ HS.out.rd.drew).mono ?_
          rintro r w5 ⟨rfl, hr5, ho5⟩
          have hf5 := HS.out.drew.stepD (s' := s) ho5
          go_wp2_with fail
          try (refine hK _ _ ?_; clear hK K)
          refine wpAny_ready (rs := [3]) (by kernel_rfl) (by simp) ?_
          refine AllReady.cons rfl (fun K hK => ?_) AllReady.nil
          go_simp
          refine (rend_any y s _ hf5).mono ?_
          rintro r w6 ⟨rfl, hf6, ho6⟩
          obtain ⟨b6, hr6, hy1, o6⟩ := reads_end hR HS.out (only_undrew ho5) ho6 hr5 hf5 hf6 hA hgw hyw
          have v1 := fun n => run_string (P := Try.prog) (o6.drewN n) 28 5 9 Try.underlying28 Try.underlying5 Try.underlying9 c2
          have v2 := fun n => run_string (P := Try.prog) ((HB.out.below b6).drewN n) 28 5 9 Try.underlying28 Try.underlying5 Try.underlying9 c
          have g3 := Lib.hid fun n => rderr_any g _ (w6.drewN n) (hr6.drewN n)
          clear hr5 hf5 hf6 ho5 ho6 hr6 o6
          go_wp2_with fail
          try (refine hK _ _ ?_; clear hK K)
          refine wpAny_tail 4 rfl (by kernel_rfl) (by kernel_rfl) (by kernel_rfl) ?_
          simp only [List.drop_succ_cons, List.drop_zero]
          repeat (quiet_step ((go_at_call 17; exact Calls.quiet_of_same ((g3.out _).mono fun _ _ h => ⟨h.1, h.2.symm⟩))))
          refine wpQuiet_nil ?_
          intro _ hw'
          obtain ⟨nq, hw''⟩ := hw'
          subst hw''
          go_wp2_with fail
          go_ret
          exact ⟨rfl, belowN b6 nq⟩
end Go.Proofs.Ytlopkmkagcofdaa
