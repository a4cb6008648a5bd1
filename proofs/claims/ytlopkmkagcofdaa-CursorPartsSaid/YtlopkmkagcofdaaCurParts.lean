/- Walk of CursorParts: bytes that are read in parts of any sizes are the bytes, one behind the other. -/
import Derived.Test.YtlopkmkagcofdaaRows
import Derived.Test.YtlopkmkagcofdaaCurStops
import Derived.Deep.RegionHeld3
import Derived.IntWalk
namespace Go.Proofs.Ytlopkmkagcofdaa
set_option linter.unusedVariables false
set_option linter.unusedSimpArgs false
open Go.RowKit

/-- A reader without an error, whose bytes lie below block B. -/
def RdB (w : World) (g : Nat) (bs : List UInt8) (B : Nat) : Prop :=
  ∃ A n c, Two w g 52 (.int .i64 ((0 : Nat) : Int)) (.slice A n c) ∧ Bytes w A n bs ∧ n ≤ c ∧ c ≤ 9223372036854775807 ∧ (0 < n → ∀ a, A = some a → a.block < B)
theorem RdB.rd {w : World} {g B : Nat} {bs : List UInt8} (h : RdB w g bs B) : RdAt w g ⟨0, bs⟩ := by obtain ⟨A, n, c, h1, h2, h3, h4, _⟩ := h; exact ⟨A, n, c, h1, h2, h3, h4⟩
theorem RdB.of {w : World} {g : Nat} {bs : List UInt8} (h : RdAt w g ⟨0, bs⟩) : RdB w g bs w.heap.size := by
  obtain ⟨A, n, c, h1, h2, h3, h4⟩ := h
  refine ⟨A, n, c, h1, h2, h3, h4, fun hn a ha => ?_⟩
  obtain ⟨b, off, hA, hc⟩ := h2.2 hn
  rw [hA] at ha
  cases ha
  exact block_lt_of_cell (hc 0 hn)
theorem RdB.below {w w' : World} {g B : Nat} {bs : List UInt8} (h : RdB w g bs B) (ho : Below w.heap.size w w') : RdB w' g bs B := by
  obtain ⟨A, n, c, h1, h2, h3⟩ := h
  exact ⟨A, n, c, h1.below ho, h2.below ho, h3⟩
theorem RdB.grown {w w' : World} {g B : Nat} {bs : List UInt8} {row : Option Nat} (h : RdB w g bs B) (hg : g < B) (ho : w.grownBy w' row) (hr : ∀ k, row = some k → B ≤ k) : RdB w' g bs B := by
  obtain ⟨A, n, c, h1, h2, h3, h4, h5⟩ := h
  refine ⟨A, n, c, h1.grown ho (fun e => by have := hr g e.symm; omega), ?_, h3, h4, h5⟩
  rcases Nat.eq_zero_or_pos n with h0 | h0
  · exact ⟨h2.1, fun hn => by omega⟩
  · exact h2.keep fun a ha hlt => ho.block _ hlt fun e => by have := h5 h0 a ha; have := hr _ e.symm; omega

def Parted (w : World) (g : Nat) (bs : List UInt8) (B k : Nat) (r : Ending) (w' : World) : Prop :=
  ∃ A c, r = .returned (.slice A k c) ∧ Bytes w' A k (bs.take k) ∧ k ≤ c ∧ c ≤ 9223372036854775807 ∧ RdB w' g (bs.drop k) B ∧ Only [g] w w'
set_option maxHeartbeats 1000000 in
theorem part_any (g B k : Nat) (bs : List UInt8) (w : World) (h : RdB w g bs B) (hn : bs.length ≤ 140737488355328) (hk : k ≤ bs.length) :
    Calls Try.prog 24 #[.pointer (some ⟨g, 0, none⟩), .int .i64 (k : Nat)] w (Parted w g bs B k) := by
  obtain ⟨A, m, c, ht, hb, hmc, hc, hB⟩ := h
  have hbl := hb.1
  have h0 := ht.c0
  have h1 := ht.c1
  have f1 := ht.free 1
  have HT := Lib.hid ht
  have HB := Lib.hid hb
  have hkm : k ≤ m := by omega
  have hkI : (k : Int) ≤ (c : Int) := by omega
  have hk2 : k ≤ 140737488355328 := by omega
  have HC := Lib.hid (clone_any A k c (bs.take k) w (hb.take hkm) hk2)
  have HL := Lib.hid hbl
  clear ht hb hbl
  go_enter Try.func24, Try.ntmps24
  go_wp2_with fail
  refine HC.out.mono ?_
  rintro r w1 ⟨A1, c1, rfl, hb1, hc1, hc2, hf, hbel⟩
  have ht1 := HT.out.below hbel
  have g1 := ht1.c1
  have gf := ht1.free 1
  have HT1 := Lib.hid ht1
  clear ht1
  go_wp2_with (refine wpList_cut rfl 28 5 (.tmp 42) (.tmp 43) rfl Try.underlying28 size1 A m c k .i64 rfl rfl hkm ?_)
  go_ret
  have ho1 : Only [g] w1 (w1.setCell ⟨g, 1, none⟩ (.slice (cutA A c k) (m - k) (c - k))) := (Only.refl _ _).setCell (.inl (by simp)) _
  have hgl := HT.out.lt
  refine ⟨A1, c1, rfl, ?_, hc1, hc2, ?_, (only_below [g] hbel).setCell (.inl (by simp)) _⟩
  · exact hb1.only ho1 fun b off hA _ => by have := hf _ hA; simp at this ⊢; omega
  · refine ⟨cutA A c k, m - k, c - k, HT1.out.set1 _, ?_, by omega, by omega, fun hp a ha => ?_⟩
    · refine ((HB.out.below hbel).cut hkm hmc).only ho1 fun b off hA hp => ?_
      obtain ⟨a', hA', hbk⟩ := cutA_block hA
      have := HT1.out.apart (by simp) (by simp) (HB.out.below hbel)
      obtain ⟨b2, o2, rfl, _⟩ := HB.out.2 (by omega)
      have := this b2 o2 rfl (by omega)
      injection hA' with hA'
      subst hA'
      simp at hbk ⊢
      omega
    · obtain ⟨a', hA', hbk⟩ := cutA_block ha
      rw [← hbk]
      exact hB (by omega) a' hA'

/-- What holds at each round's head. -/
structure PartsRel (w : World) (len g B base : Nat) (ds : List UInt8) (out : Value) (m k : Nat) (wr : World) : Prop where
  mn : m ≤ len
  m4 : m ≤ 400
  kd : k ≤ ds.length
  below : Below w.heap.size w wr
  rd : RdB wr g (ds.drop k) B
  own : wr.ownsRow base 5 1 out k (u8s (ds.take k))
  far : g < B ∧ B ≤ base ∧ base ≤ wr.heap.size ∧ w.heap.size ≤ g

theorem parts_step {w wr w5 w6 : World} {len g B i k x : Nat} {ds : List UInt8} {out out' : Value} (hR : PartsRel w len g B B ds out i k wr) (hx : x ≤ ds.length - k) (ho5 : Only [g] wr w5) (hrd : RdB w5 g ((ds.drop k).drop x) B)
    (hown5 : w5.ownsRow B 5 1 out k (u8s (ds.take k))) (hown : w6.ownsRow B 5 1 out' (k + x) (u8s (ds.take k ++ (ds.drop k).take x))) (hg : w5.grownBy w6 out.ownBlock) (hi : i < len) (hi4 : i < 400) : PartsRel w len g B B ds out' (i + 1) (k + x) w6 := by
  obtain ⟨f1, f2, f3, f4⟩ := hR.far
  have hk := hR.kd
  have b5 := hR.below.trans (ho5.below (B := w.heap.size) (fun j hj => by simp at hj; omega) hR.below.size)
  have s5 := ho5.size
  refine ⟨by omega, by omega, by omega, b5.grown hg b5.size fun j hj => ?_, ?_, ?_, f1, f2, ?_, f4⟩
  · have := (hown5.lt j hj).1; omega
  · rw [List.drop_drop] at hrd
    exact hrd.grown f1 hg fun j hj => (hown5.lt j hj).1
  · rw [List.take_add]; exact hown
  · have := hg.size; omega
theorem rd_drew {w : World} {g : Nat} {s : Cur.St} (h : RdAt w g s) : RdAt w.drew g s := h
theorem only_undrew1 {S : List Nat} {w w' : World} (h : Only S w.drew w') : Only S w w' := ⟨h.os, h.tape, h.output, h.size, h.block⟩
theorem drop_all {ds : List UInt8} {k : Nat} (h : ds.length - k = 0) : ds.drop k = [] := by rw [List.drop_eq_nil_iff]; omega
theorem own_step {w wr w5 : World} {len g B i k : Nat} {ds : List UInt8} {out : Value} (hR : PartsRel w len g B B ds out i k wr) (ho5 : Only [g] wr w5) : w5.ownsRow B 5 1 out k (u8s (ds.take k)) :=
  own_only hR.own ho5 fun j hj => by have := (hR.own.lt j hj).1; have := hR.far.1; simp; omega
set_option maxRecDepth 100000 in
set_option maxHeartbeats 4000000 in
theorem cursorParts_walk (A : Option Addr) (n c : Nat) (bs : List UInt8) (L : Option Addr) (len cap : Nat) (l : List Int) (w : World) (h : Bytes w A n bs ∧ n ≤ c ∧ c ≤ maxLen) (hl : IntsIn w L len l ∧ len ≤ cap ∧ cap ≤ maxLen) :
    Calls Try.prog 8 #[.slice A n c, .slice L len cap] w fun e w' => e = .returned (.bool true) ∧ Below w.heap.size w w' := by
  obtain ⟨hb, hnc, hcm⟩ := h
  have hcm : c ≤ 9223372036854775807 := by simpa [maxLen] using hcm
  obtain ⟨hl, hlc, hlm⟩ := hl
  have hlm : cap ≤ 9223372036854775807 := by simpa [maxLen] using hlm
  obtain ⟨i0, hi, hz0, hz1, hz2⟩ := info_parts u8_info
  obtain ⟨m, hm⟩ : ∃ m, m = min n 300 := ⟨_, rfl⟩
  have hbm := hb.take (show m ≤ n by omega)
  generalize bs.take m = ds at *
  have hdl := hbm.1
  have HB := Lib.hid hbm
  have HL := Lib.hid hl
  have HI := Lib.hid hi
  have hptr : ∀ (W : World) (g : Nat), (binOp .eql 45 (.pointer (some ⟨g, 0, none⟩)) (.pointer none)).run Try.prog W = .ok (.bool false) W := fun W g => by kernel_rfl
  clear hb hbm hl hi
  rcases (show (m = n ∧ n ≤ 300) ∨ (m = 300 ∧ 300 < n) by omega) with ⟨rfl, hlt⟩ | ⟨rfl, hlt⟩
  all_goals
    clear hm
    go_enter Try.func8, Try.ntmps8
    go_wp2_with fail
    refine (shown_any w).mono ?_
    rintro r w1 ⟨rfl, hb1⟩
    go_wp2_with fail
    refine (read_any A _ c ds w1 (HB.out.below hb1) (by omega)).mono ?_
    rintro r w2 ⟨g, rfl, hr2, hg2, hb2⟩
    have hbel : Below w.heap.size w w2 := below_then hb1 hb2
    have hgw : w.heap.size ≤ g := by have := hb1.size; omega
    have hrel0 : PartsRel w len g w2.heap.size w2.heap.size ds (.slice (some ⟨w2.heap.size, 0, none⟩) 0 0) 0 0 (w2.alloc (.cells #[] 5)) :=
      ⟨by omega, by omega, by omega, hbel.alloc hbel.size _, (RdB.of hr2).below (below_all.alloc (Nat.le_refl _) _), owns_empty w2 _ (Nat.le_refl _), hr2.lt, Nat.le_refl _, by simp, hgw⟩
    have hs2 := hbel.size
    go_wp2_with fail
    clear hr2 hg2 hb2 hb1 hbel
    generalize w2.heap.size = B at *
    go_loopw [7, 8] (fun out i wr => ∃ m k : Nat, i = .int .i64 m ∧ PartsRel w len g B B ds out m k wr) (fun _ i _ => 400 - (intOf i).toNat)
    case atStart => exact ⟨0, 0, rfl, hrel0⟩
    case round =>
      obtain ⟨i, k, rfl, hR⟩ := hrel
      clear hrel0
      by_cases hcase : i < len ∧ i < 400
      · obtain ⟨hlt1, hlt2⟩ := hcase
        obtain ⟨b, off, rfl, hcl⟩ := HL.out.2.1 (by omega)
        have hil : i < l.length := by rw [HL.out.1]; exact hlt1
        have hz := hcl i _ (List.getElem?_eq_getElem hil)
        have hwz := int_of (HL.out.2.2 _ (List.getElem_mem hil))
        have hbl := block_lt_of_cell hz
        have cz := (hR.below.cell (p := ⟨b, off + i, none⟩) hbl).trans hz
        clear hcl hz
        generalize l[i] = z at *
        have hq := kindF_bd z 20 (by omega)
        have HK := Lib.hid (kind_any z 20)
        generalize kindF z 20 = q at *
        obtain ⟨q, rfl⟩ := Int.eq_ofNat_of_zero_le hq.1
        have HR := Lib.hid hR
        have hkd := hR.kd
        have hleft : Cur.rLeft ⟨0, ds.drop k⟩ = ds.length - k := by simp [Cur.rLeft]
        have HF := Lib.hid (left_any g ⟨0, ds.drop k⟩ wr hR.rd.rd)
        rw [hleft] at HF
        obtain ⟨j, hj⟩ : ∃ j, j = ds.length - k := ⟨_, rfl⟩
        have hjl : (ds.drop k).length = j := by rw [List.length_drop, hj]
        have hj3 : j ≤ 300 := by omega
        have HJ := Lib.hid hj
        have HJL := Lib.hid hjl
        rw [← hj] at HF
        clear hR hleft hjl hj
        go_wp2_with fail
        refine (HK.out wr hwz (by omega) (by omega)).mono ?_
        rintro r w' ⟨rfl, rfl⟩
        go_wp2_with fail
        refine HF.out.mono ?_
        rintro r w' ⟨rfl, rfl⟩
        go_wp2_with fail
        all_goals
          refine (part_any g B _ (ds.drop k) wr HR.out.rd (by rw [HJL.out]; omega) (by rw [HJL.out]; omega)).mono ?_
          rintro r w5 ⟨A5, c5, rfl, hby5, hkc5, hc5, hrd5, ho5⟩
          have hown5 := own_step HR.out ho5
          have hs5 : B ≤ w5.heap.size := by have := HR.out.far.2.2.1; have := ho5.size; omega
          go_wp2_with (at_builtin; refine wpList_append_bytes _ rfl (.tmp 52) (.tmp 53) _ rfl B 5 i0 _ 1 Try.underlying28 HI.out hz0 hz1 hz2 rfl _ k (ds.take k) rfl hown5 A5 _ c5 _ rfl hby5 (by simp only [maxLen]; omega) (by omega) hs5 ?_; intro v6 w6 hown hgrow _)
          exact ⟨⟨i + 1, _, by go_num, parts_step HR.out (by have := HJ.out; omega) ho5 hrd5 hown5 hown hgrow hlt1 hlt2⟩, by simp [intOf]; omega⟩
      · have HR := Lib.hid hR
        have hkd := hR.kd
        obtain ⟨A7, c7, rfl, hby7, hkc7, hc7, _⟩ := own_form hR.own
        have hc7 : c7 ≤ 9223372036854775807 := by simpa [maxLen] using hc7
        have hleft : Cur.rLeft ⟨0, ds.drop k⟩ = ds.length - k := by simp [Cur.rLeft]
        have hend : Cur.endE ⟨0, ds.drop k⟩ = if 0 < ds.length - k then 2 else 0 := by simp [Cur.endE, Cur.failE]
        have HF := Lib.hid (left_any g ⟨0, ds.drop k⟩ wr.drew (rd_drew hR.rd.rd))
        have HE := Lib.hid (rderr_any g ⟨0, ds.drop k⟩ wr.drew (rd_drew hR.rd.rd))
        have HD := Lib.hid (end_any g ⟨0, ds.drop k⟩ wr.drew (rd_drew hR.rd.rd))
        have hbk := (HB.out.below hR.below).take (show k ≤ _ by rw [← hdl]; exact hkd)
        have hbe : Hid (Below w.heap.size w wr.drew) := ⟨hR.below.os, hR.below.tape, hR.below.output, hR.below.size, hR.below.block⟩
        have hfar : Hid (g < B ∧ w.heap.size ≤ g) := ⟨hR.far.1, hR.far.2.2.2⟩
        have hne7 : ∀ b off, A7 = some ⟨b, off, none⟩ → 0 < k → b ∉ [g] := fun b off e hk => by
          have h1 := HR.out.own.lt b (by rw [e]; rfl)
          have h2 := HR.out.far.1
          simp; omega
        have hneA : ∀ b off, A = some ⟨b, off, none⟩ → 0 < k → b ∉ [g] := fun b off e hk => by
          have h1 := HB.out.lt e (by omega)
          have h2 := HR.out.far.2.2.2
          simp; omega
        have H7 := Lib.hid hby7
        have H8 := Lib.hid hbk
        have N7 := Lib.hid hne7
        have N8 := Lib.hid hneA
        have v1 := run_string (P := Try.prog) (show Bytes wr.drew _ _ _ from hby7) 28 5 9 Try.underlying28 Try.underlying5 Try.underlying9 c7
        have v2 := run_string (P := Try.prog) (show Bytes wr.drew _ _ _ from hbk) 28 5 9 Try.underlying28 Try.underlying5 Try.underlying9 c
        obtain ⟨j, hj⟩ : ∃ j, j = ds.length - k := ⟨_, rfl⟩
        rw [hleft, ← hj] at HF
        have hsum : IntKind.i64.wrap ((k : Int) + (j : Int)) = (ds.length : Int) := by rw [IntWalk.i64_in _ (by omega)]; omega
        rw [hdl] at hsum
        try push_cast at hsum
        have hkI : (k : Int) ≤ (c : Int) := by omega
        have hk0 : (0 : Int) ≤ (k : Int) := by omega
        rw [← hj] at hend
        have hid := HR.out.mn
        have hid4 := HR.out.m4
        clear hR hleft hby7 hbk hne7 hneA
        rcases (show i = len ∨ (i < len ∧ i = 400) by omega) with rfl | ⟨hlt1, rfl⟩
        all_goals
          rcases Nat.eq_zero_or_pos j with h0 | h0
          · have hkm : ((k : Int) == (ds.length : Int)) = true := by rw [beq_iff_eq]; omega
            rw [hdl] at hkm
            try push_cast at hkm
            rw [if_neg (by omega)] at hend
            have HX := Lib.hid (HD.out.mono fun r w' h => (show r = .returned (.int .i64 0) ∧ Only [g] wr w' from by obtain ⟨h1, _, h3⟩ := h; rw [hend] at h1; exact ⟨h1, only_undrew1 h3⟩))
            clear hend hj HD h0
            go_wp2_with fail
            go_region_held3 (fun w' => (convert 28 9 (.slice A7 k c7)).run Try.prog w' = .ok (.string (str (ds.take k))) w' ∧ (convert 28 9 (.slice A k c)).run Try.prog w' = .ok (.string (str (ds.take k))) w')
              (first | exact ⟨v1, v2⟩ | exact ⟨v3, v4⟩)
              (first
                | (go_at_call 28; refine HF.out.mono ?_; rintro r w' ⟨rfl, rfl⟩)
                | (go_at_call 17; refine HE.out.mono ?_; rintro r w' ⟨rfl, rfl⟩)
                | (go_at_call 30; refine HX.out.mono ?_; rintro r w5 ⟨rfl, ho5⟩; have v3 := run_string (P := Try.prog) (H7.out.only ho5 N7.out) 28 5 9 Try.underlying28 Try.underlying5 Try.underlying9 c7; have v4 := run_string (P := Try.prog) (H8.out.only ho5 N8.out) 28 5 9 Try.underlying28 Try.underlying5 Try.underlying9 c; have b5 : Hid (Below w.heap.size w w5) := HR.out.below.trans (ho5.below (fun i hi => by simp at hi; have := hfar.out.2; omega) HR.out.below.size)))
            all_goals
              go_wp2_with fail
              go_ret
              exact ⟨rfl, b5.out⟩
          · have hkm : ((k : Int) == (ds.length : Int)) = false := by rw [beq_eq_false_iff_ne]; omega
            rw [hdl] at hkm
            try push_cast at hkm
            rw [if_pos (by omega)] at hend
            have HX := Lib.hid (HD.out.mono fun r w' h => (show r = .returned (.int .i64 2) ∧ Only [g] wr w' from by obtain ⟨h1, _, h3⟩ := h; rw [hend] at h1; exact ⟨h1, only_undrew1 h3⟩))
            clear hend hj HD h0
            go_wp2_with fail
            go_region_held3 (fun w' => (convert 28 9 (.slice A7 k c7)).run Try.prog w' = .ok (.string (str (ds.take k))) w' ∧ (convert 28 9 (.slice A k c)).run Try.prog w' = .ok (.string (str (ds.take k))) w')
              (first | exact ⟨v1, v2⟩ | exact ⟨v3, v4⟩)
              (first
                | (go_at_call 28; refine HF.out.mono ?_; rintro r w' ⟨rfl, rfl⟩)
                | (go_at_call 17; refine HE.out.mono ?_; rintro r w' ⟨rfl, rfl⟩)
                | (go_at_call 30; refine HX.out.mono ?_; rintro r w5 ⟨rfl, ho5⟩; have v3 := run_string (P := Try.prog) (H7.out.only ho5 N7.out) 28 5 9 Try.underlying28 Try.underlying5 Try.underlying9 c7; have v4 := run_string (P := Try.prog) (H8.out.only ho5 N8.out) 28 5 9 Try.underlying28 Try.underlying5 Try.underlying9 c; have b5 : Hid (Below w.heap.size w w5) := HR.out.below.trans (ho5.below (fun i hi => by simp at hi; have := hfar.out.2; omega) HR.out.below.size)))
            all_goals
              go_wp2_with fail
              go_ret
              exact ⟨rfl, b5.out⟩
end Go.Proofs.Ytlopkmkagcofdaa
