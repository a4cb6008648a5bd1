/- Walk of CursorBack: what was written is read as it was, one behind the other, and nothing is left. -/
import Derived.Test.YtlopkmkagcofdaaRows
import Derived.Test.YtlopkmkagcofdaaCurStops
import Derived.Test.YtlopkmkagcofdaaCurWide
import Derived.Test.YtlopkmkagcofdaaCurBackMath
import Derived.Deep.RegionHeld3
import Derived.Deep.DeepCutAuto
import Derived.Deep.CutBlock
namespace Go.Proofs.Ytlopkmkagcofdaa
set_option linter.unusedVariables false
set_option linter.unusedSimpArgs false
open Go.RowKit

/-- What holds at the head of each round that writes. -/
structure BackW (w : World) (len g : Nat) (l : List OpV) (m : Nat) (wr : World) : Prop where
  mn : m ≤ len
  m40 : m ≤ 40
  few : ∀ o ∈ l.take m, o.s.length ≤ 255
  below : Below w.heap.size w wr
  wg : w.heap.size ≤ g
  wr : ∃ S, WrAt wr g g S ⟨0, encs (l.take m)⟩
/-- What holds at the head of each round that reads. -/
structure BackR (w : World) (len g : Nat) (l : List OpV) (n m : Nat) (wr : World) : Prop where
  mn : m ≤ n
  nl : n ≤ len
  n40 : n ≤ 40
  few : ∀ o ∈ l.take n, o.s.length ≤ 255
  below : Below w.heap.size w wr
  wg : w.heap.size ≤ g
  rd : RdAt wr g ⟨0, encs ((l.take n).drop m)⟩
section
variable {w w' wr w5 : World} {g len m n : Nat} {S : List Nat} {l : List OpV}
theorem BackW.len_le (h : BackW w len g l m wr) : (encs (l.take m)).length ≤ 10280 := by
  have h1 := encs_length (l.take m) h.few
  have h2 := h.m40
  have h3 : (l.take m).length ≤ m := List.length_take_le _ _
  have : 257 * (l.take m).length ≤ 257 * 40 := Nat.mul_le_mul_left _ (by omega)
  omega
theorem BackW.step {o : OpV} (h : BackW w len g l m wr) (hb : Below w.heap.size w w5) (ho : l[m]? = some o) (hs : o.s.length ≤ 255) (hm : m < len) (hm4 : m < 40) (hw : ∃ S, WrAt w5 g g S ⟨0, encs (l.take m) ++ encOp o⟩) : BackW w len g l (m + 1) w5 := by
  refine ⟨by omega, by omega, fun x hx => ?_, hb, h.wg, ?_⟩
  · obtain ⟨hlt, rfl⟩ := List.getElem?_eq_some_iff.1 ho
    rw [List.take_succ_eq_append_getElem hlt, List.mem_append] at hx
    rcases hx with hx | hx
    · exact h.few x hx
    · simp at hx; rw [hx]; exact hs
  · rw [encs_take ho]; exact hw
theorem BackR.len_le (h : BackR w len g l n m wr) : (encs ((l.take n).drop m)).length ≤ 10280 := by
  have h1 := encs_length ((l.take n).drop m) fun o ho => h.few o (List.mem_of_mem_drop ho)
  have h2 := h.n40
  have h3 : ((l.take n).drop m).length ≤ n := by rw [List.length_drop]; have := List.length_take_le n l; omega
  have : 257 * ((l.take n).drop m).length ≤ 257 * 40 := Nat.mul_le_mul_left _ (by omega)
  omega
theorem BackR.step (h : BackR w len g l n m wr) (ho : Only [g] wr w5) (hm : m < n) (hr : RdAt w5 g ⟨0, encs ((l.take n).drop (m + 1))⟩) : BackR w len g l n (m + 1) w5 :=
  ⟨by omega, h.nl, h.n40, h.few, h.below.trans (ho.below (fun k hk => by simp at hk; have := h.wg; omega) h.below.size), h.wg, hr⟩
theorem only_below1 (hb : Below w.heap.size w wr) (ho : Only [g] wr w5) (hg : w.heap.size ≤ g) : Below w.heap.size w w5 :=
  hb.trans (ho.below (fun k hk => by simp at hk; omega) hb.size)
theorem wr_below (hb : Below w.heap.size w wr) {s : Cur.St} (hw : WrAt wr g g S s) (hg : w.heap.size ≤ g) (ho : Only S wr w5) : Below w.heap.size w w5 :=
  hb.trans (ho.below (fun k hk => Nat.le_trans hg (hw.all k hk).1) hb.size)
theorem only_undrew3 (h : Only S w.drew w') : Only S w w' := ⟨h.os, h.tape, h.output, h.size, h.block⟩
theorem below_drew3 {B : Nat} {a w : World} (h : Below B a w) : Below B a w.drew := ⟨h.os, h.tape, h.output, h.size, h.block⟩
theorem rdat_drew {s : Cur.St} (h : RdAt w g s) : RdAt w.drew g s := h
theorem enc0 {o : OpV} (h : kindF o.k 3 = 0) : encOp o = Cur.leBytes (kindF o.x 65536).toNat 2 := by unfold encOp; rw [if_pos h]
theorem enc1 {o : OpV} (h : kindF o.k 3 = 1) : encOp o = o.s := by unfold encOp; rw [if_neg (by omega), if_pos h]
theorem enc2 {o : OpV} (h : kindF o.k 3 = 2) : encOp o = Cur.leBytes o.s.length 1 ++ o.s := by unfold encOp; rw [if_neg (by omega), if_neg (by omega)]
end
set_option maxRecDepth 100000 in
set_option maxHeartbeats 4000000 in
theorem cursorBack_walk (L : Option Addr) (len cap : Nat) (l : List OpV) (w : World) (hl : OpsIn w L len l ∧ len ≤ cap ∧ cap ≤ maxLen) :
    Calls Try.prog 6 #[.slice L len cap] w fun e w' => e = .returned (.bool true) ∧ Below w.heap.size w w' := by
  obtain ⟨hl, hlc, hlm⟩ := hl
  have hlm : cap ≤ 9223372036854775807 := by simpa [maxLen] using hlm
  have HL := Lib.hid hl
  have hptr : ∀ (W : World) (g : Nat), (binOp .eql 45 (.pointer (some ⟨g, 0, none⟩)) (.pointer none)).run Try.prog W = .ok (.bool false) W := fun W g => by kernel_rfl
  clear hl
  go_enter Try.func6, Try.ntmps6
  go_upto_block 0 with (refine (shown_any w).mono ?_; rintro r w1 ⟨rfl, hb1⟩)
  have hs1 := hb1.size
  have hrel0 : BackW w len w1.heap.size l 0 (w1.alloc (.cells #[.int .i64 0, .slice none 0 0] 30)) :=
    ⟨by omega, by omega, by simp, hb1.alloc hs1 _, hs1, _, by simpa [encs] using new_writer w1⟩
  clear hb1
  generalize w1.heap.size = g at *
  go_cut [5] (fun n wr => ∃ m : Nat, n = .int .i64 m ∧ BackW w len g l m wr)
  case first =>
    go_wp2_with fail
    go_loopw [5, 6] (fun n i wr => ∃ m : Nat, n = .int .i64 m ∧ i = .int .i64 m ∧ BackW w len g l m wr) (fun _ i _ => 40 - (intOf i).toNat)
    case atStart => exact ⟨0, rfl, rfl, hrel0⟩
    case round =>
      obtain ⟨i, rfl, rfl, hR⟩ := hrel
      clear hrel0
      by_cases hcase : i < len ∧ i < 40
      · obtain ⟨hlt1, hlt2⟩ := hcase
        obtain ⟨b, off, o, rfl, hoi, hof, hk0, hx0, hn0, hs0⟩ := HL.out.at_ hlt1
        have hwk := int_of hof.1
        have hwx := int_of hof.2.1
        have hbl := block_lt_of_cell hs0
        have hbr := hR.below
        have ck := (hbr.cell (p := ⟨b, off + i * 4, none⟩) hbl).trans hk0
        have cx := (hbr.cell (p := ⟨b, off + i * 4 + 1, none⟩) hbl).trans hx0
        have cs := (hbr.cell (p := ⟨b, off + i * 4 + 3, none⟩) hbl).trans hs0
        have hq := kindF_bd o.k 3 (by omega)
        have hx := kindF_bd o.x 65536 (by omega)
        have HK := Lib.hid (kind_any o.k 3)
        have HX := Lib.hid (kind_any o.x 65536)
        have E0 := Lib.hid (enc0 (o := o))
        have E1 := Lib.hid (enc1 (o := o))
        have E2 := Lib.hid (enc2 (o := o))
        have HR := Lib.hid hR
        have HO := Lib.hid hoi
        have hsz := str_size o.s
        have hcv := run_bytes_of o.s
        have hi0 : (0 : Int) ≤ (i : Int) := by omega
        have hi1 : (i : Int) < (len : Int) := by omega
        have hln := hR.len_le
        have HLN := Lib.hid hln
        obtain ⟨S, hW⟩ := hR.wr
        have HW := Lib.hid hW
        have HG : Hid (w.heap.size ≤ g) := hR.wg
        clear hk0 hx0 hs0 hn0 hoi hof hR hW hln
        by_cases hle : o.s.length ≤ 255
        · have HS := Lib.hid hle
          generalize kindF o.k 3 = q at *
          generalize kindF o.x 65536 = z at *
          have hx1 := hx.1
          have hx2 := hx.2
          obtain ⟨s, hs⟩ : ∃ s, s = o.s := ⟨_, rfl⟩
          have HSS := Lib.hid hs
          rw [← hs] at hle cs hsz hcv
          clear hs
          rcases (show q = 0 ∨ q = 1 ∨ q = 2 by omega) with rfl | rfl | rfl
          · have EQ := Lib.hid (E0.out rfl)
            clear E0 E1 E2
            go_wp2_with fail
            refine (HK.out wr hwk (by omega) (by omega)).mono ?_
            rintro r w' ⟨rfl, rfl⟩
            go_wp2_with fail
            refine (HX.out wr hwx (by omega) (by omega)).mono ?_
            rintro r w' ⟨rfl, rfl⟩
            go_wp2_with fail
            refine (wnum_any g g S _ z 2 wr HW.out (by have := HLN.out; simp only; omega) (by omega) (by omega)).mono ?_
            rintro r w5 ⟨rfl, S5, hw5, ho5, hs5⟩
            have hB : Hid (BackW w len g l (i + 1) w5) := HR.out.step (wr_below hbr HW.out HG.out ho5) HO.out HS.out hlt1 hlt2 ⟨S5, by rw [back_wNum _ _ hx1 hx2] at hw5; rw [EQ.out]; exact hw5⟩
            clear hw5 ho5 hs5
            go_wp2_with fail
            exact ⟨⟨i + 1, by go_num, by go_num, hB.out⟩, by simp [intOf]; omega⟩
          · have EQ := Lib.hid (E1.out rfl)
            clear E0 E1 E2
            go_wp2_with fail
            refine (HK.out wr hwk (by omega) (by omega)).mono ?_
            rintro r w' ⟨rfl, rfl⟩
            go_wp2_with fail
            have hbw := bytesWorld_below wr 5 (str s)
            have hby := bytesWorld_bytes wr 5 s
            have hW2 := HW.out.below hbw
            have b2 : Below w.heap.size w (Lib.bytesWorld wr 5 (str s)) := below_then hbr hbw
            clear hbw
            generalize Lib.bytesWorld wr 5 (str s) = w2 at *
            refine (wbytes_any g g S _ _ _ _ s w2 hW2 hby (by have := HLN.out; simp only; omega)).mono ?_
            rintro r w5 ⟨rfl, S5, hw5, ho5, hs5⟩
            have hB : Hid (BackW w len g l (i + 1) w5) := HR.out.step (wr_below b2 hW2 HG.out ho5) HO.out HS.out hlt1 hlt2 ⟨S5, by rw [back_wBytes] at hw5; rw [EQ.out, ← HSS.out]; exact hw5⟩
            clear hw5 ho5 hs5 hby hW2 b2
            go_wp2_with fail
            exact ⟨⟨i + 1, by go_num, by go_num, hB.out⟩, by simp [intOf]; omega⟩
          · have EQ := Lib.hid (E2.out rfl)
            clear E0 E1 E2
            go_wp2_with fail
            refine (HK.out wr hwk (by omega) (by omega)).mono ?_
            rintro r w' ⟨rfl, rfl⟩
            go_wp2_with fail
            refine (wtext_any g g S _ s wr HW.out (by have := HLN.out; simp only; omega)).mono ?_
            rintro r w5 ⟨rfl, S5, hw5, ho5, hs5⟩
            have hB : Hid (BackW w len g l (i + 1) w5) := HR.out.step (wr_below hbr HW.out HG.out ho5) HO.out HS.out hlt1 hlt2 ⟨S5, by rw [back_wText _ _ hle] at hw5; rw [EQ.out, ← HSS.out]; exact hw5⟩
            clear hw5 ho5 hs5
            go_wp2_with fail
            exact ⟨⟨i + 1, by go_num, by go_num, hB.out⟩, by simp [intOf]; omega⟩
        · generalize o.s = s at *
          go_wp2_with fail
          go_meet
          exact ⟨i, rfl, HR.out⟩
      · have HR := Lib.hid hR
        have him := hR.mn
        have hi40 := hR.m40
        clear hR
        rcases (show i = len ∨ (i < len ∧ i = 40) by omega) with rfl | ⟨hlt1, rfl⟩
        all_goals
          go_wp2_with fail
          go_meet
          exact ⟨_, by first | rfl | go_num, HR.out⟩
  case rest =>
    obtain ⟨n, rfl, hR⟩ := hcut
    obtain ⟨S, hW⟩ := hR.wr
    have hln := hR.len_le
    have HW := Lib.hid hW
    have HLN := Lib.hid hln
    have HR := Lib.hid hR
    clear hR hW hln hrel0
    go_wp2_with fail
    refine (show Calls _ _ _ _ (Doned wc _) from done_any g g S _ wc HW.out (by have := HLN.out; simp only; omega)).mono ?_
    rintro r w2 ⟨A2, c2, rfl, hby2, hkc2, hc2, hf2, hb2⟩
    have hd : Cur.wDone ⟨0, encs (l.take n)⟩ = encs (l.take n) := rfl
    rw [hd] at hby2 hkc2
    try rw [hd]
    have HD := Lib.hid hd
    clear hd
    have HBY := Lib.hid hby2
    clear hby2
    go_wp2_with fail
    refine (read_any A2 _ c2 _ w2 HBY.out (by have := HLN.out; omega)).mono ?_
    rintro r w3 ⟨y, rfl, hr3, hy3, hb3⟩
    have hb23 : Below wc.heap.size wc w3 := below_then hb2 hb3
    have hW3 := HW.out.below hb23
    have hrel2 : BackR w len y l n 0 w3 := ⟨by omega, HR.out.mn, HR.out.m40, HR.out.few, below_then HR.out.below hb23, by have := HR.out.below.size; have := hb2.size; omega, by simpa using hr3⟩
    clear hr3
    go_wp2_with fail
    refine (werr_any g g S _ w3 hW3).mono ?_
    rintro r w' ⟨rfl, rfl⟩
    go_wp2_with fail
    have hnl : n ≤ len := hrel2.nl
    clear hW3 hb23 hb2 hb3 hy3 HBY HD HW HLN hkc2 hc2 hf2
    go_loopw [8] (fun i wr => ∃ m : Nat, i = .int .i64 m ∧ BackR w len y l n m wr) (fun i _ => n - (intOf i).toNat)
    case atStart => exact ⟨0, rfl, hrel2⟩
    case round =>
      obtain ⟨i, rfl, hR⟩ := hrel
      clear hrel2
      by_cases hlt2 : i < n
      · have hlt1 : i < len := by omega
        obtain ⟨b, off, o, rfl, hoi, hof, hk0, hx0, hn0, hs0⟩ := HL.out.at_ hlt1
        have hwk := int_of hof.1
        have hwx := int_of hof.2.1
        have hbl := block_lt_of_cell hs0
        have hbr := hR.below
        have ck := (hbr.cell (p := ⟨b, off + i * 4, none⟩) hbl).trans hk0
        have cx := (hbr.cell (p := ⟨b, off + i * 4 + 1, none⟩) hbl).trans hx0
        have cs := (hbr.cell (p := ⟨b, off + i * 4 + 3, none⟩) hbl).trans hs0
        have hq := kindF_bd o.k 3 (by omega)
        have hx := kindF_bd o.x 65536 (by omega)
        have HK := Lib.hid (kind_any o.k 3)
        have HX := Lib.hid (kind_any o.x 65536)
        have hfew : o.s.length ≤ 255 := hR.few o (List.mem_of_getElem? (i := i) (by rw [List.getElem?_take_of_lt hlt2]; exact hoi))
        have hrd := hR.rd
        have hrl := hR.len_le
        rw [encs_drop hoi hlt2] at hrd hrl
        have hE0 := Lib.hid (enc0 (o := o))
        have hE1 := Lib.hid (enc1 (o := o))
        have hE2 := Lib.hid (enc2 (o := o))
        have HR := Lib.hid hR
        have HRD := Lib.hid hrd
        have HRL := Lib.hid hrl
        have hsz := str_size o.s
        have hi0 : (0 : Int) ≤ (i : Int) := by omega
        have hi1 : (i : Int) < (len : Int) := by omega
        have HG : Hid (w.heap.size ≤ y) := hR.wg
        have HCX := Lib.hid hx0
        have HC := Lib.hid hs0
        clear hk0 hx0 hs0 hn0 hoi hof hR hrd hrl
        generalize kindF o.k 3 = q at *
        generalize kindF o.x 65536 = z at *
        generalize encOp o = eo at *
        generalize o.s = s at *
        generalize o.x = ox at *
        have hx1 := hx.1
        have hx2 := hx.2
        rcases (show q = 0 ∨ q = 1 ∨ q = 2 by omega) with rfl | rfl | rfl
        · have HN := Lib.hid (show Calls Try.prog 22 #[.pointer (some ⟨y, 0, none⟩), .int .i64 2] wr.drew fun r w' => r = .returned (.int .i64 z) ∧ RdAt w' y ⟨0, encs ((l.take n).drop (i + 1))⟩ ∧ Only [y] wr w' from
            (num_any y _ 2 wr.drew (rdat_drew HRD.out) (by have := HRL.out; simp only; omega) (by omega)).mono fun r w' h => by
              obtain ⟨h1, h2, h3⟩ := h
              rw [hE0.out rfl, back_rNum2 z _ hx1 hx2] at h1 h2
              exact ⟨by rw [h1, show ((z.toNat : Nat) : Int) = z from by omega], h2, only_undrew3 h3⟩)
          clear HRD hE0 hE1 hE2
          go_wp2_with fail
          refine (HK.out wr hwk (by omega) (by omega)).mono ?_
          rintro r w' ⟨rfl, rfl⟩
          go_wp2_with fail
          go_region_held3 (fun w' => w'.cell? ⟨b, off + i * 4 + 1, none⟩ = some (.int .i64 ox)) (go_keep)
            (first
              | (go_at_call 22; refine HN.out.mono ?_; rintro r w5 ⟨rfl, hr5, ho5⟩; have b5 : Below w.heap.size w w5 := only_below1 hbr ho5 HG.out; have c5 : w5.cell? ⟨b, off + i * 4 + 1, none⟩ = some (.int .i64 ox) := (b5.cell (p := ⟨b, off + i * 4 + 1, none⟩) hbl).trans HCX.out)
              | (go_at_call 10; refine (HX.out _ hwx (by omega) (by omega)).mono ?_; rintro r w' ⟨rfl, rfl⟩))
          all_goals
            have hB : Hid (BackR w len y l n (i + 1) w5) := HR.out.step ho5 hlt2 hr5
            clear hr5 ho5 c5 b5
            go_wp2_with fail
            exact ⟨⟨i + 1, by go_num, hB.out⟩, by simp [intOf]; omega⟩
        · have HB := Lib.hid (show Calls Try.prog 24 #[.pointer (some ⟨y, 0, none⟩), .int .i64 (s.length : Nat)] wr.drew fun r w' => (∃ A c, r = .returned (.slice A s.length c) ∧ Bytes w' A s.length s) ∧ RdAt w' y ⟨0, encs ((l.take n).drop (i + 1))⟩ ∧ Only [y] wr w' from
            (bytes_any y _ (s.length : Nat) wr.drew (rdat_drew HRD.out) (by have := HRL.out; simp only; omega) (by omega)).mono fun r w' h => by
              obtain ⟨A5, k5, c5, h1, h2, _, _, _, h3, h4⟩ := h
              rw [hE1.out rfl, back_rBytes] at h2 h3
              obtain rfl := h2.1
              exact ⟨⟨A5, c5, h1, h2⟩, h3, only_undrew3 h4⟩)
          clear HRD hE0 hE1 hE2
          go_wp2_with fail
          refine (HK.out wr hwk (by omega) (by omega)).mono ?_
          rintro r w' ⟨rfl, rfl⟩
          go_wp2_with fail
          refine wp_region_held_drew (S := fun w' => w'.cell? ⟨b, off + i * 4 + 3, none⟩ = some (.string (str s))) (by kernel_rfl) (by exact cs) (fun hHeld => ?_)
          refine wpAnyH_take (i := 0) (v := (.pointer (some ⟨y, 0, none⟩))) rfl (by kernel_rfl) (by kernel_rfl) (by kernel_rfl) (fun _ _ _ h => h) (Or.inl ⟨by rfl, fun w hSw => by (try dsimp only at hSw); go_simp⟩) hHeld ?_
          try simp only [Act.put, List.setIfInBounds_toArray, List.set_cons_zero, List.set_cons_succ]
          refine wpAnyH_take (i := 1) (v := (.slice (some ⟨b, off, none⟩) len cap)) rfl (by kernel_rfl) (by kernel_rfl) (by kernel_rfl) (fun _ _ _ h => h) (Or.inl ⟨by rfl, fun w hSw => by (try dsimp only at hSw); go_simp⟩) hHeld ?_
          try simp only [Act.put, List.setIfInBounds_toArray, List.set_cons_zero, List.set_cons_succ]
          refine wpAnyH_take (i := 2) (v := (.int .i64 (i : Nat))) rfl (by kernel_rfl) (by kernel_rfl) (by kernel_rfl) (fun _ _ _ h => h) (Or.inl ⟨by rfl, fun w hSw => by (try dsimp only at hSw); go_simp⟩) hHeld ?_
          try simp only [Act.put, List.setIfInBounds_toArray, List.set_cons_zero, List.set_cons_succ]
          refine wpAnyH_take (i := 3) (v := (.pointer (some ⟨b, off + i * 4, none⟩))) rfl (by kernel_rfl) (by kernel_rfl) (by kernel_rfl) (fun _ _ _ h => h) (Or.inl ⟨by rfl, fun w hSw => by (try dsimp only at hSw); go_simp⟩) hHeld ?_
          try simp only [Act.put, List.setIfInBounds_toArray, List.set_cons_zero, List.set_cons_succ]
          refine wpAnyH_take (i := 4) (v := (.pointer (some ⟨b, off + i * 4 + 3, none⟩))) rfl (by kernel_rfl) (by kernel_rfl) (by kernel_rfl) (fun _ _ _ h => h) (Or.inl ⟨by rfl, fun w hSw => by (try dsimp only at hSw); go_simp⟩) hHeld ?_
          try simp only [Act.put, List.setIfInBounds_toArray, List.set_cons_zero, List.set_cons_succ]
          refine wpAnyH_take (i := 5) (v := (.string (str s))) rfl (by kernel_rfl) (by kernel_rfl) (by kernel_rfl) (fun _ _ _ h => h) (Or.inl ⟨by rfl, fun w hSw => by (try dsimp only at hSw); go_simp⟩) hHeld ?_
          try simp only [Act.put, List.setIfInBounds_toArray, List.set_cons_zero, List.set_cons_succ]
          refine wpAnyH_take (i := 9) (v := (.slice (some ⟨b, off, none⟩) len cap)) rfl (by kernel_rfl) (by kernel_rfl) (by kernel_rfl) (fun _ _ _ h => h) (Or.inl ⟨by rfl, fun w hSw => by (try dsimp only at hSw); go_simp⟩) hHeld ?_
          try simp only [Act.put, List.setIfInBounds_toArray, List.set_cons_zero, List.set_cons_succ]
          refine wpAnyH_take (i := 10) (v := (.int .i64 (i : Nat))) rfl (by kernel_rfl) (by kernel_rfl) (by kernel_rfl) (fun _ _ _ h => h) (Or.inl ⟨by rfl, fun w hSw => by (try dsimp only at hSw); go_simp⟩) hHeld ?_
          try simp only [Act.put, List.setIfInBounds_toArray, List.set_cons_zero, List.set_cons_succ]
          refine wpAnyH_take (i := 11) (v := (.pointer (some ⟨b, off + i * 4, none⟩))) rfl (by kernel_rfl) (by kernel_rfl) (by kernel_rfl) (fun _ _ _ h => h) (Or.inl ⟨by rfl, fun w hSw => by (try dsimp only at hSw); go_simp⟩) hHeld ?_
          try simp only [Act.put, List.setIfInBounds_toArray, List.set_cons_zero, List.set_cons_succ]
          refine wpAnyH_take (i := 12) (v := (.pointer (some ⟨b, off + i * 4 + 3, none⟩))) rfl (by kernel_rfl) (by kernel_rfl) (by kernel_rfl) (fun _ _ _ h => h) (Or.inl ⟨by rfl, fun w hSw => by (try dsimp only at hSw); go_simp⟩) hHeld ?_
          try simp only [Act.put, List.setIfInBounds_toArray, List.set_cons_zero, List.set_cons_succ]
          refine wpAnyH_take (i := 13) (v := (.string (str s))) rfl (by kernel_rfl) (by kernel_rfl) (by kernel_rfl) (fun _ _ _ h => h) (Or.inl ⟨by rfl, fun w hSw => by (try dsimp only at hSw); go_simp⟩) hHeld ?_
          try simp only [Act.put, List.setIfInBounds_toArray, List.set_cons_zero, List.set_cons_succ]
          refine wpAnyH_ready (rs := [6]) (by kernel_rfl) (by simp) ?_
          refine AllReadyH.cons rfl (fun K hK => ?_) AllReadyH.nil
          go_simp
          refine hK.out _ _ cs (fun hHeld => ?_)
          clear hK K
          try simp only [Act.put, List.setIfInBounds_toArray, List.set_cons_zero, List.set_cons_succ]
          refine wpAnyH_ready (rs := [7]) (by kernel_rfl) (by simp) ?_
          refine AllReadyH.cons rfl (fun K hK => ?_) AllReadyH.nil
          go_simp
          refine HB.out.mono ?_
          rintro r w5 ⟨⟨A5, c5, rfl, hby5⟩, hr5, ho5⟩
          have b5 : Below w.heap.size w w5 := only_below1 hbr ho5 HG.out
          have d5 : w5.cell? ⟨b, off + i * 4 + 3, none⟩ = some (.string (str s)) := (b5.cell (p := ⟨b, off + i * 4 + 3, none⟩) hbl).trans HC.out
          have v5 := run_string (P := Try.prog) hby5 28 5 9 Try.underlying28 Try.underlying5 Try.underlying9 c5
          go_wp2_with fail
          refine hK.out _ _ d5 (fun hHeld => ?_)
          clear hK K
          try simp only [Act.put, List.setIfInBounds_toArray, List.set_cons_zero, List.set_cons_succ]
          refine wpAnyH_ready (rs := [8]) (by kernel_rfl) (by simp) ?_
          refine AllReadyH.cons rfl (fun K hK => ?_) AllReadyH.nil
          go_simp
          refine hK.out _ _ d5 (fun hHeld => ?_)
          clear hK K
          try simp only [Act.put, List.setIfInBounds_toArray, List.set_cons_zero, List.set_cons_succ]
          refine wpAnyH_ready (rs := [14]) (by kernel_rfl) (by simp) ?_
          refine AllReadyH.cons rfl (fun K hK => ?_) AllReadyH.nil
          go_simp
          refine hK.out _ _ d5 (fun hHeld => ?_)
          clear hK K
          try simp only [Act.put, List.setIfInBounds_toArray, List.set_cons_zero, List.set_cons_succ]
          refine wpAnyH_ready (rs := [15]) (by kernel_rfl) (by simp) ?_
          refine AllReadyH.cons rfl (fun K hK => ?_) AllReadyH.nil
          go_simp
          refine hK.out _ _ d5 (fun hHeld => ?_)
          clear hK K
          try simp only [Act.put, List.setIfInBounds_toArray, List.set_cons_zero, List.set_cons_succ]
          refine wpAnyH_done (by kernel_rfl) ?_ _
          have hB : Hid (BackR w len y l n (i + 1) w5) := HR.out.step ho5 hlt2 hr5
          clear hr5 ho5 b5 d5 v5 hby5 hHeld
          go_wp2_with fail
          exact ⟨⟨i + 1, by go_num, hB.out⟩, by simp [intOf]; omega⟩
        · have HT := Lib.hid (show Calls Try.prog 26 #[.pointer (some ⟨y, 0, none⟩)] wr.drew fun r w' => r = .returned (.string (str s)) ∧ RdAt w' y ⟨0, encs ((l.take n).drop (i + 1))⟩ ∧ Only [y] wr w' from
            (text_any y _ wr.drew (rdat_drew HRD.out) (by have := HRL.out; simp only; omega)).mono fun r w' h => by
              obtain ⟨h1, h2, h3⟩ := h
              rw [hE2.out rfl, back_rText s _ hfew] at h1 h2
              exact ⟨h1, h2, only_undrew3 h3⟩)
          clear HRD hE0 hE1 hE2
          go_wp2_with fail
          refine (HK.out wr hwk (by omega) (by omega)).mono ?_
          rintro r w' ⟨rfl, rfl⟩
          go_wp2_with fail
          go_region_held3 (fun w' => w'.cell? ⟨b, off + i * 4 + 3, none⟩ = some (.string (str s))) (go_keep)
            (first
              | (go_at_call 26; refine HT.out.mono ?_; rintro r w5 ⟨rfl, hr5, ho5⟩; have b5 : Below w.heap.size w w5 := only_below1 hbr ho5 HG.out; have c5 : w5.cell? ⟨b, off + i * 4 + 3, none⟩ = some (.string (str s)) := (b5.cell (p := ⟨b, off + i * 4 + 3, none⟩) hbl).trans HC.out))
          have hB : Hid (BackR w len y l n (i + 1) w5) := HR.out.step ho5 hlt2 hr5
          clear hr5 ho5 c5 b5
          go_wp2_with fail
          exact ⟨⟨i + 1, by go_num, hB.out⟩, by simp [intOf]; omega⟩
      · obtain rfl : i = n := by have := hR.mn; omega
        have hnil : (l.take i).drop i = [] := by rw [List.drop_eq_nil_iff]; exact List.length_take_le _ _
        have hrd := hR.rd
        rw [hnil] at hrd
        have HRD := Lib.hid hrd
        have hbr : Hid (Below w.heap.size w wr) := hR.below
        have HG : Hid (w.heap.size ≤ y) := hR.wg
        have HE := Lib.hid (show Calls Try.prog 30 #[.pointer (some ⟨y, 0, none⟩)] wr fun r w' => r = .returned (.int .i64 0) ∧ Only [y] wr w' from (end_any y _ wr hrd).mono fun r w' h => ⟨h.1, h.2.2⟩)
        have HF := Lib.hid (show Calls Try.prog 28 #[.pointer (some ⟨y, 0, none⟩)] wr fun r w' => r = .returned (.int .i64 0) ∧ wr = w' from left_any y _ wr hrd)
        clear hrd hnil hR
        go_wp2_with fail
        refine HF.out.mono ?_
        rintro r w' ⟨rfl, rfl⟩
        go_wp2_with fail
        refine HE.out.mono ?_
        rintro r w5 ⟨rfl, ho5⟩
        have b5 := only_below1 hbr.out ho5 HG.out
        go_wp2_with fail
        go_ret
        exact ⟨rfl, b5⟩
end Go.Proofs.Ytlopkmkagcofdaa
