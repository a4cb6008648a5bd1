/- Walk of CursorWrites: any calls write as the document says. -/
import Derived.Test.YtlopkmkagcofdaaRows
import Derived.Test.YtlopkmkagcofdaaCurStops
import Derived.Test.YtlopkmkagcofdaaCurRWText
import Derived.Test.YtlopkmkagcofdaaCurWide
import Derived.Deep.RegionHeld3
namespace Go.Proofs.Ytlopkmkagcofdaa
set_option linter.unusedVariables false
set_option linter.unusedSimpArgs false
open Go.RowKit

/-- The program's writer and the document's stand alike. -/
structure Twin (w : World) (B g y : Nat) (S Sy : List Nat) (s : Cur.St) : Prop where
  wr : WrAt w B g S s
  rw : RwAt w B y Sy s
  apart : ∀ k ∈ S, k ∉ Sy
/-- What holds at each round's head. -/
structure WritesRel (w : World) (len B g y m : Nat) (wr : World) : Prop where
  mn : m ≤ len
  m40 : m ≤ 40
  below : Below w.heap.size w wr
  wB : w.heap.size ≤ B
  both : ∃ s S Sy, Twin wr B g y S Sy s ∧ s.bs.length ≤ 304 * m
section
variable {w w' wr w5 w6 : World} {B g y m len : Nat} {S Sy S5 Sy6 : List Nat} {s s' : Cur.St}
theorem Twin.below (h : Twin w B g y S Sy s) (hb : Below w.heap.size w w') : Twin w' B g y S Sy s := ⟨h.wr.below hb, h.rw.below hb, h.apart⟩
theorem Twin.mid (h : Twin wr B g y S Sy s) (ho : Only S wr w5) (hs : ∀ k ∈ S5, k ∈ S ∨ wr.heap.size ≤ k) : RwAt w5 B y Sy s ∧ ∀ k ∈ S5, k ∉ Sy :=
  ⟨h.rw.only ho (fun k hk hin => h.apart k hin hk), fun k hk hin => by
    rcases hs k hk with h1 | h1
    · exact h.apart k h1 hin
    · have := (h.rw.all k hin).2; omega⟩
theorem twin_step (h5 : WrAt w5 B g S5 s') (ap : ∀ k ∈ S5, k ∉ Sy) (h6 : RwAt w6 B y Sy6 s') (ho : Only Sy w5 w6) (hs : ∀ k ∈ Sy6, k ∈ Sy ∨ w5.heap.size ≤ k) : Twin w6 B g y S5 Sy6 s' :=
  ⟨h5.only ho ap, h6, fun k hk hin => by
    rcases hs k hin with h1 | h1
    · exact ap k hk h1
    · have := (h5.all k hk).2; omega⟩
theorem below_by (hb : Below w.heap.size w wr) (hB : w.heap.size ≤ B) (hall : ∀ k ∈ S, B ≤ k ∧ k < w6.heap.size) (ho : Only S wr w5) : Below w.heap.size w w5 :=
  hb.trans (ho.below (fun k hk => Nat.le_trans hB (hall k hk).1) hb.size)
theorem Twin.drew (h : Twin w B g y S Sy s) : Twin w.drew B g y S Sy s := ⟨h.wr, h.rw, h.apart⟩
theorem RwAt.drew {w : World} {B y : Nat} {Sy : List Nat} {s : Cur.St} (h : RwAt w B y Sy s) : RwAt w.drew B y Sy s := h
theorem WrAt.drew {w : World} {B y : Nat} {Sy : List Nat} {s : Cur.St} (h : WrAt w B y Sy s) : WrAt w.drew B y Sy s := h
theorem below_drew2 {B : Nat} {a w : World} (h : Below B a w) : Below B a w.drew := ⟨h.os, h.tape, h.output, h.size, h.block⟩
theorem only_undrew2 (h : Only S w.drew w') : Only S w w' := ⟨h.os, h.tape, h.output, h.size, h.block⟩
theorem new_rwriter (w : World) (B : Nat) (hB : B ≤ w.heap.size) : RwAt (w.alloc (.cells #[.slice none 0 0, .int .i64 ((0 : Nat) : Int)] 33)) B w.heap.size [w.heap.size] ⟨0, []⟩ :=
  ⟨_, Two.new w _ _ _, World.ownsRow_nil _ _ _ _, hB, rfl⟩
theorem writes_start (w1 : World) : Twin ((w1.alloc (.cells #[.int .i64 0, .slice none 0 0] 30)).alloc (.cells #[.slice none 0 0, .int .i64 0] 33)) w1.heap.size w1.heap.size (w1.heap.size + 1) [w1.heap.size] [w1.heap.size + 1] ⟨0, []⟩ := by
  have hs : (w1.alloc (.cells #[.int .i64 ((0 : Nat) : Int), .slice none 0 0] 30)).heap.size = w1.heap.size + 1 := by simp
  have hr := new_rwriter (w1.alloc (.cells #[.int .i64 ((0 : Nat) : Int), .slice none 0 0] 30)) w1.heap.size (by omega)
  rw [hs] at hr
  exact ⟨(new_writer w1).below (below_all.alloc (Nat.le_refl _) _), hr, by simp⟩
theorem wBytes_length (s : Cur.St) (t : List UInt8) : (Cur.wBytes s t).bs.length ≤ s.bs.length + t.length := by
  unfold Cur.wBytes
  split <;> simp
theorem wText_length (s : Cur.St) (t : List UInt8) (ht : t.length ≤ 300) : (Cur.wText s t).bs.length ≤ s.bs.length + 304 := by
  unfold Cur.wText
  split
  · simp
  · have h1 := wBytes_length (Cur.wNum s t.length 1) t
    have h2 := wNum_length s t.length 1
    omega
theorem str_cut (t : List UInt8) (k : Nat) : (str t).extract 0 k = str (t.take k) := by
  apply ByteArray.ext
  simp [str, ByteArray.data_extract]
theorem writes_close {i : Nat} {s6 : Cur.St} (hi : i < len) (hi40 : i < 40) (hB : w.heap.size ≤ B) (hb : Below w.heap.size w w6) (hT : Twin w6 B g y S5 Sy6 s6) (hl : s6.bs.length ≤ 304 * (i + 1)) (h : Below w6.heap.size w6 w') : WritesRel w len B g y (i + 1) w' :=
  ⟨by omega, by omega, below_then hb h, hB, s6, S5, Sy6, hT.below h, hl⟩
theorem writes_end {i : Nat} {s6 : Cur.St} (hi : i < len) (hi40 : i < 40) (hB : w.heap.size ≤ g) (hb : Below w.heap.size w w6) (hT : Twin w6 g g y S5 Sy6 s6) (hl : s6.bs.length ≤ 304 * (i + 1)) (h : Below w6.heap.size w6 w') :
    (∃ m : Nat, Value.int .i64 ((i : Int) + 1) = .int .i64 m ∧ WritesRel w len g g y m w') ∧ 40 - (intOf (.int .i64 ((i : Int) + 1))).toNat < 40 - (intOf (.int .i64 i)).toNat := by
  exact ⟨⟨i + 1, by simp, writes_close hi hi40 hB hb hT hl h⟩, by simp [intOf]; omega⟩
end
set_option maxRecDepth 100000 in
set_option maxHeartbeats 4000000 in
theorem cursorWrites_walk (L : Option Addr) (len cap : Nat) (l : List OpV) (w : World) (hl : OpsIn w L len l ∧ len ≤ cap ∧ cap ≤ maxLen) :
    Calls Try.prog 3 #[.slice L len cap] w fun e w' => e = .returned (.bool true) ∧ Below w.heap.size w w' := by
  obtain ⟨hl, hlc, hlm⟩ := hl
  have hlm : cap ≤ 9223372036854775807 := by simpa [maxLen] using hlm
  have HL := Lib.hid hl
  clear hl
  go_enter Try.func3, Try.ntmps3
  go_wp2_with fail
  refine (shown_any w).mono ?_
  rintro r w1 ⟨rfl, hb1⟩
  have hs1 := hb1.size
  have hrel0 : WritesRel w len w1.heap.size w1.heap.size (w1.heap.size + 1) 0 ((w1.alloc (.cells #[.int .i64 0, .slice none 0 0] 30)).alloc (.cells #[.slice none 0 0, .int .i64 0] 33)) :=
    ⟨by omega, by omega, (hb1.alloc hs1 _).alloc (by simp; omega) _, hs1, _, _, _, writes_start w1, by simp⟩
  clear hb1
  go_wp2_with fail
  generalize w1.heap.size = g at *
  go_loopw [6] (fun i wr => ∃ m : Nat, i = .int .i64 m ∧ WritesRel w len g g (g + 1) m wr) (fun i _ => 40 - (intOf i).toNat)
  case atStart => exact ⟨0, rfl, hrel0⟩
  case round =>
    obtain ⟨i, rfl, hR⟩ := hrel
    have hbr := hR.below
    have hsr := hbr.size
    obtain ⟨s, S, Sy, hT, hlen⟩ := hR.both
    clear hrel0
    have him := hR.mn
    have hi40 := hR.m40
    have HW : Hid (w.heap.size ≤ g) := hR.wB
    clear hR
    obtain ⟨y, hy⟩ : ∃ y, y = g + 1 := ⟨_, rfl⟩
    rw [← hy] at hT
    have HY := Lib.hid hy
    try simp only [← hy]
    clear hy
    by_cases hcase : i < len ∧ i < 40
    · obtain ⟨hlt1, hlt2⟩ := hcase
      obtain ⟨b, off, o, rfl, hoi, hof, hk0, hx0, hn0, hs0⟩ := HL.out.at_ hlt1
      have hwk := int_of hof.1
      have hwx := int_of hof.2.1
      have hwn := int_of hof.2.2.1
      have hbl := block_lt_of_cell hn0
      have ck := (hbr.cell (p := ⟨b, off + i * 4, none⟩) hbl).trans hk0
      have cx := (hbr.cell (p := ⟨b, off + i * 4 + 1, none⟩) hbl).trans hx0
      have cn := (hbr.cell (p := ⟨b, off + i * 4 + 2, none⟩) hbl).trans hn0
      have cs := (hbr.cell (p := ⟨b, off + i * 4 + 3, none⟩) hbl).trans hs0
      have hq := kindF_bd o.k 3 (by omega)
      have HK := Lib.hid (kind_any o.k 3)
      have HX := Lib.hid hx0
      have HN := Lib.hid hn0
      have HT := Lib.hid hT
      have HS := Lib.hid hlen
      have hi0 : (0 : Int) ≤ (i : Int) := by omega
      have hi1 : (i : Int) < (len : Int) := by omega
      clear hk0 hx0 hs0 hn0 hoi hof hT hlen
      generalize o.n = on at *
      generalize o.x = ox at *
      generalize o.k = ok at *
      generalize o.s = os at *
      generalize kindF ok 3 = q at *
      have hsz := str_size os
      have hcut := str_cut os 300
      obtain ⟨t, ht⟩ : ∃ t, t = os.take 300 := ⟨_, rfl⟩
      have htl : t.length ≤ 300 := by rw [ht, List.length_take]; omega
      rw [← ht] at hcut
      have hcv := run_bytes_of t
      have hcase : (os.length ≤ 300 ∧ t = os) ∨ (300 < os.length) := by
        rcases Nat.lt_or_ge 300 os.length with h | h
        · exact .inr h
        · exact .inl ⟨h, by rw [ht, List.take_of_length_le h]⟩
      clear ht
      rcases hcase with ⟨hle, rfl⟩ | hgt
      all_goals
        rcases (show q = 0 ∨ q = 1 ∨ q = 2 by omega) with rfl | rfl | rfl
        · go_wp2_with fail
          refine (HK.out wr hwk (by omega) (by omega)).mono ?_
          rintro r w' ⟨rfl, rfl⟩
          go_wp2_with fail
          go_region_held3 (fun w' => w'.cell? ⟨b, off + i * 4 + 1, none⟩ = some (.int .i64 ox) ∧ w'.cell? ⟨b, off + i * 4 + 2, none⟩ = some (.int .i64 on)) (go_keep)
            (first
              | (go_at_call 11; refine (wnum_any _ g S s ox on _ HT.out.drew.wr (by have := HS.out; omega) hwx hwn).mono ?_; rintro r w5 ⟨rfl, S5, hw5, ho5, hs5⟩; have b5 : Below w.heap.size w w5 := below_by (below_drew2 hbr) HW.out HT.out.drew.wr.all ho5; have c5 : w5.cell? ⟨b, off + i * 4 + 1, none⟩ = some (.int .i64 ox) := (b5.cell (p := ⟨b, off + i * 4 + 1, none⟩) hbl).trans HX.out; have d5 : w5.cell? ⟨b, off + i * 4 + 2, none⟩ = some (.int .i64 on) := (b5.cell (p := ⟨b, off + i * 4 + 2, none⟩) hbl).trans HN.out))
          obtain ⟨hr5, hap5⟩ := HT.out.drew.mid ho5 hs5
          go_wp2_with fail
          go_region_held3 (fun w' => w'.cell? ⟨b, off + i * 4 + 1, none⟩ = some (.int .i64 ox) ∧ w'.cell? ⟨b, off + i * 4 + 2, none⟩ = some (.int .i64 on)) (go_keep)
            (first
              | (go_at_call 12; refine (rwnum_any _ y Sy s ox on _ hr5.drew (by have := HS.out; omega) hwx hwn).mono ?_; rintro r w6 ⟨rfl, Sy6, hw6, ho6, hs6⟩; have b6 : Below w.heap.size w w6 := below_by (below_drew2 b5) HW.out hr5.all ho6; have c6 : w6.cell? ⟨b, off + i * 4 + 1, none⟩ = some (.int .i64 ox) := (b6.cell (p := ⟨b, off + i * 4 + 1, none⟩) hbl).trans HX.out; have d6 : w6.cell? ⟨b, off + i * 4 + 2, none⟩ = some (.int .i64 on) := (b6.cell (p := ⟨b, off + i * 4 + 2, none⟩) hbl).trans HN.out))
          have HT6 := Lib.hid (twin_step hw5.drew hap5 hw6 ho6 hs6)
          have HS6 : Hid ((Cur.wNum s ox on).bs.length ≤ 304 * (i + 1)) := by have := HS.out; have := wNum_length s ox on; show (_ : Nat) ≤ _; omega
          have HB6 := Lib.hid b6
          clear c5 d5 c6 d6 b5 b6 hw5 ho5 hs5 hr5 hap5 hw6 ho6 hs6
          generalize Cur.wNum s ox on = s6 at *
          have hye : w6.cell? ⟨y, 1, none⟩ = some (.int .i64 (s6.e : Nat)) := by obtain ⟨v, ht, _⟩ := HT6.out.rw; exact ht.c1
          have hye6 := (below_all : Below w6.heap.size w6 w6)
          obtain ⟨e6, he6⟩ : ∃ e6, e6 = s6.e := ⟨_, rfl⟩
          obtain ⟨d6, hd6⟩ : ∃ d6, d6 = (Cur.wDone s6).length := ⟨_, rfl⟩
          have hyl : y < w6.heap.size := block_lt_of_cell hye
          have hd2 : d6 ≤ 304 * 40 := by rw [hd6]; unfold Cur.wDone; have := HS6.out; split <;> simp <;> omega
          rw [← he6] at hye
          have HE : Hid (∀ w', (w'.cell? ⟨y, 1, none⟩ = some (.int .i64 (e6 : Nat)) ∧ Below w6.heap.size w6 w') → Calls Try.prog 17 #[.pointer (some ⟨g, 0, none⟩)] w' fun r w'' => r = .returned (.int .i64 (e6 : Nat)) ∧ (w''.cell? ⟨y, 1, none⟩ = some (.int .i64 (e6 : Nat)) ∧ Below w6.heap.size w6 w'')) :=
            fun w' h => (werr_any _ g _ s6 w' (HT6.out.below h.2).wr).mono fun r w'' k => by obtain ⟨rfl, rfl⟩ := k; exact ⟨by rw [he6], h⟩
          have HN6 : Hid (∀ w', (w'.cell? ⟨y, 1, none⟩ = some (.int .i64 (e6 : Nat)) ∧ Below w6.heap.size w6 w') → Calls Try.prog 18 #[.pointer (some ⟨g, 0, none⟩)] w' fun r w'' => r = .returned (.int .i64 (d6 : Nat)) ∧ (w''.cell? ⟨y, 1, none⟩ = some (.int .i64 (e6 : Nat)) ∧ Below w6.heap.size w6 w'')) :=
            fun w' h => (len_any _ g _ s6 w' (HT6.out.below h.2).wr (by have := HS6.out; omega)).mono fun r w'' k => by obtain ⟨rfl, hb⟩ := k; exact ⟨by rw [hd6], (hb.cell (p := ⟨y, 1, none⟩) (block_lt_of_cell h.1)).trans h.1, below_then h.2 hb⟩
          have HD6 : Hid (∀ w', (w'.cell? ⟨y, 1, none⟩ = some (.int .i64 (e6 : Nat)) ∧ Below w6.heap.size w6 w') → Calls Try.prog 19 #[.pointer (some ⟨y, 0, none⟩)] w' fun r w'' => (∃ A c, r = .returned (.slice A d6 c)) ∧ (w''.cell? ⟨y, 1, none⟩ = some (.int .i64 (e6 : Nat)) ∧ Below w6.heap.size w6 w'')) :=
            fun w' h => (rdone_any _ y _ s6 w' (HT6.out.below h.2).rw (by have := HS6.out; omega)).mono fun r w'' k => by obtain ⟨A, c, rfl, _, _, _, _, hb⟩ := k; exact ⟨⟨A, c, by rw [hd6]⟩, (hb.cell (p := ⟨y, 1, none⟩) (block_lt_of_cell h.1)).trans h.1, below_then h.2 hb⟩
          have hy6 : w6.drew.cell? ⟨y, 1, none⟩ = some (.int .i64 (e6 : Nat)) ∧ Below w6.heap.size w6 w6.drew := ⟨hye, below_drew2 below_all⟩
          clear hye hye6 he6 hd6
          go_wp2_with fail
          go_region_held3 (fun w' => w'.cell? ⟨y, 1, none⟩ = some (.int .i64 (e6 : Nat)) ∧ Below w6.heap.size w6 w') (assumption)
            (first
              | (go_at_call 17; refine (HE.out _ (by assumption)).mono ?_; rintro r w7 ⟨rfl, h7⟩)
              | (go_at_call 18; refine (HN6.out _ (by assumption)).mono ?_; rintro r w8 ⟨rfl, h8⟩)
              | (go_at_call 19; refine (HD6.out _ (by assumption)).mono ?_; rintro r w9 ⟨⟨A9, c9, rfl⟩, h9⟩))
          all_goals
            go_wp2_with fail
            first
              | exact writes_end hlt1 hlt2 HW.out HB6.out HT6.out HS6.out h9.2
              | exact writes_end hlt1 hlt2 HW.out HB6.out HT6.out HS6.out h8.2
        · go_wp2_with fail
          refine (HK.out wr hwk (by omega) (by omega)).mono ?_
          rintro r w' ⟨rfl, rfl⟩
          go_wp2_with fail
          have hbw := bytesWorld_below wr 5 (str t)
          have hby := bytesWorld_bytes wr 5 t
          have HTw := Lib.hid (HT.out.below hbw)
          have b2 : Below w.heap.size w (Lib.bytesWorld wr 5 (str t)) := below_then hbr hbw
          clear hbw
          generalize Lib.bytesWorld wr 5 (str t) = w2 at *
          refine (wbytes_any _ g S s _ _ _ t w2 HTw.out.wr hby (by have := HS.out; omega)).mono ?_
          rintro r w5 ⟨rfl, S5, hw5, ho5, hs5⟩
          have b5 : Below w.heap.size w w5 := below_by b2 HW.out HTw.out.wr.all ho5
          obtain ⟨hr5, hap5⟩ := HTw.out.mid ho5 hs5
          go_wp2_with fail
          have hbw := bytesWorld_below w5 5 (str t)
          have hby := bytesWorld_bytes w5 5 t
          have hw5' := hw5.below hbw
          have hr5' := hr5.below hbw
          have b5' : Below w.heap.size w (Lib.bytesWorld w5 5 (str t)) := below_then b5 hbw
          clear hbw
          generalize Lib.bytesWorld w5 5 (str t) = w3 at *
          refine (rwbytes_any _ y Sy s _ _ _ t w3 hr5' hby (by have := HS.out; omega)).mono ?_
          rintro r w6 ⟨rfl, Sy6, hw6, ho6, hs6⟩
          have HB6 : Hid (Below w.heap.size w w6) := below_by b5' HW.out hr5'.all ho6
          have HT6 := Lib.hid (twin_step hw5' hap5 hw6 ho6 hs6)
          have HS6 : Hid ((Cur.wBytes s t).bs.length ≤ 304 * (i + 1)) := by have := HS.out; have := wBytes_length s t; show (_ : Nat) ≤ _; omega
          clear b2 b5 b5' hw5 ho5 hs5 hr5 hap5 hw6 ho6 hs6 hw5' hr5' hby HTw
          go_wp2_with fail
          generalize Cur.wBytes s t = s6 at *
          have hye : w6.cell? ⟨y, 1, none⟩ = some (.int .i64 (s6.e : Nat)) := by obtain ⟨v, ht, _⟩ := HT6.out.rw; exact ht.c1
          have hye6 := (below_all : Below w6.heap.size w6 w6)
          obtain ⟨e6, he6⟩ : ∃ e6, e6 = s6.e := ⟨_, rfl⟩
          obtain ⟨d6, hd6⟩ : ∃ d6, d6 = (Cur.wDone s6).length := ⟨_, rfl⟩
          have hyl : y < w6.heap.size := block_lt_of_cell hye
          have hd2 : d6 ≤ 304 * 40 := by rw [hd6]; unfold Cur.wDone; have := HS6.out; split <;> simp <;> omega
          rw [← he6] at hye
          have HE : Hid (∀ w', (w'.cell? ⟨y, 1, none⟩ = some (.int .i64 (e6 : Nat)) ∧ Below w6.heap.size w6 w') → Calls Try.prog 17 #[.pointer (some ⟨g, 0, none⟩)] w' fun r w'' => r = .returned (.int .i64 (e6 : Nat)) ∧ (w''.cell? ⟨y, 1, none⟩ = some (.int .i64 (e6 : Nat)) ∧ Below w6.heap.size w6 w'')) :=
            fun w' h => (werr_any _ g _ s6 w' (HT6.out.below h.2).wr).mono fun r w'' k => by obtain ⟨rfl, rfl⟩ := k; exact ⟨by rw [he6], h⟩
          have HN6 : Hid (∀ w', (w'.cell? ⟨y, 1, none⟩ = some (.int .i64 (e6 : Nat)) ∧ Below w6.heap.size w6 w') → Calls Try.prog 18 #[.pointer (some ⟨g, 0, none⟩)] w' fun r w'' => r = .returned (.int .i64 (d6 : Nat)) ∧ (w''.cell? ⟨y, 1, none⟩ = some (.int .i64 (e6 : Nat)) ∧ Below w6.heap.size w6 w'')) :=
            fun w' h => (len_any _ g _ s6 w' (HT6.out.below h.2).wr (by have := HS6.out; omega)).mono fun r w'' k => by obtain ⟨rfl, hb⟩ := k; exact ⟨by rw [hd6], (hb.cell (p := ⟨y, 1, none⟩) (block_lt_of_cell h.1)).trans h.1, below_then h.2 hb⟩
          have HD6 : Hid (∀ w', (w'.cell? ⟨y, 1, none⟩ = some (.int .i64 (e6 : Nat)) ∧ Below w6.heap.size w6 w') → Calls Try.prog 19 #[.pointer (some ⟨y, 0, none⟩)] w' fun r w'' => (∃ A c, r = .returned (.slice A d6 c)) ∧ (w''.cell? ⟨y, 1, none⟩ = some (.int .i64 (e6 : Nat)) ∧ Below w6.heap.size w6 w'')) :=
            fun w' h => (rdone_any _ y _ s6 w' (HT6.out.below h.2).rw (by have := HS6.out; omega)).mono fun r w'' k => by obtain ⟨A, c, rfl, _, _, _, _, hb⟩ := k; exact ⟨⟨A, c, by rw [hd6]⟩, (hb.cell (p := ⟨y, 1, none⟩) (block_lt_of_cell h.1)).trans h.1, below_then h.2 hb⟩
          have hy6 : w6.drew.cell? ⟨y, 1, none⟩ = some (.int .i64 (e6 : Nat)) ∧ Below w6.heap.size w6 w6.drew := ⟨hye, below_drew2 below_all⟩
          clear hye hye6 he6 hd6
          go_wp2_with fail
          go_region_held3 (fun w' => w'.cell? ⟨y, 1, none⟩ = some (.int .i64 (e6 : Nat)) ∧ Below w6.heap.size w6 w') (assumption)
            (first
              | (go_at_call 17; refine (HE.out _ (by assumption)).mono ?_; rintro r w7 ⟨rfl, h7⟩)
              | (go_at_call 18; refine (HN6.out _ (by assumption)).mono ?_; rintro r w8 ⟨rfl, h8⟩)
              | (go_at_call 19; refine (HD6.out _ (by assumption)).mono ?_; rintro r w9 ⟨⟨A9, c9, rfl⟩, h9⟩))
          all_goals
            go_wp2_with fail
            first
              | exact writes_end hlt1 hlt2 HW.out HB6.out HT6.out HS6.out h9.2
              | exact writes_end hlt1 hlt2 HW.out HB6.out HT6.out HS6.out h8.2
        · go_wp2_with fail
          refine (HK.out wr hwk (by omega) (by omega)).mono ?_
          rintro r w' ⟨rfl, rfl⟩
          go_wp2_with fail
          refine (wtext_any _ g S s t wr HT.out.wr (by have := HS.out; omega)).mono ?_
          rintro r w5 ⟨rfl, S5, hw5, ho5, hs5⟩
          have b5 : Below w.heap.size w w5 := below_by hbr HW.out HT.out.wr.all ho5
          obtain ⟨hr5, hap5⟩ := HT.out.mid ho5 hs5
          go_wp2_with fail
          refine (rwtext_any _ y Sy s t w5 hr5 (by have := HS.out; omega)).mono ?_
          rintro r w6 ⟨rfl, Sy6, hw6, ho6, hs6⟩
          have HB6 : Hid (Below w.heap.size w w6) := below_by b5 HW.out hr5.all ho6
          have HT6 := Lib.hid (twin_step hw5 hap5 hw6 ho6 hs6)
          have HS6 : Hid ((Cur.wText s t).bs.length ≤ 304 * (i + 1)) := by have := HS.out; have := wText_length s t htl; show (_ : Nat) ≤ _; omega
          clear b5 hw5 ho5 hs5 hr5 hap5 hw6 ho6 hs6
          go_wp2_with fail
          generalize Cur.wText s t = s6 at *
          have hye : w6.cell? ⟨y, 1, none⟩ = some (.int .i64 (s6.e : Nat)) := by obtain ⟨v, ht, _⟩ := HT6.out.rw; exact ht.c1
          have hye6 := (below_all : Below w6.heap.size w6 w6)
          obtain ⟨e6, he6⟩ : ∃ e6, e6 = s6.e := ⟨_, rfl⟩
          obtain ⟨d6, hd6⟩ : ∃ d6, d6 = (Cur.wDone s6).length := ⟨_, rfl⟩
          have hyl : y < w6.heap.size := block_lt_of_cell hye
          have hd2 : d6 ≤ 304 * 40 := by rw [hd6]; unfold Cur.wDone; have := HS6.out; split <;> simp <;> omega
          rw [← he6] at hye
          have HE : Hid (∀ w', (w'.cell? ⟨y, 1, none⟩ = some (.int .i64 (e6 : Nat)) ∧ Below w6.heap.size w6 w') → Calls Try.prog 17 #[.pointer (some ⟨g, 0, none⟩)] w' fun r w'' => r = .returned (.int .i64 (e6 : Nat)) ∧ (w''.cell? ⟨y, 1, none⟩ = some (.int .i64 (e6 : Nat)) ∧ Below w6.heap.size w6 w'')) :=
            fun w' h => (werr_any _ g _ s6 w' (HT6.out.below h.2).wr).mono fun r w'' k => by obtain ⟨rfl, rfl⟩ := k; exact ⟨by rw [he6], h⟩
          have HN6 : Hid (∀ w', (w'.cell? ⟨y, 1, none⟩ = some (.int .i64 (e6 : Nat)) ∧ Below w6.heap.size w6 w') → Calls Try.prog 18 #[.pointer (some ⟨g, 0, none⟩)] w' fun r w'' => r = .returned (.int .i64 (d6 : Nat)) ∧ (w''.cell? ⟨y, 1, none⟩ = some (.int .i64 (e6 : Nat)) ∧ Below w6.heap.size w6 w'')) :=
            fun w' h => (len_any _ g _ s6 w' (HT6.out.below h.2).wr (by have := HS6.out; omega)).mono fun r w'' k => by obtain ⟨rfl, hb⟩ := k; exact ⟨by rw [hd6], (hb.cell (p := ⟨y, 1, none⟩) (block_lt_of_cell h.1)).trans h.1, below_then h.2 hb⟩
          have HD6 : Hid (∀ w', (w'.cell? ⟨y, 1, none⟩ = some (.int .i64 (e6 : Nat)) ∧ Below w6.heap.size w6 w') → Calls Try.prog 19 #[.pointer (some ⟨y, 0, none⟩)] w' fun r w'' => (∃ A c, r = .returned (.slice A d6 c)) ∧ (w''.cell? ⟨y, 1, none⟩ = some (.int .i64 (e6 : Nat)) ∧ Below w6.heap.size w6 w'')) :=
            fun w' h => (rdone_any _ y _ s6 w' (HT6.out.below h.2).rw (by have := HS6.out; omega)).mono fun r w'' k => by obtain ⟨A, c, rfl, _, _, _, _, hb⟩ := k; exact ⟨⟨A, c, by rw [hd6]⟩, (hb.cell (p := ⟨y, 1, none⟩) (block_lt_of_cell h.1)).trans h.1, below_then h.2 hb⟩
          have hy6 : w6.drew.cell? ⟨y, 1, none⟩ = some (.int .i64 (e6 : Nat)) ∧ Below w6.heap.size w6 w6.drew := ⟨hye, below_drew2 below_all⟩
          clear hye hye6 he6 hd6
          go_wp2_with fail
          go_region_held3 (fun w' => w'.cell? ⟨y, 1, none⟩ = some (.int .i64 (e6 : Nat)) ∧ Below w6.heap.size w6 w') (assumption)
            (first
              | (go_at_call 17; refine (HE.out _ (by assumption)).mono ?_; rintro r w7 ⟨rfl, h7⟩)
              | (go_at_call 18; refine (HN6.out _ (by assumption)).mono ?_; rintro r w8 ⟨rfl, h8⟩)
              | (go_at_call 19; refine (HD6.out _ (by assumption)).mono ?_; rintro r w9 ⟨⟨A9, c9, rfl⟩, h9⟩))
          all_goals
            go_wp2_with fail
            first
              | exact writes_end hlt1 hlt2 HW.out HB6.out HT6.out HS6.out h9.2
              | exact writes_end hlt1 hlt2 HW.out HB6.out HT6.out HS6.out h8.2
    · have HT := Lib.hid hT
      have HS := Lib.hid hlen
      clear hT hlen
      rcases (show i = len ∨ (i < len ∧ i = 40) by omega) with rfl | ⟨hlt1, rfl⟩
      all_goals
        go_wp2_with fail
        refine wp_region_any (by kernel_rfl) ?_
        change wpAny _ _ _ _ _ _ _ (World.drew _)
        refine wpAny_take (i := 0) (v := .bool true) rfl (by kernel_rfl) (by kernel_rfl) (by kernel_rfl) (fun _ _ _ h => h) (Or.inl ⟨by rfl, fun w => by go_simp⟩) ?_
        refine wpAny_take (i := 1) (v := .bool true) rfl (by kernel_rfl) (by kernel_rfl) (by kernel_rfl) (fun _ _ _ h => h) (Or.inl ⟨by rfl, fun w => by go_simp⟩) ?_
        refine wpAny_take (i := 2) (v := .pointer (some ⟨g, 0, none⟩)) rfl (by kernel_rfl) (by kernel_rfl) (by kernel_rfl) (fun _ _ _ h => h) (Or.inl ⟨by rfl, fun w => by go_simp⟩) ?_
        refine wpAny_take (i := 5) (v := .pointer (some ⟨y, 0, none⟩)) rfl (by kernel_rfl) (by kernel_rfl) (by kernel_rfl) (fun _ _ _ h => h) (Or.inl ⟨by rfl, fun w => by go_simp⟩) ?_
        refine wpAny_ready (rs := [3]) (by kernel_rfl) (by simp) ?_
        refine AllReady.cons rfl (fun K hK => ?_) AllReady.nil
        go_simp
        refine (done_any _ g S s wr.drew HT.out.drew.wr (by have := HS.out; omega)).mono ?_
        rintro r w7 ⟨A7, c7, rfl, hby7, _, _, _, hbel7⟩
        have v7 := run_string (P := Try.prog) hby7 28 5 9 Try.underlying28 Try.underlying5 Try.underlying9 c7
        go_wp2_with fail
        try (refine hK _ _ ?_; clear hK K)
        refine wpAny_ready (rs := [4, 6]) (by kernel_rfl) (by simp) ?_
        refine AllReady.cons rfl (fun K hK => ?_) (AllReady.cons rfl (fun K hK => ?_) AllReady.nil)
        · go_simp
          try (refine hK _ _ ?_; clear hK K)
          refine wpAny_ready (rs := [6]) (by kernel_rfl) (by simp) ?_
          refine AllReady.cons rfl (fun K hK => ?_) AllReady.nil
          go_simp
          refine (rdone_any _ y Sy s w7 (HT.out.drew.below hbel7).rw (by have := HS.out; omega)).mono ?_
          rintro r w8 ⟨A8, c8, rfl, hby8, _, _, _, hbel8⟩
          have v8 := run_string (P := Try.prog) hby8 28 5 9 Try.underlying28 Try.underlying5 Try.underlying9 c8
          have v78 := run_string (P := Try.prog) (hby7.below hbel8) 28 5 9 Try.underlying28 Try.underlying5 Try.underlying9 c7
          generalize Cur.wDone s = D at *
          go_wp2_with fail
          try (refine hK _ _ ?_; clear hK K)
          refine wpAny_ready (rs := [7]) (by kernel_rfl) (by simp) ?_
          refine AllReady.cons rfl (fun K hK => ?_) AllReady.nil
          go_simp
          try (refine hK _ _ ?_; clear hK K)
          refine wpAny_ready (rs := [8]) (by kernel_rfl) (by simp) ?_
          refine AllReady.cons rfl (fun K hK => ?_) AllReady.nil
          go_simp
          try (refine hK _ _ ?_; clear hK K)
          refine wpAny_ready (rs := [9]) (by kernel_rfl) (by simp) ?_
          refine AllReady.cons rfl (fun K hK => ?_) AllReady.nil
          go_simp
          try (refine hK _ _ ?_; clear hK K)
          refine wpAny_ready (rs := [10]) (by kernel_rfl) (by simp) ?_
          refine AllReady.cons rfl (fun K hK => ?_) AllReady.nil
          go_simp
          try (refine hK _ _ ?_; clear hK K)
          refine wpAny_done (by kernel_rfl) ?_ _
          go_wp2_with fail
          go_ret
          exact ⟨rfl, below_then (below_then (below_drew2 hbr) hbel7) hbel8⟩
        · go_simp
          refine (rdone_any _ y Sy s w7 (HT.out.drew.below hbel7).rw (by have := HS.out; omega)).mono ?_
          rintro r w8 ⟨A8, c8, rfl, hby8, _, _, _, hbel8⟩
          have v8 := run_string (P := Try.prog) hby8 28 5 9 Try.underlying28 Try.underlying5 Try.underlying9 c8
          have v78 := run_string (P := Try.prog) (hby7.below hbel8) 28 5 9 Try.underlying28 Try.underlying5 Try.underlying9 c7
          generalize Cur.wDone s = D at *
          go_wp2_with fail
          try (refine hK _ _ ?_; clear hK K)
          refine wpAny_ready (rs := [4, 7]) (by kernel_rfl) (by simp) ?_
          refine AllReady.cons rfl (fun K hK => ?_) (AllReady.cons rfl (fun K hK => ?_) AllReady.nil)
          · go_simp
            try (refine hK _ _ ?_; clear hK K)
            refine wpAny_ready (rs := [7]) (by kernel_rfl) (by simp) ?_
            refine AllReady.cons rfl (fun K hK => ?_) AllReady.nil
            go_simp
            try (refine hK _ _ ?_; clear hK K)
            refine wpAny_ready (rs := [8]) (by kernel_rfl) (by simp) ?_
            refine AllReady.cons rfl (fun K hK => ?_) AllReady.nil
            go_simp
            try (refine hK _ _ ?_; clear hK K)
            refine wpAny_ready (rs := [9]) (by kernel_rfl) (by simp) ?_
            refine AllReady.cons rfl (fun K hK => ?_) AllReady.nil
            go_simp
            try (refine hK _ _ ?_; clear hK K)
            refine wpAny_ready (rs := [10]) (by kernel_rfl) (by simp) ?_
            refine AllReady.cons rfl (fun K hK => ?_) AllReady.nil
            go_simp
            try (refine hK _ _ ?_; clear hK K)
            refine wpAny_done (by kernel_rfl) ?_ _
            go_wp2_with fail
            go_ret
            exact ⟨rfl, below_then (below_then (below_drew2 hbr) hbel7) hbel8⟩
          · go_simp
            try (refine hK _ _ ?_; clear hK K)
            refine wpAny_ready (rs := [4]) (by kernel_rfl) (by simp) ?_
            refine AllReady.cons rfl (fun K hK => ?_) AllReady.nil
            go_simp
            try (refine hK _ _ ?_; clear hK K)
            refine wpAny_ready (rs := [8]) (by kernel_rfl) (by simp) ?_
            refine AllReady.cons rfl (fun K hK => ?_) AllReady.nil
            go_simp
            try (refine hK _ _ ?_; clear hK K)
            refine wpAny_ready (rs := [9]) (by kernel_rfl) (by simp) ?_
            refine AllReady.cons rfl (fun K hK => ?_) AllReady.nil
            go_simp
            try (refine hK _ _ ?_; clear hK K)
            refine wpAny_ready (rs := [10]) (by kernel_rfl) (by simp) ?_
            refine AllReady.cons rfl (fun K hK => ?_) AllReady.nil
            go_simp
            try (refine hK _ _ ?_; clear hK K)
            refine wpAny_done (by kernel_rfl) ?_ _
            go_wp2_with fail
            go_ret
            exact ⟨rfl, below_then (below_then (below_drew2 hbr) hbel7) hbel8⟩
end Go.Proofs.Ytlopkmkagcofdaa
