/- The walk of the law CrcAffine. -/
import Derived.Test.YtomijekbkamcbaaRows
import Derived.Test.YtomijekbkamcbaaCrcShown
import Derived.Test.YtomijekbkamcbaaCrcSumsWalk
import Derived.WalkKit
import Derived.WalkSpells
import Derived.WalkLawsBesides
import Derived.Lib.Hide
import Derived.Lib.SmallJoins
import Derived.Deep.QuietTactic
import Derived.BigQuiet
import Derived.Deep.RegionHeld3
import Derived.Deep.AppendLies
import Derived.StillTactics
namespace Go.Proofs.Ytomijekbkamcbaa
set_option linter.unusedVariables false
set_option linter.unusedSimpArgs false
open Go.RowKit



def xor3 (xs ys zs : List UInt8) : List UInt8 := (xs.zip (ys.zip zs)).map fun p => p.1 ^^^ p.2.1 ^^^ p.2.2
theorem xor3_length {xs ys zs : List UInt8} {n : Nat} (h1 : xs.length = n) (h2 : ys.length = n) (h3 : zs.length = n) : (xor3 xs ys zs).length = n := by simp [xor3]; omega
theorem xor3_at {xs ys zs : List UInt8} {n : Nat} (h1 : xs.length = n) (h2 : ys.length = n) (h3 : zs.length = n) (m : Nat) (hm : m < n) :
    (xor3 xs ys zs).take (m + 1) = (xor3 xs ys zs).take m ++ [xs.getD m 0 ^^^ ys.getD m 0 ^^^ zs.getD m 0] := by
  rw [take_snoc _ m (by rw [xor3_length h1 h2 h3]; exact hm)]
  congr 2
  simp [xor3, List.getD_eq_getElem?_getD, List.getElem?_zip_eq_some, List.getElem?_eq_getElem (show m < xs.length by omega), List.getElem?_eq_getElem (show m < ys.length by omega), List.getElem?_eq_getElem (show m < zs.length by omega), h1, h2, h3, hm]
theorem xor_byte (a b : UInt8) : bits .xor .u8 (a.toNat : Int) (b.toNat : Int) = ((a ^^^ b).toNat : Nat) := by
  rw [u8_xor_nat _ _ (by have := a.toNat_lt; omega) (by have := b.toNat_lt; omega), UInt8.toNat_xor]
theorem run_min4 (a b c : Nat) (ts : Array TypeId) (t : TypeId) (n : Nat) (hn : n = min (min (min a b) c) 400) (W : World) :
    (Builtin.min_ ts t #[.int .i64 (a : Int), .int .i64 (b : Int), .int .i64 (c : Int), .int .i64 400]).run Try.prog W = .ok (.int .i64 (n : Int)) W := by
  simp [Builtin.min_, Builtin.min2]
  rw [hn]
  repeat (split)
  all_goals omega

set_option maxRecDepth 100000 in
set_option maxHeartbeats 1000000 in
theorem crcAffine_walk (A : Option Addr) (na ca : Nat) (xs : List UInt8) (B : Option Addr) (nb cb : Nat) (ys : List UInt8) (C : Option Addr) (nc cc : Nat) (zs : List UInt8) (w : World)
    (ha : Bytes w A na xs ∧ na ≤ ca ∧ ca ≤ maxLen) (hb : Bytes w B nb ys ∧ nb ≤ cb ∧ cb ≤ maxLen) (hc : Bytes w C nc zs ∧ nc ≤ cc ∧ cc ≤ maxLen) :
    Calls Try.prog 8 #[.slice A na ca, .slice B nb cb, .slice C nc cc] w fun e w' => e = .returned (.bool true) ∧ Below w.heap.size w w' := by
  obtain ⟨ha, hna, hca⟩ := ha
  obtain ⟨hb, hnb, hcb⟩ := hb
  obtain ⟨hc, hnc, hcc⟩ := hc
  have hca : ca ≤ 9223372036854775807 := by simpa [maxLen] using hca
  have hcb : cb ≤ 9223372036854775807 := by simpa [maxLen] using hcb
  have hcc : cc ≤ 9223372036854775807 := by simpa [maxLen] using hcc
  have hz := (zero_of_info tab_zero).1
  obtain ⟨i0, hi, hz0, hz1, hz2⟩ := info_parts u8_info
  have HI := Lib.hid hi
  clear hi
  obtain ⟨n, hn⟩ : ∃ n, n = min (min (min na nb) nc) 400 := ⟨_, rfl⟩
  have hmin := fun W => run_min4 na nb nc #[3, 3, 3, 3] 3 n hn W
  have hn1 : n ≤ na := by omega
  have hn2 : n ≤ nb := by omega
  have hn3 : n ≤ nc := by omega
  have hn4 : n ≤ 400 := by omega
  clear hn
  have hX := ha.take hn1
  have hY := hb.take hn2
  have hZ := hc.take hn3
  clear ha hb hc
  generalize xs.take n = xs' at *
  generalize ys.take n = ys' at *
  generalize zs.take n = zs' at *
  have h3 := Crc.sum_three xs' ys' zs' (by rw [hX.1, hY.1]) (by rw [hY.1, hZ.1])
  have hDl := xor3_length hX.1 hY.1 hZ.1
  have H3 := Lib.hid h3
  have HD := Lib.hid hDl
  clear h3 hDl
  go_enter Try.func8, Try.ntmps8
  go_wp2_with fail
  refine (shown_any w).mono ?_
  rintro e w1 ⟨rfl, hb1⟩
  have hs1 := hb1.size
  go_wp2_with fail
  go_loopw [9, 10] (fun d i wr => ∃ m : Nat, i = .int .i64 m ∧ m ≤ n ∧ wr.ownsRow w.heap.size 5 1 d m (u8s ((xor3 xs' ys' zs').take m)) ∧ Below w.heap.size w wr) (fun _ i _ => n - (intOf i).toNat)
  case atStart => exact ⟨0, rfl, by omega, owns_empty_at _ _ _ rfl hs1, hb1.alloc hs1 _⟩
  case round =>
    obtain ⟨m, rfl, hm, hown, hbel⟩ := hrel
    have hsz := hbel.size
    by_cases hmn : m < n
    · have hsn := xor3_at hX.1 hY.1 hZ.1 m hmn
      obtain ⟨b1, o1, rfl, gc1⟩ := hX.2 (by omega)
      obtain ⟨b2, o2, rfl, gc2⟩ := hY.2 (by omega)
      obtain ⟨b3, o3, rfl, gc3⟩ := hZ.2 (by omega)
      have l1 : b1 < w.heap.size := block_lt_of_cell (gc1 m hmn)
      have l2 : b2 < w.heap.size := block_lt_of_cell (gc2 m hmn)
      have l3 : b3 < w.heap.size := block_lt_of_cell (gc3 m hmn)
      have hc1 := (hbel.cell (p := ⟨b1, o1 + m, none⟩) l1).trans (gc1 m hmn)
      have hc2 := (hbel.cell (p := ⟨b2, o2 + m, none⟩) l2).trans (gc2 m hmn)
      have hc3 := (hbel.cell (p := ⟨b3, o3 + m, none⟩) l3).trans (gc3 m hmn)
      have hx1 := xor_byte (xs'.getD m 0) (ys'.getD m 0)
      have hx2 := xor_byte (xs'.getD m 0 ^^^ ys'.getD m 0) (zs'.getD m 0)
      have HS := Lib.hid hsn
      clear hsn hX hY hZ gc1 gc2 gc3
      generalize xs'.getD m 0 ^^^ ys'.getD m 0 ^^^ zs'.getD m 0 = z at *
      generalize xs'.getD m 0 ^^^ ys'.getD m 0 = y2 at *
      generalize xs'.getD m 0 = x1 at *
      generalize ys'.getD m 0 = x2 at *
      generalize zs'.getD m 0 = x3 at *
      have hi1 : (m : Int) < (na : Int) := by omega
      have hi2 : (m : Int) < (nb : Int) := by omega
      have hi3 : (m : Int) < (nc : Int) := by omega
      have hi0 : (0 : Int) ≤ (m : Int) := by omega
      go_wp2_with fail
      have n1 : u9.ownBlock ≠ some b1 := fun e => by have := (hown.lt _ e).1; omega
      have n2 : u9.ownBlock ≠ some b2 := fun e => by have := (hown.lt _ e).1; omega
      have n3 : u9.ownBlock ≠ some b3 := fun e => by have := (hown.lt _ e).1; omega
      go_region_held3 (fun w' => w'.cell? ⟨b1, o1 + m, none⟩ = some (.int .u8 (x1.toNat : Nat)) ∧ w'.cell? ⟨b2, o2 + m, none⟩ = some (.int .u8 (x2.toNat : Nat)) ∧ w'.cell? ⟨b3, o3 + m, none⟩ = some (.int .u8 (x3.toNat : Nat)))
        (first
          | go_keep
          | (go_split_ands
             refine ⟨?_, ?_, ?_⟩
             · (rw [hgrow.cell_far _ (by simp; omega) (Ne.symm n1)]; assumption)
             · (rw [hgrow.cell_far _ (by simp; omega) (Ne.symm n2)]; assumption)
             · (rw [hgrow.cell_far _ (by simp; omega) (Ne.symm n3)]; assumption)))
        ((refine step_append_lies _ (by rfl) _ _ _ (by rfl) w.heap.size 5 i0 _ 1 1 Try.underlying29 HI.out hz0 hz1 hz2 rfl (by omega) u9 m _ (by rfl) ((hown.alloc _).drew)
            ⟨wr.heap.size, 0, none⟩ 1 1 [.int .u8 (z.toNat : Nat)] (by rfl) (by rfl) (World.news_of_block (cs := #[.int .u8 (z.toNat : Nat)]) (t := 5) (fr := (0, 0)) (heap_alloc_new wr _)) (by simp [Value.oneCell'])
            (by omega) (by simp only [maxLen]; omega) (by omega) (by simp; omega) (wr.heap.size + 1) (by simp) ?_; intro gg cap wb hown2 hgrow hat hlt))
      have hf := (hbel.alloc hsz (.cells #[.int .u8 (z.toNat : Nat)] 5)).drew.grown hgrow (by simp; omega) fun g hg => (hown.lt g hg).1
      go_wp2
      refine ⟨⟨m + 1, by go_num, by omega, ?_, hf⟩, by simp [intOf]; omega⟩
      rw [HS.out, u8s_append]
      exact hown2
    · obtain rfl : m = n := by omega
      have hall : (xor3 xs' ys' zs').take m = xor3 xs' ys' zs' := List.take_of_length_le (by rw [HD.out]; omega)
      rw [hall] at hown
      have HN := Lib.hid hn4
      obtain ⟨A5, c5, rfl, hX5, _, hc5, _⟩ := own_form hown
      clear hall hown
      go_wp2_with fail
      refine (newB wr).mono ?_
      rintro e w3 ⟨rfl, hb3⟩
      have ht := tab_at (w3.alloc (.cells tab 25)) w3.heap.size (0, 0) (heap_alloc_new w3 _)
      have hW := (below_then hbel hb3).alloc (by have := hb3.size; omega) (.cells tab 25)
      have hX1 := hX.below hW
      have hY1 := hY.below hW
      have hZ1 := hZ.below hW
      have hD1 := (hX5.below hb3).alloc (.cells tab 25)
      have hnI : (m : Int) ≤ (ca : Int) := by omega
      have hnJ : (m : Int) ≤ (cb : Int) := by omega
      have hnK : (m : Int) ≤ (cc : Int) := by omega
      have hm0 : (0 : Int) ≤ (m : Int) := by omega
      have hm9 : m ≤ 9223372036854775807 := by omega
      go_wp2_with (refine wpList_store_whole rfl 25 _ _ rfl w3.heap.size tab rfl rfl 25 (tabTo 0) (heap_alloc_new w3 _) tabSize (by rw [tab, tabTo_size, tabTo_size]) tab_one _ (setRow_last w3 _ _ _) ?_)
      have g1 := fun k => sum_any w3.heap.size Crc.entry A m ca xs' ((w3.alloc (.cells tab 25)).drewN k) ht entry_lt256 hX1 hm9
      have g2 := fun k => sum_any w3.heap.size Crc.entry B m cb ys' ((w3.alloc (.cells tab 25)).drewN k) ht entry_lt256 hY1 hm9
      have g3 := fun k => sum_any w3.heap.size Crc.entry C m cc zs' ((w3.alloc (.cells tab 25)).drewN k) ht entry_lt256 hZ1 hm9
      have g4 := fun k => sum_any w3.heap.size Crc.entry A5 m c5 (xor3 xs' ys' zs') ((w3.alloc (.cells tab 25)).drewN k) ht entry_lt256 hD1 hm9
      have e3 : Crc.more Crc.entry 0 (xor3 xs' ys' zs') = Crc.more Crc.entry 0 xs' ^^^ Crc.more Crc.entry 0 ys' ^^^ Crc.more Crc.entry 0 zs' := H3.out
      rw [e3] at g4
      have lx := Crc.more_lt Crc.entry 0 xs'
      have ly := Crc.more_lt Crc.entry 0 ys'
      have lz := Crc.more_lt Crc.entry 0 zs'
      generalize Crc.more Crc.entry 0 xs' = r1 at *
      generalize Crc.more Crc.entry 0 ys' = r2 at *
      generalize Crc.more Crc.entry 0 zs' = r3 at *
      have u1 := u32_xor_nat r1 r2 lx ly
      have u2 := u32_xor_nat (r1 ^^^ r2) r3 (Crc.xor_lt lx ly) lz
      have G1 := Lib.hid g1
      have G2 := Lib.hid g2
      have G3 := Lib.hid g3
      have G4 := Lib.hid g4
      clear e3 g1 g2 g3 g4 ht hX1 hY1 hZ1 hD1
      generalize r1 ^^^ r2 ^^^ r3 = q3 at *
      generalize r1 ^^^ r2 = q2 at *
      go_quiet ((go_at_call 13; first | (with_reducible exact Calls.quiet_of_same ((G1.out _).mono fun _ _ h => ⟨h.1, h.2.symm⟩)) | (with_reducible exact Calls.quiet_of_same ((G2.out _).mono fun _ _ h => ⟨h.1, h.2.symm⟩)) | (with_reducible exact Calls.quiet_of_same ((G3.out _).mono fun _ _ h => ⟨h.1, h.2.symm⟩)) | (with_reducible exact Calls.quiet_of_same ((G4.out _).mono fun _ _ h => ⟨h.1, h.2.symm⟩))))
      go_wp2_with fail
      go_ret
      exact ⟨rfl, belowN hW _⟩
end Go.Proofs.Ytomijekbkamcbaa
