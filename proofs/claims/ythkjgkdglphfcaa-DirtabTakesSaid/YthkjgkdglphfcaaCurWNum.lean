/- Walk of the program's writer: Num. -/
import Derived.Test.YthkjgkdglphfcaaRows
import Derived.Test.YthkjgkdglphfcaaOnly
import Derived.Test.YthkjgkdglphfcaaCurMath
import Derived.Test.YthkjgkdglphfcaaCurReader
import Derived.Test.YthkjgkdglphfcaaCurReader
import Derived.Test.YthkjgkdglphfcaaCurWriter
import Derived.WalkKit
import Derived.WalkSpells
import Derived.WalkLawsBesides
import Derived.Lib.Hide
import Derived.Deep.AppendLies
import Derived.Deep.RegionLaw
import Derived.Lib.ConvBytes
namespace Go.Proofs.Ythkjgkdglphfcaa
set_option linter.unusedVariables false
set_option linter.unusedSimpArgs false
open Go.RowKit




set_option maxRecDepth 100000 in
set_option maxHeartbeats 2000000 in
/-- A number that fits, no error yet: its bytes are written. -/
theorem wnum_fit (base g : Nat) (S : List Nat) (bs : List UInt8) (X k : Nat) (w : World) (h : WrAt w base g S ⟨0, bs⟩) (hk1 : 1 ≤ k) (hk4 : k ≤ 4) (hX : X < 256 ^ k) (hn : bs.length + 4 ≤ 140737488355328) :
    Calls Try.prog 19 #[.pointer (some ⟨g, 0, none⟩), .int .i64 (X : Nat), .int .i64 (k : Nat)] w (Wrote w base g S ⟨0, bs ++ Cur.leBytes X k⟩) := by
  have hq : (((X : Int) / 2 ^ (8 * k)) != 0) = false := by
    rw [bne_eq_false_iff_eq]
    rw [Cur.pow256] at hX
    have : ((X : Int) / 2 ^ (8 * k)) = ((X / 2 ^ (8 * k) : Nat) : Int) := by simp
    rw [this, Nat.div_eq_of_lt hX]; rfl
  have hX4 : X < 4294967296 := Nat.lt_of_lt_of_le hX (Nat.pow_le_pow_right (n := 256) (by decide) hk4)
  have HX := Lib.hid hX
  clear hX
  obtain ⟨i0, hi, hz0, hz1, hz2⟩ := info_parts u8_info
  have HI := Lib.hid hi
  have HH := Lib.hid h
  clear hi h
  go_enter Try.func19, Try.ntmps19
  go_wp2_with fail
  go_loopw [6] (fun i wr => ∃ m : Nat, i = .int .i64 m ∧ m ≤ k ∧ ∃ S', WrAt wr base g S' ⟨0, bs ++ Cur.leBytes X m⟩ ∧ Only S w wr ∧ ∀ j ∈ S', j ∈ S ∨ w.heap.size ≤ j) (fun i _ => k - (intOf i).toNat)
  case atStart => exact ⟨0, rfl, by omega, S, by simpa [Cur.leBytes] using HH.out, Only.refl _ _, fun j hj => .inl hj⟩
  case round =>
    obtain ⟨m, rfl, hm, S', hw, ho, hs⟩ := hrel
    obtain ⟨v, ht, hv, hb, rfl⟩ := id hw
    simp only at ht hv
    have hll : (bs ++ Cur.leBytes X m).length = bs.length + m := by rw [List.length_append, Cur.leBytes_length]
    rw [hll] at hv
    have HL := Lib.hid hll
    have h0 := ht.c0
    have h1 := ht.c1
    have f1 := ht.free 1
    by_cases hmk : m < k
    · obtain ⟨A1, c1, hvv, _⟩ := own_form hv
      subst hvv
      have hlt := ht.lt
      have hbyte : ((X : Int) / 2 ^ (8 * m)) % 256 = ((UInt8.ofNat (X / 256 ^ m % 256)).toNat : Nat) := by
        have e1 : ((X : Int) / 2 ^ (8 * m)) = ((X / 256 ^ m : Nat) : Int) := by rw [Cur.pow256]; simp
        rw [e1, UInt8.toNat_ofNat']; omega
      have hsn : Cur.leBytes X (m + 1) = Cur.leBytes X m ++ [UInt8.ofNat (X / 256 ^ m % 256)] := rfl
      have HSN := Lib.hid hsn
      clear hsn
      generalize UInt8.ofNat (X / 256 ^ m % 256) = b at *
      go_wp2_with fail
      have h1a := fun o => (ht.alloc o).c1
      have HT := Lib.hid ht
      have HV := Lib.hid hv
      clear ht hv hw hll
      have hby2 : IntKind.u8.wrap ((X : Int) / 2 ^ (8 * m)) = (b.toNat : Nat) := by rw [IntKind.wrap_u8]; exact hbyte
      have hmul : IntKind.i64.wrap (8 * (m : Int)) = 8 * (m : Int) := IntWalk.i64_in _ (by omega)
      have h8 : (0 : Int) ≤ 8 * (m : Int) := by omega
      have ht8 : (8 * (m : Int)).toNat = 8 * m := by omega
      have hmin : min (8 * m) 64 = 8 * m := by omega
      have hmin2 : min (8 * m) IntKind.i64.bits = 8 * m := by show min (8 * m) 64 = 8 * m; omega
      go_region_law ((refine step_append_lies _ (by rfl) _ _ _ (by rfl) base 5 i0 _ 1 1 Try.underlying25 HI.out hz0 hz1 hz2 rfl (by omega) (.slice A1 (bs.length + m) c1) (bs.length + m) _ (by rfl) ((HV.out.alloc _).drew) ⟨wr.heap.size, 0, none⟩ 1 1 [.int .u8 (b.toNat : Nat)] (by rfl) (by rfl) (World.news_of_block (cs := #[.int .u8 (b.toNat : Nat)]) (t := 5) (fr := (0, 0)) (heap_alloc_new wr _)) (by simp [Value.oneCell']) (by omega) (by simp only [maxLen]; omega) (by omega) (by simp; omega) (wr.heap.size + 1) (by simp) ?_; intro gg cap wb hown2 hgrow hat hlt2; have ht1 := (HT.out.alloc (.cells #[.int .u8 (b.toNat : Nat)] 5)).drew.grown hgrow (own_block_ne (HV.out.alloc (.cells #[.int .u8 (b.toNat : Nat)] 5)).drew (HT.out.alloc (.cells #[.int .u8 (b.toNat : Nat)] 5)).drew (by decide)); have k1 := ht1.c1; have kf := ht1.free 1; have HT1 := Lib.hid ht1; clear ht1))
      all_goals
        clear hby2 hmul h8 ht8 hmin hmin2 hbyte
        have hV1 : World.ownsRow (wr.alloc (.cells #[.int .u8 (b.toNat : Nat)] 5)).drew base 5 1 (.slice A1 (bs.length + m) c1) (bs ++ Cur.leBytes X m).length (u8s (bs ++ Cur.leBytes X m)) := by
          rw [HL.out]; exact (HV.out.alloc _).drew
        have hown3 : wb.ownsRow base 5 1 (.slice (some ⟨gg, 0, none⟩) (bs.length + m + 1) cap) ((bs ++ Cur.leBytes X m).length + [b].length) (u8s ((bs ++ Cur.leBytes X m) ++ [b])) := by
          rw [HL.out, u8s_append]; exact hown2
        obtain ⟨r1, r2, r3, r4⟩ := stored_row (s := ⟨0, bs ++ Cur.leBytes X m⟩) (ys := [b]) (HT.out.alloc (.cells #[.int .u8 (b.toNat : Nat)] 5)).drew (by decide) hV1 hb hgrow (by
          rcases hat with e | e
          · exact .inl e.symm
          · exact .inr (by rw [e]; simp [Value.ownBlock])) hown3 1 (.inr rfl)
        have hS1 : Only S w (wb.setCell ⟨g, 1, none⟩ (.slice (some ⟨gg, 0, none⟩) (bs.length + m + 1) cap)) := (ho.trans (((Only.refl _ _).alloc _).drew.trans r2 (fun j hj => .inl hj)) (fun j hj => hs j hj))
        have hM : ∀ j ∈ g :: (Value.slice (some ⟨gg, 0, none⟩) (bs.length + m + 1) cap).ownBlock.toList, j ∈ S ∨ w.heap.size ≤ j := fun j hj => by
          rcases r3 j hj with h | h
          · exact hs j h
          · have := ho.size; simp at h; exact .inr (by omega)
        have hW : WrAt (wb.setCell ⟨g, 1, none⟩ (.slice (some ⟨gg, 0, none⟩) (bs.length + m + 1) cap)) base g (g :: (Value.slice (some ⟨gg, 0, none⟩) (bs.length + m + 1) cap).ownBlock.toList) ⟨0, bs ++ Cur.leBytes X (m + 1)⟩ := by
          refine ⟨_, HT1.out.set1 _, ?_, hb, rfl⟩
          show World.ownsRow _ _ _ _ _ (bs ++ Cur.leBytes X (m + 1)).length (u8s (bs ++ Cur.leBytes X (m + 1)))
          rw [HSN.out, ← List.append_assoc]
          exact r1
        clear r1 r2 r3 r4 hV1 hown3 hgrow hown2 hat
        generalize wb.setCell ⟨g, 1, none⟩ (.slice (some ⟨gg, 0, none⟩) (bs.length + m + 1) cap) = w4 at *
        go_wp2_with fail
        exact ⟨⟨m + 1, by go_num, by omega, _, hW, hS1, hM⟩, by simp [intOf]; omega⟩
    · obtain rfl : m = k := by omega
      go_wp2_with fail
      go_end0
      exact ⟨rfl, _, hw, ho, hs⟩
end Go.Proofs.Ythkjgkdglphfcaa
