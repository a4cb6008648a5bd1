/- Walk of SuperBack: a superblock that was written is read as it was, of an image of its size alone. -/
import Derived.Test.YthfghomnbldmfaaRows
import Derived.Test.YthfghomnbldmfaaSupTurned
namespace Go.Proofs.Ythfghomnbldmfaa
set_option linter.unusedVariables false
set_option linter.unusedSimpArgs false
open Go.RowKit

/-- What holds at the head of each round that appends. -/
structure BackRel (w3 : World) (T : List UInt8) (size : Int) (A : Option Addr) (N cc k : Nat) (rest : List UInt8) (wr : World) : Prop where
  len : N = 64 + k
  rl : rest.length = k
  few : (N : Int) ≤ size
  own : wr.ownsRow w3.heap.size 5 1 (.slice A N cc) N (u8s (T ++ rest))
  below : Below w3.heap.size w3 wr
set_option maxRecDepth 100000 in
set_option maxHeartbeats 4000000 in
theorem superBack_walk (s : Sup) (A : Option Addr) (n c : Nat) (bs : List UInt8) (w : World) (hs : SupFine s) (h : Bytes w A n bs ∧ n ≤ c ∧ c ≤ maxLen) :
    Calls Try.prog 5 #[.agg (supCells s), .slice A n c] w fun e w' => e = .returned (.bool true) ∧ Below w.heap.size w w' := by
  obtain ⟨hb, hnc, hcm⟩ := h
  have hcm : c ≤ 9223372036854775807 := by simpa [maxLen] using hcm
  have hz := (zero_of_info tab_zero).1
  obtain ⟨i0, hi, hz0, hz1, hz2⟩ := info_parts u8_info
  have HI := Lib.hid hi
  have HB := Lib.hid hb
  have HS0 := Lib.hid (SupAt.new w s)
  clear hs hb hi
  unfold supCells
  go_enter Try.func5, Try.ntmps5
  go_wp2_with fail
  refine (shown_any _).mono ?_
  rintro e w1 ⟨rfl, hb1⟩
  have HS1 := Lib.hid (HS0.out.below (by simpa [supCells] using hb1))
  have HB1 : Hid (Below w.heap.size w w1) := (below_all.alloc (Nat.le_refl _) _).trans (hb1.mono (by simp))
  clear hb1 HS0
  go_wp2_with fail
  refine (newB w1).mono ?_
  rintro e w2 ⟨rfl, hb2⟩
  have HS2 := Lib.hid ((HS1.out.below hb2).below (below_all.alloc (Nat.le_refl _) (.cells tab 27)))
  have HB2 : Hid (Below w.heap.size w (w2.alloc (.cells tab 27))) := (below_then HB1.out hb2).alloc (below_then HB1.out hb2).size _
  have HT2 := Lib.hid (tab_new w2)
  have HL2 : Hid (w2.heap.size < (w2.alloc (.cells tab 27)).heap.size) := by show w2.heap.size < _; simp
  go_upto_region 3 with (refine wpList_store_whole rfl 27 _ _ rfl w2.heap.size tab rfl rfl 27 (tabTo 0) (heap_alloc_new w2 _) tabSize (by rw [tab, tabTo_size, tabTo_size]) tab_one _ (setRow_last w2 _ _ _) ?_)
  clear hb2 hz HS1 HB1
  generalize w2.alloc (.cells tab 27) = w3 at *
  generalize w2.heap.size = gt at *
  have HPut := Lib.hid (put_any gt s w3 HT2.out HL2.out)
  obtain ⟨b, hb⟩ : ∃ b, supB s = b := ⟨_, rfl⟩
  have k0 := HS2.out.c0
  have k1 := HS2.out.c1
  have k2 := HS2.out.c2
  have k3 := HS2.out.c3
  have k4 := HS2.out.c4
  have k5 := HS2.out.c5
  have k6 := HS2.out.c6
  have k7 := HS2.out.c7
  have k8 := HS2.out.c8
  have k9 := HS2.out.c9
  cases b
  · obtain ⟨p1, p2⟩ := bad_putE hb
    rw [p1, p2] at HPut
    clear hb p1 p2
    go_wp2_with fail
    refine HPut.out.mono ?_
    rintro r w5 ⟨A5, c5, rfl, hown5, hb5⟩
    have HB5 : Hid (Below w.heap.size w w5) := below_then HB2.out hb5
    clear hown5 hb5
    go_wp2_with fail
    go_ret
    exact ⟨rfl, HB5.out⟩
  · obtain ⟨p1, p2⟩ := put_good hb
    have HP : Hid (SupP s) := (supB_iff _).1 hb
    rw [p1, p2] at HPut
    have HEL := Lib.hid (enc_length s)
    clear hb p1 p2
    go_wp2_with fail
    refine HPut.out.mono ?_
    rintro r w5 ⟨A5, c5, rfl, hown5, hb5⟩
    rw [HEL.out] at hown5 ⊢
    have HO5 := Lib.hid hown5
    have HB35 := Lib.hid hb5
    have HS5 := Lib.hid (HS2.out.below hb5)
    have c0 := HS5.out.c0
    clear hown5 hb5 HPut k0 k1 k2 k3 k4 k5 k6 k7 k8 k9
    by_cases hbig : 2000 < s.size
    · go_wp2_with fail
      go_ret
      exact ⟨rfl, below_then HB2.out HB35.out⟩
    · have hbig2 : s.size ≤ 2000 := by omega
      have HBG := Lib.hid hbig2
      have hsz64 : (64 : Int) ≤ s.size := by have := HP.out; unfold SupP at this; omega
      have HSZ := Lib.hid hsz64
      clear hbig2 hsz64
      have HR0 : Hid (BackRel w3 (enc s) s.size A5 64 c5 0 [] w5) := ⟨rfl, rfl, HSZ.out, by rw [List.append_nil]; exact HO5.out, HB35.out⟩
      clear HO5 HB35 HS5
      go_wp2_with fail
      go_loopw [7, 9] (fun b i wr => ∃ (A : Option Addr) (N cc k : Nat) (rest : List UInt8), b = .slice A N cc ∧ i = .int .i64 k ∧ BackRel w3 (enc s) s.size A N cc k rest wr) (fun b _ _ => s.size.toNat - lenOf b)
      case atStart => exact ⟨A5, 64, c5, 0, [], rfl, rfl, HR0.out⟩
      case round =>
        obtain ⟨A6, N, c6, k, rest, rfl, rfl, hR⟩ := hrel
        have HR := Lib.hid hR
        clear HR0 c0
        have HSR := Lib.hid (HS2.out.below hR.below)
        have c0 := HSR.out.c0
        have hsr := hR.below.size
        have hk2 : k ≤ 2000 := by have := hR.len; have := hR.few; have := HBG.out; omega
        by_cases hlt : (N : Int) < s.size
        · have HLT := Lib.hid hlt
          have fin : ∀ (y : UInt8) (wA w7 : World) (A7 : Option Addr) (c7 : Nat), Below w3.heap.size w3 wA → wA.ownsRow w3.heap.size 5 1 (.slice A6 N c6) N (u8s (enc s ++ rest)) → wA.grownBy w7 (Value.slice A6 N c6).ownBlock →
              w7.ownsRow w3.heap.size 5 1 (.slice A7 (N + 1) c7) (N + 1) (u8s (enc s ++ rest ++ [y])) → BackRel w3 (enc s) s.size A7 (N + 1) c7 (k + 1) (rest ++ [y]) w7 := fun y wA w7 A7 c7 h1 h2 h3 h4 =>
            ⟨by have := HR.out.len; omega, by rw [List.length_append, HR.out.rl]; rfl, by have := HLT.out; omega, by rw [← List.append_assoc]; exact h4, below_append h1 h3 h2 (Nat.le_refl _) h1.size⟩
          have HFin := Lib.hid fin
          have hN : N ≤ 2064 := by have := hR.len; omega
          have HNN := Lib.hid hN
          clear fin hR hN
          by_cases hin : k < n
          · obtain ⟨b, off, rfl, hc⟩ := HB.out.2 (by omega)
            have cb0 := hc k hin
            have hbl := block_lt_of_cell cb0
            have cb := ((below_then HB2.out HR.out.below).cell (p := ⟨b, off + k, none⟩) hbl).trans cb0
            have hi0 : (0 : Int) ≤ (k : Int) := by omega
            have hi1 : (k : Int) < (n : Int) := by omega
            clear hc cb0
            generalize bs.getD k 0 = y at *
            have hy := bytes_lit (wr.alloc (.cells #[.int .u8 (y.toNat : Nat)] 5)) wr.heap.size [y] _ _ _ rfl (heap_alloc_new wr _)
            have HY := Lib.hid hy
            have HO1 := Lib.hid (own_below HR.out.own (below_all.alloc (Nat.le_refl _) (.cells #[.int .u8 (y.toNat : Nat)] 5)))
            have HBA := Lib.hid (HR.out.below.alloc HR.out.below.size (.cells #[.int .u8 (y.toNat : Nat)] 5))
            clear hy
            go_wp2_with (at_builtin; refine wpList_append_bytes _ rfl (.tmp 60) (.tmp 62) _ rfl w3.heap.size 5 i0 _ 1 Try.underlying29 HI.out hz0 hz1 hz2 rfl _ N (enc s ++ rest) rfl HO1.out (some ⟨wr.heap.size, 0, none⟩) 1 1 [y] rfl HY.out (by have := HNN.out; simp only [maxLen]; omega) (by have := HNN.out; omega) (by simp; omega) ?_; intro v2 w7 hown hgrow _)
            obtain ⟨A7, c7, rfl, _⟩ := own_form hown
            exact ⟨⟨A7, N + 1, c7, k + 1, rest ++ [y], rfl, by go_num, HFin.out y _ w7 A7 c7 HBA.out HO1.out hgrow hown⟩, by have := HLT.out; simp only [lenOf]; omega⟩
          · have hin2 : (n : Int) ≤ (k : Int) := by omega
            have hy := bytes_lit (wr.alloc (.cells #[.int .u8 0] 5)) wr.heap.size [0] _ _ _ rfl (heap_alloc_new wr _)
            have HY := Lib.hid hy
            have HO1 := Lib.hid (own_below HR.out.own (below_all.alloc (Nat.le_refl _) (.cells #[.int .u8 0] 5)))
            have HBA := Lib.hid (HR.out.below.alloc HR.out.below.size (.cells #[.int .u8 0] 5))
            clear hy
            go_wp2_with (at_builtin; refine wpList_append_bytes _ rfl (.tmp 60) (.tmp 62) _ rfl w3.heap.size 5 i0 _ 1 Try.underlying29 HI.out hz0 hz1 hz2 rfl _ N (enc s ++ rest) rfl HO1.out (some ⟨wr.heap.size, 0, none⟩) 1 1 [0] rfl HY.out (by have := HNN.out; simp only [maxLen]; omega) (by have := HNN.out; omega) (by simp; omega) ?_; intro v2 w7 hown hgrow _)
            obtain ⟨A7, c7, rfl, _⟩ := own_form hown
            exact ⟨⟨A7, N + 1, c7, k + 1, rest ++ [0], rfl, by go_num, HFin.out 0 _ w7 A7 c7 HBA.out HO1.out hgrow hown⟩, by have := HLT.out; simp only [lenOf]; omega⟩
        · have hsN : s.size = (N : Int) := by have := hR.few; omega
          rw [hsN] at c0
          have HSN := Lib.hid hsN
          have hlenR : N = 64 + k := hR.len
          have hrl : rest.length = k := hR.rl
          obtain ⟨q1, q2⟩ := enc_ok HP.out rest (by rw [hsN]; omega)
          have hTL : (enc s ++ rest).length = N := by rw [List.length_append, HEL.out]; omega
          have hT64 : (enc s ++ rest).take 64 = enc s := by rw [← HEL.out, List.take_left]
          have HX1 : Hid (¬ tkOk (enc s ++ rest ++ [0])) := enc_other HP.out _ (fun _ => by rw [List.take_append_of_le_length (by omega)]; exact hT64) (by rw [hsN, List.length_append, hTL]; simp; omega)
          obtain ⟨M, hM⟩ : ∃ M, M = N - 1 := ⟨_, rfl⟩
          have HX2 : Hid (¬ tkOk ((enc s ++ rest).take M)) := enc_other HP.out _ (fun h => by rw [List.length_take] at h; rw [List.take_take, Nat.min_eq_left (by omega)]; exact hT64) (by rw [hsN, List.length_take, hTL]; omega)
          have HTE := Lib.hid (take_good q1).1
          have HTS := Lib.hid q2
          have hwM : IntKind.i64.wrap ((N : Int) - 1) = (M : Int) := by rw [IntWalk.i64_in _ (by omega)]; omega
          have HMN : Hid (M ≤ N) := by show M ≤ N; omega
          have HNB : Hid (N ≤ 2064) := by show N ≤ 2064; omega
          obtain ⟨A6', c6', he6, hby6, hn6, hc6, hfr6⟩ := own_form hR.own
          injection he6 with e1 e2 e3
          subst e1 e3
          have hc6 : c6 ≤ 9223372036854775807 := by simpa [maxLen] using hc6
          have hMc : (M : Int) ≤ (c6 : Int) := by omega
          have hM0 : (0 : Int) ≤ (M : Int) := by omega
          have HBY := Lib.hid hby6
          have HTr := Lib.hid (tab_below HT2.out HL2.out hR.below)
          have HLr : Hid (gt < wr.heap.size) := Nat.lt_of_lt_of_le HL2.out hR.below.size
          have HBr : Hid (Below w.heap.size w wr) := below_then HB2.out hR.below
          have HTk := Lib.hid (take_any gt A6 N c6 (enc s ++ rest) wr HTr.out HLr.out hby6 hn6 hc6)
          rw [HTE.out, HTS.out] at HTk
          unfold supCells at HTk
          clear hR hsN hlt hlenR hrl q1 q2 hTL hT64 hby6 hfr6 HR hM hsr hk2 hbig
          generalize enc s ++ rest = T at *
          go_wp2_with fail
          refine HTk.out.mono ?_
          rintro r w6 ⟨rfl, hb6⟩
          have hg11 : SupAt (w6.alloc (.cells #[.int .i64 s.size, .int .i64 s.inodes, .int .i64 s.inodeAt, .int .i64 s.dirAt, .int .i64 s.fragAt, .int .i64 s.idAt, .int .i64 s.xattrAt, .int .i64 s.ids, .int .i64 s.frags, .int .i64 s.root] 23)) w6.heap.size s := SupAt.new w6 s
          have HG11 := Lib.hid hg11
          have HB66 : Hid (Below wr.heap.size wr (w6.alloc (.cells #[.int .i64 s.size, .int .i64 s.inodes, .int .i64 s.inodeAt, .int .i64 s.dirAt, .int .i64 s.fragAt, .int .i64 s.idAt, .int .i64 s.xattrAt, .int .i64 s.ids, .int .i64 s.frags, .int .i64 s.root] 23))) := hb6.alloc hb6.size _
          clear hb6 hg11 HTk c0
          go_upto_region 16 with fail
          generalize w6.alloc (.cells #[.int .i64 s.size, .int .i64 s.inodes, .int .i64 s.inodeAt, .int .i64 s.dirAt, .int .i64 s.fragAt, .int .i64 s.idAt, .int .i64 s.xattrAt, .int .i64 s.ids, .int .i64 s.frags, .int .i64 s.root] 23) = W6 at *
          generalize w6.heap.size = g11 at *
          have hown0 := owns_empty W6 5 (Nat.le_refl _)
          have HOW0 := Lib.hid hown0
          have HBY6 := Lib.hid ((HBY.out.below HB66.out).alloc (.cells #[] 5))
          clear hown0
          go_wp2_with (at_builtin; first
            | (refine wpList_append_bytes _ rfl (.tmp 70) (.tmp 71) _ rfl W6.heap.size 5 i0 _ 1 Try.underlying29 HI.out hz0 hz1 hz2 rfl (.slice (some ⟨W6.heap.size, 0, none⟩) 0 0) 0 [] rfl HOW0.out A6 N c6 T rfl HBY6.out (by have := HNB.out; simp only [maxLen]; omega) (by have := HNB.out; omega) (by simp) ?_; intro v7 w7 hown7 hgrow7 _; have HW7 := Lib.hid (below_append (below_all.alloc (Nat.le_refl _) _ : Below W6.heap.size W6 _) hgrow7 HOW0.out (Nat.le_refl _) (by simp)); rw [Nat.zero_add, List.nil_append] at hown7; obtain ⟨A7, c7, rfl, _⟩ := own_form hown7; have HO7 := Lib.hid (own_below hown7 (below_all.alloc (Nat.le_refl _) (.cells #[.int .u8 0] 5))); have HZ7 := Lib.hid (bytes_lit (w7.alloc (.cells #[.int .u8 0] 5)) w7.heap.size [0] _ _ _ rfl (heap_alloc_new w7 _)); clear hown7 hgrow7)
            | (refine wpList_append_bytes _ rfl (.tmp 72) (.tmp 73) _ rfl W6.heap.size 5 i0 _ 1 Try.underlying29 HI.out hz0 hz1 hz2 rfl _ N T rfl HO7.out (some ⟨w7.heap.size, 0, none⟩) 1 1 [0] rfl HZ7.out (by have := HNB.out; simp only [maxLen]; omega) (by have := HNB.out; omega) (by have := HW7.out.size; simp; omega) ?_; intro v8 w8 hown8 hgrow8 _; have HW8 := Lib.hid (below_append (HW7.out.alloc HW7.out.size _) hgrow8 HO7.out (Nat.le_refl _) (by have := HW7.out.size; simp; omega)); obtain ⟨A8, c8, rfl, hby8, hn8, hc8, _⟩ := own_form hown8; have HBY8 := Lib.hid hby8; have HW8' := Lib.hid HW8.out; clear hown8 hgrow8 hby8))
          have HBr8 := Lib.hid (below_then HB66.out HW8.out)
          have HTk2 := Lib.hid (take_any gt A8 (N + 1) c8 (T ++ [0]) w8 (tab_below HTr.out HLr.out HBr8.out) (Nat.lt_of_lt_of_le HLr.out HBr8.out.size) HBY8.out hn8 (by simpa [maxLen] using hc8))
          rw [(take_bad HX1.out).1, (take_bad HX1.out).2] at HTk2
          unfold supCells sup0 at HTk2
          clear HW7 HW8 HO7 HZ7 HBY8 HBY6 HOW0
          refine HTk2.out.mono ?_
          rintro r w9 ⟨rfl, hb9⟩
          have HBr9 : Hid (Below wr.heap.size wr (w9.alloc (.cells #[.int .i64 0, .int .i64 0, .int .i64 0, .int .i64 0, .int .i64 0, .int .i64 0, .int .i64 0, .int .i64 0, .int .i64 0, .int .i64 0] 23))) := (below_then HBr8.out hb9).alloc (below_then HBr8.out hb9).size _
          have HG9 : Hid (Below W6.heap.size W6 (w9.alloc (.cells #[.int .i64 0, .int .i64 0, .int .i64 0, .int .i64 0, .int .i64 0, .int .i64 0, .int .i64 0, .int .i64 0, .int .i64 0, .int .i64 0] 23))) := by
            have h1 := below_then HW8'.out hb9
            exact h1.alloc h1.size _
          clear hb9 HTk2 HBr8
          go_upto_region 17 with fail
          generalize w9.alloc (.cells #[.int .i64 0, .int .i64 0, .int .i64 0, .int .i64 0, .int .i64 0, .int .i64 0, .int .i64 0, .int .i64 0, .int .i64 0, .int .i64 0] 23) = W9 at *
          have hbyM := (HBY.out.below HBr9.out).take HMN.out
          have HTk3 := Lib.hid (take_any gt A6 M c6 (T.take M) W9 (tab_below HTr.out HLr.out HBr9.out) (Nat.lt_of_lt_of_le HLr.out HBr9.out.size) hbyM (by have := HMN.out; omega) hc6)
          rw [(take_bad HX2.out).1, (take_bad HX2.out).2] at HTk3
          unfold supCells sup0 at HTk3
          clear hbyM
          go_wp2_with fail
          refine HTk3.out.mono ?_
          rintro r w10 ⟨rfl, hb10⟩
          have HBr10 : Hid (Below wr.heap.size wr (w10.alloc (.cells #[.int .i64 0, .int .i64 0, .int .i64 0, .int .i64 0, .int .i64 0, .int .i64 0, .int .i64 0, .int .i64 0, .int .i64 0, .int .i64 0] 23))) := (below_then HBr9.out hb10).alloc (below_then HBr9.out hb10).size _
          have HG10 : Hid (Below W6.heap.size W6 (w10.alloc (.cells #[.int .i64 0, .int .i64 0, .int .i64 0, .int .i64 0, .int .i64 0, .int .i64 0, .int .i64 0, .int .i64 0, .int .i64 0, .int .i64 0] 23))) := by
            have h1 := below_then HG9.out hb10
            exact h1.alloc h1.size _
          clear hb10 HTk3 HBr9 HG9
          go_upto_region 18 with fail
          generalize w10.alloc (.cells #[.int .i64 0, .int .i64 0, .int .i64 0, .int .i64 0, .int .i64 0, .int .i64 0, .int .i64 0, .int .i64 0, .int .i64 0, .int .i64 0] 23) = WF at *
          have HGF := Lib.hid (HG11.out.below HG10.out)
          have HSF := Lib.hid (HSR.out.below HBr10.out)
          have j0 := HGF.out.c0
          have l0 := HSF.out.c0
          have j1 := HGF.out.c1
          have l1 := HSF.out.c1
          have j2 := HGF.out.c2
          have l2 := HSF.out.c2
          have j3 := HGF.out.c3
          have l3 := HSF.out.c3
          have j4 := HGF.out.c4
          have l4 := HSF.out.c4
          have j5 := HGF.out.c5
          have l5 := HSF.out.c5
          have j6 := HGF.out.c6
          have l6 := HSF.out.c6
          have j7 := HGF.out.c7
          have l7 := HSF.out.c7
          have j8 := HGF.out.c8
          have l8 := HSF.out.c8
          have j9 := HGF.out.c9
          have l9 := HSF.out.c9
          go_wp2_with fail
          go_ret
          exact ⟨rfl, below_then HBr.out HBr10.out⟩
end Go.Proofs.Ythfghomnbldmfaa
