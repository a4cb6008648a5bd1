/- Walk: super.Put: a superblock that may be is written, or refused. -/
import Derived.Test.YthfghomnbldmfaaRows
import Derived.Test.YthfghomnbldmfaaSupWide
import Derived.Test.YthfghomnbldmfaaSupOwn
import Derived.Test.YthfghomnbldmfaaCurWText
import Derived.Test.YthfghomnbldmfaaCrcShown
import Derived.Lib.SmallJoins
import Derived.WalkLawsBesides
import Derived.IntWalk
namespace Go.Proofs.Ythfghomnbldmfaa
set_option linter.unusedVariables false
set_option linter.unusedSimpArgs false
open Go.RowKit

theorem werr_any (base g : Nat) (S : List Nat) (s : Cur.St) (w : World) (h : WrAt w base g S s) :
    Calls Try.prog 23 #[.pointer (some ⟨g, 0, none⟩)] w fun r w' => r = .returned (.int .i64 (s.e : Nat)) ∧ w = w' := by
  obtain ⟨v, ht, hv, hb, rfl⟩ := h
  exact err_any g s.e _ v w ht
theorem new_writer (w : World) : WrAt (w.alloc (.cells #[.int .i64 ((0 : Nat) : Int), .slice none 0 0] 46)) w.heap.size w.heap.size [w.heap.size] ⟨0, []⟩ :=
  ⟨_, Two.new w _ _ _, World.ownsRow_nil _ _ _ _, Nat.le_refl _, rfl⟩
/-- What holds while a superblock is written. -/
structure PutRel (w : World) (B gs gw : Nat) (hs : List Nat) (s : Sup) (bs : List UInt8) (wr : World) : Prop where
  below : Below w.heap.size w wr
  sup : SupAt wr gs s
  wr : ∃ S, WrAt wr B gw S ⟨0, bs⟩ ∧ gs ∉ S ∧ ∀ h ∈ hs, h ∉ S ∧ h < wr.heap.size
  base : w.heap.size ≤ B
theorem PutRel.later {w wr w' : World} {B gs gw : Nat} {hs : List Nat} {s : Sup} {bs : List UInt8} (H : PutRel w B gs gw hs s bs wr) (hb : Below wr.heap.size wr w') : PutRel w B gs gw hs s bs w' := by
  obtain ⟨S, h1, h2, h3⟩ := H.wr
  exact ⟨below_then H.below hb, H.sup.below hb, ⟨S, h1.below hb, h2, fun h hh => ⟨(h3 h hh).1, Nat.lt_of_lt_of_le (h3 h hh).2 hb.size⟩⟩, H.base⟩
theorem PutRel.add {w wr w' : World} {B gs gw h : Nat} {hs : List Nat} {s : Sup} {bs : List UInt8} (H : PutRel w B gs gw hs s bs wr) (hb : Below wr.heap.size wr w') (hl : wr.heap.size ≤ h) (hl2 : h < w'.heap.size) : PutRel w B gs gw (h :: hs) s bs w' := by
  obtain ⟨S, h1, h2, h3⟩ := H.wr
  refine ⟨below_then H.below hb, H.sup.below hb, ⟨S, h1.below hb, h2, fun k hk => ?_⟩, H.base⟩
  rcases List.mem_cons.1 hk with rfl | hk
  · exact ⟨fun hin => by have := (h1.all k hin).2; omega, hl2⟩
  · exact ⟨(h3 k hk).1, Nat.lt_of_lt_of_le (h3 k hk).2 hb.size⟩
theorem PutRel.step {w wr w5 : World} {B gs gw : Nat} {hs S : List Nat} {s : Sup} {bs bs' : List UInt8} {r : Ending} (H : PutRel w B gs gw hs s bs wr) (hW : WrAt wr B gw S ⟨0, bs⟩) (h2 : gs ∉ S) (h3 : ∀ h ∈ hs, h ∉ S ∧ h < wr.heap.size) (k : Wrote wr B gw S ⟨0, bs'⟩ r w5) :
    PutRel w B gs gw hs s bs' w5 ∧ r = .returned (.tuple #[]) ∧ Only S wr w5 := by
  obtain ⟨hr, S', hw', ho, hs'⟩ := k
  refine ⟨⟨H.below.trans (ho.below (fun j hj => Nat.le_trans H.base (hW.all j hj).1) H.below.size), H.sup.only ho h2, ⟨S', hw', fun hin => ?_, fun h hh => ⟨fun hin => ?_, Nat.lt_of_lt_of_le (h3 h hh).2 ho.size⟩⟩, H.base⟩, hr, ho⟩
  · rcases hs' gs hin with h | h
    · exact h2 h
    · have := H.sup.lt; omega
  · rcases hs' h hin with h4 | h4
    · exact (h3 h hh).1 h4
    · have := (h3 h hh).2; omega
theorem made22 : madeCells #[.int .u8 0] 22 = (u8s (List.replicate 22 0)).toArray := by simp [madeCells, u8s, List.range_succ, Array.range]; rfl
/-- What Put gives. -/
def PutRes (w : World) (bs : List UInt8) (e : Nat) (r : Ending) (w' : World) : Prop :=
  ∃ A c, r = .returned (.tuple #[.slice A bs.length c, .int .i64 (e : Nat)]) ∧ w'.ownsRow w.heap.size 5 1 (.slice A bs.length c) bs.length (u8s bs) ∧ Below w.heap.size w w'
set_option maxRecDepth 100000 in
set_option maxHeartbeats 4000000 in
theorem put_any (t : Nat) (s : Sup) (w : World) (ht : TabAt w t Crc.entry) (htl : t < w.heap.size) : Calls Try.prog 10 #[.pointer (some ⟨t, 0, none⟩), .agg (supCells s)] w (PutRes w (putBs s) (putE s)) := by
  have HM := Lib.hid (may_any s)
  have hs0 := SupAt.new w s
  have HS0 := Lib.hid hs0
  have HT := Lib.hid ht
  clear hs0 ht
  obtain ⟨b, hb⟩ : ∃ b, supB s = b := ⟨_, rfl⟩
  have HBB := Lib.hid hb
  rw [hb] at HM
  clear hb
  unfold supCells
  go_enter Try.func10, Try.ntmps10
  go_wp2_with fail
  refine (HM.out _).mono ?_
  rintro r w1 ⟨rfl, hb1⟩
  have HS1 := Lib.hid (HS0.out.below (by simpa [supCells] using hb1))
  have HB1 : Hid (Below w.heap.size w w1) := (below_all.alloc (Nat.le_refl _) _).trans (hb1.mono (by simp))
  clear hb1 HS0 HM
  cases b
  · go_wp2_with fail
    go_ret2
    have he : putE s = 1 := by unfold putE; rw [HBB.out]; rfl
    have hbs : putBs s = [] := by unfold putBs; rw [HBB.out]; rfl
    rw [he, hbs]
    exact ⟨none, 0, rfl, World.ownsRow_nil _ _ _ _, HB1.out⟩
  · have he : putE s = 0 := by unfold putE; rw [HBB.out]; rfl
    have hbs : putBs s = enc s := by unfold putBs; rw [HBB.out]; rfl
    have HP : Hid (SupP s) := (supB_iff s).1 HBB.out
    have HPE := Lib.hid he
    have HPB := Lib.hid hbs
    clear he hbs
    have HR0 : Hid (PutRel w w1.heap.size w.heap.size w1.heap.size [] s [] (w1.alloc (.cells #[.int .i64 0, .slice none 0 0] 46))) :=
      ⟨HB1.out.alloc HB1.out.size _, HS1.out.below (below_all.alloc (Nat.le_refl _) _), ⟨_, new_writer w1, by have := HS1.out.lt; simp; omega, by simp⟩, HB1.out.size⟩
    have kc := fun (w : World) (C : Array Value) (n c g : Nat) (hg : g = w.heap.size) => Joins.run_convert_bytes_const_at (P := Try.prog) w 29 5 C n c g hg Try.underlying29 Try.underlying5
    go_wp2_with fail
    clear kc
    have hy := bytes_lit ((w1.alloc (.cells #[.int .i64 0, .slice none 0 0] 46)).alloc (.cells #[.int .u8 76, .int .u8 77, .int .u8 76, .int .u8 65] 5 (4, 5))) (w1.heap.size + 1) magic _ _ _ rfl (heap_at_new _ _ _ (by simp))
    have HY := Lib.hid hy
    have HR1 := Lib.hid (HR0.out.later (below_all.alloc (Nat.le_refl _) (.cells #[.int .u8 76, .int .u8 77, .int .u8 76, .int .u8 65] 5 (4, 5))))
    clear hy HR0
    generalize (w1.alloc (.cells #[.int .i64 0, .slice none 0 0] 46)).alloc (.cells #[.int .u8 76, .int .u8 77, .int .u8 76, .int .u8 65] 5 (4, 5)) = w2 at *
    obtain ⟨S, hW, hg, hh⟩ := HR1.out.wr
    refine (show Calls _ _ _ _ (Wrote w2 w1.heap.size w1.heap.size S ⟨0, magic⟩) from wbytes_any _ _ S _ _ 4 4 magic w2 hW HY.out (by simp)).mono ?_
    rintro r w3 h3
    obtain ⟨hR3, rfl, _⟩ := HR1.out.step hW hg hh h3
    have HR3 := Lib.hid hR3
    clear h3 hR3 hW hg hh HR1 HY
    generalize w1.heap.size = gw at *
    go_wp2_with fail
    refine (wide_any w.heap.size s w3 HR3.out.sup).mono ?_
    rintro r w4 ⟨⟨h, rfl, hl1, hl2, hp4⟩, hb4⟩
    have hR4 := HR3.out.add hb4 hl1 hl2
    have HQ4 := Lib.hid hp4
    have HL := Lib.hid (show lesOf 4 ((wideL s).take 0) = [] from rfl)
    have HR4 : Hid (PutRel w gw w.heap.size gw [h] s (magic ++ lesOf 4 ((wideL s).take 0)) w4) := by rw [HL.out, List.append_nil]; exact hR4
    clear hR4 hp4 hb4 hl1 hl2 HR3 HL
    go_wp2_with fail
    go_loopw [19] (fun i wr => ∃ k : Nat, i = .int .i64 k ∧ k ≤ 7 ∧ PtrsAt wr h w.heap.size [0, 2, 3, 4, 5, 6, 9] ∧ PutRel w gw w.heap.size gw [h] s (magic ++ lesOf 4 ((wideL s).take k)) wr) (fun i _ => 7 - (intOf i).toNat)
    case atStart => exact ⟨0, rfl, by omega, HQ4.out, HR4.out⟩
    case round =>
      obtain ⟨k, rfl, hk, hp, hR⟩ := hrel
      have HR := Lib.hid hR
      have HQ := Lib.hid hp
      clear HR4 HQ4 hR hp
      by_cases hlt : k < 7
      · obtain ⟨x, hx⟩ : ∃ x, (wideL s)[k]? = some x := ⟨_, List.getElem?_eq_getElem (by simpa [wideL] using hlt)⟩
        have hpx : ([0, 2, 3, 4, 5, 6, 9] : List Nat)[k]? = some x.1 := by
          have := congrArg (Option.map Prod.fst) hx
          rw [← List.getElem?_map] at this
          simpa [wideL] using this
        have cp := HQ.out k x.1 hpx
        have cv := HR.out.sup.wide hx
        obtain ⟨hf0, hf1⟩ := wide_fit HP.out hx
        have HF := Lib.hid (wNum_fit (magic ++ lesOf 4 ((wideL s).take k)) x.2 4 (by omega) hf0 (by omega))
        have HT4 := Lib.hid (lesOf_take (n := 4) hx)
        have hlen : (magic ++ lesOf 4 ((wideL s).take k)).length ≤ 100 := by
          rw [List.length_append, lesOf_length]
          have : ((wideL s).take k).length ≤ 7 := by rw [List.length_take]; simp [wideL]; omega
          simp [magic]; omega
        have hk0 : (0 : Int) ≤ (k : Int) := by omega
        have hk1 : (k : Int) < 7 := by omega
        obtain ⟨S, hW, hg, hh⟩ := HR.out.wr
        have HW := Lib.hid hW
        have HG := Lib.hid hg
        have HH := Lib.hid hh
        clear hpx hx hW hg hh
        generalize x.1 = px at *
        generalize x.2 = vx at *
        go_wp2_with fail
        refine (wnum_any gw gw S _ vx 4 wr HW.out (by simp only; omega) (by omega) (by omega)).mono ?_
        rintro r w5 h5
        rw [show ((4 : Int)) = ((4 : Nat) : Int) from rfl, HF.out] at h5
        obtain ⟨hR5, rfl, ho5⟩ := HR.out.step HW.out HG.out HH.out h5
        rw [List.append_assoc, ← HT4.out] at hR5
        have hp5 := HQ.out.only ho5 (HH.out h (by simp)).1
        have HR5 := Lib.hid hR5
        have HP5 := Lib.hid hp5
        clear h5 hR5 hp5 ho5
        go_wp2_with fail
        exact ⟨⟨k + 1, by go_num, by omega, HP5.out, HR5.out⟩, by simp [intOf]; omega⟩
      · obtain rfl : k = 7 := by omega
        have hE : (magic ++ lesOf 4 ((wideL s).take 7)) = magic ++ lesOf 4 (wideL s) := rfl
        have HE := Lib.hid hE
        clear hE
        go_wp2_with fail
        refine (narrow_any w.heap.size s wr HR.out.sup).mono ?_
        rintro r w4 ⟨⟨h2, rfl, hl1, hl2, hp4⟩, hb4⟩
        have hR4 := HR.out.add hb4 hl1 hl2
        rw [HE.out] at hR4
        have HQ4 := Lib.hid hp4
        have HL := Lib.hid (show lesOf 2 ((narrowL s).take 0) = [] from rfl)
        have HR4 : Hid (PutRel w gw w.heap.size gw [h2, h] s (magic ++ lesOf 4 (wideL s) ++ lesOf 2 ((narrowL s).take 0)) w4) := by rw [HL.out, List.append_nil]; exact hR4
        clear hR4 hp4 hb4 hl1 hl2 HR HL HE HQ hk hlt
        go_wp2_with fail
        go_loopw [30] (fun i wr => ∃ k : Nat, i = .int .i64 k ∧ k ≤ 3 ∧ PtrsAt wr h2 w.heap.size [1, 7, 8] ∧ PutRel w gw w.heap.size gw [h2, h] s (magic ++ lesOf 4 (wideL s) ++ lesOf 2 ((narrowL s).take k)) wr) (fun i _ => 3 - (intOf i).toNat)
        case atStart => exact ⟨0, rfl, by omega, HQ4.out, HR4.out⟩
        case round =>
          obtain ⟨k, rfl, hk, hp, hR⟩ := hrel
          have HR := Lib.hid hR
          have HQ := Lib.hid hp
          clear HR4 HQ4 hR hp
          by_cases hlt : k < 3
          · obtain ⟨x, hx⟩ : ∃ x, (narrowL s)[k]? = some x := ⟨_, List.getElem?_eq_getElem (by simpa [narrowL] using hlt)⟩
            have hpx : ([1, 7, 8] : List Nat)[k]? = some x.1 := by
              have := congrArg (Option.map Prod.fst) hx
              rw [← List.getElem?_map] at this
              simpa [narrowL] using this
            have cp := HQ.out k x.1 hpx
            have cv := HR.out.sup.narrow hx
            obtain ⟨hf0, hf1⟩ := narrow_fit HP.out hx
            have HF := Lib.hid (wNum_fit (magic ++ lesOf 4 (wideL s) ++ lesOf 2 ((narrowL s).take k)) x.2 2 (by omega) hf0 (by omega))
            have HT4 := Lib.hid (lesOf_take (n := 2) hx)
            have hlen : (magic ++ lesOf 4 (wideL s) ++ lesOf 2 ((narrowL s).take k)).length ≤ 100 := by
              rw [List.length_append, List.length_append, lesOf_length, lesOf_length]
              have : ((narrowL s).take k).length ≤ 3 := by rw [List.length_take]; simp [narrowL]; omega
              simp [magic, wideL]; omega
            have hk0 : (0 : Int) ≤ (k : Int) := by omega
            have hk1 : (k : Int) < 3 := by omega
            obtain ⟨S, hW, hg, hh⟩ := HR.out.wr
            have HW := Lib.hid hW
            have HG := Lib.hid hg
            have HH := Lib.hid hh
            clear hpx hx hW hg hh
            generalize x.1 = px at *
            generalize x.2 = vx at *
            go_wp2_with fail
            refine (wnum_any gw gw S _ vx 2 wr HW.out (by simp only; omega) (by omega) (by omega)).mono ?_
            rintro r w5 h5
            rw [show ((2 : Int)) = ((2 : Nat) : Int) from rfl, HF.out] at h5
            obtain ⟨hR5, rfl, ho5⟩ := HR.out.step HW.out HG.out HH.out h5
            rw [List.append_assoc, ← HT4.out] at hR5
            have hp5 := HQ.out.only ho5 (HH.out h2 (by simp)).1
            have HR5 := Lib.hid hR5
            have HP5 := Lib.hid hp5
            clear h5 hR5 hp5 ho5
            go_wp2_with fail
            exact ⟨⟨k + 1, by go_num, by omega, HP5.out, HR5.out⟩, by simp [intOf]; omega⟩
          · obtain rfl : k = 3 := by omega
            have hE : (magic ++ lesOf 4 (wideL s) ++ lesOf 2 ((narrowL s).take 3)) = enc38 s := rfl
            rw [hE] at HR
            obtain ⟨S, hW, hg, hh⟩ := HR.out.wr
            have HW := Lib.hid hW
            have HG := Lib.hid hg
            have HH := Lib.hid hh
            have HTr := Lib.hid (HT.out)
            have h38 := enc38_length s
            have H38 := Lib.hid h38
            obtain ⟨q, hq⟩ : ∃ q, q = Crc.more Crc.entry 0 (enc38 s) := ⟨_, rfl⟩
            have hq32 : q < 4294967296 := by rw [hq]; exact Crc.more_lt _ _ _
            have hqw : IntKind.i64.wrap (q : Int) = (q : Int) := IntWalk.i64_in _ (by omega)
            have HF := Lib.hid (wNum_fit (enc38 s) (q : Int) 4 (by omega) (by omega) (by omega))
            have HQQ := Lib.hid hq
            have HDone := Lib.hid (show Calls Try.prog 21 #[.pointer (some ⟨gw, 0, none⟩)] wr (Fresh wr 38 (enc38 s)) from (done_any gw gw S _ wr hW (by simp only; omega)).mono fun r w' h => by
              unfold Doned at h
              rw [show Cur.wDone ⟨0, enc38 s⟩ = enc38 s from rfl, h38] at h
              exact h)
            clear hE hW hg hh h38 hq hk hlt HQ
            go_wp2_with fail
            refine HDone.out.mono ?_
            rintro r w5 ⟨A5, c5, rfl, hby5, _, _, _, hb5⟩
            have ht5 : TabAt w5 t Crc.entry := fun i hi => ((HR.out.below.trans (hb5.mono HR.out.below.size)).cell (p := ⟨t, i, none⟩) htl).trans (HT.out i hi)
            have HS5 := Lib.hid (sum_any t Crc.entry A5 38 c5 (enc38 s) w5 ht5 entry_lt256 hby5 (by omega))
            rw [← HQQ.out] at HS5
            have HR5 := Lib.hid (HR.out.later hb5)
            have HW5 := Lib.hid (HW.out.below hb5)
            clear hby5 ht5 hb5 HDone
            go_wp2_with fail
            refine HS5.out.mono ?_
            rintro r w' ⟨rfl, rfl⟩
            go_wp2_with fail
            refine (wnum_any gw gw S _ (q : Int) 4 w5 HW5.out (by have := H38.out; simp only; omega) (by omega) (by omega)).mono ?_
            rintro r w6 h6
            rw [show ((4 : Int)) = ((4 : Nat) : Int) from rfl, HF.out] at h6
            have HH5 : Hid (∀ k ∈ [h2, h], k ∉ S ∧ k < w5.heap.size) := fun k hk => by
              obtain ⟨h1, h2'⟩ := HH.out k hk
              obtain ⟨S', hW', hg', hh'⟩ := HR5.out.wr
              exact ⟨h1, (hh' k hk).2⟩
            obtain ⟨hR6, rfl, ho6⟩ := HR5.out.step HW5.out HG.out HH5.out h6
            rw [Int.toNat_natCast] at hR6
            have HR6 := Lib.hid hR6
            clear h6 hR6 ho6 HR5 HW5 HS5 HR HW
            have h42 : (enc38 s ++ Cur.leBytes q 4).length = 42 := by rw [List.length_append, H38.out, Cur.leBytes_length]
            have H42 := Lib.hid h42
            obtain ⟨S6, hW6, hg6, hh6⟩ := HR6.out.wr
            have HLen := Lib.hid (show Calls Try.prog 22 #[.pointer (some ⟨gw, 0, none⟩)] w6 (fun r w' => r = .returned (.int .i64 42) ∧ Below w6.heap.size w6 w') from (len_any gw gw S6 _ w6 hW6 (by simp only; omega)).mono fun r w' h => by
              obtain ⟨h1, h2⟩ := h
              rw [show Cur.wDone ⟨0, enc38 s ++ Cur.leBytes q 4⟩ = enc38 s ++ Cur.leBytes q 4 from rfl, h42] at h1
              exact ⟨h1, h2⟩)
            clear hW6 hg6 hh6 h42 HF
            go_wp2_with fail
            refine HLen.out.mono ?_
            rintro r w7 ⟨rfl, hb7⟩
            have HR7 := Lib.hid (HR6.out.later hb7)
            clear hb7 HLen HR6
            have hmk : ∀ W : World, (Instr.makeSlice 29 (.int .i64 22) (.int .i64 22)).run Try.prog W = .ok (.slice (some ⟨W.heap.size, 0, none⟩) 22 22) (W.alloc (.cells (madeCells #[.int .u8 0] 22) 5)) :=
              fun W => run_make_row' (P := Try.prog) 29 5 (.int .u8 0) 1 Try.underlying29 u8_info rfl .i64 .i64 22 (by omega) (by omega) W
            go_wp2_with fail
            clear hmk
            have hy := bytes_lit (w7.alloc (.cells (madeCells #[.int .u8 0] 22) 5)) w7.heap.size (List.replicate 22 0) _ _ _ made22 (heap_alloc_new w7 _)
            have HY := Lib.hid hy
            have HR8 := Lib.hid (HR7.out.later (below_all.alloc (Nat.le_refl _) (.cells (madeCells #[.int .u8 0] 22) 5)))
            clear hy HR7
            generalize w7.alloc (.cells (madeCells #[.int .u8 0] 22) 5) = w8 at *
            obtain ⟨S8, hW, hg, hh⟩ := HR8.out.wr
            have hen : enc38 s ++ Cur.leBytes q 4 ++ List.replicate 22 0 = enc s := by rw [HQQ.out]; rfl
            refine (show Calls _ _ _ _ (Wrote w8 gw gw S8 ⟨0, enc s⟩) from (wbytes_any _ _ S8 _ _ 22 22 (List.replicate 22 0) w8 hW HY.out (by have := H42.out; simp only; omega)).mono fun r w' h => by
              rw [show Cur.wBytes ⟨0, enc38 s ++ Cur.leBytes q 4⟩ (List.replicate 22 0) = ⟨0, enc38 s ++ Cur.leBytes q 4 ++ List.replicate 22 0⟩ from rfl, hen] at h
              exact h).mono ?_
            rintro r w9 h9
            obtain ⟨hR9, rfl, _⟩ := HR8.out.step hW hg hh h9
            have HR9 := Lib.hid hR9
            clear h9 hR9 hW hg hh HR8 HY hen
            obtain ⟨S9, hW, hg, hh⟩ := HR9.out.wr
            have HDone := Lib.hid (done_own gw gw S9 (enc s) w9 hW (by rw [enc_length]; omega))
            have HW := Lib.hid hW
            have HLE := Lib.hid (enc_length s)
            clear hW hg hh
            go_wp2_with fail
            refine HDone.out.mono ?_
            rintro r w10 ⟨A, c, rfl, hby, hb10⟩
            have HB10 := Lib.hid hby
            have HB := Lib.hid hb10
            have hW10 := HW.out.below hb10
            clear hby hb10
            go_wp2_with fail
            refine (werr_any gw gw S9 _ w10 hW10).mono ?_
            rintro r w' ⟨rfl, rfl⟩
            go_wp2_with fail
            go_ret2
            rw [HPE.out, HPB.out]
            exact ⟨A, c, rfl, Joins.ownsRow_le HB10.out HR9.out.below.size, below_then HR9.out.below HB.out⟩
end Go.Proofs.Ythfghomnbldmfaa
