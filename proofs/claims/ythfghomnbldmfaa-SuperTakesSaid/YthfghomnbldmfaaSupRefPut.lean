/- Walk: the document's Put (lamellaref08). -/
import Derived.Test.YthfghomnbldmfaaRows
import Derived.Test.YthfghomnbldmfaaSupPut
import Derived.Test.YthfghomnbldmfaaCurRWText
namespace Go.Proofs.Ythfghomnbldmfaa
set_option linter.unusedVariables false
set_option linter.unusedSimpArgs false
open Go.RowKit

theorem new_rwriter (w : World) (B : Nat) (hB : B ≤ w.heap.size) : RwAt (w.alloc (.cells #[.slice none 0 0, .int .i64 ((0 : Nat) : Int)] 58)) B w.heap.size [w.heap.size] ⟨0, []⟩ :=
  ⟨_, Two.new w _ _ _, World.ownsRow_nil _ _ _ _, hB, rfl⟩
/-- What holds while the document's writer writes. -/
structure RPutRel (w : World) (B gs gw : Nat) (s : Sup) (bs : List UInt8) (wr : World) : Prop where
  below : Below w.heap.size w wr
  sup : SupAt wr gs s
  wr : ∃ S, RwAt wr B gw S ⟨0, bs⟩ ∧ gs ∉ S
  base : w.heap.size ≤ B
theorem RPutRel.later {w wr w' : World} {B gs gw : Nat} {s : Sup} {bs : List UInt8} (H : RPutRel w B gs gw s bs wr) (hb : Below wr.heap.size wr w') : RPutRel w B gs gw s bs w' := by
  obtain ⟨S, h1, h2⟩ := H.wr
  exact ⟨below_then H.below hb, H.sup.below hb, ⟨S, h1.below hb, h2⟩, H.base⟩
theorem RPutRel.step {w wr w5 : World} {B gs gw : Nat} {S : List Nat} {s : Sup} {bs bs' : List UInt8} {r : Ending} (H : RPutRel w B gs gw s bs wr) (hW : RwAt wr B gw S ⟨0, bs⟩) (h2 : gs ∉ S) (k : Rwrote wr B gw S ⟨0, bs'⟩ r w5) :
    r = .returned (.tuple #[]) ∧ RPutRel w B gs gw s bs' w5 := by
  obtain ⟨hr, S', hw', ho, hs'⟩ := k
  refine ⟨hr, ⟨H.below.trans (ho.below (fun j hj => Nat.le_trans H.base (hW.all j hj).1) H.below.size), H.sup.only ho h2, ⟨S', hw', fun hin => ?_⟩, H.base⟩⟩
  rcases hs' gs hin with h | h
  · exact h2 h
  · have := H.sup.lt; omega
theorem rnum_step {w wr : World} {B gs gw : Nat} {s : Sup} {bs : List UInt8} (H : RPutRel w B gs gw s bs wr) (z : Int) (n : Nat) (hn : 1 ≤ n ∧ n ≤ 4) (h0 : 0 ≤ z) (h1 : z < (256 : Int) ^ n) (hz : z < 4294967296) (hl : bs.length ≤ 100) :
    Calls Try.prog 25 #[.pointer (some ⟨gw, 0, none⟩), .int .i64 z, .int .i64 (n : Nat)] wr fun r w' => r = .returned (.tuple #[]) ∧ RPutRel w B gs gw s (bs ++ Cur.leBytes z.toNat n) w' := by
  obtain ⟨S, hW, h2⟩ := H.wr
  refine (rwnum_any B gw S _ z (n : Nat) wr hW (by simp only; omega) (by omega) (by omega)).mono fun r w' h => ?_
  rw [wNum_fit bs z n hn h0 h1] at h
  exact H.step hW h2 h
theorem rput_start (w w1 : World) (s : Sup) (hs : SupAt w1 w.heap.size s) (hb : Below w.heap.size w w1) : RPutRel w w1.heap.size w.heap.size w1.heap.size s [] (w1.alloc (.cells #[.slice none 0 0, .int .i64 0] 58)) :=
  ⟨hb.alloc hb.size _, hs.below (below_all.alloc (Nat.le_refl _) _), ⟨_, new_rwriter w1 w1.heap.size (Nat.le_refl _), by have := hs.lt; simp; omega⟩, hb.size⟩
def fours (s : Sup) : List Int := [s.size, s.inodeAt, s.dirAt, s.fragAt, s.idAt, s.xattrAt, s.root]
theorem sup_fits {s : Sup} (h : SupP s) : (0 ≤ s.size ∧ s.size < 4294967296) ∧ (0 ≤ s.inodeAt ∧ s.inodeAt < 4294967296) ∧ (0 ≤ s.dirAt ∧ s.dirAt < 4294967296) ∧ (0 ≤ s.fragAt ∧ s.fragAt < 4294967296) ∧ (0 ≤ s.idAt ∧ s.idAt < 4294967296) ∧ (0 ≤ s.xattrAt ∧ s.xattrAt < 4294967296) ∧ (0 ≤ s.root ∧ s.root < 4294967296) ∧
    (0 ≤ s.inodes ∧ s.inodes < 65536) ∧ (0 ≤ s.ids ∧ s.ids < 65536) ∧ (0 ≤ s.frags ∧ s.frags < 65536) := by
  unfold SupP at h
  omega
theorem enc38_spelt (s : Sup) : magic ++ Cur.leBytes s.size.toNat 4 ++ Cur.leBytes s.inodeAt.toNat 4 ++ Cur.leBytes s.dirAt.toNat 4 ++ Cur.leBytes s.fragAt.toNat 4 ++ Cur.leBytes s.idAt.toNat 4 ++ Cur.leBytes s.xattrAt.toNat 4 ++ Cur.leBytes s.root.toNat 4 ++ Cur.leBytes s.inodes.toNat 2 ++ Cur.leBytes s.ids.toNat 2 ++ Cur.leBytes s.frags.toNat 2 = enc38 s := by
  simp only [enc38, lesOf, wideL, narrowL, List.flatMap_cons, List.flatMap_nil, List.append_nil, List.append_assoc]
/-- The bytes that the document pads: k zeroes behind the first 42. -/
theorem pad_step (e : List UInt8) (k : Nat) : e ++ List.replicate k 0 ++ [0] = e ++ List.replicate (k + 1) 0 := by
  rw [List.append_assoc, ← List.replicate_succ']
def lenOf : Value → Nat
  | .slice _ n _ => n
  | _ => 0
set_option maxRecDepth 100000 in
set_option maxHeartbeats 4000000 in
theorem refPut_any (s : Sup) (w : World) : Calls Try.prog 11 #[.agg (supCells s)] w (PutRes w (putBs s) (putE s)) := by
  have HM := Lib.hid (refMay_any s)
  have hs0 := SupAt.new w s
  have HS0 := Lib.hid hs0
  clear hs0
  obtain ⟨b, hb⟩ : ∃ b, supB s = b := ⟨_, rfl⟩
  have HBB := Lib.hid hb
  rw [hb] at HM
  clear hb
  unfold supCells
  go_enter Try.func11, Try.ntmps11
  go_wp2_with fail
  refine (HM.out _).mono ?_
  rintro r w1 ⟨rfl, hb1⟩
  have HS1 := Lib.hid (HS0.out.below (by simpa [supCells] using hb1))
  have HB1 : Hid (Below w.heap.size w w1) := (below_all.alloc (Nat.le_refl _) _).trans (hb1.mono (by simp))
  clear hb1 HS0 HM
  cases b
  · go_wp2_with fail
    go_ret2
    have he : putE s = 1 := by unfold putE; rw [HBB.out]; rfl
    have hbs : putBs s = [] := by unfold putBs; rw [HBB.out]; rfl
    rw [he, hbs]
    exact ⟨none, 0, rfl, World.ownsRow_nil _ _ _ _, HB1.out⟩
  · have he : putE s = 0 := by unfold putE; rw [HBB.out]; rfl
    have hbs : putBs s = enc s := by unfold putBs; rw [HBB.out]; rfl
    have HP : Hid (SupP s) := (supB_iff s).1 HBB.out
    have HPE := Lib.hid he
    have HPB := Lib.hid hbs
    clear he hbs
    have HR0 := Lib.hid (rput_start w w1 s HS1.out HB1.out)
    have kc := fun (w : World) (C : Array Value) (n c g : Nat) (hg : g = w.heap.size) => Joins.run_convert_bytes_const_at (P := Try.prog) w 29 5 C n c g hg Try.underlying29 Try.underlying5
    go_wp2_with fail
    clear kc
    have hy := bytes_lit ((w1.alloc (.cells #[.slice none 0 0, .int .i64 0] 58)).alloc (.cells #[.int .u8 76, .int .u8 77, .int .u8 76, .int .u8 65] 5 (4, 5))) (w1.heap.size + 1) magic _ _ _ rfl (heap_at_new _ _ _ (by simp))
    have HY := Lib.hid hy
    have HR1 := Lib.hid (HR0.out.later (below_all.alloc (Nat.le_refl _) (.cells #[.int .u8 76, .int .u8 77, .int .u8 76, .int .u8 65] 5 (4, 5))))
    clear hy HR0
    generalize (w1.alloc (.cells #[.slice none 0 0, .int .i64 0] 58)).alloc (.cells #[.int .u8 76, .int .u8 77, .int .u8 76, .int .u8 65] 5 (4, 5)) = w2 at *
    obtain ⟨S, hW, hg⟩ := HR1.out.wr
    refine (show Calls _ _ _ _ (Rwrote w2 w1.heap.size w1.heap.size S ⟨0, magic⟩) from rwbytes_any _ _ S _ _ 4 4 magic w2 hW HY.out (by simp)).mono ?_
    rintro r w3 h3
    obtain ⟨rfl, hR3⟩ := HR1.out.step hW hg h3
    have HR3 := Lib.hid hR3
    clear h3 hR3 hW hg HR1 HY
    generalize w1.heap.size = gw at *
    obtain ⟨⟨f00, f01⟩, ⟨f20, f21⟩, ⟨f30, f31⟩, ⟨f40, f41⟩, ⟨f50, f51⟩, ⟨f60, f61⟩, ⟨f90, f91⟩, ⟨f10, f11⟩, ⟨f70, f71⟩, ⟨f80, f81⟩⟩ := sup_fits HP.out
    have c0 := HR3.out.sup.c0
    go_wp2_with fail
    refine (rnum_step HR3.out s.size 4 (by omega) (by omega) (by omega) (by omega) (by simp [magic, Cur.leBytes_length])).mono ?_
    rintro r w4 ⟨rfl, hR4⟩
    have HR4 := Lib.hid hR4
    clear hR4 HR3 c0
    have c2 := HR4.out.sup.c2
    go_wp2_with fail
    refine (rnum_step HR4.out s.inodeAt 4 (by omega) (by omega) (by omega) (by omega) (by simp [magic, Cur.leBytes_length])).mono ?_
    rintro r w5 ⟨rfl, hR5⟩
    have HR5 := Lib.hid hR5
    clear hR5 HR4 c2
    have c3 := HR5.out.sup.c3
    go_wp2_with fail
    refine (rnum_step HR5.out s.dirAt 4 (by omega) (by omega) (by omega) (by omega) (by simp [magic, Cur.leBytes_length])).mono ?_
    rintro r w6 ⟨rfl, hR6⟩
    have HR6 := Lib.hid hR6
    clear hR6 HR5 c3
    have c4 := HR6.out.sup.c4
    go_wp2_with fail
    refine (rnum_step HR6.out s.fragAt 4 (by omega) (by omega) (by omega) (by omega) (by simp [magic, Cur.leBytes_length])).mono ?_
    rintro r w7 ⟨rfl, hR7⟩
    have HR7 := Lib.hid hR7
    clear hR7 HR6 c4
    have c5 := HR7.out.sup.c5
    go_wp2_with fail
    refine (rnum_step HR7.out s.idAt 4 (by omega) (by omega) (by omega) (by omega) (by simp [magic, Cur.leBytes_length])).mono ?_
    rintro r w8 ⟨rfl, hR8⟩
    have HR8 := Lib.hid hR8
    clear hR8 HR7 c5
    have c6 := HR8.out.sup.c6
    go_wp2_with fail
    refine (rnum_step HR8.out s.xattrAt 4 (by omega) (by omega) (by omega) (by omega) (by simp [magic, Cur.leBytes_length])).mono ?_
    rintro r w9 ⟨rfl, hR9⟩
    have HR9 := Lib.hid hR9
    clear hR9 HR8 c6
    have c9 := HR9.out.sup.c9
    go_wp2_with fail
    refine (rnum_step HR9.out s.root 4 (by omega) (by omega) (by omega) (by omega) (by simp [magic, Cur.leBytes_length])).mono ?_
    rintro r w10 ⟨rfl, hR10⟩
    have HR10 := Lib.hid hR10
    clear hR10 HR9 c9
    have c1 := HR10.out.sup.c1
    go_wp2_with fail
    refine (rnum_step HR10.out s.inodes 2 (by omega) (by omega) (by omega) (by omega) (by simp [magic, Cur.leBytes_length])).mono ?_
    rintro r w11 ⟨rfl, hR11⟩
    have HR11 := Lib.hid hR11
    clear hR11 HR10 c1
    have c7 := HR11.out.sup.c7
    go_wp2_with fail
    refine (rnum_step HR11.out s.ids 2 (by omega) (by omega) (by omega) (by omega) (by simp [magic, Cur.leBytes_length])).mono ?_
    rintro r w12 ⟨rfl, hR12⟩
    have HR12 := Lib.hid hR12
    clear hR12 HR11 c7
    have c8 := HR12.out.sup.c8
    go_wp2_with fail
    refine (rnum_step HR12.out s.frags 2 (by omega) (by omega) (by omega) (by omega) (by simp [magic, Cur.leBytes_length])).mono ?_
    rintro r w13 ⟨rfl, hR13⟩
    have HR13 := Lib.hid hR13
    clear hR13 HR12 c8
    have hE := HR13.out
    rw [enc38_spelt s] at hE
    obtain ⟨S, hW, hg⟩ := hE.wr
    obtain ⟨v, htwo, hown, _, _⟩ := hW
    obtain ⟨A0, n0, rfl, hby0, _, hcm0, _⟩ := own_form hown
    have c0 := htwo.c0
    have h38 := enc38_length s
    simp only [h38] at c0 hby0
    obtain ⟨q, hq⟩ : ∃ q, q = Crc.sum (enc38 s) := ⟨_, rfl⟩
    have hq32 : q < 4294967296 := by rw [hq]; exact Crc.sum_lt _
    have hqw : IntKind.i64.wrap (q : Int) = (q : Int) := IntWalk.i64_in _ (by omega)
    have HSum := Lib.hid (refSum_any A0 38 n0 (enc38 s) w13 hby0 (by omega))
    rw [← hq] at HSum
    have HQQ := Lib.hid hq
    have HE := Lib.hid hE
    have H38 := Lib.hid h38
    clear hE hg htwo hown hby0 hq h38 HR13
    go_wp2_with fail
    refine HSum.out.mono ?_
    rintro r w' ⟨rfl, rfl⟩
    go_wp2_with fail
    refine (rnum_step HE.out (q : Int) 4 (by omega) (by omega) (by omega) (by omega) (by have := H38.out; omega)).mono ?_
    rintro r w20 ⟨rfl, hR20⟩
    rw [Int.toNat_natCast] at hR20
    have HR20 := Lib.hid hR20
    obtain ⟨S, hW, hg⟩ := HR20.out.wr
    have h42 : (enc38 s ++ Cur.leBytes q 4).length = 42 := by rw [List.length_append, H38.out, Cur.leBytes_length]
    have HD := Lib.hid (rdone_own _ gw S _ w20 hW (by omega))
    have H42 := Lib.hid h42
    have hen : enc38 s ++ Cur.leBytes q 4 ++ List.replicate 22 0 = enc s := by rw [HQQ.out]; rfl
    have HEN := Lib.hid hen
    clear hR20 hW hg HSum HE c0 h42 hen
    go_wp2_with fail
    refine HD.out.mono ?_
    rintro r w21 ⟨A, c, rfl, hown, hb21⟩
    have HB21 : Hid (Below w.heap.size w w21) := below_then HR20.out.below hb21
    have HO21 := Lib.hid (Joins.ownsRow_le hown HR20.out.below.size)
    obtain ⟨i0, hi, hz0, hz1, hz2⟩ := info_parts u8_info
    have HI := Lib.hid hi
    clear hown hb21 hi HR20 HD
    generalize enc38 s ++ Cur.leBytes q 4 = e42 at *
    go_wp2_with fail
    go_loopw [6] (fun b wr => ∃ (k : Nat) (A : Option Addr) (c : Nat), b = .slice A (42 + k) c ∧ k ≤ 22 ∧ wr.ownsRow w.heap.size 5 1 (.slice A (42 + k) c) (42 + k) (u8s (e42 ++ List.replicate k 0)) ∧ Below w.heap.size w wr) (fun b _ => 64 - lenOf b)
    case atStart => exact ⟨0, A, c, by rw [H42.out], by omega, by have := HO21.out; rw [H42.out] at this; simpa using this, HB21.out⟩
    case round =>
      obtain ⟨k, A, c, rfl, hk, hown, hbel⟩ := hrel
      have HO := Lib.hid hown
      have HB := Lib.hid hbel
      clear hown hbel HO21 HB21
      by_cases hlt : k < 22
      · have h64 : ((42 + k : Nat) : Int) < 64 := by omega
        have hs := HB.out.size
        have hy := bytes_lit (wr.alloc (.cells #[.int .u8 0] 5)) wr.heap.size [0] _ _ _ rfl (heap_alloc_new wr _)
        have HY := Lib.hid hy
        have HO1 := Lib.hid (own_below HO.out (below_all.alloc (Nat.le_refl _) (.cells #[.int .u8 0] 5)))
        clear hy
        go_wp2_with (at_builtin; refine wpList_append_bytes _ rfl (.tmp 54) (.tmp 55) _ rfl w.heap.size 5 i0 _ 1 Try.underlying29 HI.out hz0 hz1 hz2 rfl _ (42 + k) (e42 ++ List.replicate k 0) rfl HO1.out (some ⟨wr.heap.size, 0, none⟩) 1 1 [0] rfl HY.out (by simp only [maxLen]; omega) (by omega) (by simp; omega) ?_; intro v2 w2 hown hgrow _)
        obtain ⟨A2, c2, rfl, _⟩ := own_form hown
        rw [pad_step] at hown
        refine ⟨⟨k + 1, A2, c2, rfl, by omega, hown, below_append (HB.out.alloc hs _) hgrow HO1.out (Nat.le_refl _) (by simp; omega)⟩, by simp [lenOf]; omega⟩
      · obtain rfl : k = 22 := by omega
        go_wp2_with fail
        go_ret2
        rw [HPE.out, HPB.out]
        have hO := HO.out
        rw [HEN.out] at hO
        have hl := enc_length s
        exact ⟨A, c, by rw [hl]; rfl, by rw [hl]; exact hO, HB.out⟩
end Go.Proofs.Ythfghomnbldmfaa
