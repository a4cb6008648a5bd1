/- Walk: super.Take: the superblock of an image. -/
import Derived.Test.YthfghomnbldmfaaRows
import Derived.Test.YthfghomnbldmfaaSupPut
import Derived.Test.YthfghomnbldmfaaSupTk
import Derived.Deep.DeepCutAuto
import Derived.Great.BuildSlice
import Derived.Test.YthfghomnbldmfaaCurNum
import Derived.Test.YthfghomnbldmfaaCurRef
import Derived.Test.YthfghomnbldmfaaSupZero
namespace Go.Proofs.Ythfghomnbldmfaa
set_option linter.unusedVariables false
set_option linter.unusedSimpArgs false
open Go.RowKit

theorem SupAt.set {w : World} {g : Nat} {s : Sup} (h : SupAt w g s) {p : Nat} (hp : p < 10) (v : Int) : SupAt (w.setCell ⟨g, p, none⟩ (.int .i64 v)) g (supSet s p v) := by
  have := heap_setCell_same w g p (supCells s) 23 (.int .i64 v) h
  rw [supSet_cells s p v hp] at this
  exact this
theorem SupAt.free {w : World} {g : Nat} {s : Sup} (h : SupAt w g s) (p : Nat) : w.frozen? ⟨g, p, none⟩ = false := frozen_of_row w g p _ _ h
theorem SupAt.some_ {w : World} {g : Nat} {s : Sup} (h : SupAt w g s) {p : Nat} (hp : p < 10) : ∃ v, w.cell? ⟨g, p, none⟩ = some v := by
  rw [cell_of_row w g p _ _ _ h]
  exact ⟨_, Array.getElem?_eq_getElem (by simpa [supCells] using hp)⟩
theorem supCells_i64 (s : Sup) (i : Nat) (b : Int) : (supCells s)[i]? ≠ some (.int .u8 b) := by
  unfold supCells
  match i with
  | 0 => simp
  | 1 => simp
  | 2 => simp
  | 3 => simp
  | 4 => simp
  | 5 => simp
  | 6 => simp
  | 7 => simp
  | 8 => simp
  | 9 => simp
  | i + 10 => simp
theorem SupAt.apart {w : World} {g : Nat} {s : Sup} (h : SupAt w g s) {A : Option Addr} {n : Nat} {bs : List UInt8} (hb : Bytes w A n bs) : ∀ b off, A = some ⟨b, off, none⟩ → 0 < n → b ≠ g := by
  rintro b off rfl hn rfl
  obtain ⟨b', off', hA, hc⟩ := hb.2 hn
  injection hA with hA
  injection hA with h1 h2
  subst h1 h2
  have h0 := hc 0 hn
  rw [Nat.add_zero, cell_of_row w b off _ _ (0, 0) h] at h0
  exact supCells_i64 s off _ h0
theorem RdAt.onlySup {w w' : World} {y gs : Nat} {st : Cur.St} {s : Sup} (h : RdAt w y st) (ho : Only [gs] w w') (hne : y ≠ gs) (hs : SupAt w gs s) : RdAt w' y st := by
  obtain ⟨A, n, c, h1, h2, h3⟩ := h
  exact ⟨A, n, c, h1.only ho (by simpa using hne), h2.only ho (fun b off hA hn => by have := hs.apart h2 b off hA hn; simpa using this), h3⟩

/-- What holds while a superblock is read. -/
structure TakeRel (w : World) (gs y g0 : Nat) (x : Sup × Cur.St) (wr : World) : Prop where
  below : Below w.heap.size w wr
  sup : SupAt wr gs x.1
  rd : RdAt wr y x.2
  res : SupAt wr g0 sup0
  ne : gs ≠ y ∧ g0 ≠ gs ∧ g0 ≠ y ∧ w.heap.size ≤ gs ∧ w.heap.size ≤ y ∧ w.heap.size ≤ g0
  len : x.2.bs.length ≤ 64
section
variable {w wr w5 w' : World} {gs y g0 h : Nat} {x : Sup × Cur.St}
theorem TakeRel.later (H : TakeRel w gs y g0 x wr) (hb : Below wr.heap.size wr w') : TakeRel w gs y g0 x w' :=
  ⟨below_then H.below hb, H.sup.below hb, H.rd.below hb, H.res.below hb, H.ne, H.len⟩
theorem TakeRel.read {st : Cur.St} (H : TakeRel w gs y g0 x wr) (ho : Only [y] wr w5) (hr : RdAt w5 y st) (hl : st.bs.length ≤ x.2.bs.length) : TakeRel w gs y g0 (x.1, st) w5 :=
  ⟨H.below.trans (ho.below (fun k hk => by have := H.ne; simp at hk; omega) H.below.size), H.sup.only ho (by have := H.ne; simp; omega), hr, H.res.only ho (by have := H.ne; simp; omega), H.ne, Nat.le_trans hl H.len⟩
theorem TakeRel.store (H : TakeRel w gs y g0 x wr) {p : Nat} (hp : p < 10) (v : Int) : TakeRel w gs y g0 (supSet x.1 p v, x.2) (wr.setCell ⟨gs, p, none⟩ (.int .i64 v)) := by
  have ho : Only [gs] wr (wr.setCell ⟨gs, p, none⟩ (.int .i64 v)) := (Only.refl _ _).setCell (.inl (by simp)) _
  have hn := H.ne
  exact ⟨H.below.trans (ho.below (fun k hk => by simp at hk; omega) H.below.size), H.sup.set hp v, H.rd.onlySup ho (by omega) H.sup, H.res.only ho (by simp; omega), hn, H.len⟩
theorem TakeRel.ptrs {ps : List Nat} (HP : PtrsAt wr h gs ps) (hne : h ≠ gs ∧ h ≠ y) (ho : Only [y] wr w5) (p : Nat) (v : Value) : PtrsAt (w5.setCell ⟨gs, p, none⟩ v) h gs ps :=
  (HP.only ho (by simp; omega)).only ((Only.refl _ _).setCell (S := [gs]) (.inl (by simp)) _) (by simp; omega)
end
theorem rBytes_len (s : Cur.St) (n : Int) : (Cur.rBytes s n).1.length ≤ s.bs.length ∧ (Cur.rBytes s n).2.bs.length ≤ s.bs.length := by
  unfold Cur.rBytes
  split <;> simp <;> omega
theorem rderr_any' (g : Nat) (s : Cur.St) (w : World) (h : RdAt w g s) :
    Calls Try.prog 23 #[.pointer (some ⟨g, 0, none⟩)] w fun r w' => r = .returned (.int .i64 (s.e : Nat)) ∧ w = w' := by
  obtain ⟨A, m, c, ht, hb, hmc, hc⟩ := h
  exact err_any g s.e _ _ w ht
theorem results_cell_tmp_row {P : Program} {fn : Func} {p u : Tmp} {ty : TypeId} (h : fn.results = #[.cell p ty, .tmp u]) (tmps : Array Value) (w : World) (g : Nat) (t : TypeId) (cs : Array Value) (fr : Nat × Nat) (d : TypeDesc)
    (hp : tmps.getD p undef = .pointer (some ⟨g, 0, none⟩)) (hg : w.heap[g]? = some (.cells cs t fr))
    (hu : P.underlying ty = some d) (hd : (match d with | .struct _ | .array _ _ => true | _ => false) = true) (hi : (P.info? ty).map (·.size) = some cs.size) :
    (results fn tmps).run P w = .ok (.tuple #[.agg cs, tmps.getD u undef]) w := by
  rw [results_cell_tmp h, hp]
  simp [asAddr, run_loadVar_row w g t ty cs fr d hg hu hd hi, Result.andThen]
theorem below_row {B g : Nat} {a w : World} (h : Below B a w) (hg : B ≤ g) (cs : Array Value) : Below B a (w.setRow g cs) :=
  ⟨h.os, h.tape, h.output, by rw [size_setRow]; exact h.size, fun k hk => (setRow_other w g k cs (by omega)).trans (h.block k hk)⟩
theorem supSize (s : Sup) : (Try.prog.info? 23).map (·.size) = some (supCells s).size := by
  have : (Try.prog.info? 23).map (·.size) = some 10 := by kernel_rfl
  rw [this]; rfl
theorem supOne (s : Sup) : (supCells s).all (·.oneCell') = true := by simp [supCells, Value.oneCell']
set_option maxRecDepth 100000 in
set_option maxHeartbeats 4000000 in
theorem take_any (t : Nat) (A : Option Addr) (n c : Nat) (bs : List UInt8) (w : World) (ht : TabAt w t Crc.entry) (htl : t < w.heap.size) (hb : Bytes w A n bs) (hnc : n ≤ c) (hcm : c ≤ 9223372036854775807) :
    Calls Try.prog 14 #[.pointer (some ⟨t, 0, none⟩), .slice A n c] w fun r w' => r = .returned (.tuple #[.agg (supCells (takeS bs)), .int .i64 (takeE bs : Nat)]) ∧ Below w.heap.size w w' := by
  obtain ⟨m, hm⟩ : ∃ m, m = min n 64 := ⟨_, rfl⟩
  have hbm := hb.take (show m ≤ n by omega)
  have htk : bs.take m = bs.take 64 := by
    rcases Nat.le_total n 64 with h | h
    · rw [hm, Nat.min_eq_left h, List.take_of_length_le (by rw [hb.1]; omega), List.take_of_length_le (by rw [hb.1]; omega)]
    · rw [hm, Nat.min_eq_right h]
  rw [htk] at hbm
  have HB := Lib.hid hb
  have HBM := Lib.hid hbm
  have HT := Lib.hid ht
  clear htk hb hbm ht
  rcases (show (m = n ∧ n ≤ 64) ∨ (m = 64 ∧ 64 < n) by omega) with ⟨rfl, hlt⟩ | ⟨rfl, hlt⟩
  all_goals
    clear hm
    go_enter Try.func14, Try.ntmps14
    go_wp2_with fail
    refine (read_any A _ c (bs.take 64) _ (HBM.out.alloc _) (by omega)).mono ?_
    rintro r w1 ⟨y, rfl, hr1, hy1, hb1⟩
    have HR0 : Hid (TakeRel w w1.heap.size y w.heap.size (sup0, ⟨0, bs.take 64⟩) (w1.alloc (.cells (supCells sup0) 23))) := by
      have h0 : Below w.heap.size w (w.alloc (.cells (supCells sup0) 23)) := below_all.alloc (Nat.le_refl _) _
      have hb2 : Below w.heap.size w w1 := h0.trans (hb1.mono (by simp))
      have hal : Below w1.heap.size w1 (w1.alloc (.cells (supCells sup0) 23)) := below_all.alloc (Nat.le_refl _) _
      have hg0 : SupAt w1 w.heap.size sup0 := (SupAt.new w sup0).below hb1
      have h3 := hr1.lt
      have h4 := hg0.lt
      have h5 : (w.alloc (.cells (supCells sup0) 23)).heap.size = w.heap.size + 1 := by simp
      have h6 : w.heap.size + 1 ≤ y := by rw [← h5]; exact hy1
      exact ⟨below_then hb2 hal, SupAt.new w1 sup0, hr1.below hal, hg0.below hal, ⟨by omega, by omega, by omega, by omega, by omega, Nat.le_refl _⟩, by simp; omega⟩
    clear hr1 hy1 hb1
    go_wp2_with fail
    have HR1 : Hid (TakeRel w w1.heap.size y w.heap.size (sup0, ⟨0, bs.take 64⟩) (w1.alloc (.cells #[.int .i64 0, .int .i64 0, .int .i64 0, .int .i64 0, .int .i64 0, .int .i64 0, .int .i64 0, .int .i64 0, .int .i64 0, .int .i64 0] 23))) := HR0.out
    clear HR0
    generalize w1.alloc (.cells #[.int .i64 0, .int .i64 0, .int .i64 0, .int .i64 0, .int .i64 0, .int .i64 0, .int .i64 0, .int .i64 0, .int .i64 0, .int .i64 0] 23) = wA at *
    generalize w1.heap.size = gs at *
    refine (bytes_any y ⟨0, bs.take 64⟩ 4 wA HR1.out.rd (by simp only [List.length_take]; omega) (by omega)).mono ?_
    rintro r w2 ⟨A2, k2, c2, rfl, hby2, hkc2, hcc2, hf2, hr2, ho2⟩
    have HR2 : Hid (TakeRel w gs y w.heap.size (sup0, tkSt bs) w2) := HR1.out.read ho2 hr2 (by unfold tkSt Cur.rBytes; split <;> simp)
    have v2 := run_string (P := Try.prog) hby2 29 5 9 Try.underlying29 Try.underlying5 Try.underlying9 c2
    clear hby2 hkc2 hcc2 hf2 hr2 ho2 HR1
    obtain ⟨b1, hb1⟩ : ∃ b1, b1 = (Cur.rBytes ⟨0, bs.take 64⟩ 4).1 := ⟨_, rfl⟩
    have HB1 := Lib.hid hb1
    rw [← hb1] at v2
    clear hb1
    go_wp2_with fail
    refine (wide_any gs sup0 w2 HR2.out.sup).mono ?_
    rintro r w4 ⟨⟨h, rfl, hl1, hl2, hp4⟩, hb4⟩
    have HNE : Hid (h ≠ gs ∧ h ≠ y) := by have h1 := HR2.out.sup.lt; have h2 := HR2.out.rd.lt; exact (⟨by omega, by omega⟩ : h ≠ gs ∧ h ≠ y)
    have HR4 : Hid (TakeRel w gs y w.heap.size (rds 4 (sup0, tkSt bs) (widePs.take 0)) w4) := HR2.out.later hb4
    have HQ4 : Hid (PtrsAt w4 h gs widePs) := hp4
    clear hp4 hb4 hl1 hl2 HR2 v2
    go_wp2_with fail
    go_loopw [28] (fun i wr => ∃ k : Nat, i = .int .i64 k ∧ k ≤ 7 ∧ PtrsAt wr h gs widePs ∧ TakeRel w gs y w.heap.size (rds 4 (sup0, tkSt bs) (widePs.take k)) wr) (fun i _ => 7 - (intOf i).toNat)
    case atStart => exact ⟨0, rfl, by omega, HQ4.out, HR4.out⟩
    case round =>
      obtain ⟨k, rfl, hk, hp, hR⟩ := hrel
      have HR := Lib.hid hR
      have HQ := Lib.hid hp
      clear HR4 HQ4 hR hp
      by_cases hlt : k < 7
      · obtain ⟨p, hp⟩ : ∃ p, widePs[k]? = some p := ⟨_, List.getElem?_eq_getElem (by simpa [widePs] using hlt)⟩
        have hp10 : p < 10 := by
          have := List.mem_of_getElem? hp
          simp [widePs] at this
          omega
        have cp := HQ.out k p hp
        have HTK := Lib.hid (rds_take (n := 4) (x := (sup0, tkSt bs)) hp)
        have hk0 : (0 : Int) ≤ (k : Int) := by omega
        have hk1 : (k : Int) < 7 := by omega
        have HP := Lib.hid hp
        clear hp
        generalize rds 4 (sup0, tkSt bs) (widePs.take k) = x at *
        have hl64 : x.2.bs.length ≤ 64 := HR.out.len
        go_wp2_with fail
        refine (num_any y x.2 4 wr HR.out.rd (by omega) (by omega)).mono ?_
        rintro r w5 ⟨rfl, hr5, ho5⟩
        have hR5 := HR.out.read ho5 hr5 (rNum_bs _ _)
        have hf5 := hR5.sup.free p
        obtain ⟨zz, hc5⟩ := hR5.sup.some_ hp10
        have HR6 : Hid (TakeRel w gs y w.heap.size (rdF 4 x p) (w5.setCell ⟨gs, p, none⟩ (.int .i64 (Cur.rNum x.2 4).1))) := hR5.store hp10 _
        have HQ6 := Lib.hid (TakeRel.ptrs (gs := gs) (y := y) HQ.out HNE.out ho5 p (.int .i64 (Cur.rNum x.2 4).1))
        rw [← HTK.out] at HR6
        clear hr5 ho5 hR5 HQ HR
        go_wp2_with fail
        exact ⟨⟨k + 1, by go_num, by omega, HQ6.out, HR6.out⟩, by simp [intOf]; omega⟩
      · obtain rfl : k = 7 := by omega
        have hE : rds 4 (sup0, tkSt bs) (widePs.take 7) = tkW bs := rfl
        obtain ⟨xw, hxw⟩ : ∃ xw, tkW bs = xw := ⟨_, rfl⟩
        rw [hE, hxw] at HR
        have HXW := Lib.hid hxw
        clear hE HQ HNE hk hlt hxw
        go_wp2_with fail
        refine (narrow_any gs xw.1 wr HR.out.sup).mono ?_
        rintro r w4 ⟨⟨h, rfl, hl1, hl2, hp4⟩, hb4⟩
        have HNE : Hid (h ≠ gs ∧ h ≠ y) := by have h1 := HR.out.sup.lt; have h2 := HR.out.rd.lt; exact (⟨by omega, by omega⟩ : h ≠ gs ∧ h ≠ y)
        have HR4 : Hid (TakeRel w gs y w.heap.size (rds 2 xw (narrowPs.take 0)) w4) := (HR.out.later hb4 : TakeRel w gs y w.heap.size xw w4)
        have HQ4 : Hid (PtrsAt w4 h gs narrowPs) := hp4
        clear hp4 hb4 hl1 hl2 HR
        go_wp2_with fail
        go_loopw [39] (fun i wr => ∃ k : Nat, i = .int .i64 k ∧ k ≤ 3 ∧ PtrsAt wr h gs narrowPs ∧ TakeRel w gs y w.heap.size (rds 2 xw (narrowPs.take k)) wr) (fun i _ => 3 - (intOf i).toNat)
        case atStart => exact ⟨0, rfl, by omega, HQ4.out, HR4.out⟩
        case round =>
          obtain ⟨k, rfl, hk, hp, hR⟩ := hrel
          have HR := Lib.hid hR
          have HQ := Lib.hid hp
          clear HR4 HQ4 hR hp
          by_cases hlt : k < 3
          · obtain ⟨p, hp⟩ : ∃ p, narrowPs[k]? = some p := ⟨_, List.getElem?_eq_getElem (by simpa [narrowPs] using hlt)⟩
            have hp10 : p < 10 := by
              have := List.mem_of_getElem? hp
              simp [narrowPs] at this
              omega
            have cp := HQ.out k p hp
            have HTK := Lib.hid (rds_take (n := 2) (x := xw) hp)
            have hk0 : (0 : Int) ≤ (k : Int) := by omega
            have hk1 : (k : Int) < 3 := by omega
            have HP := Lib.hid hp
            clear hp
            generalize rds 2 xw (narrowPs.take k) = x at *
            have hl64 : x.2.bs.length ≤ 64 := HR.out.len
            go_wp2_with fail
            refine (num_any y x.2 2 wr HR.out.rd (by omega) (by omega)).mono ?_
            rintro r w5 ⟨rfl, hr5, ho5⟩
            have hR5 := HR.out.read ho5 hr5 (rNum_bs _ _)
            have hf5 := hR5.sup.free p
            obtain ⟨zz, hc5⟩ := hR5.sup.some_ hp10
            have HR6 : Hid (TakeRel w gs y w.heap.size (rdF 2 x p) (w5.setCell ⟨gs, p, none⟩ (.int .i64 (Cur.rNum x.2 2).1))) := hR5.store hp10 _
            have HQ6 := Lib.hid (TakeRel.ptrs (gs := gs) (y := y) HQ.out HNE.out ho5 p (.int .i64 (Cur.rNum x.2 2).1))
            rw [← HTK.out] at HR6
            clear hr5 ho5 hR5 HQ HR
            go_wp2_with fail
            exact ⟨⟨k + 1, by go_num, by omega, HQ6.out, HR6.out⟩, by simp [intOf]; omega⟩
          · obtain rfl : k = 3 := by omega
            obtain ⟨xn, hxn⟩ : ∃ xn, tkN bs = xn := ⟨_, rfl⟩
            have hE : rds 2 xw (narrowPs.take 3) = xn := by rw [← HXW.out, ← hxn]; rfl
            rw [hE] at HR
            have HXN := Lib.hid hxn
            clear hE HQ HNE hk hlt hxn
            have HL := Lib.hid (left_any y xn.2 wr HR.out.rd)
            have HL3 : Hid (xn.2.bs.length ≤ 64) := HR.out.len
            obtain ⟨n3, hn3⟩ : ∃ n3, Cur.rLeft xn.2 = n3 := ⟨_, rfl⟩
            rw [hn3] at HL
            have HN3 := Lib.hid hn3
            clear hn3
            go_wp2_with fail
            refine HL.out.mono ?_
            rintro r w' ⟨rfl, rfl⟩
            clear HL
            have hx32 := rNum_lt xn.2 4 (by omega)
            have hbs5 := rNum_bs xn.2 4
            have HNum := Lib.hid (num_any y xn.2 4 wr HR.out.rd (by have := HL3.out; omega) (by omega))
            unfold RdNum at HNum
            obtain ⟨x3, hx3⟩ : ∃ x3, (Cur.rNum xn.2 4).1 = x3 := ⟨_, rfl⟩
            obtain ⟨stE, hstE⟩ : ∃ stE, (Cur.rNum xn.2 4).2 = stE := ⟨_, rfl⟩
            rw [hx3, hstE] at HNum
            rw [hx3] at hx32
            rw [hstE] at hbs5
            have HX3 := Lib.hid (show tkSum bs = x3 from by unfold tkSum; rw [HXN.out, hx3])
            have HSE := Lib.hid (show tkEnd bs = stE from by unfold tkEnd; rw [HXN.out, hstE])
            have hxw : IntKind.u32.wrap (x3 : Int) = (x3 : Int) := by rw [IntKind.wrap_u32]; omega
            clear hx3 hstE
            go_wp2_with fail
            refine HNum.out.mono ?_
            rintro r w5 ⟨rfl, hr5, ho5⟩
            have HR5 : Hid (TakeRel w gs y w.heap.size (xn.1, stE) w5) := HR.out.read ho5 hr5 hbs5
            clear hr5 ho5 HR HNum hbs5
            have HL := Lib.hid (left_any y stE w5 HR5.out.rd)
            have HL4 : Hid (stE.bs.length ≤ 64) := HR5.out.len
            obtain ⟨n4, hn4⟩ : ∃ n4, Cur.rLeft stE = n4 := ⟨_, rfl⟩
            rw [hn4] at HL
            have HN4 := Lib.hid hn4
            have hn64 : n4 ≤ 64 := by rw [← hn4]; unfold Cur.rLeft; have := HL4.out; split <;> omega
            clear hn4
            go_wp2_with fail
            refine HL.out.mono ?_
            rintro r w' ⟨rfl, rfl⟩
            clear HL
            have HBy := Lib.hid (bytes_any y stE (n4 : Nat) w5 HR5.out.rd (by have := HL4.out; omega) (by omega))
            have hrl := rBytes_len stE (n4 : Nat)
            unfold RdBytes at HBy
            obtain ⟨rest, hrest⟩ : ∃ rest, (Cur.rBytes stE (n4 : Nat)).1 = rest := ⟨_, rfl⟩
            obtain ⟨stF, hstF⟩ : ∃ stF, (Cur.rBytes stE (n4 : Nat)).2 = stF := ⟨_, rfl⟩
            rw [hrest, hstF] at HBy hrl
            have HRS := Lib.hid (show tkRest bs = rest from by unfold tkRest; rw [HSE.out, HN4.out, hrest])
            have HFE := Lib.hid (show tkErr bs = stF.e from by unfold tkErr; rw [HSE.out, HN4.out, hstF])
            have HRL := Lib.hid hrl
            clear hrest hstF hrl
            go_wp2_with fail
            refine HBy.out.mono ?_
            rintro r w6 ⟨A6, k6, c6, rfl, hby6, _, hcm6, _, hr6, ho6⟩
            have HR6 : Hid (TakeRel w gs y w.heap.size (xn.1, stF) w6) := HR5.out.read ho6 hr6 HRL.out.2
            have HBY6 := Lib.hid hby6
            have HC6 : Hid (k6 ≤ 64) := by have h1 := hby6.1; have h2 := HRL.out.1; have h3 := HL4.out; show k6 ≤ 64; omega
            have HER := Lib.hid (rderr_any' y stF w6 HR6.out.rd)
            clear hby6 hr6 ho6 HR5 HBy
            obtain ⟨e6, he6⟩ : ∃ e6, stF.e = e6 := ⟨_, rfl⟩
            rw [he6] at HER HFE
            clear he6
            go_wp2_with fail
            refine HER.out.mono ?_
            rintro r w' ⟨rfl, rfl⟩
            clear HER
            have hlen := HB.out.1
            by_cases h64 : 64 ≤ bs.length
            · obtain ⟨g1, g2, g3, g4⟩ := tk_long bs h64
              rw [HFE.out] at g1
              rw [HXN.out, HN3.out] at g2
              subst g1 g2
              have HKN : Hid (tkN bs = xn) := HXN.out
              have hge : ¬ ((bs.length : Nat) : Int) < 64 := by omega
              have hc38 : (38 : Int) ≤ (c : Int) := by omega
              have h38 := HB.out.take (show 38 ≤ _ by omega)
              have HB38 := Lib.hid h38
              rw [hlen] at hge
              have HLEN := Lib.hid hlen
              have HGE := Lib.hid hge
              have H64 := Lib.hid h64
              have HG3 := Lib.hid g3
              clear HFE h38 hlen h64 g3 HXW HXN HN3 HN4 HSE HRL HL3 HL4 hn64 g4 hge
              go_upto_if 66 with fail
              refine wp_cond_false (show Value.bool (decide _) = Value.bool false from by rw [decide_eq_false (Int.not_lt.2 HGE.out)]) ?_
              by_cases hbm : b1 = magic
              · subst hbm
                have hmg : (str magic).toList = [76, 77, 76, 65] := str_toList _
                have HT6 : Hid (TabAt w6 t Crc.entry) := fun i hi => (HR6.out.below.cell (p := ⟨t, i, none⟩) htl).trans (HT.out i hi)
                have HSum := Lib.hid (sum_any t Crc.entry A 38 c (bs.take 38) w6 HT6.out entry_lt256 (HB38.out.below (by have := HR6.out.below; exact this)) (by omega))
                obtain ⟨q, hq⟩ : ∃ q, Crc.more Crc.entry 0 (bs.take 38) = q := ⟨_, rfl⟩
                rw [hq] at HSum
                have HQ := Lib.hid (show Crc.sum (bs.take 38) = q from hq)
                clear hq
                by_cases hxq : x3 = q
                · have hxq2 : (((x3 : Nat) : Int) == (q : Int)) = true := by rw [beq_iff_eq]; omega
                  have HXQ := Lib.hid hxq
                  clear hxq
                  have c0 := HR6.out.sup.c0
                  by_cases hsz : xn.1.size = (bs.length : Nat)
                  · have hsz2 : (xn.1.size == ((bs.length : Nat) : Int)) = true := by rw [beq_iff_eq]; exact hsz
                    rw [HLEN.out] at hsz2
                    have HSZ := Lib.hid hsz
                    clear hsz
                    have HSUP : Hid (SupAt w6 gs xn.1) := HR6.out.sup
                    obtain ⟨b, hb⟩ : ∃ b, supB xn.1 = b := ⟨_, rfl⟩
                    have hm := may_any xn.1
                    rw [hb] at hm
                    have HMay := Lib.hid hm
                    have HBB := Lib.hid hb
                    clear hm hb
                    go_wp2_with fail
                    refine HSum.out.mono ?_
                    rintro r w' ⟨rfl, rfl⟩
                    have c1 := HSUP.out.c1
                    have c2 := HSUP.out.c2
                    have c3 := HSUP.out.c3
                    have c4 := HSUP.out.c4
                    have c5 := HSUP.out.c5
                    have c6' := HSUP.out.c6
                    have c7 := HSUP.out.c7
                    have c8 := HSUP.out.c8
                    have c9 := HSUP.out.c9
                    go_wp2_with fail
                    refine (HMay.out _).mono ?_
                    rintro r w7 ⟨rfl, hb7⟩
                    have HR7 := Lib.hid (HR6.out.later hb7)
                    have HBY7 := Lib.hid (HBY6.out.below hb7)
                    clear hb7 HR6 HBY6 HSUP HMay c0 c1 c2 c3 c4 c5 c6' c7 c8 c9
                    cases b
                    · have HBAD : Hid (¬ tkOk bs) := fun h => by have := h.2.2.2.2.1; rw [HKN.out, HBB.out] at this; cases this
                      have HRES : Hid (SupAt w7 w.heap.size sup0) := HR7.out.res
                      have HBL : Hid (Below w.heap.size w w7) := HR7.out.below
                      clear HR7
                      go_upto_region 21 with fail
                      refine wp_region_lit ?_
                      refine wpList_buildTo rfl 23 _ rfl _ rfl (supCells sup0) (by kernel_rfl) ?_
                      refine wpList_store_whole rfl 23 _ _ rfl w.heap.size (supCells sup0) rfl rfl 23 (supCells sup0) HRES.out (supSize sup0) rfl (supOne sup0) _ (setRow_self _ _ _ _ _ HRES.out) ?_
                      go_wp2_with fail
                      refine bodyPost_ret (results_cell_tmp_row rfl _ _ w.heap.size 23 (supCells sup0) (0, 0) _ rfl HRES.out Try.underlying23 rfl (supSize sup0)) rfl ?_
                      rw [(take_bad HBAD.out).1, (take_bad HBAD.out).2]
                      exact ⟨rfl, HBL.out⟩
                    · have HCF := Lib.hid (contains_any A6 k6 c6 rest w7 HBY7.out (by have := HC6.out; omega))
                      go_wp2_with fail
                      refine HCF.out.mono ?_
                      rintro r w' ⟨⟨b2, rfl, hb2⟩, rfl⟩
                      have HB2 := Lib.hid hb2
                      clear hb2 HCF
                      cases b2
                      · have HOK : Hid (tkOk bs) := by
                          refine ⟨H64.out, HB1.out.symm, ?_, ?_, ?_, ?_⟩
                          · rw [HX3.out, HQ.out]; exact HXQ.out
                          · rw [HKN.out]; exact HSZ.out
                          · rw [HKN.out]; exact HBB.out
                          · intro x hx
                            rw [HRS.out] at hx
                            rcases Decidable.em (x = 0) with h0 | h0
                            · exact h0
                            · exact absurd (HB2.out.2 ⟨x, hx, h0⟩) (by simp)
                        have HTS : Hid (takeS bs = xn.1) := by show takeS bs = xn.1; unfold takeS; rw [if_pos HOK.out, HKN.out]
                        have HTE : Hid (takeE bs = 0) := by show takeE bs = 0; unfold takeE; rw [if_pos HOK.out]
                        have HRES : Hid (SupAt w7 w.heap.size sup0) := HR7.out.res
                        have HSUP : Hid (SupAt w7 gs xn.1) := HR7.out.sup
                        have HBL : Hid (Below w.heap.size w w7) := HR7.out.below
                        clear HR7
                        go_upto_region 22 with fail
                        refine wp_region_lit ?_
                        refine wpList_load_row rfl 23 _ rfl gs rfl 23 (supCells xn.1) (0, 0) _ HSUP.out Try.underlying23 rfl (supSize xn.1) ?_
                        refine wpList_store_whole rfl 23 _ _ rfl w.heap.size (supCells xn.1) rfl rfl 23 (supCells sup0) HRES.out (supSize xn.1) rfl (supOne xn.1) _ rfl ?_
                        have HF : Hid (SupAt (w7.setRow w.heap.size (supCells xn.1)) w.heap.size xn.1) := setRow_heap w7 w.heap.size _ _ _ _ HRES.out
                        have HBF : Hid (Below w.heap.size w (w7.setRow w.heap.size (supCells xn.1))) := below_row HBL.out (Nat.le_refl _) _
                        generalize w7.setRow w.heap.size (supCells xn.1) = wF at *
                        go_wp2_with fail
                        refine bodyPost_ret (results_cell_tmp_row rfl _ _ w.heap.size 23 (supCells xn.1) (0, 0) _ rfl HF.out Try.underlying23 rfl (supSize xn.1)) rfl ?_
                        rw [HTS.out, HTE.out]
                        exact ⟨rfl, HBF.out⟩
                      · have HBAD : Hid (¬ tkOk bs) := fun h => by
                          obtain ⟨x, hx, h0⟩ := HB2.out.1 rfl
                          rw [← HRS.out] at hx
                          exact h0 (h.2.2.2.2.2 x hx)
                        have HRES : Hid (SupAt w7 w.heap.size sup0) := HR7.out.res
                        have HBL : Hid (Below w.heap.size w w7) := HR7.out.below
                        clear HR7
                        go_upto_region 21 with fail
                        refine wp_region_lit ?_
                        refine wpList_buildTo rfl 23 _ rfl _ rfl (supCells sup0) (by kernel_rfl) ?_
                        refine wpList_store_whole rfl 23 _ _ rfl w.heap.size (supCells sup0) rfl rfl 23 (supCells sup0) HRES.out (supSize sup0) rfl (supOne sup0) _ (setRow_self _ _ _ _ _ HRES.out) ?_
                        go_wp2_with fail
                        refine bodyPost_ret (results_cell_tmp_row rfl _ _ w.heap.size 23 (supCells sup0) (0, 0) _ rfl HRES.out Try.underlying23 rfl (supSize sup0)) rfl ?_
                        rw [(take_bad HBAD.out).1, (take_bad HBAD.out).2]
                        exact ⟨rfl, HBL.out⟩
                  · have hsz2 : (xn.1.size == ((bs.length : Nat) : Int)) = false := by rw [beq_eq_false_iff_ne]; exact hsz
                    rw [HLEN.out] at hsz2
                    have HBAD : Hid (¬ tkOk bs) := fun h => by have := h.2.2.2.1; rw [HKN.out] at this; exact hsz this
                    clear hsz
                    go_wp2_with fail
                    refine HSum.out.mono ?_
                    rintro r w' ⟨rfl, rfl⟩
                    have HRES : Hid (SupAt w6 w.heap.size sup0) := HR6.out.res
                    have HBL : Hid (Below w.heap.size w w6) := HR6.out.below
                    clear HR6
                    go_upto_region 21 with fail
                    refine wp_region_lit ?_
                    refine wpList_buildTo rfl 23 _ rfl _ rfl (supCells sup0) (by kernel_rfl) ?_
                    refine wpList_store_whole rfl 23 _ _ rfl w.heap.size (supCells sup0) rfl rfl 23 (supCells sup0) HRES.out (supSize sup0) rfl (supOne sup0) _ (setRow_self _ _ _ _ _ HRES.out) ?_
                    go_wp2_with fail
                    refine bodyPost_ret (results_cell_tmp_row rfl _ _ w.heap.size 23 (supCells sup0) (0, 0) _ rfl HRES.out Try.underlying23 rfl (supSize sup0)) rfl ?_
                    rw [(take_bad HBAD.out).1, (take_bad HBAD.out).2]
                    exact ⟨rfl, HBL.out⟩
                · have hxq2 : (((x3 : Nat) : Int) == (q : Int)) = false := by rw [beq_eq_false_iff_ne]; omega
                  have HBAD : Hid (¬ tkOk bs) := fun h => by have := h.2.2.1; rw [HX3.out, HQ.out] at this; exact hxq this
                  clear hxq
                  go_wp2_with fail
                  refine HSum.out.mono ?_
                  rintro r w' ⟨rfl, rfl⟩
                  have HRES : Hid (SupAt w6 w.heap.size sup0) := HR6.out.res
                  have HBL : Hid (Below w.heap.size w w6) := HR6.out.below
                  clear HR6
                  go_upto_region 21 with fail
                  refine wp_region_lit ?_
                  refine wpList_buildTo rfl 23 _ rfl _ rfl (supCells sup0) (by kernel_rfl) ?_
                  refine wpList_store_whole rfl 23 _ _ rfl w.heap.size (supCells sup0) rfl rfl 23 (supCells sup0) HRES.out (supSize sup0) rfl (supOne sup0) _ (setRow_self _ _ _ _ _ HRES.out) ?_
                  go_wp2_with fail
                  refine bodyPost_ret (results_cell_tmp_row rfl _ _ w.heap.size 23 (supCells sup0) (0, 0) _ rfl HRES.out Try.underlying23 rfl (supSize sup0)) rfl ?_
                  rw [(take_bad HBAD.out).1, (take_bad HBAD.out).2]
                  exact ⟨rfl, HBL.out⟩
              · have hmg : ¬ (str b1).toList = [76, 77, 76, 65] := by rw [str_toList]; exact hbm
                have HBAD : Hid (¬ tkOk bs) := fun h => by have := h.2.1; rw [← HB1.out] at this; exact hbm this
                clear hbm
                have HRES : Hid (SupAt w6 w.heap.size sup0) := HR6.out.res
                have HBL : Hid (Below w.heap.size w w6) := HR6.out.below
                clear HR6
                go_upto_region 21 with fail
                refine wp_region_lit ?_
                refine wpList_buildTo rfl 23 _ rfl _ rfl (supCells sup0) (by kernel_rfl) ?_
                refine wpList_store_whole rfl 23 _ _ rfl w.heap.size (supCells sup0) rfl rfl 23 (supCells sup0) HRES.out (supSize sup0) rfl (supOne sup0) _ (setRow_self _ _ _ _ _ HRES.out) ?_
                go_wp2_with fail
                refine bodyPost_ret (results_cell_tmp_row rfl _ _ w.heap.size 23 (supCells sup0) (0, 0) _ rfl HRES.out Try.underlying23 rfl (supSize sup0)) rfl ?_
                rw [(take_bad HBAD.out).1, (take_bad HBAD.out).2]
                exact ⟨rfl, HBL.out⟩
            · have HBAD : Hid (¬ tkOk bs) := fun h => h64 h.1
              by_cases himp : 64 < bs.length
              · exfalso; omega
              have h64i : ((bs.length : Nat) : Int) < 64 := by omega
              rw [hlen] at h64 himp h64i
              clear hlen HFE
              by_cases he : e6 = 0
              · subst he
                have HRES : Hid (SupAt w6 w.heap.size sup0) := HR6.out.res
                have HBL : Hid (Below w.heap.size w w6) := HR6.out.below
                clear HR6
                go_upto_region 18 with fail
                refine wp_region_lit ?_
                refine wpList_buildTo rfl 23 _ rfl _ rfl (supCells sup0) (by kernel_rfl) ?_
                refine wpList_store_whole rfl 23 _ _ rfl w.heap.size (supCells sup0) rfl rfl 23 (supCells sup0) HRES.out (supSize sup0) rfl (supOne sup0) _ (setRow_self _ _ _ _ _ HRES.out) ?_
                go_wp2_with fail
                refine bodyPost_ret (results_cell_tmp_row rfl _ _ w.heap.size 23 (supCells sup0) (0, 0) _ rfl HRES.out Try.underlying23 rfl (supSize sup0)) rfl ?_
                rw [(take_bad HBAD.out).1, (take_bad HBAD.out).2]
                exact ⟨rfl, HBL.out⟩
              · have hne : (((e6 : Nat) : Int) != 0) = true := by rw [bne_iff_ne]; omega
                clear he
                have HRES : Hid (SupAt w6 w.heap.size sup0) := HR6.out.res
                have HBL : Hid (Below w.heap.size w w6) := HR6.out.below
                clear HR6
                go_upto_region 18 with fail
                refine wp_region_lit ?_
                refine wpList_buildTo rfl 23 _ rfl _ rfl (supCells sup0) (by kernel_rfl) ?_
                refine wpList_store_whole rfl 23 _ _ rfl w.heap.size (supCells sup0) rfl rfl 23 (supCells sup0) HRES.out (supSize sup0) rfl (supOne sup0) _ (setRow_self _ _ _ _ _ HRES.out) ?_
                go_wp2_with fail
                refine bodyPost_ret (results_cell_tmp_row rfl _ _ w.heap.size 23 (supCells sup0) (0, 0) _ rfl HRES.out Try.underlying23 rfl (supSize sup0)) rfl ?_
                rw [(take_bad HBAD.out).1, (take_bad HBAD.out).2]
                exact ⟨rfl, HBL.out⟩
end Go.Proofs.Ythfghomnbldmfaa
