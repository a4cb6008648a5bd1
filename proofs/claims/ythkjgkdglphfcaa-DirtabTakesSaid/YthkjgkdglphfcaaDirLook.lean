/- Walk: dirtab.Look: the entry of a name. -/
import Derived.Test.YthkjgkdglphfcaaRows
import Derived.Test.YthkjgkdglphfcaaDirTake
import Derived.Test.YthkjgkdglphfcaaDirSearch
import Derived.BigQuiet
namespace Go.Proofs.Ythkjgkdglphfcaa
set_option linter.unusedVariables false
set_option linter.unusedSimpArgs false
open Go.RowKit

def ent0 : Ent := ⟨[], 0, 0⟩
def lkF (l : List Ent) (s : List UInt8) : Option Ent := l.find? fun (x : Ent) => x.name == s
def lkX (l : List Ent) (s : List UInt8) : Ent := (lkF l s).getD ent0
def lkE (l : List Ent) (s : List UInt8) : Nat := if (lkF l s).isSome then 0 else 20
theorem pos_find : ∀ (l : List Ent) (last s : List UInt8), okL last l = true → lkF l s = (l[pos l s]?).bind fun (x : Ent) => if x.name == s then some x else none
  | [], _, _, _ => rfl
  | y :: l, last, s, hok => by
    simp only [okL, Bool.and_eq_true] at hok
    have hl := okL_less l y.name hok.2
    have ih := pos_find l y.name s hok.2
    unfold lkF at ih ⊢
    rw [List.find?_cons]
    cases hy : Op.bytesLess y.name s
    · have hp : pos (y :: l) s = 0 := by unfold pos; rw [List.takeWhile_cons, hy]; rfl
      rw [hp]
      cases he : y.name == s
      · rw [List.getElem?_cons_zero]
        simp only [Option.bind_some, he, Bool.false_eq_true, if_false]
        rw [List.find?_eq_none]
        intro x hx hxs
        rw [beq_iff_eq] at hxs
        obtain ⟨i, hi⟩ := List.getElem?_of_mem hx
        have := hl i x hi
        rw [hxs, hy] at this
        cases this
      · rw [List.getElem?_cons_zero]
        simp only [Option.bind_some, he, if_true]
    · have hp : pos (y :: l) s = pos l s + 1 := by unfold pos; rw [List.takeWhile_cons, hy]; rfl
      have he : (y.name == s) = false := by
        rw [beq_eq_false_iff_ne]
        rintro rfl
        rw [less_irrefl] at hy
        cases hy
      rw [hp, he]
      simpa using ih
/-- What Look gives. -/
def LookRes (w : World) (bs s : List UInt8) (r : Ending) (w' : World) : Prop :=
  ((∃ l, TakeP bs l ∧ r = .returned (.tuple #[.agg (entCells (lkX l s)), .int .i64 (lkE l s : Nat)])) ∨ ((¬ ∃ l, TakeP bs l) ∧ r = .returned (.tuple #[.agg (entCells ent0), .int .i64 2]))) ∧ Below w.heap.size w w'
theorem resultsD_cell_tmp_row {P : Program} {fn : Func} {p u : Tmp} {ty : TypeId} (h : fn.results = #[.cell p ty, .tmp u]) (tmps : Array Value) (w : World) (g : Nat) (t : TypeId) (cs : Array Value) (fr : Nat × Nat) (d : TypeDesc)
    (hp : tmps.getD p undef = .pointer (some ⟨g, 0, none⟩)) (hg : w.heap[g]? = some (.cells cs t fr))
    (hu : P.underlying ty = some d) (hd : (match d with | .struct _ | .array _ _ => true | _ => false) = true) (hi : (P.info? ty).map (·.size) = some cs.size) :
    (results fn tmps).run P w = .ok (.tuple #[.agg cs, tmps.getD u undef]) w := by
  rw [results_cell_tmp h, hp]
  simp [asAddr, run_loadVar_row w g t ty cs fr d hg hu hd hi, Result.andThen]
theorem entSize (x : Ent) : (Try.prog.info? 35).map (·.size) = some (entCells x).size := by
  have : (Try.prog.info? 35).map (·.size) = some 3 := by kernel_rfl
  rw [this]; rfl
theorem entOne (x : Ent) : (entCells x).all (·.oneCell') = true := by simp [entCells, Value.oneCell']
theorem EntAt.set3 {w : World} {g : Nat} {x : Ent} (h : EntAt w g x) (n : List UInt8) (k r : Int) : EntAt (((w.setCell ⟨g, 0, none⟩ (.string (str n))).setCell ⟨g, 1, none⟩ (.int .i64 k)).setCell ⟨g, 2, none⟩ (.int .i64 r)) g ⟨n, k, r⟩ :=
  have h1 : EntAt (w.setCell ⟨g, 0, none⟩ (.string (str n))) g ⟨n, x.kind, x.ref⟩ := heap_setCell_same w g 0 _ _ _ h
  (h1.set1 k).set2 r
theorem below_set3 {a w : World} {g : Nat} (h : Below a.heap.size a w) (hg : a.heap.size ≤ g) (u v x : Value) : Below a.heap.size a (((w.setCell ⟨g, 0, none⟩ u).setCell ⟨g, 1, none⟩ v).setCell ⟨g, 2, none⟩ x) := by
  have ho : Only [g] w (((w.setCell ⟨g, 0, none⟩ u).setCell ⟨g, 1, none⟩ v).setCell ⟨g, 2, none⟩ x) := (((Only.refl _ _).setCell (.inl (by simp)) _).setCell (.inl (by simp)) _).setCell (.inl (by simp)) _
  exact h.trans (ho.below (fun k hk => by simp at hk; omega) h.size)
/-- What holds on the way. -/
structure LkR (w : World) (gk g0 : Nat) (s : List UInt8) (wr : World) : Prop where
  below : Below w.heap.size w wr
  key : wr.cell? ⟨gk, 0, none⟩ = some (.string (str s))
  res : EntAt wr g0 ent0
  far : w.heap.size ≤ g0
theorem LkR.later {w wr w' : World} {gk g0 : Nat} {s : List UInt8} (H : LkR w gk g0 s wr) (hb : Below wr.heap.size wr w') : LkR w gk g0 s w' :=
  ⟨below_then H.below hb, (hb.cell (p := ⟨gk, 0, none⟩) (block_lt_of_cell H.key)).trans H.key, H.res.below hb, H.far⟩
theorem LkR.start (w : World) (s : List UInt8) : LkR w w.heap.size (w.heap.size + 1) s ((w.alloc (.cells #[.string (str s)] 9)).alloc (.cells (entCells ent0) 35)) := by
  have h1 : Below w.heap.size w (w.alloc (.cells #[.string (str s)] 9)) := below_all.alloc (Nat.le_refl _) _
  have h2 : (w.alloc (.cells #[.string (str s)] 9)).heap.size = w.heap.size + 1 := by simp
  have h3 : Below (w.heap.size + 1) (w.alloc (.cells #[.string (str s)] 9)) ((w.alloc (.cells #[.string (str s)] 9)).alloc (.cells (entCells ent0) 35)) := by
    rw [← h2]
    exact below_all.alloc (Nat.le_refl _) _
  refine ⟨h1.trans (h3.mono (by omega)), ?_, ?_, by omega⟩
  · have hc : (w.alloc (.cells #[.string (str s)] 9)).cell? ⟨w.heap.size, 0, none⟩ = some (.string (str s)) := by rw [cell_of_row _ _ 0 #[.string (str s)] 9 (0, 0) (heap_alloc_new w _)]; rfl
    exact (h3.cell (p := ⟨w.heap.size, 0, none⟩) (by simp only; omega)).trans hc
  · rw [← h2]
    exact EntAt.new _ ent0
set_option maxRecDepth 100000 in
set_option maxHeartbeats 4000000 in
theorem look_any (A : Option Addr) (n c : Nat) (bs s : List UInt8) (w : World) (hb : Bytes w A n bs) (hn : n ≤ 1000000) : Calls Try.prog 15 #[.slice A n c, .string (str s)] w (LookRes w bs s) := by
  have HB := Lib.hid hb
  have HLEN := Lib.hid hb.1
  clear hb
  go_enter Try.func15, Try.ntmps15
  go_wp2_with fail
  have hst := LkR.start w s
  have hbb : Below w.heap.size w ((w.alloc (.cells #[.string (str s)] 9)).alloc (.cells #[.string { data := #[] }, .int .i64 0, .int .i64 0] 35)) := hst.below
  refine (take_any A n c bs _ (HB.out.below hbb) hn).mono ?_
  rintro r w1 ⟨hr, hb1⟩
  have HR1 : Hid (LkR w w.heap.size (w.heap.size + 1) s w1) := hst.later hb1
  clear hb1 hst hbb
  generalize w.heap.size + 1 = g0 at *
  rcases hr with ⟨l, A1, c1, htp, rfl, he, hc1, hc2⟩ | ⟨hno, rfl⟩
  · have HTP := Lib.hid htp
    have HEN := Lib.hid he
    have HLL : Hid (l.length ≤ 1000000) := by
      have h1 := encL_ge l
      have h2 := HLEN.out
      rw [← htp.2] at h2
      show l.length ≤ 1000000
      omega
    have hal : Below w1.heap.size w1 (w1.alloc (.cells #[.slice A1 l.length c1] 22)) := below_all.alloc (Nat.le_refl _) _
    have HR2 := Lib.hid (HR1.out.later hal)
    have HCL : Hid (ClAt (w1.alloc (.cells #[.slice A1 l.length c1] 22)) w1.heap.size w.heap.size A1 l.length c1 l s) :=
      ⟨by rw [cell_of_row _ _ 0 #[.slice A1 l.length c1] 22 (0, 0) (heap_alloc_new w1 _)]; rfl, HR2.out.key, HEN.out.below hal⟩
    clear htp he hal HR1
    go_upto_region 4 with fail
    generalize w1.alloc (.cells #[.slice A1 l.length c1] 22) = wa at *
    generalize w1.heap.size = g6 at *
    generalize w.heap.size = gk at *
    have k6 := HCL.out.row
    go_wp2_with fail
    refine (search_any g6 gk A1 l.length c1 l s wa HCL.out HTP.out.1 HLL.out).mono ?_
    rintro r w2 ⟨rfl, hb2⟩
    have HR3 := Lib.hid (HR2.out.later hb2)
    have HCL2 := Lib.hid (HCL.out.below hb2)
    have HPF := Lib.hid (pos_find l [] s HTP.out.1)
    have hpl := pos_le l s
    clear hb2 HR2 HCL k6
    generalize pos l s = p at *
    have k6 := HCL2.out.row
    have k3 := HCL2.out.key
    have hss := str_toList s
    have HRES := Lib.hid HR3.out.res
    rcases Nat.lt_or_ge p l.length with hlt | hge
    · obtain ⟨b, off, x, rfl, hx, e0, e1, e2⟩ := HCL2.out.ents.at_ hlt
      have hxs := str_toList x.name
      have hp0 : (0 : Int) ≤ (p : Int) := by omega
      have hp1 : (p : Int) < (l.length : Int) := by omega
      have hd1 : ((p : Int) == (l.length : Int)) = false := by rw [beq_eq_false_iff_ne]; omega
      rw [hx] at HPF
      have HX := Lib.hid hx
      clear hx hpl
      cases hxe : x.name == s
      · have hF : lkF l s = none := by rw [HPF.out]; simp only [Option.bind_some, hxe]; rfl
        have HF : Hid (lkX l s = ent0 ∧ lkE l s = 20) := by show lkX l s = ent0 ∧ lkE l s = 20; unfold lkX lkE; rw [hF]; exact ⟨rfl, rfl⟩
        clear hF
        go_wp2_with fail
        go_quiet (fail)
        have HR4 : Hid (LkR w gk g0 s (w2.drewN nq)) := HR3.out.later (belowN (Below.refl _ _) _)
        clear HR3 HRES
        generalize w2.drewN nq = w3 at *
        have r0 : w3.cell? ⟨g0, 0, none⟩ = _ := HR4.out.res.c0
        have r1 : w3.cell? ⟨g0, 1, none⟩ = _ := HR4.out.res.c1
        have r2 : w3.cell? ⟨g0, 2, none⟩ = _ := HR4.out.res.c2
        have f0 : w3.frozen? ⟨g0, 0, none⟩ = false := HR4.out.res.free 0
        have f1 : w3.frozen? ⟨g0, 1, none⟩ = false := HR4.out.res.free 1
        have f2 : w3.frozen? ⟨g0, 2, none⟩ = false := HR4.out.res.free 2
        go_upto_region 6 with fail
        have HF9 : Hid (EntAt (((w3.setCell ⟨g0, 0, none⟩ (.string (str ent0.name))).setCell ⟨g0, 1, none⟩ (.int .i64 ent0.kind)).setCell ⟨g0, 2, none⟩ (.int .i64 ent0.ref)) g0 ent0) := HR4.out.res.set3 _ _ _
        have HB9 : Hid (Below w.heap.size w (((w3.setCell ⟨g0, 0, none⟩ (.string (str ent0.name))).setCell ⟨g0, 1, none⟩ (.int .i64 ent0.kind)).setCell ⟨g0, 2, none⟩ (.int .i64 ent0.ref))) := below_set3 HR4.out.below HR4.out.far _ _ _
        go_wp2_with fail
        refine bodyPost_ret (resultsD_cell_tmp_row rfl _ _ g0 35 (entCells ent0) (0, 0) _ rfl HF9.out Try.underlying35 rfl (entSize ent0)) rfl ?_
        exact ⟨.inl ⟨l, HTP.out, by rw [HF.out.1, HF.out.2]; rfl⟩, HB9.out⟩
      · have hF : lkF l s = some x := by rw [HPF.out]; simp only [Option.bind_some, hxe]; rfl
        have HF : Hid (lkX l s = x ∧ lkE l s = 0) := by show lkX l s = x ∧ lkE l s = 0; unfold lkX lkE; rw [hF]; exact ⟨rfl, rfl⟩
        clear hF
        go_wp2_with fail
        go_quiet (fail)
        have HR4 : Hid (LkR w gk g0 s (w2.drewN nq)) := HR3.out.later (belowN (Below.refl _ _) _)
        clear HR3 HRES
        have r0 : (w2.drewN nq).cell? ⟨g0, 0, none⟩ = _ := HR4.out.res.c0
        have r1 : (w2.drewN nq).cell? ⟨g0, 1, none⟩ = _ := HR4.out.res.c1
        have r2 : (w2.drewN nq).cell? ⟨g0, 2, none⟩ = _ := HR4.out.res.c2
        have q0 : (w2.drewN nq).cell? ⟨b, off + p * 3, none⟩ = _ := e0
        have q1 : (w2.drewN nq).cell? ⟨b, off + p * 3 + 1, none⟩ = _ := e1
        have q2 : (w2.drewN nq).cell? ⟨b, off + p * 3 + 2, none⟩ = _ := e2
        have q6 : (w2.drewN nq).cell? ⟨g6, 0, none⟩ = _ := k6
        have f0 : (w2.drewN nq).frozen? ⟨g0, 0, none⟩ = false := HR4.out.res.free 0
        have f1 : (w2.drewN nq).frozen? ⟨g0, 1, none⟩ = false := HR4.out.res.free 1
        have f2 : (w2.drewN nq).frozen? ⟨g0, 2, none⟩ = false := HR4.out.res.free 2
        clear e0 e1 e2 k6 k3
        generalize w2.drewN nq = w3 at *
        go_upto_region 7 with fail
        have HF9 : Hid (EntAt (((w3.setCell ⟨g0, 0, none⟩ (.string (str x.name))).setCell ⟨g0, 1, none⟩ (.int .i64 x.kind)).setCell ⟨g0, 2, none⟩ (.int .i64 x.ref)) g0 x) := HR4.out.res.set3 _ _ _
        have HB9 : Hid (Below w.heap.size w (((w3.setCell ⟨g0, 0, none⟩ (.string (str x.name))).setCell ⟨g0, 1, none⟩ (.int .i64 x.kind)).setCell ⟨g0, 2, none⟩ (.int .i64 x.ref))) := below_set3 HR4.out.below HR4.out.far _ _ _
        go_wp2_with fail
        refine bodyPost_ret (resultsD_cell_tmp_row rfl _ _ g0 35 (entCells x) (0, 0) _ rfl HF9.out Try.underlying35 rfl (entSize x)) rfl ?_
        exact ⟨.inl ⟨l, HTP.out, by rw [HF.out.1, HF.out.2]; rfl⟩, HB9.out⟩
    · obtain rfl : p = l.length := by omega
      have hF : lkF l s = none := by rw [HPF.out, List.getElem?_eq_none (Nat.le_refl _)]; rfl
      have HF : Hid (lkX l s = ent0 ∧ lkE l s = 20) := by show lkX l s = ent0 ∧ lkE l s = 20; unfold lkX lkE; rw [hF]; exact ⟨rfl, rfl⟩
      have hd1 : ((l.length : Int) == (l.length : Int)) = true := by rw [beq_iff_eq]
      clear hF
      go_wp2_with fail
      go_quiet (fail)
      have HR4 : Hid (LkR w gk g0 s (w2.drewN nq)) := HR3.out.later (belowN (Below.refl _ _) _)
      clear HR3 HRES
      generalize w2.drewN nq = w3 at *
      have r0 : w3.cell? ⟨g0, 0, none⟩ = _ := HR4.out.res.c0
      have r1 : w3.cell? ⟨g0, 1, none⟩ = _ := HR4.out.res.c1
      have r2 : w3.cell? ⟨g0, 2, none⟩ = _ := HR4.out.res.c2
      have f0 : w3.frozen? ⟨g0, 0, none⟩ = false := HR4.out.res.free 0
      have f1 : w3.frozen? ⟨g0, 1, none⟩ = false := HR4.out.res.free 1
      have f2 : w3.frozen? ⟨g0, 2, none⟩ = false := HR4.out.res.free 2
      go_upto_region 6 with fail
      have HF9 : Hid (EntAt (((w3.setCell ⟨g0, 0, none⟩ (.string (str ent0.name))).setCell ⟨g0, 1, none⟩ (.int .i64 ent0.kind)).setCell ⟨g0, 2, none⟩ (.int .i64 ent0.ref)) g0 ent0) := HR4.out.res.set3 _ _ _
      have HB9 : Hid (Below w.heap.size w (((w3.setCell ⟨g0, 0, none⟩ (.string (str ent0.name))).setCell ⟨g0, 1, none⟩ (.int .i64 ent0.kind)).setCell ⟨g0, 2, none⟩ (.int .i64 ent0.ref))) := below_set3 HR4.out.below HR4.out.far _ _ _
      go_wp2_with fail
      refine bodyPost_ret (resultsD_cell_tmp_row rfl _ _ g0 35 (entCells ent0) (0, 0) _ rfl HF9.out Try.underlying35 rfl (entSize ent0)) rfl ?_
      exact ⟨.inl ⟨l, HTP.out, by rw [HF.out.1, HF.out.2]; rfl⟩, HB9.out⟩
  · have HNO := Lib.hid hno
    clear hno
    have hal : Below w1.heap.size w1 (w1.alloc (.cells #[.slice none 0 0] 22)) := below_all.alloc (Nat.le_refl _) _
    have HR4 := Lib.hid (HR1.out.later hal)
    clear hal HR1
    go_upto_region 3 with fail
    generalize w1.alloc (.cells #[.slice none 0 0] 22) = w3 at *
    generalize w1.heap.size = g6 at *
    have r0 : w3.cell? ⟨g0, 0, none⟩ = _ := HR4.out.res.c0
    have r1 : w3.cell? ⟨g0, 1, none⟩ = _ := HR4.out.res.c1
    have r2 : w3.cell? ⟨g0, 2, none⟩ = _ := HR4.out.res.c2
    have f0 : w3.frozen? ⟨g0, 0, none⟩ = false := HR4.out.res.free 0
    have f1 : w3.frozen? ⟨g0, 1, none⟩ = false := HR4.out.res.free 1
    have f2 : w3.frozen? ⟨g0, 2, none⟩ = false := HR4.out.res.free 2
    have HF9 : Hid (EntAt (((w3.setCell ⟨g0, 0, none⟩ (.string (str ent0.name))).setCell ⟨g0, 1, none⟩ (.int .i64 ent0.kind)).setCell ⟨g0, 2, none⟩ (.int .i64 ent0.ref)) g0 ent0) := HR4.out.res.set3 _ _ _
    have HB9 : Hid (Below w.heap.size w (((w3.setCell ⟨g0, 0, none⟩ (.string (str ent0.name))).setCell ⟨g0, 1, none⟩ (.int .i64 ent0.kind)).setCell ⟨g0, 2, none⟩ (.int .i64 ent0.ref))) := below_set3 HR4.out.below HR4.out.far _ _ _
    go_wp2_with fail
    refine bodyPost_ret (resultsD_cell_tmp_row rfl _ _ g0 35 (entCells ent0) (0, 0) _ rfl HF9.out Try.underlying35 rfl (entSize ent0)) rfl ?_
    exact ⟨.inr ⟨HNO.out, rfl⟩, HB9.out⟩
end Go.Proofs.Ythkjgkdglphfcaa
