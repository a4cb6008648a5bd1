/- Walk: DirtabPuts: any list is written as the document says, or refused. -/
import Derived.Test.YthkjgkdglphfcaaRows
import Derived.Test.YthkjgkdglphfcaaDirLooks
import Derived.Test.YthkjgkdglphfcaaDirRow
namespace Go.Proofs.Ythkjgkdglphfcaa
set_option linter.unusedVariables false
set_option linter.unusedSimpArgs false
open Go.RowKit

section
variable {P : Program} {w : World}
theorem run_append_no_ents (base : Nat) (t ty e : TypeId) (i : TypeInfo) (ht : P.underlying t = some (.slice e)) (hi : P.info? e = some i)
    (v : Value) (n : Nat) (xs : List Value) (hown : w.ownsRow base e 3 v n xs) (c : Nat) : (Builtin.append_ #[t, t] ty #[v, .slice none 0 c]).run P w = .ok v w := by
  rcases hown.2 with ⟨rfl, rfl⟩ | ⟨g, cap, cur, rfl, _, _, hnc, _⟩
  · simp [Builtin.append_, run_underlying ht, sizeOf, typeInfo, hi, Builtin.lenOf, Builtin.firstCells]
  · simp [Builtin.append_, run_underlying ht, sizeOf, typeInfo, hi, Builtin.lenOf, Builtin.firstCells, hnc, storeCells]
theorem run_append_ents (base : Nat) (t ty e : TypeId) (i : TypeInfo) (z : Value) (bytes : Nat) (ht : P.underlying t = some (.slice e)) (hi : P.info? e = some i) (hz : i.zero = some z)
    (hsize : i.size = 3) (hby : i.bytes = bytes) (hzs : z.cells.size = 3)
    (v : Value) (n : Nat) (xs : List Ent) (hown : w.ownsRow base e 3 v n (entVs xs)) (A : Option Addr) (m c : Nat) (ys : List Ent) (hr : EntsIn w A m ys)
    (h63 : n + m ≤ maxLen) (hbytes : (n + m) * bytes ≤ 140737488355328) (hbase : base ≤ w.heap.size) :
    ∃ v' w', (Builtin.append_ #[t, t] ty #[v, .slice A m c]).run P w = .ok v' w' ∧ w'.ownsRow base e 3 v' (n + m) (entVs (xs ++ ys)) ∧ w.grownBy w' v.ownBlock ∧
      (v'.ownBlock = v.ownBlock ∨ v'.ownBlock = some w.heap.size) := by
  have hml : (entVs ys).length = m * 3 := by rw [entVs_length, hr.1]
  rcases A with _ | ad
  · have hm : m = 0 := by
      rcases Nat.eq_zero_or_pos m with h0 | h0
      · exact h0
      · obtain ⟨_, _, h, _⟩ := hr.2 h0; cases h
    subst hm
    have hn : ys = [] := List.eq_nil_of_length_eq_zero hr.1
    subst hn
    exact ⟨v, w, run_append_no_ents base t ty e i ht hi v n _ hown c, by simpa using hown, World.grownBy.refl w _, .inl rfl⟩
  · have hcells : ∀ j u, (entVs ys)[j]? = some u → w.cell? (ad.add j) = some u := by
      intro j u hu
      have hj : j < m * 3 := by
        have := (List.getElem?_eq_some_iff.1 hu).1
        rw [hml] at this
        exact this
      obtain ⟨b, off, hA, hc⟩ := hr.2 (by omega)
      injection hA with hA
      subst hA
      have hadd : (⟨b, off, none⟩ : Addr).add j = ⟨b, off + j, none⟩ := by unfold Addr.add; split <;> simp_all
      obtain ⟨y, hy⟩ : ∃ y, ys[j / 3]? = some y := ⟨_, List.getElem?_eq_getElem (by rw [hr.1]; omega)⟩
      have hat := entVs_at ys (j / 3) y hy (j % 3) (by omega)
      rw [show j / 3 * 3 + j % 3 = j by omega, hu] at hat
      have := hc (j / 3) y hy (j % 3) u hat.symm
      rw [show j / 3 * 3 + j % 3 = j by omega] at this
      rw [hadd]
      exact this
    obtain ⟨v', w', hrun, h2, h3, _, h5⟩ := run_append_own_at (P := P) w base t ty e i z 3 bytes ht hi hz hsize hby hzs (by omega) v n (entVs xs) hown ad m c (entVs ys) hml hcells (entVs_one ys) h63 hbytes hbase
    rw [← entVs_append] at h2
    exact ⟨v', w', hrun, h2, h3, h5⟩
theorem wp_append_ents {o : Oper} {a : Act} {K : Act → World → Prop} {Q : Exit → Act → World → Prop} (s x : Operand) (t : TypeId)
    (ho : o.op = .call { callee := .builtin .append, args := #[s, x], argTypes := #[t, t] })
    (base : Nat) (e : TypeId) (i : TypeInfo) (z : Value) (bytes : Nat) (ht : P.underlying t = some (.slice e)) (hi : P.info? e = some i) (hz : i.zero = some z)
    (hsize : i.size = 3) (hby : i.bytes = bytes) (hzs : z.cells.size = 3)
    (v : Value) (n : Nat) (xs : List Ent) (hs : a.eval s = v) (hown : w.ownsRow base e 3 v n (entVs xs))
    (A : Option Addr) (m c : Nat) (ys : List Ent) (hx : a.eval x = .slice A m c) (hr : EntsIn w A m ys)
    (h63 : n + m ≤ maxLen) (hbytes : (n + m) * bytes ≤ 140737488355328) (hbase : base ≤ w.heap.size)
    (h : ∀ v' w', w'.ownsRow base e 3 v' (n + m) (entVs (xs ++ ys)) → w.grownBy w' v.ownBlock → (v'.ownBlock = v.ownBlock ∨ v'.ownBlock = some w.heap.size) → K (a.put o.dst v') w') : o.wp P a w K Q := by
  obtain ⟨v', w', hrun, h2, h3, h4⟩ := run_append_ents (P := P) base t o.type e i z bytes ht hi hz hsize hby hzs v n xs hown A m c ys hr h63 hbytes hbase
  unfold Oper.wp execOp
  simp only [ho, resolve, invoke, builtin, Sem.run_bind, Sem.run_pure, Result.andThen_ok, List.map_toArray, List.map_cons, List.map_nil, hs, hx, hrun]
  exact h v' w' h2 h3 h4
theorem wpList_append_ents {ops : Array Oper} {rest : List Oper} {o : Oper} {a : Act} {Q : Exit → Act → World → Prop} (hgd : o.guard = none) (s x : Operand) (t : TypeId)
    (ho : o.op = .call { callee := .builtin .append, args := #[s, x], argTypes := #[t, t] })
    (base : Nat) (e : TypeId) (i : TypeInfo) (z : Value) (bytes : Nat) (ht : P.underlying t = some (.slice e)) (hi : P.info? e = some i) (hz : i.zero = some z)
    (hsize : i.size = 3) (hby : i.bytes = bytes) (hzs : z.cells.size = 3)
    (v : Value) (n : Nat) (xs : List Ent) (hs : a.eval s = v) (hown : w.ownsRow base e 3 v n (entVs xs))
    (A : Option Addr) (m c : Nat) (ys : List Ent) (hx : a.eval x = .slice A m c) (hr : EntsIn w A m ys)
    (h63 : n + m ≤ maxLen) (hbytes : (n + m) * bytes ≤ 140737488355328) (hbase : base ≤ w.heap.size)
    (h : ∀ v' w', w'.ownsRow base e 3 v' (n + m) (entVs (xs ++ ys)) → w.grownBy w' v.ownBlock → (v'.ownBlock = v.ownBlock ∨ v'.ownBlock = some w.heap.size) → wpList P ops Q rest (a.put o.dst v') w') : wpList P ops Q (o :: rest) a w :=
  wpList_plain hgd fun _ hK => wp_append_ents s x t ho base e i z bytes ht hi hz hsize hby hzs v n xs hs hown A m c ys hx hr h63 hbytes hbase fun v' w' h2 h3 h4 => hK _ _ (h v' w' h2 h3 h4)
end
theorem owns_emptyD (w : World) (e : TypeId) {base : Nat} (hb : base ≤ w.heap.size) : (w.alloc (.cells #[] e)).ownsRow base e 3 (.slice (some ⟨w.heap.size, 0, none⟩) 0 0) 0 (entVs []) :=
  World.ownsRow_made w #[] 0 hb (by simp [maxLen]) rfl
theorem below_ents {B : Nat} {a w w' : World} {v : Value} {base n : Nat} {e : TypeId} {xs : List Value} (h : Below B a w) (hg : w.grownBy w' v.ownBlock) (hown : w.ownsRow base e 3 v n xs) (hB : B ≤ base) (hs : B ≤ w.heap.size) : Below B a w' :=
  h.grown hg hs fun k hk => by
    have := (hown.lt k hk).1
    omega
set_option maxRecDepth 100000 in
set_option maxHeartbeats 4000000 in
theorem dirtabPuts_walk (A : Option Addr) (n c : Nat) (l : List Ent) (w : World) (h : EntsIn w A n l ∧ n ≤ c ∧ c ≤ maxLen) :
    Calls Try.prog 3 #[.slice A n c] w fun r w' => r = .returned (.bool true) ∧ Below w.heap.size w w' := by
  obtain ⟨hl, hnc, hcm⟩ := h
  obtain ⟨i0, hi, hz0, hz1, hz2⟩ := info_parts ent_info
  have HI := Lib.hid hi
  obtain ⟨m, hm⟩ : ∃ m, m = min n 60 := ⟨_, rfl⟩
  have hlm := hl.take (show m ≤ n by omega)
  have HL := Lib.hid hlm
  have hm60 : m ≤ 60 := by omega
  have hmc : m ≤ c := by omega
  have hcm' : c ≤ 9223372036854775807 := hcm
  have HF := Lib.hid (fun (w' : World) => few_any A n c w' hnc hcm')
  rw [← hm] at HF
  generalize l.take m = lm at *
  clear hl hlm hm hcm hi
  go_enter Try.func3, Try.ntmps3
  go_wp2_with fail
  refine (shown_any w).mono ?_
  rintro r w1 ⟨rfl, hb1⟩
  have HB1 := Lib.hid hb1
  clear hb1
  go_wp2_with fail
  refine (HF.out w1).mono ?_
  rintro r w' ⟨rfl, rfl⟩
  have HO := Lib.hid (owns_emptyD w1 35 (Nat.le_refl _))
  have HLa : Hid (EntsIn (w1.alloc (.cells #[] 35)) A m lm) := (HL.out.below HB1.out).below (below_all.alloc (Nat.le_refl _) _)
  go_wp2_with (at_builtin; refine wpList_append_ents rfl (.tmp 13) (.tmp 14) _ rfl w1.heap.size 35 i0 _ 32 Try.underlying22 HI.out hz0 hz1 hz2 rfl (.slice (some ⟨w1.heap.size, 0, none⟩) 0 0) 0 [] rfl HO.out A m c lm rfl HLa.out (by simp only [maxLen]; omega) (by omega) (by simp) ?_; intro v2 w2 hown hgrow _)
  have hb2 := below_ents (below_all.alloc (Nat.le_refl _) _) hgrow HO.out (Nat.le_refl _) (by simp)
  rw [Nat.zero_add, List.nil_append] at hown
  obtain ⟨A2, c2, hv2, hE2, hc2, hc2'⟩ := ents_own hown
  subst hv2
  have HE2 := Lib.hid hE2
  have HB2 := Lib.hid (below_then HB1.out hb2)
  clear hown hgrow hb2 HO HLa hE2 HB1 HF
  refine (put_any A2 m c2 lm w2 HE2.out (by omega) hc2).mono ?_
  rintro r w3 ⟨A3, c3, rfl, hby3, hc3, hc3', hb3⟩
  have HB3 := Lib.hid (below_then HB2.out hb3)
  have HE3 := Lib.hid (HE2.out.below hb3)
  have HY3 := Lib.hid hby3
  clear hb3 hby3 HB2 HE2
  go_wp2_with fail
  refine (rput_any A m c lm w3 (HL.out.below HB3.out) (by omega) hmc).mono ?_
  rintro r w4 ⟨A4, c4, rfl, hby4, hc4, hc4', hb4⟩
  have HB4 := Lib.hid (below_then HB3.out hb4)
  have HE4 := Lib.hid (HE3.out.below hb4)
  have HY4 := Lib.hid (HY3.out.below hb4)
  have HZ4 := Lib.hid hby4
  clear hb4 hby4 HB3 HE3 HY3
  go_wp2_with fail
  refine (same_any A2 A m c2 m c lm lm w4 HE4.out (HL.out.below HB4.out) (by omega) (by omega)).mono ?_
  rintro r w5 ⟨rfl, hb5⟩
  have HB5 := Lib.hid (below_then HB4.out hb5)
  have v5 := run_string (P := Try.prog) (HY4.out.below hb5) 25 5 9 Try.underlying25 Try.underlying5 Try.underlying9 c3
  have v6 := run_string (P := Try.prog) (HZ4.out.below hb5) 25 5 9 Try.underlying25 Try.underlying5 Try.underlying9 c4
  have hdd : decide (lm = lm) = true := decide_eq_true rfl
  rw [hdd]
  clear hb5 hdd HB4 HE4 HY4 HZ4
  generalize putE lm = e at *
  go_wp2_with fail
  go_ret
  exact ⟨rfl, HB5.out⟩
end Go.Proofs.Ythkjgkdglphfcaa
