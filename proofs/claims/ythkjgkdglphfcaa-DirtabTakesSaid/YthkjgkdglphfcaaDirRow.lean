/- Rows of entries: a row of its own, three cells each; append of one entry. -/
import Derived.Test.YthkjgkdglphfcaaRows
import Derived.Test.YthkjgkdglphfcaaDirDec
import Derived.Test.YthkjgkdglphfcaaCurReader
import Derived.Maps.AppendAt
namespace Go.Proofs.Ythkjgkdglphfcaa
set_option linter.unusedVariables false
set_option linter.unusedSimpArgs false
open Go.RowKit

def entVs (l : List Ent) : List Value := l.flatMap fun x => (entCells x).toList
theorem entVs_append (a b : List Ent) : entVs (a ++ b) = entVs a ++ entVs b := List.flatMap_append
theorem entVs_length (l : List Ent) : (entVs l).length = l.length * 3 := by
  induction l with
  | nil => rfl
  | cons x l ih =>
    have h : entVs (x :: l) = (entCells x).toList ++ entVs l := rfl
    rw [h, List.length_append, ih, List.length_cons]
    simp [entCells]
    omega
theorem entVs_at : ∀ (l : List Ent) (i : Nat) (x : Ent), l[i]? = some x → ∀ j, j < 3 → (entVs l)[i * 3 + j]? = (entCells x)[j]?
  | [], i, x, h => by simp at h
  | y :: l, 0, x, h => by
    intro j hj
    simp at h
    subst h
    have h2 : entVs (y :: l) = (entCells y).toList ++ entVs l := rfl
    rw [h2, List.getElem?_append_left (by simp [entCells]; omega)]
    simp
  | y :: l, i + 1, x, h => by
    intro j hj
    have h2 : entVs (y :: l) = (entCells y).toList ++ entVs l := rfl
    rw [h2, List.getElem?_append_right (by simp [entCells]; omega)]
    rw [show (i + 1) * 3 + j - (entCells y).toList.length = i * 3 + j from by simp [entCells]; omega]
    exact entVs_at l i x (by simpa using h) j hj
theorem entVs_one (l : List Ent) : ∀ u ∈ entVs l, u.oneCell' = true := by
  intro u hu
  obtain ⟨x, _, hx⟩ := List.mem_flatMap.1 hu
  simp [entCells] at hx
  rcases hx with rfl | rfl | rfl <;> rfl
theorem ent_info : (Try.prog.info? 35).map (fun i => (i.zero, i.size, i.bytes)) = some (some (.agg #[.string ⟨#[]⟩, .int .i64 0, .int .i64 0]), 3, 32) := by kernel_rfl
theorem ents_own {w : World} {base : Nat} {e : TypeId} {v : Value} {n : Nat} {l : List Ent} (h : w.ownsRow base e 3 v n (entVs l)) : ∃ A c, v = .slice A n c ∧ EntsIn w A n l ∧ n ≤ c ∧ c ≤ maxLen := by
  have hlen : l.length = n := by have := h.1; rw [entVs_length] at this; omega
  rcases h.2 with ⟨rfl, rfl⟩ | ⟨g, cap, cur, rfl, hg, hh, hnc, hcm, hcs, htk⟩
  · exact ⟨none, 0, rfl, ⟨hlen, fun hn => absurd hn (by omega)⟩, Nat.le_refl _, by simp [maxLen]⟩
  · refine ⟨_, cap, rfl, ⟨hlen, fun hn => ⟨g, 0, rfl, fun i x hx j u hu => ?_⟩⟩, hnc, hcm⟩
    have hj : j < 3 := by
      have := (Array.getElem?_eq_some_iff.1 hu).1
      simpa [entCells] using this
    have hi : i < n := by have := (List.getElem?_eq_some_iff.1 hx).1; omega
    rw [cell_of_row w g _ cur e (0, 0) hh, Nat.zero_add, ← hu, ← entVs_at l i x hx j hj, ← htk, List.getElem?_take, if_pos (by omega)]
    simp
section
variable {P : Program} {w : World}
theorem run_append_ent (base : Nat) (t ty e : TypeId) (i : TypeInfo) (z : Value) (bytes : Nat) (ht : P.underlying t = some (.slice e)) (hi : P.info? e = some i) (hz : i.zero = some z)
    (hsize : i.size = 3) (hby : i.bytes = bytes) (hzs : z.cells.size = 3) (v : Value) (n : Nat) (l : List Ent) (hown : w.ownsRow base e 3 v n (entVs l)) (g : Nat) (y : Ent) (hr : ∀ j u, (entCells y)[j]? = some u → w.cell? ⟨g, j, none⟩ = some u)
    (h63 : n + 1 ≤ maxLen) (hbytes : (n + 1) * bytes ≤ 140737488355328) (hbase : base ≤ w.heap.size) :
    ∃ v' w', (Builtin.append_ #[t, t] ty #[v, .slice (some ⟨g, 0, none⟩) 1 1]).run P w = .ok v' w' ∧ w'.ownsRow base e 3 v' (n + 1) (entVs (l ++ [y])) ∧ w.grownBy w' v.ownBlock ∧ (v'.ownBlock = v.ownBlock ∨ v'.ownBlock = some w.heap.size) := by
  have hcells : ∀ j u, (entVs [y])[j]? = some u → w.cell? ((⟨g, 0, none⟩ : Addr).add j) = some u := by
    intro j u hu
    have hadd : (⟨g, 0, none⟩ : Addr).add j = ⟨g, 0 + j, none⟩ := by unfold Addr.add; split <;> simp_all
    rw [hadd, Nat.zero_add]
    refine hr j u ?_
    have h2 : entVs [y] = (entCells y).toList := by simp [entVs]
    rw [h2] at hu
    simpa using hu
  obtain ⟨v', w', hrun, h2, h3, _, h5⟩ := run_append_own_at (P := P) w base t ty e i z 3 bytes ht hi hz hsize hby hzs (by omega) v n (entVs l) hown ⟨g, 0, none⟩ 1 1 (entVs [y]) (by rw [entVs_length]; rfl) hcells (entVs_one [y]) h63 hbytes hbase
  rw [← entVs_append] at h2
  exact ⟨v', w', hrun, h2, h3, h5⟩
theorem wp_append_ent {o : Oper} {a : Act} {K : Act → World → Prop} {Q : Exit → Act → World → Prop} (s x : Operand) (t : TypeId)
    (ho : o.op = .call { callee := .builtin .append, args := #[s, x], argTypes := #[t, t] })
    (base : Nat) (e : TypeId) (i : TypeInfo) (z : Value) (bytes : Nat) (ht : P.underlying t = some (.slice e)) (hi : P.info? e = some i) (hz : i.zero = some z)
    (hsize : i.size = 3) (hby : i.bytes = bytes) (hzs : z.cells.size = 3) (v : Value) (n : Nat) (l : List Ent) (hs : a.eval s = v) (hown : w.ownsRow base e 3 v n (entVs l)) (g : Nat) (y : Ent) (hx : a.eval x = .slice (some ⟨g, 0, none⟩) 1 1)
    (hr : ∀ j u, (entCells y)[j]? = some u → w.cell? ⟨g, j, none⟩ = some u) (h63 : n + 1 ≤ maxLen) (hbytes : (n + 1) * bytes ≤ 140737488355328) (hbase : base ≤ w.heap.size)
    (h : ∀ v' w', w'.ownsRow base e 3 v' (n + 1) (entVs (l ++ [y])) → w.grownBy w' v.ownBlock → (v'.ownBlock = v.ownBlock ∨ v'.ownBlock = some w.heap.size) → K (a.put o.dst v') w') : o.wp P a w K Q := by
  obtain ⟨v', w', hrun, h2, h3, h4⟩ := run_append_ent (P := P) base t o.type e i z bytes ht hi hz hsize hby hzs v n l hown g y hr h63 hbytes hbase
  unfold Oper.wp execOp
  simp only [ho, resolve, invoke, builtin, Sem.run_bind, Sem.run_pure, Result.andThen_ok, List.map_toArray, List.map_cons, List.map_nil, hs, hx, hrun]
  exact h v' w' h2 h3 h4
end
end Go.Proofs.Ythkjgkdglphfcaa
