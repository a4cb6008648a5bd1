/- Memory facts for the walks: what a byte slice holds, bytes appended to a row of the call's own, bytes as a string, blocks that are known whole, frames. Plain lemmas over any program; no conditions but those stated. -/
import Derived.WalkKit
import Derived.Lib.Hide
import Derived.Maps.AppendAt
import Derived.Laws.BytesArg
import Derived.Deep.Draws
import Derived.Deep.OwnRows
import Derived.DataElems
namespace Go.Proofs.Ytomijekbkamcbaa
set_option linter.unusedVariables false
set_option linter.unusedSimpArgs false
open Go.RowKit

/-! Blocks -/
theorem heap_at_new (w : World) (o : Obj) (n : Nat) (h : n = w.heap.size) : (w.alloc o).heap[n]? = some o := by subst h; exact heap_alloc_new w o
theorem heap_at_old (w : World) (o : Obj) (n : Nat) (h : n < w.heap.size) {x : Option Obj} (hx : w.heap[n]? = x) : (w.alloc o).heap[n]? = x := (Below.heap_alloc w o n h).trans hx
theorem lt_of_heap {w : World} {g : Nat} {o : Obj} (h : w.heap[g]? = some o) : g < w.heap.size := (Array.getElem?_eq_some_iff.1 h).1

/-! Frames -/
theorem belowN {B : Nat} {a w : World} (h : Below B a w) (n : Nat) : Below B a (w.drewN n) := ⟨h.os, h.tape, h.output, h.size, h.block⟩
theorem below_then {w w1 w2 : World} (h : Below w.heap.size w w1) (k : Below w1.heap.size w1 w2) : Below w.heap.size w w2 := h.trans (k.mono h.size)
theorem below_all {w : World} : Below w.heap.size w w := Below.refl _ _
theorem below_heap {B : Nat} {w w' : World} (h : Below B w w') {g : Nat} (hg : g < B) {o : Option Obj} (ho : w.heap[g]? = o) : w'.heap[g]? = o := (h.block g hg).trans ho

/-! Bytes -/
/-- Bytes as the cells hold them. -/
def u8s (bs : List UInt8) : List Value := bs.map fun b => .int .u8 (b.toNat : Nat)
theorem u8s_append (a b : List UInt8) : u8s (a ++ b) = u8s a ++ u8s b := List.map_append
theorem u8s_length (a : List UInt8) : (u8s a).length = a.length := List.length_map _
theorem u8s_at (bs : List UInt8) (j : Nat) (hj : j < bs.length) : (u8s bs)[j]? = some (.int .u8 ((bs.getD j 0).toNat : Nat)) := by
  simp [u8s, List.getElem?_eq_getElem hj, List.getD_eq_getElem?_getD]
theorem u8s_one (bs : List UInt8) : ∀ u ∈ u8s bs, u.oneCell' = true := by
  intro u hu
  obtain ⟨b, _, rfl⟩ := List.mem_map.1 hu
  rfl

/-- The slice's n bytes are bs (an address is known where there is one at least). -/
def Bytes (w : World) (A : Option Addr) (n : Nat) (bs : List UInt8) : Prop :=
  bs.length = n ∧ (0 < n → ∃ b off, A = some ⟨b, off, none⟩ ∧ ∀ j, j < n → w.cell? ⟨b, off + j, none⟩ = some (.int .u8 ((bs.getD j 0).toNat : Nat)))

section
variable {w w' : World} {A : Option Addr} {n : Nat} {bs : List UInt8}
theorem Bytes.nil (w : World) (A : Option Addr) : Bytes w A 0 [] := ⟨rfl, fun h => absurd h (by omega)⟩
/-- In a world in which the block is as it was. -/
theorem Bytes.keep (h : Bytes w A n bs) (hk : ∀ a, A = some a → a.block < w.heap.size → w'.heap[a.block]? = w.heap[a.block]?) : Bytes w' A n bs :=
  ⟨h.1, fun hn => by
    obtain ⟨b, off, rfl, hc⟩ := h.2 hn
    have hlt : b < w.heap.size := block_lt_of_cell (hc 0 hn)
    exact ⟨b, off, rfl, fun j hj => (World.cell?_of_block (w := w) (a := ⟨b, off + j, none⟩) (hk ⟨b, off, none⟩ rfl hlt)).trans (hc j hj)⟩⟩
theorem Bytes.below (h : Bytes w A n bs) (hb : Below w.heap.size w w') : Bytes w' A n bs := h.keep fun a _ hlt => hb.block _ hlt
theorem Bytes.alloc (h : Bytes w A n bs) (o : Obj) : Bytes (w.alloc o) A n bs := h.below (below_all.alloc (Nat.le_refl _) o)
theorem Bytes.drewN (h : Bytes w A n bs) (k : Nat) : Bytes (w.drewN k) A n bs := h
theorem Bytes.drew (h : Bytes w A n bs) : Bytes w.drew A n bs := h
theorem Bytes.take (h : Bytes w A n bs) {k : Nat} (hk : k ≤ n) : Bytes w A k (bs.take k) := by
  refine ⟨by rw [List.length_take, h.1]; omega, fun hk0 => ?_⟩
  obtain ⟨b, off, rfl, hc⟩ := h.2 (by omega)
  refine ⟨b, off, rfl, fun j hj => ?_⟩
  rw [hc j (by omega), List.getD_eq_getElem?_getD, List.getD_eq_getElem?_getD, List.getElem?_take, if_pos hj]
theorem Bytes.drop (h : Bytes w A n bs) {k : Nat} (hk : k < n) : ∃ b off, A = some ⟨b, off, none⟩ ∧ Bytes w (some ⟨b, off + k, none⟩) (n - k) (bs.drop k) := by
  obtain ⟨b, off, rfl, hc⟩ := h.2 (by omega)
  refine ⟨b, off, rfl, by rw [List.length_drop, h.1], fun _ => ⟨b, off + k, rfl, fun j hj => ?_⟩⟩
  rw [Nat.add_assoc, hc (k + j) (by omega), List.getD_eq_getElem?_getD, List.getD_eq_getElem?_getD, List.getElem?_drop]
/-- Bytes that lie written out in a block known whole, from its head on. -/
theorem bytes_row (w : World) (g : Nat) (bs : List UInt8) (C : Array Value) (t : TypeId) (fr : Nat × Nat) (hC : ∀ j, j < bs.length → C[j]? = (u8s bs)[j]?) (hg : w.heap[g]? = some (.cells C t fr)) : Bytes w (some ⟨g, 0, none⟩) bs.length bs := by
  refine ⟨rfl, fun _ => ⟨g, 0, rfl, fun j hj => ?_⟩⟩
  rw [cell_of_row w g _ C t fr hg, Nat.zero_add, hC j hj, u8s_at bs j hj]
theorem bytes_lit (w : World) (g : Nat) (bs : List UInt8) (C : Array Value) (t : TypeId) (fr : Nat × Nat) (hC : C = (u8s bs).toArray) (hg : w.heap[g]? = some (.cells C t fr)) : Bytes w (some ⟨g, 0, none⟩) bs.length bs :=
  bytes_row w g bs C t fr (fun j _ => by rw [hC]; simp) hg
/-- Out of what the call owns. -/
theorem bytes_own {base : Nat} {e : TypeId} {c : Nat} (h : w.ownsRow base e 1 (.slice A n c) n (u8s bs)) : Bytes w A n bs := by
  refine ⟨by have := h.1; rw [u8s_length] at this; omega, fun hn => ?_⟩
  rcases h.2 with ⟨_, h0⟩ | ⟨g, cap, cur, hv, hg, hh, hnc, hcm, hcs, htake⟩
  · omega
  · injection hv with hA
    subst hA
    have hbl : bs.length = n := by have := h.1; rw [u8s_length] at this; omega
    refine ⟨g, 0, rfl, fun j hj => ?_⟩
    rw [cell_of_row w g _ cur e (0, 0) hh, Nat.zero_add]
    have := u8s_at bs j (by omega)
    rw [← htake, List.getElem?_take, if_pos (by omega)] at this
    simpa using this
end
theorem own_form {w : World} {base : Nat} {e : TypeId} {v : Value} {n : Nat} {bs : List UInt8} (h : w.ownsRow base e 1 v n (u8s bs)) :
    ∃ A c, v = .slice A n c ∧ Bytes w A n bs ∧ n ≤ c ∧ c ≤ maxLen ∧ ∀ a, A = some a → base ≤ a.block ∧ a.block < w.heap.size := by
  rcases h.2 with ⟨rfl, rfl⟩ | ⟨g, cap, cur, rfl, hg, hh, hnc, hcm, _⟩
  · exact ⟨none, 0, rfl, bytes_own h, Nat.le_refl _, by simp [maxLen], fun a ha => by cases ha⟩
  · exact ⟨_, cap, rfl, bytes_own h, hnc, hcm, fun a ha => by injection ha with ha; subst ha; exact ⟨hg, lt_of_heap hh⟩⟩
theorem take_snoc (bs : List UInt8) (k : Nat) (h : k < bs.length) : bs.take (k + 1) = bs.take k ++ [bs.getD k 0] := by
  rw [List.take_succ_eq_append_getElem h, List.getD_eq_getElem?_getD, List.getElem?_eq_getElem h]; rfl

/-! Bytes as a string -/
def str (bs : List UInt8) : ByteArray := ⟨bs.toArray⟩
theorem str_size (bs : List UInt8) : (str bs).size = bs.length := by simp [str, ByteArray.size]
theorem str_inj {a b : List UInt8} (h : str a = str b) : a = b := by
  have := congrArg (fun s : ByteArray => s.data.toList) h
  simpa [str] using this
theorem str_toList (bs : List UInt8) : (str bs).toList = bs := by rw [ByteArray.toList_eq]; simp [str]
theorem run_string {P : Program} {w : World} {A : Option Addr} {n : Nat} {bs : List UInt8} (h : Bytes w A n bs) (src e dst : TypeId) (hs : P.underlying src = some (.slice e)) (he : P.underlying e = some (.int .u8)) (hd : P.underlying dst = some .string) (c : Nat) :
    (convert src dst (.slice A n c)).run P w = .ok (.string (str bs)) w := by
  rcases A with _ | a
  · have hn : n = 0 := by
      rcases Nat.eq_zero_or_pos n with h0 | h0
      · exact h0
      · obtain ⟨_, _, hA, _⟩ := h.2 h0; cases hA
    subst hn
    have hb : bs = [] := List.eq_nil_of_length_eq_zero h.1
    subst hb
    exact run_convert_bytes_nil w src e hs he 0 c dst hd
  · rcases Nat.eq_zero_or_pos n with h0 | h0
    · subst h0
      have hb : bs = [] := List.eq_nil_of_length_eq_zero h.1
      subst hb
      rw [run_convert_bytes_string w src dst e _ 0 c hs he hd]
      simp [Conv.bytesToString, loadCells, loadCellsFrom, Result.andThen, str, ByteArray.empty, ByteArray.emptyWithCapacity, Sem.run_pure]
      rfl
    · obtain ⟨b, off, hA, hc⟩ := h.2 h0
      injection hA with hA
      subst hA
      have := run_convert_bytes_arg (P := P) w src e hs he b off n c (bs.map fun x => (x.toNat : Int)) (by rw [List.length_map, h.1]) (fun i hi => by
        rw [hc i hi]
        have hl : i < bs.length := by rw [h.1]; exact hi
        simp [List.getD_eq_getElem?_getD, List.getElem?_map, List.getElem?_eq_getElem hl]) dst hd
      rw [this]
      congr 2
      unfold str strOfNums
      congr 1
      rw [List.map_map]
      conv => rhs; rw [← List.map_id bs]
      congr 1
      apply List.map_congr_left
      intro x _
      simp

/-! append(own row, bytes) -/
section
variable {P : Program} (w : World)
theorem run_append_nothing (base : Nat) (t ty e : TypeId) (i : TypeInfo) (ht : P.underlying t = some (.slice e)) (hi : P.info? e = some i)
    (v : Value) (n : Nat) (xs : List Value) (hown : w.ownsRow base e 1 v n xs) (c : Nat) : (Builtin.append_ #[t, t] ty #[v, .slice none 0 c]).run P w = .ok v w := by
  rcases hown.2 with ⟨rfl, rfl⟩ | ⟨g, cap, cur, rfl, _, _, hnc, _⟩
  · simp [Builtin.append_, run_underlying ht, sizeOf, typeInfo, hi, Builtin.lenOf, Builtin.firstCells]
  · simp [Builtin.append_, run_underlying ht, sizeOf, typeInfo, hi, Builtin.lenOf, Builtin.firstCells, hnc, storeCells]
theorem run_append_bytes (base : Nat) (t ty e : TypeId) (i : TypeInfo) (z : Value) (bytes : Nat) (ht : P.underlying t = some (.slice e)) (hi : P.info? e = some i) (hz : i.zero = some z)
    (hsize : i.size = 1) (hby : i.bytes = bytes) (hzs : z.cells.size = 1)
    (v : Value) (n : Nat) (xs : List UInt8) (hown : w.ownsRow base e 1 v n (u8s xs)) (A : Option Addr) (m c : Nat) (ys : List UInt8) (hr : Bytes w A m ys)
    (h63 : n + m ≤ maxLen) (hbytes : (n + m) * bytes ≤ 140737488355328) (hbase : base ≤ w.heap.size) :
    ∃ v' w', (Builtin.append_ #[t, t] ty #[v, .slice A m c]).run P w = .ok v' w' ∧ w'.ownsRow base e 1 v' (n + m) (u8s (xs ++ ys)) ∧ w.grownBy w' v.ownBlock ∧
      (v'.ownBlock = v.ownBlock ∨ v'.ownBlock = some w.heap.size) := by
  have hml : (u8s ys).length = m * 1 := by rw [u8s_length, hr.1, Nat.mul_one]
  rcases A with _ | ad
  · have hm : m = 0 := by
      rcases Nat.eq_zero_or_pos m with h0 | h0
      · exact h0
      · obtain ⟨_, _, h, _⟩ := hr.2 h0; cases h
    subst hm
    have hn : ys = [] := List.eq_nil_of_length_eq_zero hr.1
    subst hn
    exact ⟨v, w, run_append_nothing w base t ty e i ht hi v n _ hown c, by simpa using hown, World.grownBy.refl w _, .inl rfl⟩
  · have hcells : ∀ j u, (u8s ys)[j]? = some u → w.cell? (ad.add j) = some u := by
      intro j u hu
      have hj : j < m := by
        have := (List.getElem?_eq_some_iff.1 hu).1
        rw [u8s_length, hr.1] at this
        exact this
      obtain ⟨b, off, hA, hc⟩ := hr.2 (by omega)
      injection hA with hA
      subst hA
      have hadd : (⟨b, off, none⟩ : Addr).add j = ⟨b, off + j, none⟩ := by unfold Addr.add; split <;> simp_all
      rw [hadd, hc j hj, ← hu, u8s_at ys j (by rw [hr.1]; exact hj)]
    obtain ⟨v', w', hrun, h2, h3, _, h5⟩ := run_append_own_at (P := P) w base t ty e i z 1 bytes ht hi hz hsize hby hzs (by omega) v n (u8s xs) hown ad m c (u8s ys) hml hcells (u8s_one ys) h63 hbytes hbase
    rw [← u8s_append] at h2
    exact ⟨v', w', hrun, h2, h3, h5⟩

theorem wp_append_bytes {o : Oper} {a : Act} {K : Act → World → Prop} {Q : Exit → Act → World → Prop} (s x : Operand) (t : TypeId)
    (ho : o.op = .call { callee := .builtin .append, args := #[s, x], argTypes := #[t, t] })
    (base : Nat) (e : TypeId) (i : TypeInfo) (z : Value) (bytes : Nat) (ht : P.underlying t = some (.slice e)) (hi : P.info? e = some i) (hz : i.zero = some z)
    (hsize : i.size = 1) (hby : i.bytes = bytes) (hzs : z.cells.size = 1)
    (v : Value) (n : Nat) (xs : List UInt8) (hs : a.eval s = v) (hown : w.ownsRow base e 1 v n (u8s xs))
    (A : Option Addr) (m c : Nat) (ys : List UInt8) (hx : a.eval x = .slice A m c) (hr : Bytes w A m ys)
    (h63 : n + m ≤ maxLen) (hbytes : (n + m) * bytes ≤ 140737488355328) (hbase : base ≤ w.heap.size)
    (h : ∀ v' w', w'.ownsRow base e 1 v' (n + m) (u8s (xs ++ ys)) → w.grownBy w' v.ownBlock → (v'.ownBlock = v.ownBlock ∨ v'.ownBlock = some w.heap.size) → K (a.put o.dst v') w') : o.wp P a w K Q := by
  obtain ⟨v', w', hrun, h2, h3, h4⟩ := run_append_bytes (P := P) w base t o.type e i z bytes ht hi hz hsize hby hzs v n xs hown A m c ys hr h63 hbytes hbase
  unfold Oper.wp execOp
  simp only [ho, resolve, invoke, builtin, Sem.run_bind, Sem.run_pure, Result.andThen_ok, List.map_toArray, List.map_cons, List.map_nil, hs, hx, hrun]
  exact h v' w' h2 h3 h4
theorem wpList_append_bytes {ops : Array Oper} {rest : List Oper} {o : Oper} {a : Act} {Q : Exit → Act → World → Prop} (hgd : o.guard = none) (s x : Operand) (t : TypeId)
    (ho : o.op = .call { callee := .builtin .append, args := #[s, x], argTypes := #[t, t] })
    (base : Nat) (e : TypeId) (i : TypeInfo) (z : Value) (bytes : Nat) (ht : P.underlying t = some (.slice e)) (hi : P.info? e = some i) (hz : i.zero = some z)
    (hsize : i.size = 1) (hby : i.bytes = bytes) (hzs : z.cells.size = 1)
    (v : Value) (n : Nat) (xs : List UInt8) (hs : a.eval s = v) (hown : w.ownsRow base e 1 v n (u8s xs))
    (A : Option Addr) (m c : Nat) (ys : List UInt8) (hx : a.eval x = .slice A m c) (hr : Bytes w A m ys)
    (h63 : n + m ≤ maxLen) (hbytes : (n + m) * bytes ≤ 140737488355328) (hbase : base ≤ w.heap.size)
    (h : ∀ v' w', w'.ownsRow base e 1 v' (n + m) (u8s (xs ++ ys)) → w.grownBy w' v.ownBlock → (v'.ownBlock = v.ownBlock ∨ v'.ownBlock = some w.heap.size) → wpList P ops Q rest (a.put o.dst v') w') : wpList P ops Q (o :: rest) a w :=
  wpList_plain hgd fun _ hK => wp_append_bytes w s x t ho base e i z bytes ht hi hz hsize hby hzs v n xs hs hown A m c ys hx hr h63 hbytes hbase fun v' w' h2 h3 h4 => hK _ _ (h v' w' h2 h3 h4)
end
/-- The frame behind such an append: what lay below the call's own blocks is as it was. -/
theorem below_append {B : Nat} {a w w' : World} {v : Value} {base n : Nat} {e : TypeId} {xs : List Value} (h : Below B a w) (hg : w.grownBy w' v.ownBlock) (hown : w.ownsRow base e 1 v n xs) (hB : B ≤ base) (hs : B ≤ w.heap.size) : Below B a w' :=
  h.grown hg hs fun k hk => by
    have := (hown.lt k hk).1
    omega
/-- What the call owns it still owns behind calls that leave it alone. -/
theorem own_below {w w' : World} {base size n : Nat} {e : TypeId} {v : Value} {xs : List Value} (h : w.ownsRow base e size v n xs) (hb : Below w.heap.size w w') : w'.ownsRow base e size v n xs :=
  h.kept (row := none) ⟨hb.os, hb.tape, hb.output, hb.size, fun k hk _ => hb.block k hk⟩ (by cases v.ownBlock <;> simp)
/-- A block of another type is as it was behind an append to a row. -/
theorem block_kept {w w' : World} {base size n g : Nat} {e t : TypeId} {v : Value} {xs : List Value} {cs : Array Value} {fr : Nat × Nat} (hg : w.heap[g]? = some (.cells cs t fr)) (h : w.ownsRow base e size v n xs) (hgr : w.grownBy w' v.ownBlock) (hne : some g ≠ v.ownBlock) : w'.heap[g]? = some (.cells cs t fr) :=
  (hgr.block g (lt_of_heap hg) hne).trans hg
/-- Two rows of different element types never share a block. -/
theorem own_apart {w : World} {base base' size size' n n' : Nat} {e e' : TypeId} {v v' : Value} {xs xs' : List Value} (h : w.ownsRow base e size v n xs) (h' : w.ownsRow base' e' size' v' n' xs') (hne : e ≠ e') :
    v.ownBlock = none ∨ v.ownBlock ≠ v'.ownBlock := by
  rcases h.2 with ⟨rfl, _⟩ | ⟨g, cap, cur, rfl, _, hh, _⟩
  · exact .inl rfl
  · right
    rcases h'.2 with ⟨rfl, _⟩ | ⟨g', cap', cur', rfl, _, hh', _⟩
    · simp [Value.ownBlock]
    · intro he
      have : g = g' := by simpa [Value.ownBlock] using he
      subst this
      rw [hh] at hh'
      injection hh' with hh'
      injection hh' with _ ht
      exact hne ht
/-- A block of another type is not the row's. -/
theorem own_block_ne {w : World} {base size n g : Nat} {e t : TypeId} {v : Value} {xs : List Value} {cs : Array Value} {fr : Nat × Nat} (h : w.ownsRow base e size v n xs) (hg : w.heap[g]? = some (.cells cs t fr)) (hne : e ≠ t) : some g ≠ v.ownBlock := by
  rcases h.2 with ⟨rfl, _⟩ | ⟨g', cap, cur, rfl, _, hh, _⟩
  · simp [Value.ownBlock]
  · intro he
    have : g = g' := by simpa [Value.ownBlock] using he
    subst this
    rw [hg] at hh
    injection hh with hh
    injection hh with _ ht
    exact hne ht.symm
/-- A row that the call makes empty owns nothing yet. -/
theorem owns_empty (w : World) (e : TypeId) {base : Nat} (hb : base ≤ w.heap.size) : (w.alloc (.cells #[] e)).ownsRow base e 1 (.slice (some ⟨w.heap.size, 0, none⟩) 0 0) 0 [] :=
  World.ownsRow_made w #[] 0 hb (by simp [maxLen]) rfl
theorem owns_empty_at (w : World) (e : TypeId) (g : Nat) (hg : g = w.heap.size) {base : Nat} (hb : base ≤ g) : (w.alloc (.cells #[] e)).ownsRow base e 1 (.slice (some ⟨g, 0, none⟩) 0 0) 0 [] := by
  subst hg; exact owns_empty w e hb

/-! A byte slice that came in, as the rows read it -/
def IsRow (k : IntKind) (w : World) (a : Option Addr) (len cap : Nat) (zs : List Int) : Prop :=
  (a = none ∧ len = 0 ∧ cap = 0 ∧ zs = []) ∨
  ∃ x, a = some x ∧ len ≤ cap ∧ cap ≤ maxLen ∧ zs.length = cap ∧ (∀ i, i < zs.length → w.cell? (x.add i) = some (.int k (zs.getD i 0))) ∧ ∀ n ∈ zs, (Lit.int k n).wf = true
theorem bytes_of_row {w : World} {a : Option Addr} {len cap : Nat} {zs : List Int} (h : IsRow .u8 w a len cap zs) : ∃ bs, Bytes w a len bs ∧ len ≤ cap ∧ cap ≤ maxLen := by
  rcases h with ⟨rfl, rfl, rfl, rfl⟩ | ⟨x, rfl, hl, hm, hz, hcell, hwf⟩
  · exact ⟨[], Bytes.nil w none, Nat.le_refl _, by simp [maxLen]⟩
  · refine ⟨(zs.take len).map fun z => UInt8.ofNat z.toNat, ⟨by rw [List.length_map, List.length_take]; omega, fun hn => ?_⟩, hl, hm⟩
    obtain ⟨b, off, spot⟩ := x
    have hspot : spot = none := by simpa [Addr.add] using World.cell?_spot (hcell 0 (by omega))
    subst hspot
    refine ⟨b, off, rfl, fun j hj => ?_⟩
    have hadd : (⟨b, off, none⟩ : Addr).add j = ⟨b, off + j, none⟩ := by unfold Addr.add; split <;> simp_all
    have hjz : j < zs.length := by omega
    rw [← hadd, hcell j hjz]
    have hw := hwf (zs[j]) (List.getElem_mem hjz)
    have hw2 : 0 ≤ zs[j] ∧ zs[j] ≤ 255 := by simpa [Lit.wf, IntKind.min, IntKind.max, IntKind.bits, IntKind.signed] using hw
    have e1 : zs.getD j 0 = zs[j] := by simp [List.getD_eq_getElem?_getD, List.getElem?_eq_getElem hjz]
    have e2 : ((zs.take len).map fun z => UInt8.ofNat z.toNat).getD j 0 = UInt8.ofNat (zs[j]).toNat := by
      simp [List.getD_eq_getElem?_getD, List.getElem?_map, List.getElem?_take, hj, List.getElem?_eq_getElem hjz]
    rw [e1, e2]
    congr 2
    simp only [UInt8.toNat_ofNat']
    omega

end Go.Proofs.Ytomijekbkamcbaa
