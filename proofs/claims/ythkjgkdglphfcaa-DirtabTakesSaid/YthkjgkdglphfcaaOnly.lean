/- Frames: what lay there is as it was, but for some blocks; a struct of two cells in a block known whole. Plain lemmas over any program. -/
import Derived.Test.YthkjgkdglphfcaaMem
import Derived.Lib.ConvBytes
namespace Go.Proofs.Ythkjgkdglphfcaa
set_option linter.unusedVariables false
set_option linter.unusedSimpArgs false
open Go.RowKit

/-- Of what lay in w all is as it was, but for the blocks S. -/
structure Only (S : List Nat) (w w' : World) : Prop where
  os : w'.os = w.os
  tape : w'.tape = w.tape
  output : w'.output = w.output
  size : w.heap.size ≤ w'.heap.size
  block : ∀ k, k < w.heap.size → k ∉ S → w'.heap[k]? = w.heap[k]?

section
variable {S S' : List Nat} {a b c w w' : World}
theorem Only.refl (S : List Nat) (w : World) : Only S w w := ⟨rfl, rfl, rfl, Nat.le_refl _, fun _ _ _ => rfl⟩
theorem Only.trans (h : Only S a b) (k : Only S' b c) (hs : ∀ i ∈ S', i ∈ S ∨ a.heap.size ≤ i) : Only S a c :=
  ⟨k.os.trans h.os, k.tape.trans h.tape, k.output.trans h.output, Nat.le_trans h.size k.size, fun i hi hn =>
    (k.block i (Nat.lt_of_lt_of_le hi h.size) fun hin => by
      rcases hs i hin with h1 | h1
      · exact hn h1
      · omega).trans (h.block i hi hn)⟩
theorem Only.mono (h : Only S a b) (hs : ∀ i ∈ S, i ∈ S' ∨ a.heap.size ≤ i) : Only S' a b :=
  ⟨h.os, h.tape, h.output, h.size, fun i hi hn => h.block i hi fun hin => by
    rcases hs i hin with h1 | h1
    · exact hn h1
    · omega⟩
theorem Only.drew (h : Only S a w) : Only S a w.drew := ⟨h.os, h.tape, h.output, h.size, h.block⟩
theorem Only.drewN (h : Only S a w) (n : Nat) : Only S a (w.drewN n) := ⟨h.os, h.tape, h.output, h.size, h.block⟩
theorem Only.alloc (h : Only S a w) (o : Obj) : Only S a (w.alloc o) :=
  ⟨h.os, h.tape, h.output, Nat.le_trans h.size (by simp), fun i hi hn => (Below.heap_alloc w o i (Nat.lt_of_lt_of_le hi h.size)).trans (h.block i hi hn)⟩
theorem Only.setCell (h : Only S a w) {p : Addr} (hp : p.block ∈ S ∨ a.heap.size ≤ p.block) (u : Value) : Only S a (w.setCell p u) :=
  ⟨h.os, h.tape, h.output, by simpa [World.setCell] using h.size, fun i hi hn => (Below.heap_setCell w p u i fun e => by
    rcases hp with h1 | h1
    · exact hn (e ▸ h1)
    · omega).trans (h.block i hi hn)⟩
theorem Only.grown (h : Only S a w) {row : Option Nat} (hg : w.grownBy w' row) (hr : ∀ k, row = some k → k ∈ S ∨ a.heap.size ≤ k) : Only S a w' :=
  ⟨hg.os.trans h.os, hg.tape.trans h.tape, hg.output.trans h.output, Nat.le_trans h.size hg.size, fun i hi hn =>
    (hg.block i (Nat.lt_of_lt_of_le hi h.size) fun e => by
      rcases hr i e.symm with h1 | h1
      · exact hn h1
      · omega).trans (h.block i hi hn)⟩
theorem only_below (S : List Nat) (h : Below w.heap.size w w') : Only S w w' := ⟨h.os, h.tape, h.output, h.size, fun i hi _ => h.block i hi⟩
theorem Only.below (h : Only S w w') {B : Nat} (hs : ∀ k ∈ S, B ≤ k) (hB : B ≤ w.heap.size) : Below B w w' :=
  ⟨h.os, h.tape, h.output, h.size, fun i hi => h.block i (by omega) fun hin => by have := hs i hin; omega⟩
theorem Only.at_ (h : Only S w w') {g : Nat} {o : Obj} (hg : w.heap[g]? = some o) (hn : g ∉ S) : w'.heap[g]? = some o := (h.block g (lt_of_heap hg) hn).trans hg
theorem Bytes.only {A : Option Addr} {n : Nat} {bs : List UInt8} (h : Bytes w A n bs) (ho : Only S w w') (hs : ∀ b off, A = some ⟨b, off, none⟩ → 0 < n → b ∉ S) : Bytes w' A n bs :=
  ⟨h.1, fun hn => by
    obtain ⟨b, off, rfl, hc⟩ := h.2 hn
    have hlt : b < w.heap.size := block_lt_of_cell (hc 0 hn)
    exact ⟨b, off, rfl, fun j hj => (World.cell?_of_block (w := w) (a := ⟨b, off + j, none⟩) (ho.block b hlt (hs b off rfl hn))).trans (hc j hj)⟩⟩
theorem own_only {base size n : Nat} {e : TypeId} {v : Value} {xs : List Value} (h : w.ownsRow base e size v n xs) (ho : Only S w w') (hs : ∀ k, v.ownBlock = some k → k ∉ S) : w'.ownsRow base e size v n xs := by
  refine ⟨h.1, ?_⟩
  rcases h.2 with hn | ⟨g, cap, cur, rfl, hb, hgg, rest⟩
  · exact .inl hn
  · exact .inr ⟨g, cap, cur, rfl, hb, ho.at_ hgg (hs g rfl), rest⟩
end

/-! 's[k:]' of a byte slice -/
/-- Where the cut slice leads: at the capacity's end the old place is kept. -/
def cutA (A : Option Addr) (c k : Nat) : Option Addr := if c = k then A else A.map (·.add k)
theorem Bytes.cut {w : World} {A : Option Addr} {n : Nat} {bs : List UInt8} (h : Bytes w A n bs) {c k : Nat} (hk : k ≤ n) (hc : n ≤ c) : Bytes w (cutA A c k) (n - k) (bs.drop k) := by
  refine ⟨by rw [List.length_drop, h.1], fun hn => ?_⟩
  obtain ⟨b, off, rfl, hB⟩ := h.drop (k := k) (by omega)
  have e : cutA (some ⟨b, off, none⟩) c k = some ⟨b, off + k, none⟩ := by
    unfold cutA
    rw [if_neg (by omega)]
    simp [Addr.add]
  rw [e]
  exact hB.2 hn
theorem cutA_block {A : Option Addr} {c k : Nat} {a : Addr} (h : cutA A c k = some a) : ∃ a', A = some a' ∧ a'.block = a.block := by
  unfold cutA at h
  split at h
  · exact ⟨a, h, rfl⟩
  · rcases A with _ | a'
    · cases h
    · injection h with h
      exact ⟨a', rfl, by rw [← h]; unfold Addr.add; split <;> rfl⟩
theorem run_cut {P : Program} (w : World) (t e : TypeId) (ht : P.underlying t = some (.slice e)) (hz : (P.info? e).map (·.size) = some 1) (A : Option Addr) (n c k : Nat) (hk : k ≤ n) (ki : IntKind) :
    (Instr.slice t (.slice A n c) (some (.int ki (k : Nat))) none none).run P w = .ok (.slice (cutA A c k) (n - k) (c - k)) w := by
  have he : P.elem t = e := by simp [Program.elem, ht]
  have ht' : P.underlying t = some (.slice (P.elem t)) := by rw [he]; exact ht
  rw [run_slice_l w t A n c ht' ki k (by omega) (by omega), he]
  have hs : (sizeOf e).run P w = .ok 1 w := by
    cases hq : P.info? e with
    | none => simp [hq] at hz
    | some i => simp [hq] at hz; simp [sizeOf, typeInfo, hq, hz]
  rw [hs]
  simp [Result.andThen, sliced, cutA]
theorem run_cutAt {P : Program} (w : World) (t e : TypeId) (ht : P.underlying t = some (.slice e)) (hz : (P.info? e).map (·.size) = some 1) (A : Option Addr) (n c k : Nat) (hk : k ≤ n) (ki : IntKind) :
    (Instr.sliceAt t (.slice A n c) (some (.int ki (k : Nat))) none none).run P w = .ok (.slice (cutA A c k) (n - k) (c - k)) w := by
  have he : P.elem t = e := by simp [Program.elem, ht]
  rw [run_sliceAt_slice w t _ _ _ _ (by rw [he]; exact ht)]
  exact run_cut w t e ht hz A n c k hk ki
theorem wpList_cut {P : Program} {ops : Array Oper} {rest : List Oper} {o : Oper} {a : Act} {w : World} {Q : Exit → Act → World → Prop} (hgd : o.guard = none) (t e : TypeId) (x lo : Operand) (ho : o.op = .slice t x (some lo) none none)
    (ht : P.underlying t = some (.slice e)) (hz : (P.info? e).map (·.size) = some 1) (A : Option Addr) (n c k : Nat) (ki : IntKind) (hx : a.eval x = .slice A n c) (hl : a.eval lo = .int ki (k : Nat)) (hk : k ≤ n)
    (h : wpList P ops Q rest (a.put o.dst (.slice (cutA A c k) (n - k) (c - k))) w) : wpList P ops Q (o :: rest) a w :=
  wpList_plain hgd fun _ hK => by
    unfold Oper.wp execOp
    simp only [ho, hx, hl, Option.map_some, Option.map_none, Sem.run_bind, run_cutAt w t e ht hz A n c k hk ki, Result.andThen_ok, Sem.run_pure]
    exact hK _ _ h

/-! '[]byte(s)' -/
theorem bytesWorld_below (w : World) (e : TypeId) (s : ByteArray) : Below w.heap.size w (Lib.bytesWorld w e s) := by
  have h : (Lib.bytesWorld w e s).os = w.os ∧ (Lib.bytesWorld w e s).tape = w.tape ∧ (Lib.bytesWorld w e s).output = w.output := by
    unfold Lib.bytesWorld World.freeze
    split <;> exact ⟨rfl, rfl, rfl⟩
  exact ⟨h.1, h.2.1, h.2.2, by rw [Lib.bytesWorld_size]; omega, fun k hk => Lib.bytesWorld_at_old w e s k hk⟩
theorem bytesWorld_bytes (w : World) (e : TypeId) (t : List UInt8) : Bytes (Lib.bytesWorld w e (str t)) (some ⟨w.heap.size, 0, none⟩) t.length t :=
  ⟨rfl, fun _ => ⟨_, 0, rfl, fun j hj => by
    rw [Nat.zero_add, Lib.bytesWorld_cell w e (str t) j (by rw [str_size]; exact hj)]
    simp [str]⟩⟩

/-! A struct of two cells -/
def Two (w : World) (g : Nat) (T : TypeId) (x y : Value) : Prop := w.heap[g]? = some (.cells #[x, y] T (0, 0))
section
variable {w w' : World} {g : Nat} {T : TypeId} {x y : Value}
theorem Two.c0 (h : Two w g T x y) : w.cell? ⟨g, 0, none⟩ = some x := by rw [cell_of_row w g 0 _ T (0, 0) h]; rfl
theorem Two.c1 (h : Two w g T x y) : w.cell? ⟨g, 1, none⟩ = some y := by rw [cell_of_row w g 1 _ T (0, 0) h]; rfl
theorem Two.free (h : Two w g T x y) (j : Nat) : w.frozen? ⟨g, j, none⟩ = false := frozen_of_row w g j _ T h
theorem Two.lt (h : Two w g T x y) : g < w.heap.size := lt_of_heap h
theorem Two.set0 (h : Two w g T x y) (u : Value) : Two (w.setCell ⟨g, 0, none⟩ u) g T u y := heap_setCell_same w g 0 _ T u h
theorem Two.set1 (h : Two w g T x y) (u : Value) : Two (w.setCell ⟨g, 1, none⟩ u) g T x u := heap_setCell_same w g 1 _ T u h
theorem Two.far (h : Two w g T x y) {p : Addr} (hp : g ≠ p.block) (u : Value) : Two (w.setCell p u) g T x y := (Below.heap_setCell w p u g hp).trans h
theorem Two.alloc (h : Two w g T x y) (o : Obj) : Two (w.alloc o) g T x y := heap_at_old w o g h.lt h
theorem Two.drew (h : Two w g T x y) : Two w.drew g T x y := h
theorem Two.drewN (h : Two w g T x y) (n : Nat) : Two (w.drewN n) g T x y := h
theorem Two.only {S : List Nat} (h : Two w g T x y) (ho : Only S w w') (hn : g ∉ S) : Two w' g T x y := ho.at_ h hn
theorem Two.below (h : Two w g T x y) (ho : Below w.heap.size w w') : Two w' g T x y := (ho.block g h.lt).trans h
theorem Two.grown {row : Option Nat} (h : Two w g T x y) (ho : w.grownBy w' row) (hn : some g ≠ row) : Two w' g T x y := (ho.block g h.lt hn).trans h
theorem Two.same0 (h : Two w g T x y) : w.setCell ⟨g, 0, none⟩ x = w := by
  rw [setCell_eq_setRow w g 0 _ T (0, 0) x h]
  exact setRow_self w g _ T (0, 0) h
theorem Two.same1 (h : Two w g T x y) : w.setCell ⟨g, 1, none⟩ y = w := by
  rw [setCell_eq_setRow w g 1 _ T (0, 0) y h]
  exact setRow_self w g _ T (0, 0) h
/-- A byte slice does not lie in such a block, unless one of its cells is a byte. -/
theorem Two.apart {A : Option Addr} {n : Nat} {bs : List UInt8} (h : Two w g T x y) (hx : ∀ b, x ≠ .int .u8 b) (hy : ∀ b, y ≠ .int .u8 b) (hb : Bytes w A n bs) : ∀ b off, A = some ⟨b, off, none⟩ → 0 < n → b ≠ g := by
  rintro b off rfl hn rfl
  obtain ⟨b', off', hA, hc⟩ := hb.2 hn
  injection hA with hA
  injection hA with h1 h2
  subst h1 h2
  have h0 := hc 0 hn
  rw [Nat.add_zero, cell_of_row w b off _ T (0, 0) h] at h0
  match off, h0 with
  | 0, h0 => injection h0 with h0; exact hx _ h0
  | 1, h0 => injection h0 with h0; exact hy _ h0
  | k + 2, h0 => simp at h0
theorem Two.new (w : World) (T : TypeId) (x y : Value) : Two (w.alloc (.cells #[x, y] T)) w.heap.size T x y := heap_alloc_new w _
end
end Go.Proofs.Ythkjgkdglphfcaa
