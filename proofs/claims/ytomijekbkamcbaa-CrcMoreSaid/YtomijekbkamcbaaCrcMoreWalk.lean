/- The walk of the law CrcMore. -/
import Derived.Test.YtomijekbkamcbaaRows
import Derived.Test.YtomijekbkamcbaaCrcShown
import Derived.Test.YtomijekbkamcbaaCrcSumsWalk
import Derived.WalkKit
import Derived.WalkSpells
import Derived.WalkLawsBesides
import Derived.Lib.Hide
import Derived.Lib.SmallJoins
import Derived.Deep.QuietTactic
import Derived.BigQuiet
import Derived.Lib.QuietBelow
import Derived.ChangeKeysEq
import Derived.OpenShut
import Derived.Deep.Slices
import Derived.Test.YtomijekbkamcbaaCrcOf
namespace Go.Proofs.Ytomijekbkamcbaa
set_option linter.unusedVariables false
set_option linter.unusedSimpArgs false
open Go.RowKit



open Go.Sort
/-- A table by value: 256 numbers. -/
structure IsTab (cs : Array Value) (t : Nat → Nat) : Prop where
  size : cs.size = 256
  at_ : ∀ i, i < 256 → cs[i]? = some (.int .u32 (t i : Nat))
  lt : ∀ i, i < 256 → t i < 4294967296

theorem IsTab.one {cs : Array Value} {t : Nat → Nat} (h : IsTab cs t) : cs.all (·.oneCell') = true := by
  rw [Array.all_eq_true]
  intro i hi
  have := h.at_ i (by rw [← h.size]; exact hi)
  rw [Array.getElem?_eq_getElem hi] at this
  injection this with this
  rw [this]; rfl

theorem eqItems_same {P : Program} (w : World) (d : Nat) {e : TypeId} {k : IntKind} (he : P.underlying e = some (.int k)) (hp : P.plainKey e = true) (xs : Array Value) : ∀ is : List Nat, (∀ i ∈ is, ∃ n : Int, xs[i]? = some (.int k n)) →
    (Op.eqItems (d + 1) e 1 xs xs is).run P w = .ok true w
  | [], _ => by simp [Op.eqItems]
  | i :: is, h => by
    obtain ⟨n, hn⟩ := h i (by simp)
    have h1 := run_part_plain (P := P) w hp (xs := xs) (off := i * 1) (by rw [Nat.mul_one]; exact hn)
    simp only [Op.eqItems, Sem.run_bind, h1, Result.andThen_ok, run_equalIn_int w d e k k n n he]
    simp [eqItems_same w d he hp xs is (fun j hj => h j (by simp [hj]))]

theorem eql_tab {cs : Array Value} {t : Nat → Nat} (h : IsTab cs t) (w : World) : (binOp .eql 25 (.agg cs) (.agg cs)).run Try.prog w = .ok (.bool true) w := by
  rw [run_eql_struct w]
  rcases hi : Try.prog.info? 23 with _ | i
  · have : (Try.prog.info? 23).isSome = true := by kernel_rfl
    rw [hi] at this; cases this
  · rw [run_equalIn_array (P := Try.prog) w 9999 cs cs Try.underlying25 hi, show Try.prog.cellsOf 23 = 1 by kernel_rfl]
    rw [eqItems_same w 9998 Try.underlying23 (by kernel_rfl) cs _ (fun i hi => ⟨_, h.at_ i (by simpa using hi)⟩)]
    rfl

theorem tabInfo (T : TypeId) (hT : (Try.prog.info? T).map (·.size) = some 256) {cs : Array Value} {t : Nat → Nat} (h : IsTab cs t) : (Try.prog.info? T).map (·.size) = some cs.size := by rw [hT, h.size]

theorem load_tab (T : TypeId) (n : Nat) (e : TypeId) (hu : Try.prog.underlying T = some (.array n e)) (hT : (Try.prog.info? T).map (·.size) = some 256) {cs : Array Value} {t : Nat → Nat} (h : IsTab cs t) (w : World) (g : Nat) (tt : TypeId) (fr : Nat × Nat) (hg : w.heap[g]? = some (.cells cs tt fr)) :
    (Instr.loadAt T (.pointer (some ⟨g, 0, none⟩))).run Try.prog w = .ok (.agg cs) w := by
  simp only [Instr.loadAt, Instr.sureAddr, Sem.run_bind, Sem.run_pure, Result.andThen]
  exact run_loadVar_row w g tt T cs fr _ hg hu rfl (tabInfo T hT h)

theorem okWide_array {P : Program} {w : World} {r : Reach} {b0 n : Nat} {t e : TypeId} {v : Value} (ht : P.underlying t = some (.array n e)) (h : Value.okWide P w r b0 t v) : ∃ cs, v = .agg cs ∧ cs.size = P.cellsOf t := by
  simp only [Value.okWide, ht] at h
  obtain ⟨cs, h1, h2, _⟩ := h
  exact ⟨cs, h1, h2⟩
theorem tab_in {H : Type} {enc : TypeId × Value → H} {w : World} {base : Nat} {sp : Nat → Bool} {held : Bool} {cs : Array Value} {d : DataW H} {p : List MemPlace} (h : DataW.Trod enc Try.prog w base sp held 24 (.agg cs) d p) : ∃ t, IsTab cs t := by
  obtain ⟨fuel, hf⟩ := h
  obtain ⟨xs, m, _, _, hl, hx, hi⟩ := DataW.trod_array Try.underlying24 hf
  rw [show Try.prog.cellsOf 24 = 256 by kernel_rfl] at hl
  rw [show Try.prog.cellsOf 23 = 1 by kernel_rfl] at hi
  have hsz : cs.size = 256 := by simpa [Value.cells] using hl
  have each : ∀ i, i < 256 → ∃ k : Nat, cs[i]? = some (.int .u32 (k : Int)) ∧ k < 4294967296 := fun i hi' => by
    have h1 := hi i hi'
    rw [List.getElem?_eq_getElem (by omega)] at h1
    obtain ⟨n, hn, _, hw⟩ := DataW.trod_int Try.underlying23 h1
    have hn2 : 0 ≤ n ∧ n ≤ 4294967295 := by simpa [Lit.wf, IntKind.min, IntKind.max, IntKind.bits, IntKind.signed] using hw
    refine ⟨n.toNat, ?_, by omega⟩
    have h2 : cs.toList[i]? = some (.int .u32 n) := by
      have := congrArg (fun l => l[0]?) hn
      simpa [Value.cells] using this
    rw [show ((n.toNat : Nat) : Int) = n by omega]
    simpa using h2
  obtain ⟨t, ht⟩ := Deep.choose_lt each
  exact ⟨t, hsz, fun i hi => (ht i hi).1, fun i hi => (ht i hi).2⟩
theorem u32_of {x : Int} (h : (Lit.int .u32 x).wf = true) : ∃ y : Nat, x = (y : Int) ∧ y < 4294967296 := by
  have h2 : 0 ≤ x ∧ x ≤ 4294967295 := by simpa [Lit.wf, IntKind.min, IntKind.max, IntKind.bits, IntKind.signed] using h
  exact ⟨x.toNat, by omega, by omega⟩

/-- In a region that draws and only reads: a whole array out of a block. -/
theorem wpQuiet_load_row {P : Program} {ops : Array Oper} {C : World → Prop} {Q : Act → Prop} {a : Act} {o : Oper} {rest : List Oper} (hw : Region.wanted o (yielded ops a.tmps) = true)
    (ty : TypeId) (x : Operand) (ho : o.op = .load ty x) (g : Nat) (hx : a.eval x = .pointer (some ⟨g, 0, none⟩)) (cs : Array Value)
    (hl : ∀ w, C w → (Instr.loadAt ty (.pointer (some ⟨g, 0, none⟩))).run P w = .ok (.agg cs) w) (h : wpQuiet P ops C Q rest (a.put o.dst (.agg cs))) : wpQuiet P ops C Q (o :: rest) a :=
  BigFrame.wpQuiet_want hw fun K hK => ⟨.agg cs, fun w hC => by
    unfold Oper.quietAt execOp
    simp only [ho, hx, Sem.run_bind, hl w hC, Result.andThen_ok, Sem.run_pure]
    exact ⟨rfl, rfl⟩, hK _ h⟩

set_option maxRecDepth 100000 in
set_option maxHeartbeats 1000000 in
theorem crcMore_walk (cs : Array Value) (t : Nat → Nat) (s : Nat) (A : Option Addr) (n c : Nat) (bs : List UInt8) (w : World) (hc : IsTab cs t) (hs : s < 4294967296) (h : Bytes w A n bs ∧ n ≤ c ∧ c ≤ maxLen) :
    Calls Try.prog 5 #[.agg cs, .int .u32 s, .slice A n c] w fun e w' => e = .returned (.bool true) ∧ Below w.heap.size w w' := by
  obtain ⟨hb, hnc, hcm⟩ := h
  have hcm : c ≤ 9223372036854775807 := by simpa [maxLen] using hcm
  have hz := (zero_of_info tab_zero).1
  have i24 : (Try.prog.info? 24).map (·.size) = some 256 := by kernel_rfl
  have i25 : (Try.prog.info? 25).map (·.size) = some 256 := by kernel_rfl
  have J4 := Lib.hid (tabInfo _ i24 hc)
  have J5 := Lib.hid (tabInfo _ i25 hc)
  have HC := Lib.hid hc
  obtain ⟨m, hmin⟩ : ∃ m, m = min n 600 := ⟨_, rfl⟩
  have hm : m ≤ n := by omega
  have hm9 : m ≤ 9223372036854775807 := by omega
  have hb6 := hb.take hm
  have HM := Lib.hid hmin
  have HB := Lib.hid hb6
  have I4 := Lib.hid i24
  have I5 := Lib.hid i25
  clear hmin hb hb6 hc i24 i25
  generalize bs.take m = ds at *
  go_enter Try.func5, Try.ntmps5
  go_wp2_with fail
  refine (shown_any _).mono ?_
  rintro e w1 ⟨rfl, hb1⟩
  have hb0 : Below w.heap.size w w1 := ((below_all (w := w)).alloc (Nat.le_refl _) _).trans (hb1.mono (by simp))
  have hg0 := below_heap hb1 (by simp) (heap_alloc_new w (.cells cs 24))
  have hlt0 : w.heap.size < w1.heap.size := by have := hb1.size; simp at this; omega
  have HG0 := Lib.hid hg0
  clear hg0 hb1
  go_wp2_with fail
  refine (few_named A n c m w1 HM.out (by omega) hnc).mono ?_
  rintro e w' ⟨rfl, rfl⟩
  go_wp2_with (first
    | (refine wpList_load_row rfl 24 _ rfl w.heap.size rfl 24 cs (0, 0) _ HG0.out Try.underlying24 rfl J4.out ?_)
    | (refine wpList_store_whole rfl 25 _ _ rfl w1.heap.size cs rfl rfl 25 (tabTo 0) (heap_alloc_new w1 _) J5.out (by rw [tabTo_size, HC.out.size]) HC.out.one _ (setRow_last w1 _ _ _) ?_))
  have hW : Below w.heap.size w (w1.alloc (.cells cs 25)) := hb0.alloc hb0.size _
  have h8 := heap_alloc_new w1 (.cells cs 25)
  have h3 := heap_at_old w1 (.cells cs 25) w.heap.size hlt0 HG0.out
  have hB := HB.out.below hW
  generalize w1.alloc (.cells cs 25) = W at *
  have ft : ∀ (d : Nat) (os : Array Obj), TabAt (grow (redrawn W d) os) w1.heap.size t := fun d os i hi => by
    have h := (below_regrown W d os).block w1.heap.size (lt_of_heap h8)
    rw [cell_of_row _ _ i cs 25 (0, 0) (h.trans h8)]
    exact HC.out.at_ i hi
  have fb : ∀ (d : Nat) (os : Array Obj), Bytes (grow (redrawn W d) os) A m ds := fun d os => hB.below (below_regrown W d os)
  have F1 := Lib.hid fun (d : Nat) (os : Array Obj) => Calls.regrown_of ((more_any w1.heap.size t s A m c ds (grow (redrawn W d) os) (ft d os) HC.out.lt hs (fb d os) hm9).mono fun e w' h => ⟨h.1, by rw [← h.2]; exact Below.refl _ _⟩)
  have F2 := Lib.hid fun (d : Nat) (os : Array Obj) => Calls.regrown_of ((refOf_any cs t s A m c ds (grow (redrawn W d) os) HC.out.size HC.out.at_ HC.out.lt hs (fb d os) hm9).mono fun e w' h => ⟨h.1, by rw [← h.2]; exact below_all.alloc (Nat.le_refl _) _⟩)
  have L4 := fun (d : Nat) (os : Array Obj) => load_tab 24 _ _ Try.underlying24 I4.out HC.out (grow (redrawn W d) os) w.heap.size _ _ (((below_regrown W d os).block w.heap.size (lt_of_heap h3)).trans h3)
  have L5 := fun (d : Nat) (os : Array Obj) => load_tab 25 _ _ Try.underlying25 I5.out HC.out (grow (redrawn W d) os) w1.heap.size _ _ (((below_regrown W d os).block w1.heap.size (lt_of_heap h8)).trans h8)
  have hE := fun w => eql_tab HC.out w
  have hEG : Try.prog.eqGuardType Try.prog.depth 25 = false := by kernel_rfl
  clear ft fb h8 h3 hB
  generalize Crc.more t s ds = r at *
  refine wp_region_quiet_below (by kernel_rfl) (by kernel_rfl) ?_
  repeat (first
    | (refine wpQuiet_load_row rfl 24 _ rfl w.heap.size rfl cs (fun w' hw' => by obtain ⟨p, rfl⟩ := hw'; exact L4 _ _) ?_)
    | (refine wpQuiet_load_row rfl 25 _ rfl w1.heap.size rfl cs (fun w' hw' => by obtain ⟨p, rfl⟩ := hw'; exact L5 _ _) ?_)
    | quiet_step ((first | (go_at_call 15; exact F1.out _ _) | (go_at_call 16; exact F2.out _ _))))
  refine wpQuiet_nil ?_
  intro w' hw'
  obtain ⟨p, rfl⟩ := hw'
  go_wp2_with fail
  go_ret
  exact ⟨rfl, hW.trans ((below_regrown W p.d p.os).mono hW.size)⟩

theorem crcMore_any (cs : Array Value) (t : Nat → Nat) (x : Int) (A : Option Addr) (n c : Nat) (bs : List UInt8) (w : World) (hc : IsTab cs t) (hs : (Lit.int .u32 x).wf = true) (h : Bytes w A n bs ∧ n ≤ c ∧ c ≤ maxLen) :
    Calls Try.prog 5 #[.agg cs, .int .u32 x, .slice A n c] w fun e w' => e = .returned (.bool true) ∧ Below w.heap.size w w' := by
  obtain ⟨s, rfl, hlt⟩ := u32_of hs
  exact crcMore_walk cs t s A n c bs w hc hlt h
end Go.Proofs.Ytomijekbkamcbaa
