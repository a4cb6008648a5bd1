/- Walks of the program's writer: Bytes, Num, Text, Done and Len. -/
import Derived.Test.YthkjgkdglphfcaaRows
import Derived.Test.YthkjgkdglphfcaaOnly
import Derived.Test.YthkjgkdglphfcaaCurMath
import Derived.Test.YthkjgkdglphfcaaCurReader
import Derived.Test.YthkjgkdglphfcaaCurReader
import Derived.WalkKit
import Derived.WalkSpells
import Derived.WalkLawsBesides
import Derived.Lib.Hide
import Derived.Deep.AppendLies
import Derived.Deep.RegionLaw
import Derived.Lib.ConvBytes
namespace Go.Proofs.Ythkjgkdglphfcaa
set_option linter.unusedVariables false
set_option linter.unusedSimpArgs false
open Go.RowKit



/-- A writer in block g: the error, and what was written, in a row of its own; S: the blocks that are its. -/
def WrAt (w : World) (base g : Nat) (S : List Nat) (s : Cur.St) : Prop :=
  ∃ v, Two w g 45 (.int .i64 (s.e : Nat)) v ∧ w.ownsRow base 5 1 v s.bs.length (u8s s.bs) ∧ base ≤ g ∧ S = g :: v.ownBlock.toList
/-- What a writing call leaves. -/
def Wrote (w : World) (base g : Nat) (S : List Nat) (s : Cur.St) (r : Ending) (w' : World) : Prop :=
  r = .returned (.tuple #[]) ∧ ∃ S', WrAt w' base g S' s ∧ Only S w w' ∧ ∀ k ∈ S', k ∈ S ∨ w.heap.size ≤ k
section
variable {w w' : World} {base g : Nat} {S : List Nat} {s : Cur.St}
theorem WrAt.all (h : WrAt w base g S s) : ∀ k ∈ S, base ≤ k ∧ k < w.heap.size := by
  obtain ⟨v, ht, ho, hb, rfl⟩ := h
  intro k hk
  simp only [List.mem_cons, Option.mem_toList] at hk
  rcases hk with rfl | hk
  · exact ⟨hb, ht.lt⟩
  · exact ho.lt k hk
theorem WrAt.mem (h : WrAt w base g S s) : g ∈ S := by obtain ⟨v, _, _, _, rfl⟩ := h; simp
theorem WrAt.only {S' : List Nat} (h : WrAt w base g S s) (ho : Only S' w w') (hd : ∀ k ∈ S, k ∉ S') : WrAt w' base g S s := by
  obtain ⟨v, ht, hv, hb, rfl⟩ := h
  exact ⟨v, ht.only ho (hd g (by simp)), own_only hv ho fun k hk => hd k (by simp [hk]), hb, rfl⟩
theorem WrAt.below (h : WrAt w base g S s) (ho : Below w.heap.size w w') : WrAt w' base g S s := h.only (only_below [] ho) (by simp)
theorem wrote_same (h : WrAt w base g S s) : Wrote w base g S s (.returned (.tuple #[])) w := ⟨rfl, S, h, Only.refl _ _, fun k hk => .inl hk⟩
/-- The error's cell is stored. -/
theorem WrAt.err (h : WrAt w base g S s) (e : Nat) : WrAt (w.setCell ⟨g, 0, none⟩ (.int .i64 (e : Nat))) base g S ⟨e, s.bs⟩ ∧ Only S w (w.setCell ⟨g, 0, none⟩ (.int .i64 (e : Nat))) := by
  obtain ⟨v, ht, hv, hb, rfl⟩ := h
  have ho : Only [g] w (w.setCell ⟨g, 0, none⟩ (.int .i64 (e : Nat))) := (Only.refl _ _).setCell (.inl (by simp)) _
  exact ⟨⟨v, ht.set0 _, own_only hv ho (fun k hk => by
    have := own_block_ne hv ht (by decide)
    simp only [List.mem_singleton]
    rintro rfl
    exact this hk.symm), hb, rfl⟩, ho.mono (by simp)⟩
/-- A grown row is stored into the field. -/
theorem stored_row {w1 : World} {v v' : Value} {ys : List UInt8} {T : TypeId} {x : Value} (ht : Two w g T x v) (hT : 5 ≠ T) (hv : w.ownsRow base 5 1 v s.bs.length (u8s s.bs)) (hb : base ≤ g)
    (hg : w.grownBy w1 v.ownBlock) (ha : v'.ownBlock = v.ownBlock ∨ v'.ownBlock = some w.heap.size) (hown : w1.ownsRow base 5 1 v' (s.bs.length + ys.length) (u8s (s.bs ++ ys))) (n : Nat) (hn : n = 0 ∨ n = 1) :
    (w1.setCell ⟨g, n, none⟩ v').ownsRow base 5 1 v' (s.bs ++ ys).length (u8s (s.bs ++ ys)) ∧ Only (g :: v.ownBlock.toList) w (w1.setCell ⟨g, n, none⟩ v') ∧
      (∀ k ∈ g :: v'.ownBlock.toList, k ∈ g :: v.ownBlock.toList ∨ w.heap.size ≤ k) ∧ Two w1 g T x v := by
  have hne := own_block_ne hv ht hT
  have ht1 := ht.grown hg hne
  have hne1 := own_block_ne hown ht1 hT
  have ho1 : Only [g] w1 (w1.setCell ⟨g, n, none⟩ v') := (Only.refl _ _).setCell (.inl (by simp)) _
  refine ⟨?_, ?_, ?_, ht1⟩
  · rw [List.length_append]
    exact own_only hown ho1 fun k hk => by
      simp only [List.mem_singleton]
      rintro rfl
      exact hne1 hk.symm
  · exact ((Only.refl _ _).grown hg fun k hk => .inl (by simp [hk])).setCell (.inl (by simp)) _
  · intro k hk
    simp only [List.mem_cons, Option.mem_toList] at hk
    rcases hk with rfl | hk
    · exact .inl (by simp)
    · rcases ha with ha | ha
      · exact .inl (by rw [ha] at hk; simp [hk])
      · rw [ha] at hk
        injection hk with hk
        exact .inr (by omega)
end

set_option maxHeartbeats 400000 in
theorem wbytes_any (base g : Nat) (S : List Nat) (s : Cur.St) (A : Option Addr) (n c : Nat) (ys : List UInt8) (w : World) (h : WrAt w base g S s) (hy : Bytes w A n ys) (hn : s.bs.length + n ≤ 140737488355328) :
    Calls Try.prog 36 #[.pointer (some ⟨g, 0, none⟩), .slice A n c] w (Wrote w base g S (Cur.wBytes s ys)) := by
  obtain ⟨e, bs⟩ := s
  obtain ⟨v, ht, hv, hb, rfl⟩ := id h
  simp only at ht hv hn
  have h0 := ht.c0
  have h1 := ht.c1
  by_cases he : e = 0
  · subst he
    obtain ⟨i0, hi, hz0, hz1, hz2⟩ := info_parts u8_info
    obtain rfl := hy.1
    have hlt := ht.lt
    have HI := Lib.hid hi
    have HY := Lib.hid hy
    have HV := Lib.hid hv
    have HT := Lib.hid ht
    clear hi hy hv ht h
    obtain ⟨A1, c1, hvv, _⟩ := own_form HV.out
    subst hvv
    go_enter Try.func36, Try.ntmps36
    go_wp2_with (at_builtin; refine wpList_append_bytes _ rfl (.tmp 14) (.tmp 15) _ rfl base 5 i0 _ 1 Try.underlying25 HI.out hz0 hz1 hz2 rfl (.slice A1 bs.length c1) bs.length bs rfl HV.out A ys.length c ys rfl HY.out (by simp only [maxLen]; omega) (by omega) (by omega) ?_; intro v2 w1 hown hgrow hat; obtain ⟨A2, c2, rfl, _⟩ := own_form hown; have ht1 := HT.out.grown hgrow (own_block_ne HV.out HT.out (by decide)); have k1 := ht1.c1; have kf := ht1.free 1; have HT1 := Lib.hid ht1; clear ht1)
    go_end0
    obtain ⟨r1, r2, r3, r4⟩ := stored_row (s := ⟨0, bs⟩) HT.out (by decide) HV.out hb hgrow hat hown 1 (.inr rfl)
    refine ⟨rfl, _, ⟨_, HT1.out.set1 _, ?_, hb, rfl⟩, r2, r3⟩
    show World.ownsRow _ _ _ _ _ (Cur.wBytes ⟨0, bs⟩ ys).bs.length (u8s (Cur.wBytes ⟨0, bs⟩ ys).bs)
    have hw : Cur.wBytes ⟨0, bs⟩ ys = ⟨0, bs ++ ys⟩ := rfl
    rw [hw]
    exact r1
  · have hne : (((e : Nat) : Int) == 0) = false := by simp; omega
    have hw : Cur.wBytes ⟨e, bs⟩ ys = ⟨e, bs⟩ := by simp [Cur.wBytes, he]
    have HW := Lib.hid hw
    have HH := Lib.hid h
    clear hw h hv ht hy
    go_enter Try.func36, Try.ntmps36
    go_wp2_with fail
    go_end0
    rw [HW.out]
    exact wrote_same HH.out
end Go.Proofs.Ythkjgkdglphfcaa
