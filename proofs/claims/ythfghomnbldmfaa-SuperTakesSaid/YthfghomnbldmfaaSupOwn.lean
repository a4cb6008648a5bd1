/- Walks: what Done and Clone give is a row of its own. -/
import Derived.Test.YthfghomnbldmfaaRows
import Derived.Test.YthfghomnbldmfaaSupEnc
import Derived.Test.YthfghomnbldmfaaCurWText
import Derived.Test.YthfghomnbldmfaaCurRWText
import Derived.Lib.SmallJoins
namespace Go.Proofs.Ythfghomnbldmfaa
set_option linter.unusedVariables false
set_option linter.unusedSimpArgs false
open Go.RowKit

/-- A slice in a row of its own, in new memory (or nil). -/
def Owned (w : World) (bs : List UInt8) (r : Ending) (w' : World) : Prop :=
  ∃ A c, r = .returned (.slice A bs.length c) ∧ w'.ownsRow w.heap.size 5 1 (.slice A bs.length c) bs.length (u8s bs) ∧ Below w.heap.size w w'
set_option maxHeartbeats 400000 in
theorem clone_own (A : Option Addr) (c : Nat) (bs : List UInt8) (w : World) (hb : Bytes w A bs.length bs) (hn : bs.length ≤ 140737488355328) :
    Calls Try.prog 41 #[.slice A bs.length c] w (Owned w bs) := by
  have hnil := fun (a : Option Addr) (l c : Nat) (W : World) => Lib.run_eql_slice_nil (P := Try.prog) W 29 5 a l c 0 0 Try.underlying29
  obtain ⟨i0, hi, hz0, hz1, hz2⟩ := info_parts u8_info
  have HI := Lib.hid hi
  have HB := Lib.hid hb
  clear hi hb
  rcases A with _ | a
  · have hb0 : bs = [] := by
      rcases Nat.eq_zero_or_pos bs.length with h0 | h0
      · exact List.eq_nil_of_length_eq_zero h0
      · obtain ⟨_, _, hA, _⟩ := HB.out.2 h0; cases hA
    subst hb0
    go_enter Try.func41, Try.ntmps41
    go_wp2_with fail
    go_ret
    exact ⟨none, 0, rfl, World.ownsRow_nil _ _ _ _, Below.refl _ _⟩
  · have hown0 := owns_empty w 5 (Nat.le_refl _)
    go_enter Try.func41, Try.ntmps41
    go_wp2_with (at_builtin; refine wpList_append_bytes _ rfl (.tmp 5) (.tmp 6) _ rfl w.heap.size 5 i0 _ 1 Try.underlying29 HI.out hz0 hz1 hz2 rfl (.slice (some ⟨w.heap.size, 0, none⟩) 0 0) 0 [] rfl hown0 (some a) bs.length c bs rfl (HB.out.alloc _) (by simp only [maxLen]; omega) (by omega) (by simp) ?_; intro v2 w2 hown hgrow _)
    go_ret
    have hb2 := below_append (below_all.alloc (Nat.le_refl _) _) hgrow hown0 (Nat.le_refl _) (by simp)
    simp only [Nat.zero_add, List.nil_append] at hown
    obtain ⟨A2, c2, rfl, h1, h2, h3, h4⟩ := own_form hown
    exact ⟨A2, c2, rfl, hown, hb2⟩
theorem done_own (base g : Nat) (S : List Nat) (bs : List UInt8) (w : World) (h : WrAt w base g S ⟨0, bs⟩) (hn : bs.length ≤ 140737488355328) :
    Calls Try.prog 21 #[.pointer (some ⟨g, 0, none⟩)] w (Owned w bs) := by
  obtain ⟨v, ht, hv, hb, rfl⟩ := h
  simp only at ht hv hn
  obtain ⟨A, c, rfl, hby, hnc, hc, _⟩ := own_form hv
  have h0 := ht.c0
  have h1 := ht.c1
  have HC := Lib.hid (clone_own A c bs w hby hn)
  clear ht hv hby
  go_enter Try.func21, Try.ntmps21
  go_wp2_with fail
  refine HC.out.mono ?_
  rintro r w1 ⟨A1, c1, rfl, hown, hbel⟩
  have HO := Lib.hid hown
  clear hown
  go_wp2_with fail
  go_ret
  exact ⟨A1, c1, rfl, HO.out, hbel⟩
set_option maxHeartbeats 400000 in
theorem rdone_own (base g : Nat) (S : List Nat) (bs : List UInt8) (w : World) (h : RwAt w base g S ⟨0, bs⟩) (hn : bs.length ≤ 140737488355328) :
    Calls Try.prog 27 #[.pointer (some ⟨g, 0, none⟩)] w (Owned w bs) := by
  obtain ⟨v, ht, hv, hb, rfl⟩ := h
  simp only at ht hv hn
  obtain ⟨A, c, rfl, hby, hnc, hc, _⟩ := own_form hv
  have h0 := ht.c1
  have h1 := ht.c0
  have h1a := fun o => (ht.alloc o).c0
  have HB := Lib.hid hby
  obtain ⟨i0, hi, hz0, hz1, hz2⟩ := info_parts u8_info
  have HI := Lib.hid hi
  have hown0 := owns_empty w 5 (Nat.le_refl _)
  clear ht hv hby hi
  go_enter Try.func27, Try.ntmps27
  go_wp2_with (at_builtin; refine wpList_append_bytes _ rfl (.tmp 8) (.tmp 12) _ rfl w.heap.size 5 i0 _ 1 Try.underlying29 HI.out hz0 hz1 hz2 rfl (.slice (some ⟨w.heap.size, 0, none⟩) 0 0) 0 [] rfl hown0 A bs.length c bs rfl (HB.out.alloc _) (by simp only [maxLen]; omega) (by omega) (by simp) ?_; intro v2 w2 hown hgrow _)
  go_ret
  have hb2 := below_append (below_all.alloc (Nat.le_refl _) _) hgrow hown0 (Nat.le_refl _) (by simp)
  simp only [Nat.zero_add, List.nil_append] at hown
  obtain ⟨A2, c2, rfl, g1, g2, g3, g4⟩ := own_form hown
  exact ⟨A2, c2, rfl, hown, hb2⟩
end Go.Proofs.Ythfghomnbldmfaa
