/- Walks of chapter 6's Valid: the program's (runes) and the document's (bytes). -/
import Derived.Test.YthkjgkdglphfcaaRows
import Derived.Test.YthkjgkdglphfcaaOnly
import Derived.WalkKit
import Derived.WalkSpells
import Derived.WalkLawsBesides
import Derived.Lib.Hide
import Derived.IntWalk
import Derived.Deep.DeepCutAuto
namespace Go.Proofs.Ythkjgkdglphfcaa
set_option linter.unusedVariables false
set_option linter.unusedSimpArgs false
open Go.RowKit

/-- What is wrong with a name. -/
def validN (s : List UInt8) : Nat := if 255 < s.length then 23 else if s = [] ∨ s = [46] ∨ s = [46, 46] ∨ 0 ∈ s ∨ 47 ∈ s then 22 else 0
theorem at_get (s : ByteArray) (j : Nat) (h : j < s.size) : s.get! j = s[j]'h := by
  simp [ByteArray.get!, getElem!_pos, h]
  rfl
/-- A rune of more than one byte: each of its bytes is great. -/
theorem decode_far (s : ByteArray) (pos : Nat) (h : pos < s.size) (ha : 128 ≤ (s[pos]'h).toNat) :
    ∀ j, j < (Utf8.decode s pos).2 → pos + j < s.size ∧ 128 ≤ (s.get! (pos + j)).toNat := by
  have h0 : 128 ≤ (s.get! (pos + 0)).toNat := by rw [Nat.add_zero, at_get s pos h]; exact ha
  have hn : ¬ (s.get! (pos + 0)).toNat < 128 := by omega
  intro j hj
  simp only [Utf8.decode, hn, if_false] at hj
  by_cases hj0 : j = 0
  · subst hj0; exact ⟨h, h0⟩
  · have key : ∀ k, (decide (pos + k < s.size) && (s.get! (pos + k)).toNat / 64 == 2) = true → pos + k < s.size ∧ 128 ≤ (s.get! (pos + k)).toNat := fun k hk => by
      simp only [Bool.and_eq_true, decide_eq_true_eq, beq_iff_eq] at hk
      exact ⟨hk.1, by omega⟩
    repeat' split at hj
    all_goals simp only [Bool.and_eq_true] at *
    all_goals
      have h4 : j < 4 := by omega
      rcases (show j = 1 ∨ j = 2 ∨ j = 3 by omega) with rfl | rfl | rfl
      all_goals first
        | (exfalso; omega)
        | exact key 1 (by simp_all)
        | exact key 2 (by simp_all)
        | exact key 3 (by simp_all)
theorem str_get (s : List UInt8) (j : Nat) (h : j < s.length) : (str s).get! j = s[j] := by
  rw [at_get (str s) j (by rw [str_size]; exact h)]
  simp [str, ByteArray.getElem_eq_getElem_data]
/-- What the loop has seen: no zero, no slash. -/
def clean (s : List UInt8) (k : Nat) : Prop := ∀ j (h : j < s.length), j < k → s[j] ≠ 0 ∧ s[j] ≠ 47
theorem clean_all {s : List UInt8} {k : Nat} (h : clean s k) (hk : s.length ≤ k) : 0 ∉ s ∧ 47 ∉ s := by
  constructor
  · intro hm
    obtain ⟨j, hj, he⟩ := List.getElem_of_mem hm
    exact (h j hj (by omega)).1 he
  · intro hm
    obtain ⟨j, hj, he⟩ := List.getElem_of_mem hm
    exact (h j hj (by omega)).2 he
theorem validN_bad {s : List UInt8} {j : Nat} (hl : s.length ≤ 255) (hj : j < s.length) (h : s[j] = 0 ∨ s[j] = 47) : validN s = 22 := by
  unfold validN
  rw [if_neg (by omega), if_pos]
  rcases h with h | h
  · exact .inr (.inr (.inr (.inl (h ▸ List.getElem_mem hj))))
  · exact .inr (.inr (.inr (.inr (h ▸ List.getElem_mem hj))))
theorem validN_ok {s : List UInt8} {k : Nat} (hl : s.length ≤ 255) (h1 : s ≠ []) (h2 : s ≠ [46]) (h3 : s ≠ [46, 46]) (h : clean s k) (hk : s.length ≤ k) : validN s = 0 := by
  obtain ⟨h4, h5⟩ := clean_all h hk
  unfold validN
  rw [if_neg (by omega), if_neg]
  rintro (h | h | h | h | h)
  · exact h1 h
  · exact h2 h
  · exact h3 h
  · exact h4 h
  · exact h5 h
set_option maxHeartbeats 800000 in
theorem valid_any (s : List UInt8) (w : World) : Calls Try.prog 34 #[.string (str s)] w fun r w' => r = .returned (.int .i64 (validN s : Nat)) ∧ Below w.heap.size w w' := by
  have hsz := str_size s
  by_cases hl : 255 < s.length
  · have HV := Lib.hid (show validN s = 23 from by unfold validN; rw [if_pos hl])
    have hl2 : (255 : Int) < (s.length : Int) := by omega
    go_enter Try.func34, Try.ntmps34
    go_wp2_with fail
    go_ret
    exact ⟨by rw [HV.out]; rfl, below_all⟩
  · have hle : s.length ≤ 255 := by omega
    have HLE := Lib.hid hle
    have htl := str_toList s
    have HTL := Lib.hid htl
    clear hl htl
    by_cases h1 : s = []
    · subst h1
      have HV := Lib.hid (show validN [] = 22 from rfl)
      have e1 : (str []).toList = [] := str_toList _
      go_enter Try.func34, Try.ntmps34
      go_wp2_with fail
      go_ret
      exact ⟨by rw [HV.out]; rfl, below_all⟩
    by_cases h2 : s = [46]
    · subst h2
      have HV := Lib.hid (show validN [46] = 22 from rfl)
      have e1 : (str [46]).toList = [46] := str_toList _
      go_enter Try.func34, Try.ntmps34
      go_wp2_with fail
      go_ret
      exact ⟨by rw [HV.out]; rfl, below_all⟩
    by_cases h3 : s = [46, 46]
    · subst h3
      have HV := Lib.hid (show validN [46, 46] = 22 from rfl)
      have e1 : (str [46, 46]).toList = [46, 46] := str_toList _
      go_enter Try.func34, Try.ntmps34
      go_wp2_with fail
      go_ret
      exact ⟨by rw [HV.out]; rfl, below_all⟩
    have n1 : (str s).toList.isEmpty = false := by rw [HTL.out]; cases s with
      | nil => exact absurd rfl h1
      | cons a l => rfl
    have n2 : ((str s).toList == [46]) = false := by rw [HTL.out, beq_eq_false_iff_ne]; exact h2
    have n3 : ((str s).toList == [46, 46]) = false := by rw [HTL.out, beq_eq_false_iff_ne]; exact h3
    have H1 := Lib.hid h1
    have H2 := Lib.hid h2
    have H3 := Lib.hid h3
    clear h1 h2 h3
    go_enter Try.func34, Try.ntmps34
    go_wp2_with fail
    clear n1 n2 n3
    go_loopw [] (fun wr => ∃ pos, wr = w.iter (str s) pos ∧ clean s pos) (fun wr => (str s).size - wr.iterPos w.heap.size)
    case atStart => exact ⟨0, rfl, fun j h h0 => by omega⟩
    case round =>
      obtain ⟨pos, rfl, hcl⟩ := hrel
      have HC := Lib.hid hcl
      clear hcl
      by_cases hp : pos < s.length
      · have hps : pos < (str s).size := by rw [hsz]; exact hp
        have hnx : ∀ ty, (Instr.next (.pointer (some ⟨w.heap.size, 0, none⟩)) true ty).run Try.prog (w.iter (str s) pos) = _ := fun ty => run_next_any w (str s) pos ty hps
        have hget : (str s)[pos]'hps = s[pos] := (at_get (str s) pos hps).symm.trans (str_get s pos hp)
        by_cases hlow : s[pos].toNat < 128
        · have hdec := decode_ascii (str s) pos hps (by rw [hget]; exact hlow)
          rw [hget] at hdec
          have HD := Lib.hid hdec
          simp only [hdec] at hnx
          clear hdec
          by_cases hz : s[pos] = 0 ∨ s[pos] = 47
          · have HV := Lib.hid (validN_bad HLE.out hp hz)
            rcases hz with hz | hz
            · rw [hz] at hnx
              clear hz hlow hget HD hp hps
              go_wp2_with fail
              go_ret
              exact ⟨by rw [HV.out]; rfl, below_all.alloc (Nat.le_refl _) _⟩
            · rw [hz] at hnx
              clear hz hlow hget HD hp hps
              go_wp2_with fail
              go_ret
              exact ⟨by rw [HV.out]; rfl, below_all.alloc (Nat.le_refl _) _⟩
          · have z1 : (((s[pos].toNat : Nat) : Int) == 0) = false := by
              rw [beq_eq_false_iff_ne]
              exact fun e => hz (.inl (UInt8.toNat_inj.1 (by simpa using e)))
            have z2 : (((s[pos].toNat : Nat) : Int) == 47) = false := by
              rw [beq_eq_false_iff_ne]
              exact fun e => hz (.inr (UInt8.toNat_inj.1 (by have : s[pos].toNat = 47 := by omega
                                                             simpa using this)))
            have HN : Hid (clean s (pos + 1)) := fun j h hj => by
              rcases Nat.lt_or_ge j pos with h2 | h2
              · exact HC.out j h h2
              · obtain rfl : j = pos := by omega
                exact ⟨fun e => hz (.inl e), fun e => hz (.inr e)⟩
            clear hlow hget HD hz
            generalize s[pos] = c at *
            go_wp2_with fail
            exact ⟨⟨pos + 1, rfl, HN.out⟩, by simp; omega⟩
        · have hhi : 128 ≤ ((str s)[pos]'hps).toNat := by rw [hget]; omega
          obtain ⟨d1, d2⟩ := decode_high (str s) pos hps hhi
          have HF := Lib.hid (decode_far (str s) pos hps hhi)
          obtain ⟨rn, hrn⟩ : ∃ rn, (Utf8.decode (str s) pos).1 = rn := ⟨_, rfl⟩
          obtain ⟨wd, hwd⟩ : ∃ wd, (Utf8.decode (str s) pos).2 = wd := ⟨_, rfl⟩
          rw [hrn, hwd] at hnx
          rw [hrn] at d1
          rw [hwd] at d2 HF
          have z1 : ((rn : Int) == 0) = false := by rw [beq_eq_false_iff_ne]; omega
          have z2 : ((rn : Int) == 47) = false := by rw [beq_eq_false_iff_ne]; omega
          have HN : Hid (clean s (pos + wd)) := fun j h hj => by
            rcases Nat.lt_or_ge j pos with h2 | h2
            · exact HC.out j h h2
            · obtain ⟨e1, e2⟩ := HF.out (j - pos) (by omega)
              rw [show pos + (j - pos) = j from by omega, str_get s j h] at e2
              exact ⟨fun e => by rw [e] at e2; simp at e2, fun e => by rw [e] at e2; simp at e2⟩
          have HW := Lib.hid d2
          clear hhi hget hlow d1 d2 HF hrn hwd
          go_wp2_with fail
          exact ⟨⟨pos + wd, rfl, HN.out⟩, by have := HW.out; simp; omega⟩
      · have hps : ¬ pos < (str s).size := by rw [hsz]; exact hp
        have hnx : ∀ ty, (Instr.next (.pointer (some ⟨w.heap.size, 0, none⟩)) true ty).run Try.prog (w.iter (str s) pos) = _ := fun ty => run_next_end w (str s) pos ty hps
        have HV := Lib.hid (validN_ok HLE.out H1.out H2.out H3.out HC.out (by omega))
        go_wp2_with fail
        go_ret
        exact ⟨by rw [HV.out]; rfl, below_all.alloc (Nat.le_refl _) _⟩
set_option maxHeartbeats 800000 in
theorem refValid_any (s : List UInt8) (w : World) : Calls Try.prog 22 #[.string (str s)] w fun r w' => r = .returned (.int .i64 (validN s : Nat)) ∧ w = w' := by
  have hsz := str_size s
  by_cases hl : 255 < s.length
  · have HV := Lib.hid (show validN s = 23 from by unfold validN; rw [if_pos hl])
    have hl2 : (255 : Int) < (s.length : Int) := by omega
    go_enter Try.func22, Try.ntmps22
    go_wp2_with fail
    go_ret
    exact ⟨by rw [HV.out]; rfl, rfl⟩
  · have hle : s.length ≤ 255 := by omega
    have HLE := Lib.hid hle
    have HTL := Lib.hid (str_toList s)
    clear hl
    go_enter Try.func22, Try.ntmps22
    go_wp2_with fail
    go_loop [3] (fun i => ∃ k : Nat, i = .int .i64 k ∧ k ≤ s.length ∧ clean s k) (fun i => s.length - (intOf i).toNat)
    case atStart => exact ⟨0, rfl, by omega, fun j h h0 => by omega⟩
    case round =>
      obtain ⟨k, rfl, hk, hcl⟩ := hrel
      have HC := Lib.hid hcl
      clear hcl
      by_cases hp : k < s.length
      · have hk0 : (0 : Int) ≤ (k : Int) := by omega
        have hk1 : (k : Int) < (s.length : Int) := by omega
        have hps : k < (str s).size := by rw [hsz]; exact hp
        have hget : (str s)[k]'hps = s[k] := (at_get (str s) k hps).symm.trans (str_get s k hp)
        by_cases hz : s[k] = 0 ∨ s[k] = 47
        · have HV := Lib.hid (validN_bad HLE.out hp hz)
          rcases hz with hz | hz
          · rw [hz] at hget
            clear hz
            go_wp2_with fail
            all_goals first
              | (go_ret; exact ⟨by rw [HV.out]; rfl, rfl⟩)
              | (exfalso; simp_all; done)
          · rw [hz] at hget
            clear hz
            go_wp2_with fail
            all_goals first
              | (go_ret; exact ⟨by rw [HV.out]; rfl, rfl⟩)
              | (exfalso; simp_all; done)
        · have z1 : (((s[k].toNat : Nat) : Int) == 0) = false := by
            rw [beq_eq_false_iff_ne]
            exact fun e => hz (.inl (UInt8.toNat_inj.1 (by simpa using e)))
          have z2 : (((s[k].toNat : Nat) : Int) == 47) = false := by
            rw [beq_eq_false_iff_ne]
            exact fun e => hz (.inr (UInt8.toNat_inj.1 (by have : s[k].toNat = 47 := by omega
                                                           simpa using this)))
          have HN : Hid (clean s (k + 1)) := fun j h hj => by
            rcases Nat.lt_or_ge j k with h2 | h2
            · exact HC.out j h h2
            · obtain rfl : j = k := by omega
              exact ⟨fun e => hz (.inl e), fun e => hz (.inr e)⟩
          clear hz
          generalize s[k] = c at *
          go_wp2_with fail
          all_goals first
            | exact ⟨⟨k + 1, by go_num, by omega, HN.out⟩, by simp [intOf]; omega⟩
            | (exfalso; simp_all; done)
      · obtain rfl : k = s.length := by omega
        by_cases h1 : s = []
        · subst h1
          have HV := Lib.hid (show validN [] = 22 from rfl)
          have e1 : (str []).toList = [] := str_toList _
          go_wp2_with fail
          go_ret
          exact ⟨by rw [HV.out]; rfl, rfl⟩
        by_cases h2 : s = [46]
        · subst h2
          have HV := Lib.hid (show validN [46] = 22 from rfl)
          have e1 : (str [46]).toList = [46] := str_toList _
          go_wp2_with fail
          go_ret
          exact ⟨by rw [HV.out]; rfl, rfl⟩
        by_cases h3 : s = [46, 46]
        · subst h3
          have HV := Lib.hid (show validN [46, 46] = 22 from rfl)
          have e1 : (str [46, 46]).toList = [46, 46] := str_toList _
          go_wp2_with fail
          go_ret
          exact ⟨by rw [HV.out]; rfl, rfl⟩
        have n1 : (str s).toList.isEmpty = false := by rw [HTL.out]; cases s with
          | nil => exact absurd rfl h1
          | cons a l => rfl
        have n2 : ((str s).toList == [46]) = false := by rw [HTL.out, beq_eq_false_iff_ne]; exact h2
        have n3 : ((str s).toList == [46, 46]) = false := by rw [HTL.out, beq_eq_false_iff_ne]; exact h3
        have HV := Lib.hid (validN_ok HLE.out h1 h2 h3 HC.out (Nat.le_refl _))
        clear h1 h2 h3
        go_wp2_with fail
        go_ret
        exact ⟨by rw [HV.out]; rfl, rfl⟩
end Go.Proofs.Ythkjgkdglphfcaa
