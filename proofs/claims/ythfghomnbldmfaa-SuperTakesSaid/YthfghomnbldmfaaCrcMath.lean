/- Plain arithmetic of the CRC-32 sum (chapter 2): what comes of eight bits, the sum by a table, that the table's entries are linear, and that turning one byte turns the sum. No program in sight; no conditions but those stated. -/
import Derived.Below
import Derived.WalkKit
namespace Go.Proofs.Ythfghomnbldmfaa.Crc
set_option linter.unusedVariables false
set_option linter.unusedSimpArgs false

/-- One bit: shift, and combine. -/
def step (r : Nat) : Nat := (r / 2) ^^^ (r % 2 * 3988292384)
def steps : Nat → Nat → Nat
  | 0, r => r
  | k + 1, r => step (steps k r)
/-- An entry of the standard table. -/
def entry (i : Nat) : Nat := steps 8 i

/-- One byte, by a table. -/
def upd (t : Nat → Nat) (r : Nat) (c : UInt8) : Nat := (r / 256) ^^^ t (r % 256 ^^^ c.toNat)
def runs (t : Nat → Nat) (r : Nat) (bs : List UInt8) : Nat := bs.foldl (upd t) r
/-- The complement. -/
def neg (r : Nat) : Nat := 4294967295 - r
def more (t : Nat → Nat) (s : Nat) (bs : List UInt8) : Nat := neg (runs t (neg s) bs)
/-- The sum with the standard table. -/
def sum (bs : List UInt8) : Nat := more entry 0 bs

theorem lt32 : (4294967296 : Nat) = 2 ^ 32 := by decide
theorem xor_lt {a b : Nat} (ha : a < 4294967296) (hb : b < 4294967296) : a ^^^ b < 4294967296 := by
  rw [lt32] at *; exact Nat.xor_lt_two_pow ha hb
theorem xor_lt256 {a b : Nat} (ha : a < 256) (hb : b < 256) : a ^^^ b < 256 := by
  have : (256 : Nat) = 2 ^ 8 := by decide
  rw [this] at *; exact Nat.xor_lt_two_pow ha hb

theorem step_lt {r : Nat} (h : r < 4294967296) : step r < 4294967296 := by
  unfold step
  refine xor_lt (by omega) ?_
  have : r % 2 = 0 ∨ r % 2 = 1 := by omega
  rcases this with h | h <;> rw [h] <;> decide
theorem steps_lt {r : Nat} (h : r < 4294967296) : ∀ k, steps k r < 4294967296
  | 0 => h
  | k + 1 => step_lt (steps_lt h k)
theorem entry_lt {i : Nat} (h : i < 256) : entry i < 4294967296 := steps_lt (by omega) 8

theorem neg_lt (r : Nat) : neg r < 4294967296 := by unfold neg; omega
theorem neg_neg {r : Nat} (h : r < 4294967296) : neg (neg r) = r := by unfold neg; omega
theorem neg_xor {r : Nat} (h : r < 4294967296) : neg r = r ^^^ 4294967295 := by
  have h1 : (4294967295 : Nat) = 2 ^ 32 - 1 := by decide
  unfold neg
  apply Nat.eq_of_testBit_eq
  intro i
  rw [Nat.testBit_xor, h1, Nat.testBit_two_pow_sub_one]
  have h2 : 2 ^ 32 - 1 - r = 2 ^ 32 - (r + 1) := by omega
  rw [h2, Nat.testBit_two_pow_sub_succ (by rw [← lt32]; exact h)]
  by_cases hi : i < 32
  · simp [hi]
  · have : r.testBit i = false := Nat.testBit_lt_two_pow (Nat.lt_of_lt_of_le (by rw [← lt32]; exact h) (Nat.pow_le_pow_right (by decide) (by omega)))
    simp [hi, this]

theorem upd_lt {t : Nat → Nat} (ht : ∀ i, i < 256 → t i < 4294967296) {r : Nat} (h : r < 4294967296) (c : UInt8) : upd t r c < 4294967296 := by
  unfold upd
  exact xor_lt (by omega) (ht _ (xor_lt256 (by omega) (by have := c.toNat_lt; omega)))
theorem runs_lt {t : Nat → Nat} (ht : ∀ i, i < 256 → t i < 4294967296) : ∀ (bs : List UInt8) {r : Nat}, r < 4294967296 → runs t r bs < 4294967296
  | [], _, h => h
  | c :: bs, _, h => runs_lt ht bs (upd_lt ht h c)
theorem more_lt (t : Nat → Nat) (s : Nat) (bs : List UInt8) : more t s bs < 4294967296 := neg_lt _
theorem sum_lt (bs : List UInt8) : sum bs < 4294967296 := neg_lt _

theorem runs_append (t : Nat → Nat) (r : Nat) (a b : List UInt8) : runs t r (a ++ b) = runs t (runs t r a) b := by
  unfold runs; rw [List.foldl_append]
theorem runs_snoc (t : Nat → Nat) (r : Nat) (a : List UInt8) (c : UInt8) : runs t r (a ++ [c]) = upd t (runs t r a) c := by
  rw [runs_append]; rfl
theorem more_append {t : Nat → Nat} (ht : ∀ i, i < 256 → t i < 4294967296) (s : Nat) (a b : List UInt8) : more t (more t s a) b = more t s (a ++ b) := by
  unfold more
  rw [neg_neg (runs_lt ht a (neg_lt s)), runs_append]

/-! Linear -/
theorem half_xor (a b : Nat) : (a ^^^ b) / 2 = a / 2 ^^^ b / 2 := by
  have := Nat.shiftRight_xor_distrib (a := a) (b := b) (i := 1)
  simpa [Nat.shiftRight_eq_div_pow] using this
theorem byte_xor (a b : Nat) : (a ^^^ b) / 256 = a / 256 ^^^ b / 256 := by
  have := Nat.shiftRight_xor_distrib (a := a) (b := b) (i := 8)
  simpa [Nat.shiftRight_eq_div_pow] using this
theorem low_xor (a b : Nat) : (a ^^^ b) % 256 = a % 256 ^^^ b % 256 := by
  have := Nat.xor_mod_two_pow (a := a) (b := b) (n := 8)
  simpa using this
theorem bit_xor (a b : Nat) : (a ^^^ b) % 2 = a % 2 ^^^ b % 2 := by
  have := Nat.xor_mod_two_pow (a := a) (b := b) (n := 1)
  simpa using this
theorem swap4 (a b c d : Nat) : (a ^^^ b) ^^^ (c ^^^ d) = (a ^^^ c) ^^^ (b ^^^ d) := by
  rw [Nat.xor_assoc, Nat.xor_assoc, ← Nat.xor_assoc b c d, ← Nat.xor_assoc c b d, Nat.xor_comm b c]
theorem step_xor (a b : Nat) : step (a ^^^ b) = step a ^^^ step b := by
  unfold step
  rw [swap4, half_xor, bit_xor]
  congr 1
  have h1 : a % 2 = 0 ∨ a % 2 = 1 := by omega
  have h2 : b % 2 = 0 ∨ b % 2 = 1 := by omega
  rcases h1 with h1 | h1 <;> rcases h2 with h2 | h2 <;> rw [h1, h2] <;> decide
theorem steps_xor (a b : Nat) : ∀ k, steps k (a ^^^ b) = steps k a ^^^ steps k b
  | 0 => rfl
  | k + 1 => by
    show step (steps k (a ^^^ b)) = step (steps k a) ^^^ step (steps k b)
    rw [steps_xor a b k, step_xor]
theorem entry_xor (a b : Nat) : entry (a ^^^ b) = entry a ^^^ entry b := steps_xor a b 8

/-! Three rows -/
theorem upd_three (x y z : Nat) (a b c : UInt8) : upd entry (x ^^^ y ^^^ z) (a ^^^ b ^^^ c) = upd entry x a ^^^ upd entry y b ^^^ upd entry z c := by
  unfold upd
  rw [byte_xor, byte_xor, low_xor, low_xor, UInt8.toNat_xor, UInt8.toNat_xor]
  rw [swap4 (x / 256) _ (y / 256) _, swap4 (x / 256 ^^^ y / 256) _ (z / 256) _, ← entry_xor, ← entry_xor]
  congr 2
  rw [swap4 (x % 256) _ (y % 256) _, swap4 (x % 256 ^^^ y % 256) _ (z % 256) _]
theorem runs_three : ∀ (a b c : List UInt8) (x y z : Nat), a.length = b.length → b.length = c.length →
    runs entry (x ^^^ y ^^^ z) ((a.zip (b.zip c)).map fun p => p.1 ^^^ p.2.1 ^^^ p.2.2) = runs entry x a ^^^ runs entry y b ^^^ runs entry z c
  | [], [], [], _, _, _, _, _ => rfl
  | a :: as, b :: bs, c :: cs, x, y, z, h1, h2 => by
    have := runs_three as bs cs (upd entry x a) (upd entry y b) (upd entry z c) (by simpa using h1) (by simpa using h2)
    rw [← upd_three] at this
    exact this
theorem all_three {x y z : Nat} (hx : x < 4294967296) (hy : y < 4294967296) (hz : z < 4294967296) : neg (x ^^^ y ^^^ z) = neg x ^^^ neg y ^^^ neg z := by
  rw [neg_xor (xor_lt (xor_lt hx hy) hz), neg_xor hx, neg_xor hy, neg_xor hz]
  rw [swap4 x _ y _, Nat.xor_self, Nat.xor_zero, ← Nat.xor_assoc]
theorem sum_three (a b c : List UInt8) (h1 : a.length = b.length) (h2 : b.length = c.length) :
    sum ((a.zip (b.zip c)).map fun p => p.1 ^^^ p.2.1 ^^^ p.2.2) = sum a ^^^ sum b ^^^ sum c := by
  have ht : ∀ i, i < 256 → entry i < 4294967296 := fun i h => entry_lt h
  have h := runs_three a b c (neg 0) (neg 0) (neg 0) h1 h2
  rw [Nat.xor_self, Nat.zero_xor] at h
  unfold sum more
  rw [h, all_three (runs_lt ht a (neg_lt 0)) (runs_lt ht b (neg_lt 0)) (runs_lt ht c (neg_lt 0))]

/-! One byte is turned -/
theorem entry_top : ∀ k, k < 256 → entry k / 16777216 = 0 → k = 0 := by decide +kernel
theorem top_xor (a b : Nat) : (a ^^^ b) / 16777216 = a / 16777216 ^^^ b / 16777216 := by
  have := Nat.shiftRight_xor_distrib (a := a) (b := b) (i := 24)
  simpa [Nat.shiftRight_eq_div_pow] using this
theorem eq_of_xor {a b : Nat} (h : a ^^^ b = 0) : a = b := by
  have : (a ^^^ b) ^^^ b = b := by rw [h, Nat.zero_xor]
  rwa [Nat.xor_assoc, Nat.xor_self, Nat.xor_zero] at this
theorem upd_same {r s : Nat} {c d : UInt8} (hr : r < 4294967296) (hs : s < 4294967296) (h : upd entry r c = upd entry s d) :
    r / 256 = s / 256 ∧ r % 256 ^^^ c.toNat = s % 256 ^^^ d.toNat := by
  have hx := xor_lt256 (a := r % 256) (b := c.toNat) (by omega) (by have := c.toNat_lt; omega)
  have hy := xor_lt256 (a := s % 256) (b := d.toNat) (by omega) (by have := d.toNat_lt; omega)
  unfold upd at h
  generalize hX : r % 256 ^^^ c.toNat = X at h hx ⊢
  generalize hY : s % 256 ^^^ d.toNat = Y at h hy ⊢
  have h1 : (r / 256 ^^^ entry X) / 16777216 = (s / 256 ^^^ entry Y) / 16777216 := by rw [h]
  rw [top_xor, top_xor] at h1
  have e1 : r / 256 / 16777216 = 0 := by omega
  have e2 : s / 256 / 16777216 = 0 := by omega
  rw [e1, e2, Nat.zero_xor, Nat.zero_xor] at h1
  have h2 : entry (X ^^^ Y) / 16777216 = 0 := by rw [entry_xor, top_xor, h1, Nat.xor_self]
  have h3 : X = Y := eq_of_xor (entry_top _ (xor_lt256 hx hy) h2)
  subst h3
  refine ⟨?_, rfl⟩
  have h4 : (r / 256 ^^^ entry X) ^^^ entry X = (s / 256 ^^^ entry X) ^^^ entry X := by rw [h]
  rwa [Nat.xor_assoc, Nat.xor_assoc, Nat.xor_self, Nat.xor_zero, Nat.xor_zero] at h4
theorem upd_inj {r s : Nat} (c : UInt8) (hr : r < 4294967296) (hs : s < 4294967296) (h : upd entry r c = upd entry s c) : r = s := by
  obtain ⟨h1, h2⟩ := upd_same hr hs h
  have h3 : (r % 256 ^^^ c.toNat) ^^^ c.toNat = (s % 256 ^^^ c.toNat) ^^^ c.toNat := by rw [h2]
  rw [Nat.xor_assoc, Nat.xor_assoc, Nat.xor_self, Nat.xor_zero, Nat.xor_zero] at h3
  omega
theorem runs_inj : ∀ (bs : List UInt8) {r s : Nat}, r < 4294967296 → s < 4294967296 → runs entry r bs = runs entry s bs → r = s
  | [], _, _, _, _, h => h
  | c :: bs, _, _, hr, hs, h => upd_inj c hr hs (runs_inj bs (upd_lt (fun _ h => entry_lt h) hr c) (upd_lt (fun _ h => entry_lt h) hs c) h)
theorem sum_turned (a b : List UInt8) (c d : UInt8) (h : sum (a ++ c :: b) = sum (a ++ d :: b)) : c = d := by
  have ht : ∀ i, i < 256 → entry i < 4294967296 := fun i h => entry_lt h
  unfold sum more at h
  have h1 := congrArg neg h
  rw [neg_neg (runs_lt ht _ (neg_lt 0)), neg_neg (runs_lt ht _ (neg_lt 0)), runs_append, runs_append] at h1
  have hR := runs_lt ht a (neg_lt 0)
  have h2 := runs_inj b (upd_lt ht hR c) (upd_lt ht hR d) h1
  obtain ⟨_, h3⟩ := upd_same hR hR h2
  have h4 : runs entry (neg 0) a % 256 ^^^ (runs entry (neg 0) a % 256 ^^^ c.toNat) = runs entry (neg 0) a % 256 ^^^ (runs entry (neg 0) a % 256 ^^^ d.toNat) := by rw [h3]
  rw [← Nat.xor_assoc, ← Nat.xor_assoc, Nat.xor_self, Nat.zero_xor, Nat.zero_xor] at h4
  exact UInt8.toNat_inj.1 h4

/-! The document's examples -/
theorem sum_nil : sum [] = 0 := by decide
theorem sum_digits : sum [49, 50, 51, 52, 53, 54, 55, 56, 57] = 3421780262 := by decide +kernel

/-! In the walk's own forms -/
theorem step_odd {x : Nat} (hx : x < 4294967296) (h : (((x : Int) % 2) == 1) = true) : bits .xor .u32 ((x : Int) / 2) 3988292384 = (step x : Nat) := by
  have h1 : x % 2 = 1 := by
    have : (x : Int) % 2 = 1 := by simpa using h
    omega
  have h2 : ((x : Int) / 2) = ((x / 2 : Nat) : Int) := by omega
  rw [h2, show (3988292384 : Int) = ((3988292384 : Nat) : Int) from rfl, u32_xor_nat _ _ (by omega) (by omega)]
  unfold step
  rw [h1, Nat.one_mul]
theorem step_even {x : Nat} (h : (((x : Int) % 2) == 1) = false) : ((x : Int) / 2) = (step x : Nat) := by
  have h1 : x % 2 = 0 := by
    have : ¬ (x : Int) % 2 = 1 := by simpa using h
    omega
  unfold step
  rw [h1, Nat.zero_mul, Nat.xor_zero]
  omega
theorem step_go {x : Nat} (hx : x < 4294967296) : bits .xor .u32 ((x : Int) / 2) (bits .and .u32 (x : Int) 1 * 3988292384 % 4294967296) = (step x : Nat) := by
  have h2 : ((x : Int) / 2) = ((x / 2 : Nat) : Int) := by omega
  rw [show (1 : Int) = ((1 : Nat) : Int) from rfl, u32_and_nat x 1 hx (by omega), Nat.and_one_is_mod]
  unfold step
  have h1 : x % 2 = 0 ∨ x % 2 = 1 := by omega
  have h3 : (((x % 2 : Nat) : Int) * 3988292384 % 4294967296) = ((x % 2 * 3988292384 : Nat) : Int) := by
    rcases h1 with h | h <;> rw [h] <;> decide
  rw [h2, h3, u32_xor_nat _ _ (by omega) (by omega)]
theorem neg_go {x : Nat} (hx : x < 4294967296) : bits .xor .u32 IntKind.u32.max (x : Int) = (neg x : Nat) := by
  rw [show IntKind.u32.max = ((4294967295 : Nat) : Int) from rfl, u32_xor_nat _ _ (by omega) hx, neg_xor hx, Nat.xor_comm]
theorem quo_xor {x v : Nat} (hx : x < 4294967296) (hv : v < 4294967296) : bits .xor .u32 ((x : Int) / 256) (v : Int) = ((x / 256 ^^^ v : Nat) : Int) := by
  have h2 : ((x : Int) / 256) = ((x / 256 : Nat) : Int) := by omega
  rw [h2, u32_xor_nat _ _ (by omega) hv]
theorem low_go (r : Nat) (x : UInt8) : bits .xor .u8 ((r : Int) % 256) (x.toNat : Int) = ((r % 256 ^^^ x.toNat : Nat) : Int) := by
  have h2 : ((r : Int) % 256) = ((r % 256 : Nat) : Int) := by omega
  rw [h2, u8_xor_nat _ _ (by omega) (by have := x.toNat_lt; omega)]
/-- The sums of rows, one going on behind the other, are the sum of all of them as one. -/
theorem rows_sum {t : Nat → Nat} (ht : ∀ i, i < 256 → t i < 4294967296) : ∀ (l : List (List UInt8)) (s : Nat), s < 4294967296 → l.foldl (more t) s = more t s l.flatten
  | [], s, hs => (neg_neg hs).symm
  | b :: l, s, hs => by
    rw [List.foldl_cons, rows_sum ht l _ (more_lt t s b), List.flatten_cons, more_append ht]
/-- The document's own sum: the index is taken of the whole register. -/
theorem ref_go {r : Nat} (hr : r < 4294967296) (x : UInt8) : ∃ z : Nat, z < 4294967296 ∧ bits .xor .u32 (r : Int) (x.toNat : Int) = (z : Int) ∧ (z : Int) % 256 = ((r % 256 ^^^ x.toNat : Nat) : Int) := by
  have hx := x.toNat_lt
  refine ⟨r ^^^ x.toNat, xor_lt hr (by omega), u32_xor_nat _ _ hr (by omega), ?_⟩
  have h := low_xor r x.toNat
  rw [Nat.mod_eq_of_lt (a := x.toNat) (by omega)] at h
  omega
theorem neg_ref {x : Nat} (hx : x < 4294967296) : bits .xor .u32 (x : Int) 4294967295 = (neg x : Nat) := by
  rw [show (4294967295 : Int) = ((4294967295 : Nat) : Int) from rfl, u32_xor_nat _ _ hx (by omega), neg_xor hx]

end Go.Proofs.Ythfghomnbldmfaa.Crc
