/-
  Sums of bytes in plain Lean: a table of 16 serves. Conditions: none.
-/
import Derived.Test.YtjonlpdnhbnmmaaDat
set_option linter.all false
namespace Go.Wm

def polyN : Nat := 3988292384
def stepN (v : Nat) : Nat := if v % 2 = 1 then (v / 2) ^^^ polyN else v / 2
def stepsN (v : Nat) : Nat → Nat
  | 0 => v
  | n + 1 => stepsN (stepN v) n
def halfN (v : Nat) : Nat := stepsN v 4
def sumFrom (v : Nat) (bs : List Nat) : Nat := bs.foldl (fun v b => stepsN (v ^^^ b) 8) v
def sumL (bs : List Nat) : Nat := 4294967295 ^^^ sumFrom 4294967295 bs
theorem stepN_lt {v : Nat} (h : v < 4294967296) : stepN v < 4294967296 := by
  unfold stepN
  split
  · exact Nat.xor_lt_two_pow (n := 32) (by omega) (by decide)
  · omega
theorem stepsN_lt : ∀ (n : Nat) {v : Nat}, v < 4294967296 → stepsN v n < 4294967296
  | 0, v, h => h
  | n + 1, v, h => stepsN_lt n (stepN_lt h)
theorem stepsN_add (v : Nat) : ∀ a b : Nat, stepsN v (a + b) = stepsN (stepsN v a) b
  | 0, b => by rw [Nat.zero_add]; rfl
  | a + 1, b => by rw [Nat.succ_add]; exact stepsN_add (stepN v) a b
theorem xor_odd (a b : Nat) : (a ^^^ b) % 2 = (a + b) % 2 := by
  have h := Nat.testBit_xor (x := a) (y := b) (i := 0)
  simp only [Nat.testBit_zero] at h
  rcases Nat.mod_two_eq_zero_or_one a with ha | ha <;> rcases Nat.mod_two_eq_zero_or_one b with hb | hb <;> rcases Nat.mod_two_eq_zero_or_one (a ^^^ b) with hc | hc <;> rw [ha, hb, hc] at h <;> first | (simp at h; done) | omega
theorem stepN_xor (a b : Nat) : stepN (a ^^^ b) = stepN a ^^^ stepN b := by
  unfold stepN
  rw [Nat.xor_div_two, xor_odd]
  rcases Nat.mod_two_eq_zero_or_one a with ha | ha <;> rcases Nat.mod_two_eq_zero_or_one b with hb | hb
  · rw [if_neg (by omega), if_neg (by omega), if_neg (by omega)]
  · rw [if_pos (by omega), if_neg (by omega), if_pos hb, Nat.xor_assoc]
  · rw [if_pos (by omega), if_pos ha, if_neg (by omega), Nat.xor_assoc, Nat.xor_assoc, Nat.xor_comm (b / 2)]
  · rw [if_neg (by omega), if_pos ha, if_pos hb, Nat.xor_assoc, Nat.xor_comm polyN, Nat.xor_assoc, Nat.xor_self, Nat.xor_zero]
theorem stepsN_xor : ∀ (n a b : Nat), stepsN (a ^^^ b) n = stepsN a n ^^^ stepsN b n
  | 0, _, _ => rfl
  | n + 1, a, b => by
    show stepsN (stepN (a ^^^ b)) n = _
    rw [stepN_xor]
    exact stepsN_xor n _ _
theorem stepN_two (v : Nat) : stepN (2 * v) = v := by
  unfold stepN
  rw [if_neg (by omega)]
  omega
theorem half_sixteen (q : Nat) : halfN (16 * q) = q := by
  show stepN (stepN (stepN (stepN (16 * q)))) = q
  rw [show 16 * q = 2 * (2 * (2 * (2 * q))) by omega, stepN_two, stepN_two, stepN_two, stepN_two]
theorem split_sixteen (v : Nat) : v = v % 16 ^^^ 16 * (v / 16) := by
  apply Nat.eq_of_testBit_eq
  intro j
  have hv : v = 2 ^ 4 * (v / 16) + v % 16 := by omega
  conv => lhs; rw [hv]
  rw [Nat.testBit_two_pow_mul_add _ (by omega), Nat.testBit_xor, show 16 * (v / 16) = 2 ^ 4 * (v / 16) by rfl, Nat.testBit_two_pow_mul]
  by_cases hj : j < 4
  · simp [hj, Nat.not_le.2 hj]
  · have h16 : (v % 16).testBit j = false := Nat.testBit_lt_two_pow (Nat.lt_of_lt_of_le (show v % 16 < 2 ^ 4 by omega) (Nat.pow_le_pow_right (by decide) (by omega)))
    simp [hj, h16, Nat.not_lt.1 hj]
/-- Four steps by a table. -/
theorem half_table (v : Nat) : halfN v = halfN (v % 16) ^^^ v / 16 := by
  conv => lhs; rw [split_sixteen v]
  unfold halfN
  rw [stepsN_xor]
  show halfN (v % 16) ^^^ halfN (16 * (v / 16)) = _
  rw [half_sixteen]
  rfl
theorem and_15 (v : Nat) : v &&& 15 = v % 16 := Nat.and_two_pow_sub_one_eq_mod v 4
theorem sumFrom_snoc (v : Nat) (bs : List Nat) (b : Nat) : sumFrom v (bs ++ [b]) = stepsN (sumFrom v bs ^^^ b) 8 := by simp [sumFrom]
theorem sumFrom_lt : ∀ (bs : List Nat) {v : Nat}, v < 4294967296 → (∀ b ∈ bs, b < 256) → sumFrom v bs < 4294967296
  | [], v, h, _ => h
  | b :: bs, v, h, hb => by
    refine sumFrom_lt bs (stepsN_lt 8 (Nat.xor_lt_two_pow (n := 32) h ?_)) fun x hx => hb x (by simp [hx])
    have := hb b (by simp)
    omega
theorem sumL_lt {bs : List Nat} (hb : ∀ b ∈ bs, b < 256) : sumL bs < 4294967296 := Nat.xor_lt_two_pow (n := 32) (by decide) (sumFrom_lt bs (by decide) hb)
end Go.Wm
