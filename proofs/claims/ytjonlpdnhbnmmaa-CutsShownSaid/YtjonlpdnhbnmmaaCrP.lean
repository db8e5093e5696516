/-
  Sums of bytes in plain Lean: a table of 16 serves. Conditions: none.
-/
import Derived.Test.YtjonlpdnhbnmmaaDat
set_option linter.all false
namespace Go.Wm

def polyN : Nat := 3988292384
def stepN (v : Nat) : Nat := if v % 2 = 1 then (v / 2) ^^^ polyN else v / 2
def stepsN (v : Nat) : Nat → Nat
  | 0 => v
  | n + 1 => stepsN (stepN v) n
def halfN (v : Nat) : Nat := stepsN v 4
def sumFrom (v : Nat) (bs : List Nat) : Nat := bs.foldl (fun v b => stepsN (v ^^^ b) 8) v
def sumL (bs : List Nat) : Nat := 4294967295 ^^^ sumFrom 4294967295 bs
theorem stepN_lt {v : Nat} (h : v < 4294967296) : stepN v < 4294967296 := by
  unfold stepN
  split
  · exact Nat.xor_lt_two_pow (n := 32) (by omega) (by decide)
  · omega
theorem stepsN_lt : ∀ (n : Nat) {v : Nat}, v < 4294967296 → stepsN v n < 4294967296
  | 0, v, h => h
  | n + 1, v, h => stepsN_lt n (stepN_lt h)
theorem stepsN_add (v : Nat) : ∀ a b : Nat, stepsN v (a + b) = stepsN (stepsN v a) b
  | 0, b => by rw [Nat.zero_add]; rfl
  | a + 1, b => by rw [Nat.succ_add]; exact stepsN_add (stepN v) a b
theorem sumFrom_snoc (v : Nat) (bs : List Nat) (b : Nat) : sumFrom v (bs ++ [b]) = stepsN (sumFrom v bs ^^^ b) 8 := by simp [sumFrom]
theorem sumFrom_lt : ∀ (bs : List Nat) {v : Nat}, v < 4294967296 → (∀ b ∈ bs, b < 256) → sumFrom v bs < 4294967296
  | [], v, h, _ => h
  | b :: bs, v, h, hb => by
    refine sumFrom_lt bs (stepsN_lt 8 (Nat.xor_lt_two_pow (n := 32) h ?_)) fun x hx => hb x (by simp [hx])
    have := hb b (by simp)
    omega
theorem sumL_lt {bs : List Nat} (hb : ∀ b ∈ bs, b < 256) : sumL bs < 4294967296 := Nat.xor_lt_two_pow (n := 32) (by decide) (sumFrom_lt bs (by decide) hb)
end Go.Wm
