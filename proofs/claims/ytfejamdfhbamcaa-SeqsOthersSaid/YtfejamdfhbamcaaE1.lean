/-
  Bytes read, in plain Lean: numbers, texts, sums; what was written is read. Conditions: none.
-/
import Derived.Test.YtfejamdfhbamcaaB4
import Derived.Test.YtfejamdfhbamcaaCrP
set_option linter.all false
namespace Go.Wm
/-- A number, its greatest byte first. -/
def fromL (bs : List Nat) : Nat := bs.foldl (fun n x => n * 256 + x) 0
/-- What is read of a number of k bytes, and why not. -/
def getR (b : List Nat) (at' : Int) (k : Nat) : Nat × Int :=
  if at' < 0 then (0, 1) else if b.length < at'.toNat + k then (0, 10) else (fromL ((b.drop at'.toNat).take k), 0)
/-- Seven bits a byte: what is read, how many bytes, and why not. -/
def varR : Nat → Nat → List Nat → (Nat × Nat) × Int
  | _, _, [] => ((0, 0), 10)
  | i, z, x :: r => if (i = 9 ∧ 1 < x) ∨ (0 < i ∧ x = 0) then ((0, 0), 11) else if x < 128 then ((z + x * 128 ^ i, i + 1), 0) else varR (i + 1) (z + (x - 128) * 128 ^ i) r
def unzig (z : Nat) : Int := if z % 2 = 1 then -((z / 2 : Nat) : Int) - 1 else ((z / 2 : Nat) : Int)
def getVarR (b : List Nat) (at' : Int) : Int × Int × Int :=
  if at' < 0 then (0, 0, 1) else if (varR 0 0 (b.drop at'.toNat)).2 = 0 then (unzig (varR 0 0 (b.drop at'.toNat)).1.1, at' + ((varR 0 0 (b.drop at'.toNat)).1.2 : Nat), 0) else (0, 0, (varR 0 0 (b.drop at'.toNat)).2)
def strOf (bs : List Nat) : ByteArray := ⟨(bs.map (·.toUInt8)).toArray⟩
/-- A text behind its length (n, where it begins, why not). -/
def textQ (b : List Nat) (most : Int) (q : Int × Int × Int) : ByteArray × Int × Int :=
  if q.2.2 ≠ 0 then (⟨#[]⟩, 0, q.2.2) else if q.1 < 0 then (⟨#[]⟩, 0, 11) else if most < q.1 then (⟨#[]⟩, 0, 2)
  else if (b.length : Int) - q.2.1 < q.1 then (⟨#[]⟩, 0, 10)
  else (strOf ((b.drop q.2.1.toNat).take q.1.toNat), q.2.1 + q.1, 0)
def getTextR (b : List Nat) (at' most : Int) : ByteArray × Int × Int := textQ b most (getVarR b at')

theorem foldl_256 (xs : List Nat) : ∀ a, xs.foldl (fun n x => n * 256 + x) a = a * 256 ^ xs.length + fromL xs := by
  induction xs with
  | nil => intro a; simp [fromL]
  | cons x xs ih =>
    intro a
    have h := ih (0 * 256 + x)
    have e : fromL (x :: xs) = (0 * 256 + x) * 256 ^ xs.length + fromL xs := h
    rw [e, List.foldl_cons, ih, List.length_cons, Nat.pow_succ, Nat.add_mul, Nat.zero_mul, Nat.zero_add, Nat.mul_assoc, Nat.mul_comm 256, Nat.add_assoc]
theorem fromL_snoc (xs : List Nat) (x : Nat) : fromL (xs ++ [x]) = fromL xs * 256 + x := by simp [fromL]
theorem fromL_append (xs ys : List Nat) : fromL (xs ++ ys) = fromL xs * 256 ^ ys.length + fromL ys := by
  unfold fromL; rw [List.foldl_append]; exact foldl_256 ys _
theorem fromL_lt : ∀ (xs : List Nat), (∀ x ∈ xs, x < 256) → fromL xs < 256 ^ xs.length := by
  intro xs
  induction xs with
  | nil => intro _; simp [fromL]
  | cons x xs ih =>
    intro h
    have h1 := ih fun y hy => h y (by simp [hy])
    have h2 := h x (by simp)
    have e : fromL (x :: xs) = x * 256 ^ xs.length + fromL xs := by
      have := fromL_append [x] xs
      simpa [fromL] using this
    rw [e, List.length_cons, Nat.pow_succ]
    have : (x + 1) * 256 ^ xs.length ≤ 256 * 256 ^ xs.length := Nat.mul_le_mul_right _ h2
    rw [Nat.add_mul] at this; omega
theorem fromL_inj : ∀ (xs ys : List Nat), xs.length = ys.length → (∀ x ∈ xs, x < 256) → (∀ x ∈ ys, x < 256) → fromL xs = fromL ys → xs = ys := by
  intro xs
  induction xs with
  | nil => intro ys hl _ _ _; cases ys with
    | nil => rfl
    | cons y ys => simp at hl
  | cons x xs ih =>
    intro ys hl hx hy he
    cases ys with
    | nil => simp at hl
    | cons y ys =>
      have e : ∀ (x : Nat) (xs : List Nat), fromL (x :: xs) = x * 256 ^ xs.length + fromL xs := fun x xs => by
        have := fromL_append [x] xs
        simpa [fromL] using this
      rw [e, e] at he
      simp only [List.length_cons, Nat.add_right_cancel_iff] at hl
      have l1 := fromL_lt xs fun z hz => hx z (by simp [hz])
      have l2 := fromL_lt ys fun z hz => hy z (by simp [hz])
      rw [hl] at he l1
      have hp : 0 < 256 ^ ys.length := Nat.pow_pos (by decide)
      have hxy : x = y := by
        rcases Nat.lt_trichotomy x y with h | h | h
        · exfalso
          have : (x + 1) * 256 ^ ys.length ≤ y * 256 ^ ys.length := Nat.mul_le_mul_right _ h
          rw [Nat.add_mul] at this; omega
        · exact h
        · exfalso
          have : (y + 1) * 256 ^ ys.length ≤ x * 256 ^ ys.length := Nat.mul_le_mul_right _ h
          rw [Nat.add_mul] at this; omega
      subst hxy
      rw [ih ys hl (fun z hz => hx z (by simp [hz])) (fun z hz => hy z (by simp [hz])) (by omega)]

/-! ### seven bits a byte -/
theorem varR_le : ∀ (l : List Nat) (i z : Nat), (varR i z l).2 = 0 → i < (varR i z l).1.2 ∧ (varR i z l).1.2 ≤ i + l.length := by
  intro l
  induction l with
  | nil => intro i z h; simp [varR] at h
  | cons x r ih =>
    intro i z h
    unfold varR at h ⊢
    split at h
    · simp at h
    · rename_i h1
      rw [if_neg h1]
      split at h
      · rename_i h2; rw [if_pos h2]; simp
      · rename_i h2; rw [if_neg h2]
        have := ih _ _ h
        simp only [List.length_cons]; omega
theorem unzig_zig {n : Int} : unzig (if n < 0 then (2 * (-(n + 1)) + 1).toNat else (2 * n).toNat) = n := by
  unfold unzig
  by_cases h : n < 0
  · rw [if_pos h, if_pos (by omega)]; omega
  · rw [if_neg h, if_neg (by omega)]; omega
theorem getVarR_le {b : List Nat} {at' : Int} (h : (getVarR b at').2.2 = 0) : 0 ≤ at' ∧ at' < (getVarR b at').2.1 ∧ (getVarR b at').2.1 ≤ b.length := by
  unfold getVarR at h ⊢
  split at h
  · simp at h
  · rename_i h1
    rw [if_neg h1]
    split at h
    · rename_i h2
      rw [if_pos h2]
      have h3 := varR_le _ _ _ h2
      simp only [List.length_drop] at h3
      have hl : at'.toNat ≤ b.length := by
        apply Decidable.byContradiction; intro hc
        rw [List.drop_eq_nil_of_le (by omega)] at h2
        simp [varR] at h2
      refine ⟨by omega, by simp only; omega, by simp only; omega⟩
    · rename_i h2; exact absurd h h2
theorem pow128 (i : Nat) : (128 : Nat) ^ (i + 1) = 128 * 128 ^ i := by rw [Nat.pow_succ, Nat.mul_comm]
/-- What was written is read. -/
theorem varR_varL (z : Nat) : ∀ (i acc : Nat) (r : List Nat), z * 128 ^ i < 18446744073709551616 → i ≤ 9 → (0 < i → 0 < z) → varR i acc (varL z ++ r) = ((acc + z * 128 ^ i, i + (varL z).length), 0) := by
  induction z using Nat.strongRecOn with
  | _ z ih =>
    intro i acc r hz hi hp
    by_cases h : z < 128
    · rw [varL_lt h]
      simp only [List.cons_append, List.nil_append, varR, List.length_cons, List.length_nil]
      rw [if_neg ?_, if_pos h]
      rintro (⟨rfl, h1⟩ | ⟨h1, rfl⟩)
      · have : 2 * 128 ^ 9 ≤ z * 128 ^ 9 := Nat.mul_le_mul_right _ h1
        omega
      · exact absurd (hp h1) (by decide)
    · rw [varL_ge h]
      have hq : z / 128 * 128 ^ (i + 1) ≤ z * 128 ^ i := by
        rw [pow128, ← Nat.mul_assoc]
        exact Nat.mul_le_mul_right _ (by omega)
      have hi8 : i < 9 := by
        apply Decidable.byContradiction; intro hc
        have : i = 9 := by omega
        subst this
        have : 128 * 128 ^ 9 ≤ z * 128 ^ 9 := Nat.mul_le_mul_right _ (by omega)
        omega
      simp only [List.cons_append, varR]
      rw [if_neg (by omega), if_neg (by omega), ih (z / 128) (by omega) (i + 1) _ r (by omega) (by omega) (by omega), List.length_cons]
      have e : acc + (128 + z % 128 - 128) * 128 ^ i + z / 128 * 128 ^ (i + 1) = acc + z * 128 ^ i := by
        rw [pow128, ← Nat.mul_assoc, Nat.add_assoc, ← Nat.add_mul]
        congr 2; omega
      rw [e]
      congr 2
      omega
theorem getVarR_at {p r : List Nat} {n : Int} (hn : I64 n) : getVarR (p ++ (varL (zigN n) ++ r)) (p.length : Int) = (n, ((p.length + (varL (zigN n)).length : Nat) : Int), 0) := by
  unfold getVarR
  have h := varR_varL (zigN n) 0 0 r (by have := zigN_lt hn; omega) (by omega) (by omega)
  rw [if_neg (by omega), show ((p.length : Int)).toNat = p.length from rfl, List.drop_left' rfl, h]
  simp only [if_true]
  have hu : unzig (0 + zigN n * 128 ^ 0) = n := by
    rw [Nat.zero_add, Nat.pow_zero, Nat.mul_one]; exact unzig_zig
  rw [hu]
  simp
theorem fromL_bigL : ∀ (k n : Nat), fromL (bigL n k k) = n % 256 ^ k := by
  have key : ∀ (i k n : Nat), i ≤ k → fromL (bigL n k i) = n / 256 ^ (k - i) % 256 ^ i := by
    intro i
    induction i with
    | zero => intro k n _; simp [bigL, fromL, Nat.mod_one]
    | succ i ih =>
      intro k n hik
      have hb : bigL n k (i + 1) = bigL n k i ++ [n / 256 ^ (k - 1 - i) % 256] := by simp [bigL, List.range_succ]
      rw [hb, fromL_snoc, ih k n (by omega)]
      have e1 : k - i = (k - (i + 1)) + 1 := by omega
      have e2 : k - 1 - i = k - (i + 1) := by omega
      rw [e1, e2, Nat.pow_succ, ← Nat.div_div_eq_div_mul, Nat.pow_succ, Nat.mul_comm (256 ^ i), Nat.mod_mul]
      omega
  intro k n
  have := key k k n (Nat.le_refl _)
  simpa using this
/-! ### sums tell what was changed -/
theorem stepN_inj {a b : Nat} (ha : a < 4294967296) (hb : b < 4294967296) (h : stepN a = stepN b) : a = b := by
  have hx : stepN (a ^^^ b) = 0 := by rw [stepN_xor, h, Nat.xor_self]
  have hlt : a ^^^ b < 4294967296 := Nat.xor_lt_two_pow (n := 32) ha hb
  have hz : a ^^^ b = 0 := by
    generalize a ^^^ b = x at hx hlt
    unfold stepN at hx
    split at hx
    · exfalso
      have h1 : x / 2 = polyN := by
        have : x / 2 ^^^ polyN ^^^ polyN = 0 ^^^ polyN := by rw [hx]
        rwa [Nat.xor_assoc, Nat.xor_self, Nat.xor_zero, Nat.zero_xor] at this
      unfold polyN at h1; omega
    · omega
  have : a ^^^ b ^^^ b = 0 ^^^ b := by rw [hz]
  rwa [Nat.xor_assoc, Nat.xor_self, Nat.xor_zero, Nat.zero_xor] at this
theorem stepsN_inj : ∀ (n : Nat) {a b : Nat}, a < 4294967296 → b < 4294967296 → stepsN a n = stepsN b n → a = b
  | 0, _, _, _, _, h => h
  | n + 1, _, _, ha, hb, h => stepN_inj ha hb (stepsN_inj n (stepN_lt ha) (stepN_lt hb) h)
theorem xor_cancel {a b c : Nat} (h : a ^^^ c = b ^^^ c) : a = b := by
  have : a ^^^ c ^^^ c = b ^^^ c ^^^ c := by rw [h]
  rwa [Nat.xor_assoc, Nat.xor_self, Nat.xor_zero, Nat.xor_assoc, Nat.xor_self, Nat.xor_zero] at this
theorem xor_cancel' {a b c : Nat} (h : c ^^^ a = c ^^^ b) : a = b := by
  rw [Nat.xor_comm c a, Nat.xor_comm c b] at h; exact xor_cancel h
theorem sumFrom_inj : ∀ (bs : List Nat) {a b : Nat}, a < 4294967296 → b < 4294967296 → Bytes bs → sumFrom a bs = sumFrom b bs → a = b
  | [], _, _, _, _, _, h => h
  | c :: bs, a, b, ha, hb, hc, h => by
    have c1 : c < 256 := hc c (by simp)
    have x1 : a ^^^ c < 4294967296 := Nat.xor_lt_two_pow (n := 32) ha (by omega)
    have x2 : b ^^^ c < 4294967296 := Nat.xor_lt_two_pow (n := 32) hb (by omega)
    exact xor_cancel (stepsN_inj 8 x1 x2 (sumFrom_inj bs (stepsN_lt 8 x1) (stepsN_lt 8 x2) (fun x hx => hc x (by simp [hx])) h))
theorem sumFrom_set : ∀ (bs : List Nat) {a i x : Nat}, a < 4294967296 → Bytes bs → x < 256 → i < bs.length → sumFrom a (bs.set i x) = sumFrom a bs → bs[i]? = some x
  | [], _, _, _, _, _, _, hi, _ => absurd hi (by simp)
  | c :: bs, a, 0, x, ha, hc, hx, _, h => by
    have c1 : c < 256 := hc c (by simp)
    have x1 : a ^^^ c < 4294967296 := Nat.xor_lt_two_pow (n := 32) ha (by omega)
    have x2 : a ^^^ x < 4294967296 := Nat.xor_lt_two_pow (n := 32) ha (by omega)
    have := xor_cancel' (stepsN_inj 8 x2 x1 (sumFrom_inj bs (stepsN_lt 8 x2) (stepsN_lt 8 x1) (fun y hy => hc y (by simp [hy])) h))
    simp [this]
  | c :: bs, a, i + 1, x, ha, hc, hx, hi, h => by
    have c1 : c < 256 := hc c (by simp)
    have x1 : a ^^^ c < 4294967296 := Nat.xor_lt_two_pow (n := 32) ha (by omega)
    have := sumFrom_set bs (a := stepsN (a ^^^ c) 8) (i := i) (stepsN_lt 8 x1) (fun y hy => hc y (by simp [hy])) hx (by simpa using hi) h
    simpa using this
theorem sumL_set {bs : List Nat} {i x : Nat} (hb : Bytes bs) (hx : x < 256) (hi : i < bs.length) (h : sumL (bs.set i x) = sumL bs) : bs[i]? = some x :=
  sumFrom_set bs (by decide) hb hx hi (xor_cancel' h)

/-! ### what is sealed -/
/-- Whether what was sealed is still so. -/
def openedP (b : List Nat) : Bool := decide (fromL (b.drop (b.length - 4)) = sumL (b.take (b.length - 4)))
/-- What is opened, and why not. -/
def openR (b : List Nat) : List Nat × Int := if b.length < 4 then ([], 10) else if openedP b = true then (b.take (b.length - 4), 0) else ([], 20)
theorem openR_seal {bs : List Nat} (hb : Bytes bs) : openR (sealL bs) = (bs, 0) := by
  unfold openR openedP
  rw [if_neg (by rw [sealL_len]; omega)]
  have e : (sealL bs).length - 4 = bs.length := by rw [sealL_len]; omega
  rw [e, if_pos]
  · rw [sealL, List.take_left' rfl]
  · rw [sealL, List.take_left' rfl, List.drop_left' rfl, fromL_bigL, Nat.mod_eq_of_lt (by have := sumL_lt hb; omega)]
    simp
theorem set_ne_of_at {l : List Nat} {i x : Nat} (hi : i < l.length) (h : l.set i x = l) : l[i]? = some x := by
  rw [← h, List.getElem?_set_self hi]
/-- With one byte turned it is not. -/
theorem openR_spoilt {bs : List Nat} {i x : Nat} (hb : Bytes bs) (hx : x < 256) (hi : i < (sealL bs).length) (hne : (sealL bs)[i]? ≠ some x) : openR ((sealL bs).set i x) = ([], 20) := by
  unfold openR openedP
  have hl : ((sealL bs).set i x).length = bs.length + 4 := by rw [List.length_set, sealL_len]
  rw [hl, if_neg (by omega), Nat.add_sub_cancel]
  rw [if_neg]
  intro hc
  have hc := of_decide_eq_true hc
  have hsum := sumL_lt (bs := bs) hb
  by_cases hlt : i < bs.length
  · have e1 : (sealL bs).set i x = bs.set i x ++ bigL (sumL bs) 4 4 := by rw [sealL, List.set_append_left _ _ hlt]
    rw [e1, List.take_left' (List.length_set), List.drop_left' (List.length_set), fromL_bigL, Nat.mod_eq_of_lt (by omega)] at hc
    have := sumL_set hb hx hlt hc.symm
    apply hne
    rw [sealL, List.getElem?_append_left hlt]; exact this
  · have e1 : (sealL bs).set i x = bs ++ (bigL (sumL bs) 4 4).set (i - bs.length) x := by rw [sealL, List.set_append_right _ _ (by omega)]
    rw [e1, List.take_left' rfl, List.drop_left' rfl] at hc
    have hg : fromL (bigL (sumL bs) 4 4) = sumL bs := by rw [fromL_bigL, Nat.mod_eq_of_lt (by omega)]
    have hset := fromL_inj ((bigL (sumL bs) 4 4).set (i - bs.length) x) (bigL (sumL bs) 4 4) (by rw [List.length_set]) (fun y hy => by
      rcases List.mem_or_eq_of_mem_set hy with h | rfl
      · exact bigL_bytes _ _ _ y h
      · exact hx) (bigL_bytes _ _ _) (hc.trans hg.symm)
    have hi4 : i - bs.length < (bigL (sumL bs) 4 4).length := by rw [sealL_len] at hi; rw [bigL_len]; omega
    apply hne
    rw [sealL, List.getElem?_append_right (by omega)]
    exact set_ne_of_at hi4 hset
end Go.Wm
