/-
  Producers as bytes, in plain Lean. Conditions: none.
-/
import Derived.Test.YtfejamdfhbamcaaB4
import Derived.Test.YtfejamdfhbamcaaCrP
import Derived.Test.YtfejamdfhbamcaaM2
set_option linter.all false
namespace Go.Wm
/-- A number, its greatest byte first. -/
def fromL (bs : List Nat) : Nat := bs.foldl (fun n x => n * 256 + x) 0
/-- What is read of a number of k bytes, and why not. -/
def getR (b : List Nat) (at' : Int) (k : Nat) : Nat × Int :=
  if at' < 0 then (0, 1) else if b.length < at'.toNat + k then (0, 10) else (fromL ((b.drop at'.toNat).take k), 0)
/-- Seven bits a byte: what is read, how many bytes, and why not. -/
def varR : Nat → Nat → List Nat → (Nat × Nat) × Int
  | _, _, [] => ((0, 0), 10)
  | i, z, x :: r => if (i = 9 ∧ 1 < x) ∨ (0 < i ∧ x = 0) then ((0, 0), 11) else if x < 128 then ((z + x * 128 ^ i, i + 1), 0) else varR (i + 1) (z + (x - 128) * 128 ^ i) r
def unzig (z : Nat) : Int := if z % 2 = 1 then -((z / 2 : Nat) : Int) - 1 else ((z / 2 : Nat) : Int)
def getVarR (b : List Nat) (at' : Int) : Int × Int × Int :=
  if at' < 0 then (0, 0, 1) else if (varR 0 0 (b.drop at'.toNat)).2 = 0 then (unzig (varR 0 0 (b.drop at'.toNat)).1.1, at' + ((varR 0 0 (b.drop at'.toNat)).1.2 : Nat), 0) else (0, 0, (varR 0 0 (b.drop at'.toNat)).2)
def strOf (bs : List Nat) : ByteArray := ⟨(bs.map (·.toUInt8)).toArray⟩
/-- A text behind its length (n, where it begins, why not). -/
def textQ (b : List Nat) (most : Int) (q : Int × Int × Int) : ByteArray × Int × Int :=
  if q.2.2 ≠ 0 then (⟨#[]⟩, 0, q.2.2) else if q.1 < 0 then (⟨#[]⟩, 0, 11) else if most < q.1 then (⟨#[]⟩, 0, 2)
  else if (b.length : Int) - q.2.1 < q.1 then (⟨#[]⟩, 0, 10)
  else (strOf ((b.drop q.2.1.toNat).take q.1.toNat), q.2.1 + q.1, 0)
def getTextR (b : List Nat) (at' most : Int) : ByteArray × Int × Int := textQ b most (getVarR b at')

theorem foldl_256 (xs : List Nat) : ∀ a, xs.foldl (fun n x => n * 256 + x) a = a * 256 ^ xs.length + fromL xs := by
  induction xs with
  | nil => intro a; simp [fromL]
  | cons x xs ih =>
    intro a
    have h := ih (0 * 256 + x)
    have e : fromL (x :: xs) = (0 * 256 + x) * 256 ^ xs.length + fromL xs := h
    rw [e, List.foldl_cons, ih, List.length_cons, Nat.pow_succ, Nat.add_mul, Nat.zero_mul, Nat.zero_add, Nat.mul_assoc, Nat.mul_comm 256, Nat.add_assoc]
theorem fromL_snoc (xs : List Nat) (x : Nat) : fromL (xs ++ [x]) = fromL xs * 256 + x := by simp [fromL]
theorem fromL_append (xs ys : List Nat) : fromL (xs ++ ys) = fromL xs * 256 ^ ys.length + fromL ys := by
  unfold fromL; rw [List.foldl_append]; exact foldl_256 ys _
theorem fromL_lt : ∀ (xs : List Nat), (∀ x ∈ xs, x < 256) → fromL xs < 256 ^ xs.length := by
  intro xs
  induction xs with
  | nil => intro _; simp [fromL]
  | cons x xs ih =>
    intro h
    have h1 := ih fun y hy => h y (by simp [hy])
    have h2 := h x (by simp)
    have e : fromL (x :: xs) = x * 256 ^ xs.length + fromL xs := by
      have := fromL_append [x] xs
      simpa [fromL] using this
    rw [e, List.length_cons, Nat.pow_succ]
    have : (x + 1) * 256 ^ xs.length ≤ 256 * 256 ^ xs.length := Nat.mul_le_mul_right _ h2
    rw [Nat.add_mul] at this; omega
/-! ### seven bits a byte -/
theorem varR_le : ∀ (l : List Nat) (i z : Nat), (varR i z l).2 = 0 → i < (varR i z l).1.2 ∧ (varR i z l).1.2 ≤ i + l.length := by
  intro l
  induction l with
  | nil => intro i z h; simp [varR] at h
  | cons x r ih =>
    intro i z h
    unfold varR at h ⊢
    split at h
    · simp at h
    · rename_i h1
      rw [if_neg h1]
      split at h
      · rename_i h2; rw [if_pos h2]; simp
      · rename_i h2; rw [if_neg h2]
        have := ih _ _ h
        simp only [List.length_cons]; omega
theorem unzig_zig {n : Int} : unzig (if n < 0 then (2 * (-(n + 1)) + 1).toNat else (2 * n).toNat) = n := by
  unfold unzig
  by_cases h : n < 0
  · rw [if_pos h, if_pos (by omega)]; omega
  · rw [if_neg h, if_neg (by omega)]; omega
theorem getVarR_le {b : List Nat} {at' : Int} (h : (getVarR b at').2.2 = 0) : 0 ≤ at' ∧ at' < (getVarR b at').2.1 ∧ (getVarR b at').2.1 ≤ b.length := by
  unfold getVarR at h ⊢
  split at h
  · simp at h
  · rename_i h1
    rw [if_neg h1]
    split at h
    · rename_i h2
      rw [if_pos h2]
      have h3 := varR_le _ _ _ h2
      simp only [List.length_drop] at h3
      have hl : at'.toNat ≤ b.length := by
        apply Decidable.byContradiction; intro hc
        rw [List.drop_eq_nil_of_le (by omega)] at h2
        simp [varR] at h2
      refine ⟨by omega, by simp only; omega, by simp only; omega⟩
    · rename_i h2; exact absurd h h2
theorem pow128 (i : Nat) : (128 : Nat) ^ (i + 1) = 128 * 128 ^ i := by rw [Nat.pow_succ, Nat.mul_comm]
/-- What was written is read. -/
theorem varR_varL (z : Nat) : ∀ (i acc : Nat) (r : List Nat), z * 128 ^ i < 18446744073709551616 → i ≤ 9 → (0 < i → 0 < z) → varR i acc (varL z ++ r) = ((acc + z * 128 ^ i, i + (varL z).length), 0) := by
  induction z using Nat.strongRecOn with
  | _ z ih =>
    intro i acc r hz hi hp
    by_cases h : z < 128
    · rw [varL_lt h]
      simp only [List.cons_append, List.nil_append, varR, List.length_cons, List.length_nil]
      rw [if_neg ?_, if_pos h]
      rintro (⟨rfl, h1⟩ | ⟨h1, rfl⟩)
      · have : 2 * 128 ^ 9 ≤ z * 128 ^ 9 := Nat.mul_le_mul_right _ h1
        omega
      · exact absurd (hp h1) (by decide)
    · rw [varL_ge h]
      have hq : z / 128 * 128 ^ (i + 1) ≤ z * 128 ^ i := by
        rw [pow128, ← Nat.mul_assoc]
        exact Nat.mul_le_mul_right _ (by omega)
      have hi8 : i < 9 := by
        apply Decidable.byContradiction; intro hc
        have : i = 9 := by omega
        subst this
        have : 128 * 128 ^ 9 ≤ z * 128 ^ 9 := Nat.mul_le_mul_right _ (by omega)
        omega
      simp only [List.cons_append, varR]
      rw [if_neg (by omega), if_neg (by omega), ih (z / 128) (by omega) (i + 1) _ r (by omega) (by omega) (by omega), List.length_cons]
      have e : acc + (128 + z % 128 - 128) * 128 ^ i + z / 128 * 128 ^ (i + 1) = acc + z * 128 ^ i := by
        rw [pow128, ← Nat.mul_assoc, Nat.add_assoc, ← Nat.add_mul]
        congr 2; omega
      rw [e]
      congr 2
      omega
theorem getVarR_at {p r : List Nat} {n : Int} (hn : I64 n) : getVarR (p ++ (varL (zigN n) ++ r)) (p.length : Int) = (n, ((p.length + (varL (zigN n)).length : Nat) : Int), 0) := by
  unfold getVarR
  have h := varR_varL (zigN n) 0 0 r (by have := zigN_lt hn; omega) (by omega) (by omega)
  rw [if_neg (by omega), show ((p.length : Int)).toNat = p.length from rfl, List.drop_left' rfl, h]
  simp only [if_true]
  have hu : unzig (0 + zigN n * 128 ^ 0) = n := by
    rw [Nat.zero_add, Nat.pow_zero, Nat.mul_one]; exact unzig_zig
  rw [hu]
  simp
theorem fromL_bigL : ∀ (k n : Nat), fromL (bigL n k k) = n % 256 ^ k := by
  have key : ∀ (i k n : Nat), i ≤ k → fromL (bigL n k i) = n / 256 ^ (k - i) % 256 ^ i := by
    intro i
    induction i with
    | zero => intro k n _; simp [bigL, fromL, Nat.mod_one]
    | succ i ih =>
      intro k n hik
      have hb : bigL n k (i + 1) = bigL n k i ++ [n / 256 ^ (k - 1 - i) % 256] := by simp [bigL, List.range_succ]
      rw [hb, fromL_snoc, ih k n (by omega)]
      have e1 : k - i = (k - (i + 1)) + 1 := by omega
      have e2 : k - 1 - i = k - (i + 1) := by omega
      rw [e1, e2, Nat.pow_succ, ← Nat.div_div_eq_div_mul, Nat.pow_succ, Nat.mul_comm (256 ^ i), Nat.mod_mul]
      omega
  intro k n
  have := key k k n (Nat.le_refl _)
  simpa using this
/-! ### sums tell what was changed -/
/-! ### what is sealed -/
/-- Whether what was sealed is still so. -/
def openedP (b : List Nat) : Bool := decide (fromL (b.drop (b.length - 4)) = sumL (b.take (b.length - 4)))
/-- What is opened, and why not. -/
def openR (b : List Nat) : List Nat × Int := if b.length < 4 then ([], 10) else if openedP b = true then (b.take (b.length - 4), 0) else ([], 20)
theorem openR_seal {bs : List Nat} (hb : Bytes bs) : openR (sealL bs) = (bs, 0) := by
  unfold openR openedP
  rw [if_neg (by rw [sealL_len]; omega)]
  have e : (sealL bs).length - 4 = bs.length := by rw [sealL_len]; omega
  rw [e, if_pos]
  · rw [sealL, List.take_left' rfl]
  · rw [sealL, List.take_left' rfl, List.drop_left' rfl, fromL_bigL, Nat.mod_eq_of_lt (by have := sumL_lt hb; omega)]
    simp
end Go.Wm
namespace Go.Wm
/-! ### producers as bytes -/
def didL (d : Did) : List Nat := varL (zigN d.seq) ++ varL (zigN d.last) ++ varL (zigN d.base)
def prodHead (p : ProdT) : List Nat := varL (zigN p.pid) ++ varL (zigN p.gen) ++ varL (zigN (p.did.length : Int))
def prodL (p : ProdT) : List Nat := prodHead p ++ p.did.flatMap didL
def prodsL (l : List ProdT) : List Nat := varL (zigN (l.length : Int)) ++ l.flatMap prodL
def saveP (l : List ProdT) : List Nat × Int := if chkP l = 0 then (sealL (prodsL l), 0) else ([], chkP l)
def numR (b : List Nat) (at' : Int) : Option (Int × Int) := if (getVarR b at').2.2 = 0 then some ((getVarR b at').1, (getVarR b at').2.1) else none
def didR (b : List Nat) (at' : Int) : Option (Did × Int) :=
  (numR b at').bind fun x => (numR b x.2).bind fun y => (numR b y.2).bind fun z => some (⟨x.1, y.1, z.1⟩, z.2)
def didsR (b : List Nat) (m : Int) : Nat → List Did → Int → Option (List Did × Int)
  | 0, acc, at' => some (acc, at')
  | f + 1, acc, at' => if (acc.length : Int) < m then (didR b at').bind fun q => didsR b m f (acc ++ [q.1]) q.2 else some (acc, at')
def prodR (b : List Nat) (at' : Int) : Option (ProdT × Int) :=
  (numR b at').bind fun x => (numR b x.2).bind fun y => (numR b y.2).bind fun z => (didsR b z.1 6 [] z.2).bind fun q => some (⟨x.1, y.1, q.1⟩, q.2)
def prodsR (b : List Nat) (n : Int) : Nat → List ProdT → Int → Option (List ProdT)
  | 0, acc, _ => some acc
  | f + 1, acc, at' => if (acc.length : Int) < n then (prodR b at').bind fun q => prodsR b n f (acc ++ [q.1]) q.2 else some acc
def readP (b : List Nat) : Option (List ProdT) := (numR b 0).bind fun q => prodsR b q.1 1025 [] q.2
def loadP (b : List Nat) : List ProdT × Int := if (openR b).2 ≠ 0 then ([], (openR b).2) else match readP (openR b).1 with
  | none => ([], 11)
  | some l => if chkP l = 0 ∧ sealL (prodsL l) = b then (l, 0) else ([], 11)
theorem numR_at {p r : List Nat} {n : Int} (hn : I64 n) : numR (p ++ (varL (zigN n) ++ r)) (p.length : Int) = some (n, ((p ++ varL (zigN n)).length : Int)) := by
  unfold numR; rw [getVarR_at hn, List.length_append]; rfl
theorem didR_at {p r : List Nat} {d : Did} (h : didOk d = true) : didR (p ++ (didL d ++ r)) (p.length : Int) = some (d, ((p ++ didL d).length : Int)) := by
  unfold didOk at h
  simp only [Bool.and_eq_true, inI_iff] at h
  obtain ⟨h1, h2, h3⟩ := h
  have e1 : numR (p ++ (didL d ++ r)) (p.length : Int) = some (d.seq, ((p ++ varL (zigN d.seq)).length : Int)) := by
    have := numR_at (p := p) (n := d.seq) (r := varL (zigN d.last) ++ varL (zigN d.base) ++ r) (by unfold I64; omega)
    unfold didL; simp only [List.append_assoc] at this ⊢; exact this
  have e2 : numR (p ++ (didL d ++ r)) ((p ++ varL (zigN d.seq)).length : Int) = some (d.last, ((p ++ varL (zigN d.seq) ++ varL (zigN d.last)).length : Int)) := by
    have := numR_at (p := p ++ varL (zigN d.seq)) (n := d.last) (r := varL (zigN d.base) ++ r) (by unfold I64; omega)
    unfold didL; simp only [List.append_assoc] at this ⊢; exact this
  have e3 : numR (p ++ (didL d ++ r)) ((p ++ varL (zigN d.seq) ++ varL (zigN d.last)).length : Int) = some (d.base, ((p ++ varL (zigN d.seq) ++ varL (zigN d.last) ++ varL (zigN d.base)).length : Int)) := by
    have := numR_at (p := p ++ varL (zigN d.seq) ++ varL (zigN d.last)) (n := d.base) (r := r) (by unfold I64; omega)
    unfold didL; simp only [List.append_assoc] at this ⊢; exact this
  unfold didR
  rw [e1]; simp only [Option.bind_some]
  rw [e2]; simp only [Option.bind_some]
  rw [e3]; simp only [Option.bind_some]
  unfold didL; simp only [List.append_assoc]
theorem didsR_at {m : Nat} : ∀ (ds acc : List Did) (f : Nat) (p r : List Nat), (∀ d ∈ ds, didOk d = true) → acc.length + ds.length = m → ds.length < f →
    didsR (p ++ (ds.flatMap didL ++ r)) (m : Int) f acc (p.length : Int) = some (acc ++ ds, ((p ++ ds.flatMap didL).length : Int)) := by
  intro ds
  induction ds with
  | nil =>
    intro acc f p r _ hm hf
    obtain ⟨f, rfl⟩ : ∃ g, f = g + 1 := ⟨f - 1, by simp at hf; omega⟩
    simp only [List.length_nil, Nat.add_zero] at hm
    unfold didsR; rw [if_neg (by omega)]; simp
  | cons d ds ih =>
    intro acc f p r hd hm hf
    obtain ⟨f, rfl⟩ : ∃ g, f = g + 1 := ⟨f - 1, by simp at hf; omega⟩
    simp only [List.length_cons] at hm hf
    unfold didsR; rw [if_pos (by omega)]
    have e1 : didR (p ++ ((d :: ds).flatMap didL ++ r)) (p.length : Int) = some (d, ((p ++ didL d).length : Int)) := by
      have := didR_at (p := p) (r := ds.flatMap didL ++ r) (hd d (by simp))
      simp only [List.flatMap_cons, List.append_assoc] at this ⊢; exact this
    rw [e1]; simp only [Option.bind_some]
    have := ih (acc ++ [d]) f (p ++ didL d) r (fun x hx => hd x (by simp [hx])) (by simp; omega) (by omega)
    have e2 : p ++ ((d :: ds).flatMap didL ++ r) = p ++ didL d ++ (ds.flatMap didL ++ r) := by simp
    rw [e2, this]
    simp only [List.flatMap_cons, List.append_assoc, List.cons_append, List.nil_append]
theorem prodR_at {p r : List Nat} {q : ProdT} (h : prodOk q = true) : prodR (p ++ (prodL q ++ r)) (p.length : Int) = some (q, ((p ++ prodL q).length : Int)) := by
  obtain ⟨h1, h2, h3, h4⟩ := prodOk_iff.1 h
  have e1 : numR (p ++ (prodL q ++ r)) (p.length : Int) = some (q.pid, ((p ++ varL (zigN q.pid)).length : Int)) := by
    have := numR_at (p := p) (n := q.pid) (r := varL (zigN q.gen) ++ varL (zigN (q.did.length : Int)) ++ q.did.flatMap didL ++ r) (by unfold I64; omega)
    unfold prodL prodHead; simp only [List.append_assoc] at this ⊢; exact this
  have e2 : numR (p ++ (prodL q ++ r)) ((p ++ varL (zigN q.pid)).length : Int) = some (q.gen, ((p ++ varL (zigN q.pid) ++ varL (zigN q.gen)).length : Int)) := by
    have := numR_at (p := p ++ varL (zigN q.pid)) (n := q.gen) (r := varL (zigN (q.did.length : Int)) ++ q.did.flatMap didL ++ r) (by unfold I64; omega)
    unfold prodL prodHead; simp only [List.append_assoc] at this ⊢; exact this
  have e3 : numR (p ++ (prodL q ++ r)) ((p ++ varL (zigN q.pid) ++ varL (zigN q.gen)).length : Int) = some ((q.did.length : Int), ((p ++ prodHead q).length : Int)) := by
    have := numR_at (p := p ++ varL (zigN q.pid) ++ varL (zigN q.gen)) (n := (q.did.length : Int)) (r := q.did.flatMap didL ++ r) (by unfold I64; omega)
    unfold prodL prodHead; simp only [List.append_assoc] at this ⊢; exact this
  have e4 := didsR_at (m := q.did.length) q.did [] 6 (p ++ prodHead q) r (dids_mem h4) (by simp) (by omega)
  have e5 : p ++ prodHead q ++ (q.did.flatMap didL ++ r) = p ++ (prodL q ++ r) := by unfold prodL; simp
  rw [e5] at e4
  unfold prodR
  rw [e1]; simp only [Option.bind_some]
  rw [e2]; simp only [Option.bind_some]
  rw [e3]; simp only [Option.bind_some]
  rw [e4]; simp only [Option.bind_some]
  unfold prodL; simp only [List.append_assoc, List.nil_append]
theorem prodsR_at {n : Nat} : ∀ (l acc : List ProdT) (f : Nat) (p r : List Nat), (∀ d ∈ l, prodOk d = true) → acc.length + l.length = n → l.length < f →
    prodsR (p ++ (l.flatMap prodL ++ r)) (n : Int) f acc (p.length : Int) = some (acc ++ l) := by
  intro l
  induction l with
  | nil =>
    intro acc f p r _ hm hf
    obtain ⟨f, rfl⟩ : ∃ g, f = g + 1 := ⟨f - 1, by simp at hf; omega⟩
    simp only [List.length_nil, Nat.add_zero] at hm
    unfold prodsR; rw [if_neg (by omega)]; simp
  | cons d l ih =>
    intro acc f p r hd hm hf
    obtain ⟨f, rfl⟩ : ∃ g, f = g + 1 := ⟨f - 1, by simp at hf; omega⟩
    simp only [List.length_cons] at hm hf
    unfold prodsR; rw [if_pos (by omega)]
    have e1 : prodR (p ++ ((d :: l).flatMap prodL ++ r)) (p.length : Int) = some (d, ((p ++ prodL d).length : Int)) := by
      have := prodR_at (p := p) (r := l.flatMap prodL ++ r) (hd d (by simp))
      simp only [List.flatMap_cons, List.append_assoc] at this ⊢; exact this
    rw [e1]; simp only [Option.bind_some]
    have := ih (acc ++ [d]) f (p ++ prodL d) r (fun x hx => hd x (by simp [hx])) (by simp; omega) (by omega)
    have e2 : p ++ ((d :: l).flatMap prodL ++ r) = p ++ prodL d ++ (l.flatMap prodL ++ r) := by simp
    rw [e2, this]
    simp
theorem readP_at {l : List ProdT} (h : chkP l = 0) : readP (prodsL l) = some l := by
  obtain ⟨h1, h2⟩ := chk_zero.1 h
  have e1 : numR (prodsL l) 0 = some ((l.length : Int), ((varL (zigN (l.length : Int))).length : Int)) := by
    have := numR_at (p := []) (n := (l.length : Int)) (r := l.flatMap prodL) (by unfold I64; omega)
    simpa [prodsL] using this
  have e2 := prodsR_at (n := l.length) l [] 1025 (varL (zigN (l.length : Int))) [] ((prods_iff l).1 h2).1 (by simp) (by omega)
  unfold readP
  rw [e1]; simp only [Option.bind_some]
  simpa [prodsL] using e2
theorem prodsL_bytes (l : List ProdT) : Bytes (prodsL l) := (varL_bytes _).append fun x hx => by
  obtain ⟨p, _, hp⟩ := List.mem_flatMap.1 hx
  refine ((((varL_bytes _).append (varL_bytes _)).append (varL_bytes _)).append fun y hy => ?_) x hp
  obtain ⟨d, _, hd⟩ := List.mem_flatMap.1 hy
  exact (((varL_bytes _).append (varL_bytes _)).append (varL_bytes _)) y hd
/-- What was saved is loaded. -/
theorem loadP_save {l : List ProdT} (h : chkP l = 0) : loadP (saveP l).1 = (l, 0) := by
  unfold saveP; rw [if_pos h]
  unfold loadP
  rw [openR_seal (prodsL_bytes l)]
  simp only [ne_eq, not_true_eq_false, if_false]
  rw [readP_at h]
  dsimp only
  rw [if_pos ⟨h, rfl⟩]
end Go.Wm
