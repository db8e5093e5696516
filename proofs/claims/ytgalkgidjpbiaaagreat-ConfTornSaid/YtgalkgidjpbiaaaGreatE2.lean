/-
  Steps read from bytes, in plain Lean: what was saved is loaded; what is cut off or spoilt is not. Conditions: none.
-/
import Derived.Test.YtgalkgidjpbiaaaGreatE1
import Derived.Test.YtgalkgidjpbiaaaGreatV1
import Derived.Test.YtgalkgidjpbiaaaGreatC2
set_option linter.all false
namespace Go.Wm
/-- A step's body, from its first byte on; and where it ends. -/
def parseS (b : List Nat) : Option (Step × Int) :=
  if (getR b 0 1).2 = 0 ∧ (getTextR b 1 64).2.2 = 0 ∧ (getTextR b (getTextR b 1 64).2.1 64).2.2 = 0 ∧ (getVarR b (getTextR b (getTextR b 1 64).2.1 64).2.1).2.2 = 0 ∧
    (getVarR b (getVarR b (getTextR b (getTextR b 1 64).2.1 64).2.1).2.1).2.2 = 0 ∧ (getVarR b (getVarR b (getVarR b (getTextR b (getTextR b 1 64).2.1 64).2.1).2.1).2.1).2.2 = 0
  then some (⟨(getR b 0 1).1, (getTextR b 1 64).1, (getTextR b (getTextR b 1 64).2.1 64).1, (getVarR b (getTextR b (getTextR b 1 64).2.1 64).2.1).1,
    (getVarR b (getVarR b (getTextR b (getTextR b 1 64).2.1 64).2.1).2.1).1, (getVarR b (getVarR b (getVarR b (getTextR b (getTextR b 1 64).2.1 64).2.1).2.1).2.1).1⟩,
    (getVarR b (getVarR b (getVarR b (getTextR b (getTextR b 1 64).2.1 64).2.1).2.1).2.1).2.1) else none
theorem parseS_append {b r : List Nat} {q : Step × Int} (h : parseS b = some q) : parseS (b ++ r) = some q := by
  unfold parseS at h
  split at h
  · rename_i h1
    obtain ⟨h1, h2, h3, h4, h5, h6⟩ := h1
    unfold parseS
    rw [getR_append h1, getTextR_append h2, getTextR_append h3, getVarR_append h4, getVarR_append h5, getVarR_append h6, if_pos ⟨h1, h2, h3, h4, h5, h6⟩]
    exact h
  · cases h
def readS (b : List Nat) : Option Step := match parseS b with
  | some (s, e) => if e = b.length then some s else none
  | none => none
theorem readS_some {b : List Nat} {s : Step} (h : readS b = some s) : parseS b = some (s, (b.length : Int)) := by
  unfold readS at h
  split at h
  · rename_i s' e he
    split at h
    · rename_i hl; subst hl; cases h; exact he
    · cases h
  · cases h
/-- A body is read up to its own end alone. -/
theorem readS_own {b r : List Nat} {s t : Step} (h : readS b = some s) (h' : readS (b ++ r) = some t) : r = [] := by
  have h1 := parseS_append (r := r) (readS_some h)
  rw [readS_some h'] at h1
  simp only [Option.some.injEq, Prod.mk.injEq, List.length_append] at h1
  exact List.eq_nil_of_length_eq_zero (by omega)
theorem getR_first {n : Nat} (hn : n < 256) (r : List Nat) : getR (bigL n 1 1 ++ r) 0 1 = (n, 0) := by
  have := getR_at (p := []) (r := r) (n := n) (k := 1) (by omega)
  simpa using this
theorem parseS_stepL {s : Step} (hok : I64 s.a ∧ I64 s.b ∧ I64 s.c) (h : formS s = true) : parseS (stepL s) = some (s, ((stepL s).length : Int)) := by
  obtain ⟨k1, k8⟩ := form_kind h
  obtain ⟨z1, z2⟩ := name_le h
  obtain ⟨oa, ob, oc⟩ := hok
  obtain ⟨kn, hkn⟩ : ∃ kn, s.kind.toNat = kn := ⟨_, rfl⟩
  have hk : s.kind = (kn : Int) := by omega
  have e0 : (getR (stepL s) 0 1) = (kn, 0) := by
    unfold stepL; rw [hkn]; simp only [List.append_assoc]; exact getR_first (by omega) _
  have e1 : getTextR (stepL s) 1 64 = (s.name, ((bigL kn 1 1 ++ textL s.name).length : Int), 0) := by
    have := getTextR_at (p := bigL kn 1 1) (s := s.name) (r := textL s.topic ++ varL (zigN s.a) ++ varL (zigN s.b) ++ varL (zigN s.c)) (most := 64) (by omega) (by omega)
    rw [bigL_len] at this
    unfold stepL; rw [hkn, List.length_append, bigL_len]
    simp only [List.append_assoc] at this ⊢; exact this
  have e2 : getTextR (stepL s) ((bigL kn 1 1 ++ textL s.name).length : Int) 64 = (s.topic, ((bigL kn 1 1 ++ textL s.name ++ textL s.topic).length : Int), 0) := by
    have := getTextR_at (p := bigL kn 1 1 ++ textL s.name) (s := s.topic) (r := varL (zigN s.a) ++ varL (zigN s.b) ++ varL (zigN s.c)) (most := 64) (by omega) (by omega)
    unfold stepL; rw [hkn, List.length_append (bs := textL s.topic)]
    simp only [List.append_assoc] at this ⊢; exact this
  have e3 : getVarR (stepL s) ((bigL kn 1 1 ++ textL s.name ++ textL s.topic).length : Int) = (s.a, ((bigL kn 1 1 ++ textL s.name ++ textL s.topic ++ varL (zigN s.a)).length : Int), 0) := by
    have := getVarR_at (p := bigL kn 1 1 ++ textL s.name ++ textL s.topic) (n := s.a) (r := varL (zigN s.b) ++ varL (zigN s.c)) oa
    unfold stepL; rw [hkn, List.length_append (bs := varL (zigN s.a))]
    simp only [List.append_assoc] at this ⊢; exact this
  have e4 : getVarR (stepL s) ((bigL kn 1 1 ++ textL s.name ++ textL s.topic ++ varL (zigN s.a)).length : Int) = (s.b, ((bigL kn 1 1 ++ textL s.name ++ textL s.topic ++ varL (zigN s.a) ++ varL (zigN s.b)).length : Int), 0) := by
    have := getVarR_at (p := bigL kn 1 1 ++ textL s.name ++ textL s.topic ++ varL (zigN s.a)) (n := s.b) (r := varL (zigN s.c)) ob
    unfold stepL; rw [hkn, List.length_append (bs := varL (zigN s.b))]
    simp only [List.append_assoc] at this ⊢; exact this
  have e5 : getVarR (stepL s) ((bigL kn 1 1 ++ textL s.name ++ textL s.topic ++ varL (zigN s.a) ++ varL (zigN s.b)).length : Int) = (s.c, ((bigL kn 1 1 ++ textL s.name ++ textL s.topic ++ varL (zigN s.a) ++ varL (zigN s.b) ++ varL (zigN s.c)).length : Int), 0) := by
    have := getVarR_at (p := bigL kn 1 1 ++ textL s.name ++ textL s.topic ++ varL (zigN s.a) ++ varL (zigN s.b)) (n := s.c) (r := []) oc
    unfold stepL; rw [hkn, List.length_append (bs := varL (zigN s.c))]
    simp only [List.append_assoc, List.append_nil] at this ⊢; exact this
  unfold parseS
  rw [e0, e1]; dsimp only
  rw [e2]; dsimp only
  rw [e3]; dsimp only
  rw [e4]; dsimp only
  rw [e5]
  rw [if_pos ⟨rfl, rfl, rfl, rfl, rfl, rfl⟩]
  congr 2
  cases s; simp only [Step.mk.injEq, and_true] at hk ⊢; exact hk.symm
theorem readS_stepL {s : Step} (hok : I64 s.a ∧ I64 s.b ∧ I64 s.c) (h : formS s = true) : readS (stepL s) = some s := by
  unfold readS; rw [parseS_stepL hok h]; simp
theorem stepL_bytes (s : Step) : Bytes (stepL s) := (((((bigL_bytes _ _ _).append (textL_bytes _)).append (textL_bytes _)).append (varL_bytes _)).append (varL_bytes _)).append (varL_bytes _)
theorem stepL_len {s : Step} (hok : I64 s.a ∧ I64 s.b ∧ I64 s.c) (h : formS s = true) : 6 ≤ (stepL s).length ∧ (stepL s).length ≤ 179 := by
  obtain ⟨z1, z2⟩ := name_le h
  obtain ⟨oa, ob, oc⟩ := hok
  have t1 := textL_len z1; have t2 := textL_len z2
  have v1 := varL_ten (zigN_lt oa); have v2 := varL_ten (zigN_lt ob); have v3 := varL_ten (zigN_lt oc)
  have p1 := varL_pos (zigN s.a); have p2 := varL_pos (zigN s.b); have p3 := varL_pos (zigN s.c)
  have p4 := varL_pos (zigN (s.name.size : Int)); have p5 := varL_pos (zigN (s.topic.size : Int))
  have l1 : (textL s.name).length = (varL (zigN (s.name.size : Int))).length + s.name.size := by unfold textL; rw [List.length_append, strB_len]
  have l2 : (textL s.topic).length = (varL (zigN (s.topic.size : Int))).length + s.topic.size := by unfold textL; rw [List.length_append, strB_len]
  unfold stepL
  simp only [List.length_append, bigL_len]
  omega

def noStep : Step := ⟨0, ⟨#[]⟩, ⟨#[]⟩, 0, 0, 0⟩
/-- The step behind its sealed body. -/
def bodyR (o : List Nat × Int) (next : Int) : Step × Int × Int :=
  if o.2 ≠ 0 then (noStep, 0, o.2) else match readS o.1 with
    | none => (noStep, 0, 11)
    | some s => if formS s = true then (s, next, 0) else (noStep, 0, 11)
/-- What is loaded from a place on, where the next one begins, and why not. -/
def loadR (b : List Nat) (at' : Int) : Step × Int × Int :=
  if (getR b at' 4).2 ≠ 0 then (noStep, 0, (getR b at' 4).2) else if (getR b at' 4).1 < 5 ∨ 4092 < (getR b at' 4).1 then (noStep, 0, 11)
  else if b.length < at'.toNat + 4 + (getR b at' 4).1 then (noStep, 0, 10)
  else bodyR (openR ((b.drop (at'.toNat + 4)).take (getR b at' 4).1)) (at' + 4 + ((getR b at' 4).1 : Nat))
theorem saveL_len (s : Step) : (saveL s).length = (stepL s).length + 8 := by unfold saveL; rw [List.length_append, bigL_len, sealL_len]; omega
theorem loadR_at {s : Step} (hok : I64 s.a ∧ I64 s.b ∧ I64 s.c) (h : formS s = true) (p r : List Nat) : loadR (p ++ (saveL s ++ r)) (p.length : Int) = (s, ((p.length + (saveL s).length : Nat) : Int), 0) := by
  have hl := stepL_len hok h
  have hg : getR (p ++ (saveL s ++ r)) (p.length : Int) 4 = ((sealL (stepL s)).length, 0) := by
    have := getR_at (p := p) (n := (sealL (stepL s)).length) (k := 4) (r := sealL (stepL s) ++ r) (by rw [sealL_len]; omega)
    unfold saveL; simp only [List.append_assoc] at this ⊢; exact this
  have hsl := sealL_len (stepL s)
  unfold loadR
  rw [hg]
  dsimp only
  rw [if_neg (by simp), if_neg (by omega), if_neg (by simp only [List.length_append, saveL_len, Int.toNat_natCast]; omega)]
  have e : (p ++ (saveL s ++ r)).drop ((p.length : Int).toNat + 4) = sealL (stepL s) ++ r := by
    have e1 : p ++ (saveL s ++ r) = (p ++ bigL (sealL (stepL s)).length 4 4) ++ (sealL (stepL s) ++ r) := by unfold saveL; simp
    rw [e1, List.drop_left' (by rw [List.length_append, bigL_len]; rfl)]
  rw [e, List.take_left' rfl, openR_seal (stepL_bytes s)]
  unfold bodyR
  rw [if_neg (by simp)]
  dsimp only
  rw [readS_stepL hok h]
  dsimp only
  rw [if_pos h, saveL_len, hsl]
  congr 2
  omega
/-- What is cut off is not loaded. -/
theorem loadR_cut {s : Step} (hok : I64 s.a ∧ I64 s.b ∧ I64 s.c) (h : formS s = true) (p : List Nat) {m : Nat} (hm : m < (saveL s).length) : (loadR (p ++ (saveL s).take m) (p.length : Int)).2.2 ≠ 0 := by
  have hl := stepL_len hok h
  have hsl := sealL_len (stepL s)
  rw [saveL_len] at hm
  have htl : ((saveL s).take m).length = m := by rw [List.length_take, saveL_len]; omega
  unfold loadR
  by_cases h4 : m < 4
  · have hg : getR (p ++ (saveL s).take m) (p.length : Int) 4 = (0, 10) := by
      unfold getR
      rw [if_neg (by omega), if_pos (by rw [List.length_append, htl]; simp; omega)]
    rw [hg, if_pos (by simp)]
    simp
  · have hg : getR (p ++ (saveL s).take m) (p.length : Int) 4 = ((sealL (stepL s)).length, 0) := by
      have := getR_at (p := p) (n := (sealL (stepL s)).length) (k := 4) (r := (sealL (stepL s)).take (m - 4)) (by rw [sealL_len]; omega)
      unfold saveL
      rw [List.take_append, List.take_of_length_le (by rw [bigL_len]; omega), bigL_len]
      exact this
    rw [hg]
    dsimp only
    rw [if_neg (by simp), if_neg (by omega), if_pos (by rw [List.length_append, htl]; simp only [Int.toNat_natCast]; omega)]
    simp
theorem bodyR_err {o : List Nat × Int} {next : Int} (h : (bodyR o next).2.2 = 0) : o.2 = 0 ∧ ∃ s, readS o.1 = some s := by
  unfold bodyR at h
  split at h
  · rename_i h1; exact absurd h h1
  rename_i h1
  refine ⟨Decidable.not_not.1 h1, ?_⟩
  split at h
  · simp at h
  · rename_i s hs; exact ⟨s, hs⟩
theorem openR_ok {b : List Nat} (h : (openR b).2 = 0) : 4 ≤ b.length ∧ (openR b).1 = b.take (b.length - 4) := by
  unfold openR at h ⊢
  split at h
  · simp at h
  rename_i h1
  rw [if_neg h1]
  split at h
  · rename_i h2; rw [if_pos h2]; exact ⟨by omega, rfl⟩
  · simp at h
/-- What is spoilt is not loaded. -/
theorem loadR_spoilt {s : Step} (hok : I64 s.a ∧ I64 s.b ∧ I64 s.c) (h : formS s = true) (p r : List Nat) {i x : Nat} (hx : x < 256) (hi : i < (saveL s).length) (hne : (saveL s)[i]? ≠ some x) :
    (loadR (p ++ ((saveL s).set i x ++ r)) (p.length : Int)).2.2 ≠ 0 := by
  have hl := stepL_len hok h
  have hsl := sealL_len (stepL s)
  have hbl : (bigL (sealL (stepL s)).length 4 4).length = 4 := bigL_len _ _ _
  rw [saveL_len] at hi
  intro hz
  by_cases h4 : i < 4
  · obtain ⟨hd, hhd⟩ : ∃ hd, (bigL (sealL (stepL s)).length 4 4).set i x = hd := ⟨_, rfl⟩
    have hdl : hd.length = 4 := by rw [← hhd, List.length_set, bigL_len]
    have e1 : (saveL s).set i x = hd ++ sealL (stepL s) := by unfold saveL; rw [List.set_append_left _ _ (by omega), hhd]
    have hnn : fromL hd ≠ (sealL (stepL s)).length := by
      intro hc
      have hg : fromL (bigL (sealL (stepL s)).length 4 4) = (sealL (stepL s)).length := by rw [fromL_bigL, Nat.mod_eq_of_lt (by omega)]
      have hset := fromL_inj hd (bigL (sealL (stepL s)).length 4 4) (by omega) (fun y hy => by
        rw [← hhd] at hy
        rcases List.mem_or_eq_of_mem_set hy with h | rfl
        · exact bigL_bytes _ _ _ y h
        · exact hx) (bigL_bytes _ _ _) (hc.trans hg.symm)
      apply hne
      unfold saveL
      rw [List.getElem?_append_left (by omega)]
      exact set_ne_of_at (by omega) (hhd.trans hset)
    have hg : getR (p ++ ((saveL s).set i x ++ r)) (p.length : Int) 4 = (fromL hd, 0) := by
      unfold getR
      rw [if_neg (by omega), if_neg (by simp only [List.length_append, List.length_set, saveL_len, Int.toNat_natCast]; omega), Int.toNat_natCast, List.drop_left' rfl, e1, List.append_assoc, List.take_left' hdl]
    generalize fromL hd = n at hnn hg
    unfold loadR at hz
    rw [hg] at hz
    dsimp only at hz
    rw [if_neg (by simp)] at hz
    split at hz
    · simp at hz
    rename_i h5
    split at hz
    · simp at hz
    rename_i h6
    have e2 : (p ++ ((saveL s).set i x ++ r)).drop ((p.length : Int).toNat + 4) = stepL s ++ (bigL (sumL (stepL s)) 4 4 ++ r) := by
      have e3 : p ++ ((saveL s).set i x ++ r) = (p ++ hd) ++ (sealL (stepL s) ++ r) := by rw [e1]; simp
      rw [e3, List.drop_left' (by rw [List.length_append, hdl]; rfl)]
      unfold sealL; simp
    rw [e2] at hz
    simp only [List.length_append, List.length_set, saveL_len, Int.toNat_natCast] at h6
    obtain ⟨ho, t, ht⟩ := bodyR_err hz
    obtain ⟨_, ho⟩ := openR_ok ho
    rw [ho] at ht
    have hln : ((stepL s ++ (bigL (sumL (stepL s)) 4 4 ++ r)).take n).length = n := by
      rw [List.length_take]; simp only [List.length_append, bigL_len]; omega
    rw [hln, List.take_take, Nat.min_eq_left (by omega)] at ht
    have hrd := readS_stepL hok h
    by_cases hc : n - 4 ≤ (stepL s).length
    · rw [List.take_append_of_le_length hc] at ht
      have : (stepL s).take (n - 4) ++ (stepL s).drop (n - 4) = stepL s := List.take_append_drop _ _
      rw [← this] at hrd
      have hnil := readS_own ht hrd
      have := congrArg List.length hnil
      rw [List.length_drop] at this
      simp only [List.length_nil] at this
      omega
    · have e3 : (stepL s ++ (bigL (sumL (stepL s)) 4 4 ++ r)).take (n - 4) = stepL s ++ (bigL (sumL (stepL s)) 4 4 ++ r).take (n - 4 - (stepL s).length) := by
        rw [List.take_append, List.take_of_length_le (by omega)]
      rw [e3] at ht
      have hnil := readS_own hrd ht
      have := congrArg List.length hnil
      rw [List.length_take] at this
      simp only [List.length_append, bigL_len, List.length_nil] at this
      omega
  · have e1 : (saveL s).set i x = bigL (sealL (stepL s)).length 4 4 ++ (sealL (stepL s)).set (i - 4) x := by unfold saveL; rw [List.set_append_right _ _ (by omega), hbl]
    have hg : getR (p ++ ((saveL s).set i x ++ r)) (p.length : Int) 4 = ((sealL (stepL s)).length, 0) := by
      have := getR_at (p := p) (n := (sealL (stepL s)).length) (k := 4) (r := (sealL (stepL s)).set (i - 4) x ++ r) (by omega)
      rw [e1]; simp only [List.append_assoc] at this ⊢; exact this
    unfold loadR at hz
    rw [hg] at hz
    dsimp only at hz
    rw [if_neg (by simp), if_neg (by omega), if_neg (by simp only [List.length_append, List.length_set, saveL_len, Int.toNat_natCast]; omega)] at hz
    have e2 : (p ++ ((saveL s).set i x ++ r)).drop ((p.length : Int).toNat + 4) = (sealL (stepL s)).set (i - 4) x ++ r := by
      have e3 : p ++ ((saveL s).set i x ++ r) = (p ++ bigL (sealL (stepL s)).length 4 4) ++ ((sealL (stepL s)).set (i - 4) x ++ r) := by rw [e1]; simp
      rw [e3, List.drop_left' (by rw [List.length_append, hbl]; rfl)]
    rw [e2, List.take_left' (by rw [List.length_set]), openR_spoilt (stepL_bytes s) hx (by omega) (by
      unfold saveL at hne; rw [List.getElem?_append_right (by omega), hbl] at hne; exact hne)] at hz
    unfold bodyR at hz
    rw [if_pos (by simp)] at hz
    simp at hz

/-! ### all of it -/
inductive Repl (b : List Nat) : Conf → Int → Conf → Int → Prop
  | stopL {c : Conf} {g : Int} : (loadR b g).2.2 ≠ 0 → Repl b c g c g
  | stopD {c : Conf} {g : Int} : (loadR b g).2.2 = 0 → (doC c (loadR b g).1).2 ≠ 0 → Repl b c g c g
  | go {c x : Conf} {g n : Int} : (loadR b g).2.2 = 0 → (doC c (loadR b g).1).2 = 0 → Repl b (doC c (loadR b g).1).1 (loadR b g).2.1 x n → Repl b c g x n
theorem Repl.det {b : List Nat} {c x x' : Conf} {g n n' : Int} (h : Repl b c g x n) (h' : Repl b c g x' n') : x = x' ∧ n = n' := by
  induction h with
  | stopL h1 => cases h' with
    | stopL => exact ⟨rfl, rfl⟩
    | stopD h2 => exact absurd h2 h1
    | go h2 => exact absurd h2 h1
  | stopD h1 h2 => cases h' with
    | stopL h3 => exact absurd h1 h3
    | stopD => exact ⟨rfl, rfl⟩
    | go _ h3 => exact absurd h3 h2
  | go h1 h2 _ ih => cases h' with
    | stopL h3 => exact absurd h1 h3
    | stopD _ h3 => exact absurd h2 h3
    | go _ _ h3 => exact ih h3
/-- Steps that were done, one behind the other. -/
inductive Ran : Conf → List Step → Conf → Prop
  | nil {c : Conf} : Ran c [] c
  | cons {c x : Conf} {s : Step} {l : List Step} : (I64 s.a ∧ I64 s.b ∧ I64 s.c) → formS s = true → (doC c s).2 = 0 → Ran (doC c s).1 l x → Ran c (s :: l) x
theorem Ran.snoc {c x : Conf} {s : Step} {l : List Step} (h : Ran c l x) (h1 : I64 s.a ∧ I64 s.b ∧ I64 s.c) (h2 : formS s = true) (h3 : (doC x s).2 = 0) : Ran c (l ++ [s]) (doC x s).1 := by
  induction h with
  | nil => exact .cons h1 h2 h3 .nil
  | cons a b c _ ih => exact .cons a b c (ih h3)
theorem Ran.repl {c x : Conf} {l : List Step} (h : Ran c l x) : ∀ (p r : List Nat) (y : Conf) (n : Int), Repl (p ++ (l.flatMap saveL ++ r)) x ((p.length + (l.flatMap saveL).length : Nat) : Int) y n → Repl (p ++ (l.flatMap saveL ++ r)) c (p.length : Int) y n := by
  induction h with
  | nil => intro p r y n h; simpa using h
  | @cons c x s l a b c' _ ih =>
    intro p r y n h
    have e : p ++ ((s :: l).flatMap saveL ++ r) = p ++ (saveL s ++ (l.flatMap saveL ++ r)) := by simp
    have hld := loadR_at a b p (l.flatMap saveL ++ r)
    rw [e] at h ⊢
    have e2 : p ++ (saveL s ++ (l.flatMap saveL ++ r)) = (p ++ saveL s) ++ (l.flatMap saveL ++ r) := by simp
    refine .go (by rw [hld]) (by rw [hld]; exact c') ?_
    rw [hld]
    dsimp only
    have := ih (p ++ saveL s) r y n (by
      rw [← e2]
      have e3 : (p ++ saveL s).length + (l.flatMap saveL).length = p.length + ((s :: l).flatMap saveL).length := by simp; omega
      rw [e3]; exact h)
    rw [List.length_append, ← e2] at this
    exact this
end Go.Wm
