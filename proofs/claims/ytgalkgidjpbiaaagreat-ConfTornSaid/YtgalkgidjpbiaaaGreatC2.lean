/-
  The orders of what a configuration has are orders; what is known stands where it is looked for. Conditions: none.
-/
import Derived.Test.YtgalkgidjpbiaaaGreatCoA
import Derived.Test.YtgalkgidjpbiaaaGreatO0
import Derived.Test.YtgalkgidjpbiaaaGreatTypes
import Derived.Test.YtgalkgidjpbiaaaGreatCoB
import Derived.Test.YtgalkgidjpbiaaaGreatCrP
set_option linter.all false
namespace Go.Wm
open Go.RowKit
/-- The low 16 bits. -/
def low16 (x : Int) : Nat := (BitVec.ofInt 64 x &&& BitVec.ofInt 64 65535).toNat
section
variable {P : Program} {o : Oper} {e : Env} {k : PH} {t t' : TypeId} {x y : Operand}
theorem d_rem {a b : Nat} (hop : o.op = .binOp .rem t x y t') (hx : opv e x = some (.int .i64 (a : Int))) (hy : opv e y = some (.int .i64 (b : Int))) (hb : 0 < b) : Det P e k o (.int .i64 ((a % b : Nat) : Int)) := by
  intro ev w hev _
  rw [hop] at hev
  have e1 := hev x (by simp [Op.operands]) _ hx
  have e2 := hev y (by simp [Op.operands]) _ hy
  have h0 : ¬ (b : Int) = 0 := by omega
  have h2 : ((a : Int).tmod (b : Int)) = ((a % b : Nat) : Int) := rfl
  simp only [execOp, hop, e1, e2, eqGuard, binOp, Op.intDiv, h0, if_false, h2]
  simp
end
end Go.Wm
namespace Go.Wm
open Go.RowKit Go.Proofs
attribute [local irreducible] RG CG EG WA Loc Det Alc CT Exit.then Exit.inBlock Code.wp bodyPost
def okB (x : UInt8) : Bool := decide (33 ≤ x.toNat) && decide (x.toNat ≤ 126)
/-- Is a text a name? -/
def isName (s : ByteArray) : Bool := decide (∀ i, (h : i < s.size) → okB s[i] = true) && (decide (1 ≤ s.size) && decide (s.size ≤ 64))
def okR (r : Int) : Bool := !(decide (r < 33) || decide (r > 126))
def allOk (s : ByteArray) : Bool := decide (∀ i, (h : i < s.size) → okB s[i] = true)
theorem get_at {s : ByteArray} {i : Nat} (h : i < s.size) : s.get! i = s[i] := by
  simp only [ByteArray.get!]
  rw [getElem!_pos s.data i h]
  rfl
theorem isName_all (s : ByteArray) : isName s = (decide (s ≠ ⟨#[]⟩) && (decide (s.size ≤ 64) && allOk s)) := by
  unfold isName
  have : decide (1 ≤ s.size) = decide (s ≠ ⟨#[]⟩) := by
    rw [decide_eq_decide]
    constructor
    · rintro h rfl
      exact absurd h (by decide)
    · intro h
      rcases Nat.eq_zero_or_pos s.size with h0 | h0
      · exfalso
        apply h
        apply ByteArray.ext
        exact Array.eq_empty_of_size_eq_zero h0
      · exact h0
  rw [← this]
  show (allOk s && _) = _
  cases allOk s <;> simp

set_option maxHeartbeats 400000 in
theorem name1C_ct {k : PH} (r : Int) : CT Tryz.prog 196 #[.int .i32 r] k (fun _ v => v = .bool (!okR r)) := by
  refine ct_of_body (l := [_]) Tryz.func196 rfl Tryz.ntmps196 (by simp) (fun _ _ _ _ h => h) fun F hF0 hFm => ?_
  repeat (first | refine cg_seq ?_ | refine cg_region ?_ | refine rg_nil ?_ | refine eg_then ?_ | refine qsp ?_)
  refine rs rfl rfl (loc_det rfl (d_cmp rfl rfl rfl rfl)) ?_
  repeat (first | refine qsp ?_)
  cases q : decide (r < 33)
  · repeat (first | refine qsp ?_)
    refine rs rfl rfl (loc_det rfl (d_cmp rfl rfl rfl rfl)) ?_
    repeat (first | refine rg_nil ?_ | refine eg_then ?_ | refine qsp ?_ | refine cg_ret ?_)
    refine eg_return rfl rfl ?_
    simp [okR]
    simp at q
    intro; omega
  · repeat (first | refine rg_nil ?_ | refine eg_then ?_ | refine qsp ?_ | refine qso ?_ | refine cg_ret ?_)
    refine eg_return rfl rfl ?_
    simp [okR, q]

set_option maxHeartbeats 400000 in
theorem indexFuncSC_ct {k : PH} (s : ByteArray) (hs : s.size ≤ maxLen) : CT Tryz.prog 251 #[.string s, .func (.func 196) #[] #[], .bool true] k (fun _ v => ∃ n, v = .int .i64 n ∧ decide (n < 0) = allOk s) := by
  refine ct_of_body (l := [_, _, _]) Tryz.func251 rfl Tryz.ntmps251 (by simp) (fun _ _ _ _ h => h) fun F hF0 hFm => ?_
  unfold maxLen at hs
  repeat (first | refine cg_seq ?_ | refine cg_region ?_ | refine rg_nil ?_ | refine eg_then ?_ | refine qsp ?_)
  refine rb rfl rfl rfl rfl (a_rangeS rfl rfl) ?_; intro b1 k1 hb1 hN1 hle1 hk1
  repeat (first | refine rg_nil ?_ | refine eg_then ?_ | refine cg_block ?_)
  refine cg_loop (fun (pos : Nat) e k' => Le k k' ∧ k' b1 = some (.stringIter s pos) ∧ pos ≤ s.size ∧ (∀ j, (h : j < s.size) → j < pos → okB s[j] = true) ∧ e = [(1, .is (.func (.func 196) #[] #[])), (2, .is (.bool true)), (10, .is (.pointer (some ⟨b1, 0, none⟩)))])
    (fun pos => s.size - pos) 0 ⟨hle1, hk1, Nat.zero_le _, fun j _ hj => by omega, rfl⟩ ⟨rfl, rfl, rfl, trivial⟩ ?_
  rintro pos e k2 ⟨hle, hit, hpos, hno, rfl⟩
  refine cg_seq ?_
  refine cg_region ?_
  refine r_nextS rfl rfl rfl rfl rfl rfl hit hN1 (fun h => ?_) (fun h => ?_)
  · repeat (first | refine cg_seq ?_ | refine cg_region ?_ | refine rg_nil ?_ | refine eg_then ?_ | refine qsp ?_ | refine cg_cond_false rfl ?_ | refine cg_ret ?_ | refine cg_exit ?_ | refine eg_then_exit ?_ | refine eg_in_exit ?_)
    refine eg_return rfl rfl ?_
    have hin : pos = s.size := by omega
    refine ⟨-1, rfl, ?_⟩
    unfold allOk
    rw [decide_eq_true (fun j hj => hno j hj (by omega))]
    rfl
  · intro k3 ht3 hk3
    have hle3 := ht3 k hle hb1
    have hd : okR ((Utf8.decode s pos).1 : Int) = okB s[pos] ∧ (okB s[pos] = true → (Utf8.decode s pos).2 = 1) := by
      by_cases hlow : (s.get! pos).toNat < 128
      · have := dec_low hlow
        rw [this]
        rw [get_at h] at hlow ⊢
        refine ⟨?_, fun _ => rfl⟩
        unfold okR okB
        rw [Bool.eq_iff_iff]
        simp
        omega
      · have := dec_high (by omega : 128 ≤ (s.get! pos).toNat)
        rw [get_at h] at hlow
        have hb : okB s[pos] = false := by
          unfold okB
          simp
          omega
        rw [hb]
        refine ⟨?_, fun h => by cases h⟩
        unfold okR
        simp
        omega
    repeat (first | refine cg_seq ?_ | refine cg_region ?_ | refine rg_nil ?_ | refine eg_then ?_ | refine qsp ?_ | refine cg_cond_true rfl ?_ | refine cg_skip ?_ | refine cg_block ?_)
    refine rs rfl rfl (loc_call_is rfl rfl rfl rfl (name1C_ct (((Utf8.decode s pos).1 : Nat) : Int))) ?_
    repeat (first | refine qsp ?_)
    refine rs rfl rfl (loc_det rfl (d_eqb rfl rfl rfl)) ?_
    cases q : okR ((Utf8.decode s pos).1 : Int)
    · repeat (first | refine cg_seq ?_ | refine cg_region ?_ | refine rg_nil ?_ | refine eg_then ?_ | refine qsp ?_ | refine cg_cond_true rfl ?_ | refine cg_ret ?_ | refine eg_then_ret ?_ | refine eg_in_ret ?_)
      refine eg_return rfl rfl ⟨(pos : Int), rfl, ?_⟩
      have hb : okB s[pos] = false := by rw [← hd.1]; exact q
      have : allOk s = false := by
        unfold allOk
        rw [decide_eq_false]
        intro ha
        rw [ha pos h] at hb
        cases hb
      rw [this, decide_eq_false]
      omega
    · have hb : okB s[pos] = true := by rw [← hd.1]; exact q
      have h1 := hd.2 hb
      rw [h1] at hk3
      repeat (first | refine rg_nil ?_ | refine eg_then ?_ | refine cg_cond_false rfl ?_ | refine cg_skip ?_ | refine eg_in_normal ?_)
      refine eg_again (pos + 1) _ ⟨hle3, hk3, h, fun j hj hji => ?_, rfl⟩ (by omega) ⟨rfl, rfl, rfl, trivial⟩
      by_cases e : j = pos
      · subst e; exact hb
      · exact hno j hj (by omega)

set_option maxHeartbeats 400000 in
theorem indexFuncStC_ct {k : PH} (s : ByteArray) (hs : s.size ≤ maxLen) : CT Tryz.prog 234 #[.string s, .func (.func 196) #[] #[]] k (fun _ v => ∃ n, v = .int .i64 n ∧ decide (n < 0) = allOk s) := by
  refine ct_of_body (l := [_, _]) Tryz.func234 rfl Tryz.ntmps234 (by simp) (fun _ _ _ _ h => h) fun F hF0 hFm => ?_
  repeat (first | refine cg_seq ?_ | refine cg_region ?_ | refine rg_nil ?_ | refine eg_then ?_ | refine qsp ?_)
  refine rv rfl rfl rfl (loc_call rfl rfl rfl rfl (fun k k' v hle h => h) (indexFuncSC_ct s hs)) ?_
  rintro k1 hle1 _ ⟨n, rfl, hn⟩
  repeat (first | refine rg_nil ?_ | refine eg_then ?_ | refine qsp ?_ | refine cg_ret ?_)
  exact eg_return rfl rfl ⟨n, rfl, hn⟩

set_option maxHeartbeats 400000 in
theorem containsFuncS_ct {k : PH} (s : ByteArray) (hs : s.size ≤ maxLen) : CT Tryz.prog 197 #[.string s, .func (.func 196) #[] #[]] k (fun _ v => v = .bool (!allOk s)) := by
  refine ct_of_body (l := [_, _]) Tryz.func197 rfl Tryz.ntmps197 (by simp) (fun _ _ _ _ h => h) fun F hF0 hFm => ?_
  repeat (first | refine cg_seq ?_ | refine cg_region ?_ | refine rg_nil ?_ | refine eg_then ?_ | refine qsp ?_)
  refine rv rfl rfl rfl (loc_call rfl rfl rfl rfl (fun k k' v hle h => h) (indexFuncStC_ct s hs)) ?_
  rintro k1 hle1 _ ⟨n, rfl, hn⟩
  repeat (first | refine rg_nil ?_ | refine eg_then ?_ | refine qsp ?_ | refine cg_ret ?_)
  refine eg_return rfl rfl ?_
  rw [← hn]
  by_cases h : n < 0 <;> simp [h] <;> omega
set_option maxHeartbeats 400000 in
theorem name_ct {k : PH} (s : ByteArray) (hs : s.size ≤ maxLen) : CT Tryz.prog 97 #[.string s] k (fun _ v => v = .bool (isName s)) := by
  refine ct_of_body (l := [_]) Tryz.func97 rfl Tryz.ntmps97 (by simp) (fun _ _ _ _ h => h) fun F hF0 hFm => ?_
  have hall := isName_all s
  repeat (first | refine cg_seq ?_ | refine cg_region ?_ | refine rg_nil ?_ | refine eg_then ?_ | refine qsp ?_)
  refine rs rfl rfl (loc_det rfl (d_len_str rfl rfl)) ?_
  repeat (first | refine qsp ?_)
  cases q1 : decide ((s.size : Int) ≥ 1)
  · repeat (first | refine rg_nil ?_ | refine eg_then ?_ | refine qsp ?_ | refine qso ?_ | refine cg_ret ?_)
    refine eg_return rfl rfl ?_
    have : ¬ 1 ≤ s.size := by simp at q1; omega
    simp [isName, this]
  have h1 : 1 ≤ s.size := by simp at q1; omega
  have hne : s ≠ ⟨#[]⟩ := fun e => by rw [e] at h1; exact absurd h1 (by decide)
  repeat (first | refine qsp ?_)
  refine rs rfl rfl (loc_det rfl (d_len_str rfl rfl)) ?_
  repeat (first | refine qsp ?_)
  cases q2 : decide ((s.size : Int) ≤ 64)
  · repeat (first | refine rg_nil ?_ | refine eg_then ?_ | refine qsp ?_ | refine qso ?_ | refine cg_ret ?_)
    refine eg_return rfl rfl ?_
    have : ¬ s.size ≤ 64 := by simp at q2; omega
    rw [hall]
    simp [this]
  have h2 : s.size ≤ 64 := by simp at q2; omega
  repeat (first | refine qsp ?_)
  refine rs rfl rfl (loc_call_is rfl rfl rfl rfl (containsFuncS_ct s hs)) ?_
  repeat (first | refine rg_nil ?_ | refine eg_then ?_ | refine qsp ?_ | refine cg_ret ?_)
  refine eg_return rfl rfl ?_
  rw [hall]
  simp [h2, hne]
end Go.Wm
namespace Go.Wm
open Go.RowKit Go.Proofs
def inI (n a b : Int) : Bool := decide (a ≤ n) && decide (n ≤ b)
def starS : ByteArray := ⟨#[42]⟩
def knownC (c : Conf) (s : ByteArray) : Bool := c.topics.any fun t => decide (t.name = s)
def topicP (t : Topic) : Bool := isName t.name && (inI t.partsV 1 6 && inI t.keep 0 1099511627776)
def ruleP (c : Conf) (r : Rule) : Bool := isName r.who && ((decide (r.topic = starS) || knownC c r.topic) && inI r.may 1 7)
def rateP (r : Rate) : Bool := isName r.who && (inI r.rate 1 1048576 && inI r.burst 1 1048576)
def wayP (c : Conf) (w : Way) : Bool := inI w.fromV 0 3 && (inI w.toV 0 3 && (decide (w.fromV ≠ w.toV) && knownC c w.topic))
def confP (c : Conf) : Bool := inI c.ver 0 1099511627776 && (decide (c.topics.length ≤ 12) && (decide (RightP ordTopic topicP c.topics) && (decide (RightP ordRule (ruleP c) c.rules) && (decide (RightP ordRate rateP c.rates) && decide (RightP ordWay (wayP c) c.ways)))))
/-- Which fields a kind has: name topic a b c. -/
def useK (k : Int) : Option (Bool × Bool × Bool × Bool × Bool) :=
  if k = 1 then some (true, false, true, true, true) else if k = 2 then some (true, false, false, false, false) else if k = 3 then some (true, false, true, false, false) else if k = 4 then some (true, false, false, false, true)
  else if k = 5 then some (true, true, true, false, false) else if k = 6 then some (true, false, true, true, false) else if k = 7 ∨ k = 8 then some (false, true, true, true, false) else none
def textU (used : Bool) (s : ByteArray) : Bool := if used = true then isName s else decide (s = ⟨#[]⟩)
def numU (used : Bool) (n : Int) : Bool := decide (n = 0) || (used && inI n 0 1099511627776)
def formS (s : Step) : Bool := match useK s.kind with
  | none => false
  | some (n, t, a, b, c) => textU n s.name && (textU t s.topic && (numU a s.a && (numU b s.b && numU c s.c)))
def goesC (c : Conf) (w : Way) : Bool := c.ways.any fun v => decide (v = w)
/-- What a step does to a configuration, or why not (192: ErrStep, 190: ErrTopic). -/
def actC (c : Conf) (s : Step) : Except Int Conf :=
  if s.kind = 1 then (if knownC c s.name = true then .error 190 else if (!inI s.a 1 6 || (decide (s.b > 1) || decide (c.topics.length = 12))) = true then .error 192 else .ok { c with topics := putInL ordTopic c.topics ⟨s.name, s.a, decide (s.b = 1), s.c⟩ true })
  else if s.kind = 2 then (if knownC c s.name = true then .ok { c with topics := c.topics.filter fun t => !decide (t.name = s.name), rules := c.rules.filter fun r => !decide (r.topic = s.name), ways := c.ways.filter fun w => !decide (w.topic = s.name) } else .error 190)
  else if s.kind = 3 then (match c.topics.find? fun t => decide (t.name = s.name) with
    | none => .error 190
    | some t => if inI s.a (t.partsV + 1) 6 = true then .ok { c with topics := c.topics.map fun u => if u.name = s.name then { u with partsV := s.a } else u } else .error 192)
  else if s.kind = 4 then (if knownC c s.name = true then .ok { c with topics := c.topics.map fun u => if u.name = s.name then { u with keep := s.c } else u } else .error 190)
  else if s.kind = 5 then (if (!decide (s.topic = starS) && !knownC c s.topic) = true then .error 190 else if s.a > 7 then .error 192 else .ok { c with rules := putInL ordRule c.rules ⟨s.name, s.topic, s.a⟩ (decide (s.a > 0)) })
  else if s.kind = 6 then (if (decide (s.a = 0) != decide (s.b = 0) || (decide (s.a > 1048576) || decide (s.b > 1048576))) = true then .error 192 else .ok { c with rates := putInL ordRate c.rates ⟨s.name, s.a, s.b⟩ (decide (s.a > 0)) })
  else (if knownC c s.topic = true then (if ((decide (s.kind = 7) == goesC c ⟨s.a, s.b, s.topic⟩) || (decide (s.kind = 7) && (decide (s.a = s.b) || (decide (s.a > 3) || decide (s.b > 3))))) = true then .error 192 else .ok { c with ways := putInL ordWay c.ways ⟨s.a, s.b, s.topic⟩ (decide (s.kind = 7)) }) else .error 190)
def noConf : Conf := ⟨0, [], [], [], []⟩
def finC : Except Int Conf → Conf × Int
  | .error e => (noConf, e)
  | .ok x => (x, 0)
/-- A step, done. -/
def doC (c : Conf) (s : Step) : Conf × Int :=
  if (!confP c || !formS s) = true then (noConf, 1)
  else if c.ver = 1099511627776 then (noConf, 2)
  else finC (actC { c with ver := c.ver + 1 } s)
/-- Several, or none: what there is then, the place of the first that was refused (or how many there are), and why. -/
def allC (c : Conf) : Nat → List Step → Conf × Nat × Int
  | n, [] => (c, n, 0)
  | n, s :: l => if (doC c s).2 = 0 then allC (doC c s).1 (n + 1) l else (noConf, n, (doC c s).2)
def allR (c : Conf) (l : List Step) : Conf × Nat × Int := if confP c = true then allC c 0 l else (noConf, 0, 1)
end Go.Wm
namespace Go.Wm
open Go.RowKit Go.Proofs
theorem cmpBytes_neg : ∀ (a b : List UInt8), Lib.compareBytes a b = - Lib.compareBytes b a
  | [], [] => rfl
  | [], b :: ys => rfl
  | a :: xs, [] => rfl
  | a :: xs, b :: ys => by
    unfold Lib.compareBytes
    by_cases h : a < b
    · have : ¬ b < a := fun h2 => UInt8.lt_irrefl _ (UInt8.lt_trans h h2)
      simp [h, this]
    · by_cases h2 : b < a
      · simp [h, h2]
      · simp [h, h2, cmpBytes_neg xs ys]
theorem cmpStr_neg (a b : ByteArray) : cmpStr a b = - cmpStr b a := cmpBytes_neg _ _
theorem cmpStr_lt {a b : ByteArray} : cmpStr a b < 0 ↔ a.data.toList < b.data.toList := by
  rcases cmpStr_vals a b with ⟨h, h1⟩ | ⟨h, h1⟩ | ⟨h, h1, h2⟩
  · simp [h, h1]
  · rw [h, h1]
    exact ⟨fun h => by omega, fun h => absurd h (List.lt_irrefl _)⟩
  · simp [h, h1]
theorem cmpStr_eq {a b : ByteArray} : cmpStr a b = 0 ↔ a = b := by
  rcases cmpStr_vals a b with ⟨h, h1⟩ | ⟨h, h1⟩ | ⟨h, h1, h2⟩
  · rw [h]
    refine ⟨fun h => absurd h (by decide), fun e => ?_⟩
    rw [e] at h1
    exact absurd h1 (List.lt_irrefl _)
  · rw [h]; simp [h1]
  · simp [h, h2]
instance : Trans (α := UInt8) (· < ·) (· < ·) (· < ·) := ⟨UInt8.lt_trans⟩
theorem ordL_str : OrdL cmpStr where
  tr := fun a b c h1 h2 => cmpStr_lt.2 (List.lt_trans (cmpStr_lt.1 h1) (cmpStr_lt.1 h2))
  sw := fun a b => by rw [cmpStr_neg]; omega
  eqL := fun a b h c => by rw [cmpStr_eq.1 h]
  eqR := fun a b h c => by rw [cmpStr_eq.1 h]
theorem ordL_int : OrdL cmpInt where
  tr := fun a b c h1 h2 => by have := cmpInt_cases a b; have := cmpInt_cases b c; have := cmpInt_cases a c; omega
  sw := fun a b => by have := cmpInt_cases a b; have := cmpInt_cases b a; omega
  eqL := fun a b h c => by have e : a = b := by { have := cmpInt_cases a b; omega }
                           rw [e]
  eqR := fun a b h c => by have e : a = b := by { have := cmpInt_cases a b; omega }
                           rw [e]
theorem ordL_pull {α β : Type} {f : β → β → Int} (p : α → β) (h : OrdL f) : OrdL fun a b => f (p a) (p b) where
  tr := fun a b c => h.tr _ _ _
  sw := fun a b => h.sw _ _
  eqL := fun a b e c => h.eqL _ _ e _
  eqR := fun a b e c => h.eqR _ _ e _
theorem OrdL.zero {α : Type} {f : α → α → Int} (h : OrdL f) {a b : α} : f a b = 0 ↔ f b a = 0 := by
  have := h.sw a b; have := h.sw b a
  omega
theorem ordL_lex {α : Type} {f g : α → α → Int} (hf : OrdL f) (hg : OrdL g) : OrdL fun a b => if f a b ≠ 0 then f a b else g a b where
  tr := fun a b c h1 h2 => by
    have f1 := hf.tr a b c
    have g1 := hg.tr a b c
    have e1 := fun h => hf.eqL a b h c
    have e2 := fun h => hf.eqR b c h a
    have s1 := hf.sw a c; have s2 := hf.sw c a
    have s3 := hf.sw b c; have s4 := hf.sw c b
    have s5 := hf.sw a b; have s6 := hf.sw b a
    have e3 := fun h => hf.eqR a b h c
    split at h1 <;> split at h2 <;> split <;> simp_all <;> omega
  sw := fun a b => by
    have s1 := hf.sw a b; have s2 := hf.sw b a
    have s3 := hg.sw a b
    split <;> split <;> omega
  eqL := fun a b h c => by
    have hf0 : f a b = 0 := by
      split at h
      · omega
      · omega
    have hg0 : g a b = 0 := by simpa [hf0] using h
    have e1 := hf.eqL a b hf0 c
    have e2 := hf.eqR a b hf0 c
    have e3 := hg.eqL a b hg0 c
    have s1 := hf.sw a c; have s2 := hf.sw c a
    have s3 := hf.sw b c; have s4 := hf.sw c b
    split <;> split <;> omega
  eqR := fun a b h c => by
    have hf0 : f a b = 0 := by
      split at h
      · omega
      · omega
    have hg0 : g a b = 0 := by simpa [hf0] using h
    have e1 := hf.eqL a b hf0 c
    have e2 := hf.eqR a b hf0 c
    have e3 := hg.eqR a b hg0 c
    have s1 := hf.sw a c; have s2 := hf.sw c a
    have s3 := hf.sw b c; have s4 := hf.sw c b
    split <;> split <;> omega
theorem ordL_topic : OrdL ordTopic := ordL_pull Topic.name ordL_str
theorem ordL_rate : OrdL ordRate := ordL_pull Rate.who ordL_str
theorem ordL_rule : OrdL ordRule := by
  have h := ordL_lex (ordL_pull Rule.who ordL_str) (ordL_pull Rule.topic ordL_str)
  have e : ordRule = fun a b => if cmpStr a.who b.who ≠ 0 then cmpStr a.who b.who else cmpStr a.topic b.topic := by
    funext a b; exact orL2 _ _
  rw [e]; exact h
theorem ordL_way : OrdL ordWay := by
  have h := ordL_lex (ordL_pull Way.fromV ordL_int) (ordL_lex (ordL_pull Way.toV ordL_int) (ordL_pull Way.topic ordL_str))
  have e : ordWay = fun a b => if cmpInt a.fromV b.fromV ≠ 0 then cmpInt a.fromV b.fromV else if cmpInt a.toV b.toV ≠ 0 then cmpInt a.toV b.toV else cmpStr a.topic b.topic := by
    funext a b; exact orL3 _ _ _
  rw [e]; exact h
/-- Sorted lists are split by what is looked for. -/
theorem right_split {α : Type} {ord : α → α → Int} (ho : OrdL ord) {may : α → Bool} {l : List α} (h : RightP ord may l) (x : α) : ∀ i j, (hi : i < l.length) → (hj : j < l.length) → i < j → ord l[j] x < 0 → ord l[i] x < 0 := by
  intro i j hi hj hij hlt
  exact ho.tr _ _ _ (List.pairwise_iff_getElem.1 ((right_iff ho).1 h).2 i j hi hj hij) hlt
theorem right_met {α : Type} {ord : α → α → Int} (ho : OrdL ord) {may : α → Bool} {l : List α} (h : RightP ord may l) (x : α) : metF (fun y => ord y x) l = l.any fun y => decide (ord y x = 0) := by
  rw [Bool.eq_iff_iff]
  constructor
  · intro hm
    obtain ⟨hl, hz⟩ := metF_lt hm
    exact List.any_eq_true.2 ⟨_, List.getElem_mem hl, by simpa using hz⟩
  · intro ha
    obtain ⟨y, hy, hz⟩ := List.any_eq_true.1 ha
    have hz : ord y x = 0 := by simpa using hz
    apply Classical.byContradiction
    intro hn
    have hp := ((right_iff ho).1 h).2
    rw [← List.take_append_drop (posF (fun y => ord y x) l) l] at hy
    rcases List.mem_append.1 hy with hy | hy
    · have := take_below (f := fun y => ord y x) y hy
      omega
    · have := drop_above ho hp hn y hy
      have := ho.sw x y
      omega
theorem conf_parts {x : Conf} (h : confP x = true) : inI x.ver 0 1099511627776 = true ∧ x.topics.length ≤ 12 ∧ RightP ordTopic topicP x.topics ∧ RightP ordRule (ruleP x) x.rules ∧ RightP ordRate rateP x.rates ∧ RightP ordWay (wayP x) x.ways := by
  simpa [confP, and_assoc] using h
theorem known_met {x : Conf} (h : RightP ordTopic topicP x.topics) (s : ByteArray) : metF (fun t => cmpStr t.name s) x.topics = knownC x s := by
  have := right_met ordL_topic h ⟨s, 0, false, 0⟩
  refine this.trans ?_
  unfold knownC
  congr 1
  funext t
  rw [decide_eq_decide]
  exact cmpStr_eq
end Go.Wm
