/-
  Bits of whole numbers that are no less than 0; '==' of texts as a value. Conditions: the bounds.
-/
import Derived.Test.YtgalkgidjpbiaaaGreatR1
import Derived.Test.YtgalkgidjpbiaaaGreatC2
import Derived.Test.YtgalkgidjpbiaaaGreatCoB
import Derived.Test.YtgalkgidjpbiaaaGreatCrP
set_option linter.all false
namespace Go.Wm
open Go.RowKit Go.Proofs
attribute [local irreducible] RG CG EG WA Loc Det Alc CT Exit.then Exit.inBlock Code.wp bodyPost
def topF (x : Conf) (s : ByteArray) : Int := idxF x.topics fun t => decide (t.name = s)
end Go.Wm
namespace Go.Wm
open Go.RowKit Go.Proofs
section
variable {x : Conf} {s : ByteArray}
theorem known_at (hr : RightP ordTopic topicP x.topics) (hk : knownC x s = true) : ∃ h : posF (fun t => cmpStr t.name s) x.topics < x.topics.length, (x.topics[posF (fun t => cmpStr t.name s) x.topics]).name = s ∧
    (∀ t ∈ x.topics.take (posF (fun t => cmpStr t.name s) x.topics), t.name ≠ s) ∧ (∀ t ∈ x.topics.drop (posF (fun t => cmpStr t.name s) x.topics + 1), t.name ≠ s) := by
  rw [← known_met hr s] at hk
  obtain ⟨h1, h2⟩ := metF_lt hk
  have e := cmpStr_eq.1 h2
  refine ⟨h1, e, fun t ht he => ?_, fun t ht he => ?_⟩
  · have := take_below (f := fun t : Topic => cmpStr t.name s) t ht
    have := cmpStr_eq.2 he
    omega
  · obtain ⟨j, hj, rfl⟩ := List.getElem_of_mem ht
    rw [List.length_drop] at hj
    rw [List.getElem_drop] at he
    have hp := List.pairwise_iff_getElem.1 ((right_iff ordL_topic).1 hr).2 _ (posF (fun t => cmpStr t.name s) x.topics + 1 + j) h1 (by omega) (by omega)
    have : cmpStr (x.topics[posF (fun t => cmpStr t.name s) x.topics]).name (x.topics[posF (fun t => cmpStr t.name s) x.topics + 1 + j]).name = 0 := cmpStr_eq.2 (e.trans he.symm)
    unfold ordTopic at hp
    omega
theorem split_at {α : Type} {l : List α} {p : Nat} (h : p < l.length) : l = l.take p ++ l[p] :: l.drop (p + 1) := by
  rw [← List.drop_eq_getElem_cons h, List.take_append_drop]
theorem drop_topic (hr : RightP ordTopic topicP x.topics) (hk : knownC x s = true) : x.topics.filter (fun t => !decide (t.name = s)) = x.topics.take (posF (fun t => cmpStr t.name s) x.topics) ++ x.topics.drop (posF (fun t => cmpStr t.name s) x.topics + 1) := by
  obtain ⟨h, h1, h2, h3⟩ := known_at hr hk
  generalize posF (fun t : Topic => cmpStr t.name s) x.topics = p at h h1 h2 h3 ⊢
  conv => lhs; rw [split_at h]
  rw [List.filter_append, List.filter_cons_of_neg (by simp [h1])]
  congr 1
  · exact List.filter_eq_self.2 fun t ht => by simp [h2 t ht]
  · exact List.filter_eq_self.2 fun t ht => by simp [h3 t ht]
theorem find_topic (hr : RightP ordTopic topicP x.topics) (hk : knownC x s = true) : ∃ h : posF (fun t => cmpStr t.name s) x.topics < x.topics.length, x.topics.find? (fun t => decide (t.name = s)) = some x.topics[posF (fun t => cmpStr t.name s) x.topics] := by
  obtain ⟨h, h1, h2, h3⟩ := known_at hr hk
  refine ⟨h, ?_⟩
  generalize posF (fun t : Topic => cmpStr t.name s) x.topics = p at h h1 h2 h3 ⊢
  rw [List.find?_eq_some_iff_append]
  exact ⟨by simp [h1], _, _, split_at h, fun t ht => by simp [h2 t ht]⟩
theorem map_topic (hr : RightP ordTopic topicP x.topics) (hk : knownC x s = true) (f : Topic → Topic) : ∃ h : posF (fun t => cmpStr t.name s) x.topics < x.topics.length, (x.topics.map fun u => if u.name = s then f u else u) = x.topics.set (posF (fun t => cmpStr t.name s) x.topics) (f x.topics[posF (fun t => cmpStr t.name s) x.topics]) := by
  obtain ⟨h, h1, h2, h3⟩ := known_at hr hk
  refine ⟨h, ?_⟩
  generalize posF (fun t : Topic => cmpStr t.name s) x.topics = p at h h1 h2 h3 ⊢
  rw [List.set_eq_take_append_cons_drop, if_pos h]
  conv => lhs; rw [split_at h]
  rw [List.map_append, List.map_cons, if_pos h1]
  congr 1
  · conv => rhs; rw [← List.map_id (List.take p x.topics)]
    exact List.map_congr_left fun t ht => by simp [h2 t ht]
  · congr 1
    conv => rhs; rw [← List.map_id (List.drop (p + 1) x.topics)]
    exact List.map_congr_left fun t ht => by simp [h3 t ht]
theorem act_more {y : Step} (hkind : y.kind = 3) (hr : RightP ordTopic topicP x.topics) (hk : knownC x y.name = true) : ∃ (p : Nat) (h : p < x.topics.length), posF (fun t => cmpStr t.name y.name) x.topics = p ∧ actC x y = if inI y.a ((x.topics[p]).partsV + 1) 6 = true then .ok { x with topics := x.topics.set p { x.topics[p] with partsV := y.a } } else .error 192 := by
  obtain ⟨h, hf⟩ := find_topic hr hk
  obtain ⟨_, hm⟩ := map_topic hr hk fun u => { u with partsV := y.a }
  refine ⟨_, h, rfl, ?_⟩
  unfold actC
  rw [if_neg (by omega), if_neg (by omega), if_pos hkind, hf]
  simp only [hm]
theorem act_keep {y : Step} (hkind : y.kind = 4) (hr : RightP ordTopic topicP x.topics) (hk : knownC x y.name = true) : ∃ (p : Nat) (h : p < x.topics.length), posF (fun t => cmpStr t.name y.name) x.topics = p ∧ actC x y = .ok { x with topics := x.topics.set p { x.topics[p] with keep := y.c } } := by
  obtain ⟨h, hm⟩ := map_topic hr hk fun u => { u with keep := y.c }
  refine ⟨_, h, rfl, ?_⟩
  unfold actC
  rw [if_neg (by omega), if_neg (by omega), if_neg (by omega), if_pos hkind, if_pos hk]
  simp only [hm]
end
end Go.Wm
namespace Go.Wm
open Go.RowKit
variable {P : Program} {o : Oper} {e : Env} {k : PH} {t t' : TypeId} {x y : Operand}
theorem d_orI {a b : Nat} (hop : o.op = .binOp .or t x y t') (hx : opv e x = some (.int .i64 (a : Int))) (hy : opv e y = some (.int .i64 (b : Int))) (ha : a < 2 ^ 62) (hb : b < 2 ^ 62) : Det P e k o (.int .i64 ((a ||| b : Nat) : Int)) := by
  intro ev w hev _
  rw [hop] at hev
  have e1 := hev x (by simp [Op.operands]) _ hx
  have e2 := hev y (by simp [Op.operands]) _ hy
  have hlt : a ||| b < 2 ^ 62 := Nat.or_lt_two_pow ha hb
  have h4 : IntKind.i64.wrap ((a ||| b : Nat) : Int) = ((a ||| b : Nat) : Int) := by rw [IntKind.wrap_i64]; omega
  have h6 : (Op.intBits .or .i64 (a : Int) (b : Int)).run P w = .ok (.int .i64 ((a ||| b : Nat) : Int)) w := by
    show Result.ok (Value.int .i64 (IntKind.i64.wrap (((BitVec.ofInt 64 (a : Int) ||| BitVec.ofInt 64 (b : Int)).toNat : Nat) : Int))) w = _
    rw [ofInt_nat, ofInt_nat, BitVec.toNat_or, BitVec.toNat_ofNat, BitVec.toNat_ofNat, Nat.mod_eq_of_lt (by omega), Nat.mod_eq_of_lt (by omega), h4]
  simp [execOp, hop, e1, e2, eqGuard, binOp, h6]
theorem d_andI {a b : Nat} (hop : o.op = .binOp .and t x y t') (hx : opv e x = some (.int .i64 (a : Int))) (hy : opv e y = some (.int .i64 (b : Int))) (ha : a < 2 ^ 62) (hb : b < 2 ^ 62) : Det P e k o (.int .i64 ((a &&& b : Nat) : Int)) := by
  intro ev w hev _
  rw [hop] at hev
  have e1 := hev x (by simp [Op.operands]) _ hx
  have e2 := hev y (by simp [Op.operands]) _ hy
  have hlt : a &&& b < 2 ^ 62 := Nat.lt_of_le_of_lt Nat.and_le_left ha
  have h4 : IntKind.i64.wrap ((a &&& b : Nat) : Int) = ((a &&& b : Nat) : Int) := by rw [IntKind.wrap_i64]; omega
  have h6 : (Op.intBits .and .i64 (a : Int) (b : Int)).run P w = .ok (.int .i64 ((a &&& b : Nat) : Int)) w := by
    show Result.ok (Value.int .i64 (IntKind.i64.wrap (((BitVec.ofInt 64 (a : Int) &&& BitVec.ofInt 64 (b : Int)).toNat : Nat) : Int))) w = _
    rw [ofInt_nat, ofInt_nat, BitVec.toNat_and, BitVec.toNat_ofNat, BitVec.toNat_ofNat, Nat.mod_eq_of_lt (by omega), Nat.mod_eq_of_lt (by omega), h4]
  simp [execOp, hop, e1, e2, eqGuard, binOp, h6]
end Go.Wm
