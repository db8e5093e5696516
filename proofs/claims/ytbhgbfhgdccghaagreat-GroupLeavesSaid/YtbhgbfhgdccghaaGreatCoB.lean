/-
  The core of the calculus, its parts one behind the other (CoB). Conditions: none beyond those of each law.
-/
import Derived.Test.YtbhgbfhgdccghaaGreatCoA
import Derived.Laws.Cover3
import Derived.Lib.AppendZeros
import Derived.HandedShaped
import Derived.Laws.IdiomRangeMap
set_option linter.all false
/-
  A region that draws its order, makes new blocks, and ends with operations each of which waits for all before it: one walk in the text's order; the new blocks are no two the same. Conditions: the region's own order, a Bool that the kernel reckons.
-/
namespace Go.Wm
variable [Dfr]
open Go.RowKit

def blkV : Value → Option Nat
  | .slice (some a) _ _ => some a.block
  | .pointer (some a) => some a.block
  | .map (some r) => some r
  | _ => none

/-- As 'Loc', and the value of a slot of fs is a block that was not there. -/
def LocG (P : Program) (n N : Nat) (ops : Array Oper) (fs : List Nat) (o : Oper) (e : Env) (kr : PH) (p : PV) : Prop :=
  p.Mono ∧ ∀ (a : Act) (w : World) (k : PH), Le kr k → Sub k w → a.tmps.size = n → N ≤ w.heap.size →
    (∀ t ∈ o.looksAt ops, ∀ q, get e t = some q → q.holds k (a.tmps.getD t undef)) →
    if Region.wanted o (yielded ops a.tmps) then
      Ex P o a w (fun v w' => ∃ k', Below w.heap.size w w' ∧ Agr w.heap.size k k' ∧ Sub k' w' ∧ p.holds k' v ∧ ∀ d, o.dst = some d → d ∈ fs → ∃ b, blkV v = some b ∧ w.heap.size ≤ b ∧ b < w'.heap.size)
    else p.holds k undef ∧ ∀ d, o.dst = some d → d ∉ fs
def noneOf (fs : List Nat) (o : Oper) : Bool := match o.dst with | some d => !fs.contains d | none => true
theorem noneOf_spec {fs : List Nat} {o : Oper} (h : noneOf fs o = true) {d : Nat} (hd : o.dst = some d) : d ∉ fs := by
  unfold noneOf at h
  rw [hd] at h
  intro hm
  have h' : d ∉ fs := by simpa using h
  exact h' hm

section
variable {P : Program} {F : Fr} {n N : Nat} {ops : Array Oper} {Q : Exit → Act → World → Prop} {fs : List Nat} {o : Oper} {e : Env} {k : PH}
theorem LocG.of {p : PV} (h : Loc P n ops o e k p) (hn : noneOf fs o = true) : LocG P n N ops fs o e k p := by
  refine ⟨h.1, fun a w k1 h1 h2 h3 _ h4 => ?_⟩
  have := h.2 a w k1 h1 h2 h3 h4
  split
  · rename_i hw
    rw [if_pos hw] at this
    exact this.mono fun v w' ⟨k', g1, g2, g3, g4⟩ => ⟨k', g1, g2, g3, g4, fun d hd hm => absurd hm (noneOf_spec hn hd)⟩
  · rename_i hw
    rw [if_neg hw] at this
    exact ⟨this, fun d hd => noneOf_spec hn hd⟩
theorem LocG.new {vf : Nat → Value} {obj : Obj} (hg : wantedE ops e o = some true) (h : Alc P e k o vf obj) (hv : ∀ b, blkV (vf b) = some b) : LocG P n N ops fs o e k (.such (New k vf obj)) := by
  refine ⟨fun k1 k2 v hl ⟨b, h1, h2, h3⟩ => ⟨b, h1, hl b _ h2, h3⟩, fun a w k1 hk hs _ _ hl => ?_⟩
  rw [if_pos (wanted_of hl hg)]
  exact (ex_value (h a.eval w (evs_of hl) (hs.mono hk))).mono fun u u' ⟨h1, h2⟩ => by
    subst h2
    refine ⟨upd k1 w.heap.size obj, below_alloc _ _, agr_upd (Nat.le_refl _) _, sub_alloc hs _, ⟨_, h1, upd_same _ _ _, (hs.mono hk).none (Nat.le_refl _)⟩, fun d _ _ => ⟨w.heap.size, by rw [h1]; exact hv _, Nat.le_refl _, ?_⟩⟩
    show w.heap.size < (w.heap.push obj).size
    simp

/-- As 'New', and none from before N. -/
def NewN (N : Nat) (kr : PH) (vf : Nat → Value) (obj : Obj) (k : PH) (v : Value) : Prop := ∃ b, v = vf b ∧ k b = some obj ∧ kr b = none ∧ N ≤ b
theorem newN_mono {N : Nat} {kr : PH} {vf : Nat → Value} {obj : Obj} : (PV.such (NewN N kr vf obj)).Mono := fun _ _ _ hl ⟨b, h1, h2, h3⟩ => ⟨b, h1, hl b _ h2, h3⟩
theorem LocG.newN {vf : Nat → Value} {obj : Obj} (hg : wantedE ops e o = some true) (h : Alc P e k o vf obj) (hv : ∀ b, blkV (vf b) = some b) : LocG P n N ops fs o e k (.such (NewN N k vf obj)) := by
  refine ⟨newN_mono, fun a w k1 hk hs _ hN hl => ?_⟩
  rw [if_pos (wanted_of hl hg)]
  exact (ex_value (h a.eval w (evs_of hl) (hs.mono hk))).mono fun u u' ⟨h1, h2⟩ => by
    subst h2
    refine ⟨upd k1 w.heap.size obj, below_alloc _ _, agr_upd (Nat.le_refl _) _, sub_alloc hs _, ⟨_, h1, upd_same _ _ _, (hs.mono hk).none (Nat.le_refl _), hN⟩, fun d _ _ => ⟨w.heap.size, by rw [h1]; exact hv _, Nat.le_refl _, ?_⟩⟩
    show w.heap.size < (w.heap.push obj).size
    simp
theorem LocG.copy {t : Nat} {φ : PH → Value → Prop} (hg : wantedE ops e o = some true) (hop : o.op = .assign (.tmp t) ∨ o.op = .move (.tmp t)) (ht : get e t = some (.such φ)) (hm : (PV.such φ).Mono) (hn : noneOf fs o = true) : LocG P n N ops fs o e k (.such φ) := by
  refine ⟨hm, fun a w k1 hk hs _ _ hl => ?_⟩
  rw [if_pos (wanted_of hl hg)]
  have hex : (execOp a.eval o).run P w = .ok (.value (a.eval (.tmp t))) w := by
    rcases hop with hop | hop <;> simp [execOp, hop]
  have hmem : t ∈ o.looksAt ops := by
    unfold Oper.looksAt
    refine List.mem_append.2 (.inl ?_)
    rw [List.mem_filterMap]
    rcases hop with hop | hop
    · exact ⟨.tmp t, by rw [hop]; simp [Op.operands], rfl⟩
    · exact ⟨.tmp t, by rw [hop]; simp [Op.operands], rfl⟩
  refine (ex_value hex).mono fun u u' ⟨h1, h2⟩ => ?_
  subst h2
  refine ⟨k1, RowKit.Below.refl _ _, Agr.refl _ _, hs, ?_, fun d hd hm' => absurd hm' (noneOf_spec hn hd)⟩
  rw [h1]
  exact hl t hmem _ ht
/-- The walk in the text's order. -/
def WF (P : Program) (n N : Nat) (ops : Array Oper) (fs : List Nat) (k : PH) (K : Env → Prop) : List Oper → Env → Prop
  | [], e => K e
  | o :: r, e => ∃ p, LocG P n N ops fs o e k p ∧ WF P n N ops fs k K r (set e o.dst p)
theorem wf_at {K : Env → Prop} : ∀ (l : List Oper) (e : Env), WF P n N ops fs k K l e → ∃ (es : Nat → Env) (ps : Nat → PV), es 0 = e ∧ (∀ i o, l[i]? = some o → LocG P n N ops fs o (es i) k (ps i) ∧ es (i + 1) = set (es i) o.dst (ps i)) ∧ K (es l.length)
  | [], e, h => ⟨fun _ => e, fun _ => .is undef, rfl, fun i o h => by simp at h, h⟩
  | x :: r, e, ⟨p, hl, h⟩ => by
    obtain ⟨es, ps, h0, h1, h2⟩ := wf_at r _ h
    refine ⟨fun i => match i with | 0 => e | i + 1 => es i, fun i => match i with | 0 => p | i + 1 => ps i, rfl, fun i o ho => ?_, h2⟩
    cases i with
    | zero =>
      simp only [List.getElem?_cons_zero, Option.some.injEq] at ho
      subst ho
      exact ⟨hl, h0⟩
    | succ i => exact h1 i o (by simpa using ho)

/-- From m on, each operation waits for all before it. -/
def tailOk (m : Nat) (ops : List Oper) : Bool := (List.range ops.length).all fun i => Nat.blt i m || (List.range i).all fun j => ((masks ops []).getD i 0).testBit j
theorem tailOk_spec {m : Nat} {ops : List Oper} (h : tailOk m ops = true) {i j : Nat} (hi : i < ops.length) (hm : m ≤ i) (hj : j < i) : ((masks ops []).getD i 0).testBit j = true := by
  unfold tailOk at h
  rw [List.all_eq_true] at h
  have := h i (List.mem_range.2 hi)
  have hb : Nat.blt i m = false := by
    cases e : Nat.blt i m with
    | false => rfl
    | true => rw [Nat.blt_eq] at e; omega
  rw [hb, Bool.false_or, List.all_eq_true] at this
  exact this j (List.mem_range.2 hj)

theorem ready_iff {ops : List Oper} {L : Array Bool} (hsz : L.size = ops.length) {i : Nat} (hi : i ∈ Region.ready .any ops.toArray L) :
    ∃ hil : i < ops.length, L.getD i false = false ∧ ∀ ed ∈ (ops[i]).after.toList, Region.binds .any ed = true → L.getD ed.on false = true := by
  unfold Region.ready at hi
  obtain ⟨hi1, hi2⟩ := List.mem_filter.1 hi
  have hil : i < ops.length := by simpa using hi1
  have ho : ops[i]? = some ops[i] := List.getElem?_eq_getElem hil
  simp only [List.getElem?_toArray, ho, Option.map_some, Option.getD_some, Bool.and_eq_true, Bool.not_eq_true'] at hi2
  obtain ⟨hLi, hed⟩ := hi2
  rw [← Array.all_toList, List.all_eq_true] at hed
  refine ⟨hil, ?_, fun ed he hb => ?_⟩
  · rw [Array.getD_eq_getD_getElem?, Array.getElem?_eq_getElem (by omega)] at hLi ⊢
    exact hLi
  · have := hed ed he
    rw [hb] at this
    simpa using this
theorem ready_mem {ops : List Oper} {L : Array Bool} (hsz : L.size = ops.length) {i : Nat} (hil : i < ops.length) (hL : L.getD i false = false) (hed : ∀ ed ∈ (ops[i]).after.toList, Region.binds .any ed = true → L.getD ed.on false = true) : i ∈ Region.ready .any ops.toArray L := by
  have ho : ops[i]? = some ops[i] := List.getElem?_eq_getElem hil
  have hLt : L.getD i true = false := by
    rw [Array.getD_eq_getD_getElem?, Array.getElem?_eq_getElem (by omega)] at hL ⊢
    exact hL
  unfold Region.ready
  refine List.mem_filter.2 ⟨by simpa using hil, ?_⟩
  simp only [hLt, List.getElem?_toArray, ho, Option.map_some, Option.getD_some, Bool.not_false, Bool.true_and]
  rw [← Array.all_toList, List.all_eq_true]
  intro ed he
  by_cases hb : Region.binds .any ed = true
  · rw [hed ed he hb]; simp
  · simp [hb]
theorem ready_nil {ops : List Oper} {L : Array Bool} (hsz : L.size = ops.length) (hall : ∀ i, i < ops.length → L.getD i false = true) : Region.ready .any ops.toArray L = [] := by
  rw [List.eq_nil_iff_forall_not_mem]
  intro i hi
  obtain ⟨hil, h1, _⟩ := ready_iff hsz hi
  rw [hall i hil] at h1
  cases h1
theorem getD_set {L : Array Bool} {i : Nat} (hi : i < L.size) (j : Nat) : (L.setIfInBounds i true).getD j false = if j = i then true else L.getD j false := by
  rw [Array.getD_eq_getD_getElem?, Array.getD_eq_getD_getElem?, Array.getElem?_setIfInBounds]
  by_cases hji : i = j
  · subst hji; simp [hi]
  · simp [hji, Ne.symm hji]
theorem count_set_lt {L : Array Bool} {i fuel : Nat} (hi : i < L.size) (hL : L.getD i false = false) (hc : L.toList.count false ≤ fuel + 1) : (L.setIfInBounds i true).toList.count false ≤ fuel := by
  have h3 : (L.setIfInBounds i true).toList = L.toList.set i true := by simp
  rw [h3]
  have h5 : i < L.toList.length := by simpa using hi
  have h6 := List.count_set (a := true) (b := false) (l := L.toList) (i := i) (h := h5)
  rw [h6]
  have h7 : L.toList[i] = false := by
    rw [Array.getD_eq_getD_getElem?, Array.getElem?_eq_getElem hi] at hL
    simpa using hL
  have e1 : ((false : Bool) == false) = true := rfl
  have e2 : ((true : Bool) == false) = false := rfl
  have : 0 < L.toList.count false := List.count_pos_iff.2 (by rw [← h7]; exact List.getElem_mem h5)
  rw [h7, e1, e2]
  simp only [if_true, Bool.false_eq_true, if_false]
  omega
theorem count_pos {L : Array Bool} {i : Nat} (hi : i < L.size) (hL : L.getD i false = false) : 0 < L.toList.count false := by
  have h5 : i < L.toList.length := by simpa using hi
  have h7 : L.toList[i] = false := by
    rw [Array.getD_eq_getD_getElem?, Array.getElem?_eq_getElem hi] at hL
    simpa using hL
  exact List.count_pos_iff.2 (by rw [← h7]; exact List.getElem_mem h5)

/-- The tail is carried out in the text's order. -/
theorem tail_run {ops : List Oper} {m0 : Nat} (g4 : ∀ (i : Nat) (o : Oper), ops[i]? = some o → ∀ ed ∈ o.after.toList, Region.binds .any ed = true → ed.on < i) (ht : tailOk m0 ops = true) : ∀ (r : List Oper) (m : Nat), m0 ≤ m → ops.drop m = r →
    ∀ (fuel : Nat) (L : Array Bool) (a : Act) (w : World), L.size = ops.length → (∀ j, j < m → j < ops.length → L.getD j false = true) → (∀ j, m ≤ j → L.getD j false = false) → L.toList.count false ≤ fuel → wpList P ops.toArray Q r a w → wpAny P .any ops.toArray Q fuel L a w
  | [], m, hm, hd, fuel, L, a, w, hsz, h1, h2, hc, hw => by
    have hml : ops.length ≤ m := by
      have := congrArg List.length hd
      simp at this
      omega
    have hr := ready_nil hsz (fun i hi => h1 i (by omega) hi)
    have hQ : Q .normal a w := hw
    cases fuel with
    | zero => exact ⟨hr, hQ⟩
    | succ f => exact ⟨fun _ => hQ, fun i hi => by rw [hr] at hi; cases hi⟩
  | o :: r, m, hm, hd, fuel, L, a, w, hsz, h1, h2, hc, hw => by
    have hml : m < ops.length := by
      have := congrArg List.length hd
      simp at this
      omega
    have ho : ops[m]? = some o := by
      have : (ops.drop m)[0]? = some o := by rw [hd]; rfl
      simpa using this
    have hmo : ops[m] = o := by rw [List.getElem?_eq_getElem hml] at ho; exact Option.some.inj ho
    have hLm := h2 m (Nat.le_refl _)
    have hms : m < L.size := by omega
    cases fuel with
    | zero => have := count_pos hms hLm; omega
    | succ fuel =>
      have hrm : m ∈ Region.ready .any ops.toArray L := ready_mem hsz hml hLm fun ed he hb => by
        have := g4 m _ (List.getElem?_eq_getElem hml) ed he hb
        exact h1 ed.on this (by omega)
      refine ⟨fun hr => (by rw [hr] at hrm; cases hrm), fun i hi => ?_⟩
      obtain ⟨hil, hLi, hed⟩ := ready_iff hsz hi
      have him : i = m := by
        rcases Nat.lt_trichotomy i m with h | h | h
        · rw [h1 i h hil] at hLi; cases hLi
        · exact h
        · exfalso
          have hb := tailOk_spec ht hil (by omega) h
          have := mask_done g4 L (fun q oq hq hLq ed he hbd => by
            have hqm : q < m := by
              rcases Nat.lt_or_ge q m with h' | h'
              · exact h'
              · rw [h2 q h'] at hLq; cases hLq
            have := g4 q oq hq ed he hbd
            exact h1 ed.on (by omega) (by omega)) (i + 1) i (Nat.lt_succ_self _) _ (List.getElem?_eq_getElem hil) hed m hb
          rw [hLm] at this
          cases this
      subst him
      have hset := getD_set hms
      have next : ∀ a'' w'', wpList P ops.toArray Q r a'' w'' → wpAny P .any ops.toArray Q fuel (L.setIfInBounds i true) a'' w'' := fun a'' w'' hq =>
        tail_run g4 ht r (i + 1) (by omega) (by rw [Nat.add_comm, show 1 + i = i + 1 from Nat.add_comm _ _, ← List.tail_drop, hd]; rfl) fuel _ a'' w'' (by simpa using hsz) (fun j hj hjl => by
          rw [hset]
          split
          · rfl
          · exact h1 j (by omega) hjl) (fun j hj => by
          rw [hset, if_neg (by omega)]
          exact h2 j (by omega)) (count_set_lt hms hLm hc) hq
      unfold wpOp
      simp only [List.getElem?_toArray, ho]
      unfold wpList at hw
      split
      · rename_i hwt
        rw [if_pos hwt] at hw
        rcases hw with hw | hw
        · exact .inl (Oper.wp_mono (fun a'' w'' hq => next a'' w'' hq) hw)
        · exact .inr hw
      · rename_i hwt
        rw [if_neg hwt] at hw
        exact next _ _ hw
structure FrA (ops : List Oper) (fs : List Nat) (N : Nat) (L : Array Bool) (a : Act) (w : World) : Prop where
  fresh : ∀ i o d, ops[i]? = some o → o.dst = some d → d ∈ fs → L.getD i false = true → ∃ b, blkV (a.tmps.getD d undef) = some b ∧ N ≤ b ∧ b < w.heap.size
  apart : ∀ i j oi oj di dj, ops[i]? = some oi → ops[j]? = some oj → oi.dst = some di → oj.dst = some dj → di ∈ fs → dj ∈ fs → i ≠ j → L.getD i false = true → L.getD j false = true → blkV (a.tmps.getD di undef) ≠ blkV (a.tmps.getD dj undef)

theorem region_fresh {A T : List Oper} {id : Nat} (hm : P.follows .mixedOrders = true) (hok : okAny n (A ++ T) = true) (htail : tailOk A.length (A ++ T) = true) (hfs : (fs.all fun t => (A.filterMap (·.dst)).contains t) = true) (hmono : ∀ t q, get e t = some q → q.Mono) {a : Act} {w : World} (ha : Ag n e k a) (hs : St F k w)
    (h : WF P n F.w0.heap.size (A ++ T).toArray fs k (fun e' => ∀ k' a' w', Le k k' → Ag n e' k' a' → St F k' w' → (∀ t ∈ fs, ∃ b, blkV (a'.tmps.getD t undef) = some b ∧ w.heap.size ≤ b) → (∀ t ∈ fs, ∀ u ∈ fs, t ≠ u → blkV (a'.tmps.getD t undef) ≠ blkV (a'.tmps.getD u undef)) → wpList P (A ++ T).toArray Q T a' w') A e) :
    (Code.region id (A ++ T).toArray true).wp P Q a w := by
  generalize hops : A ++ T = ops at *
  have hAl : A.length ≤ ops.length := by rw [← hops]; simp
  have hA : ∀ m, m < A.length → A[m]? = ops[m]? := fun m hm => by rw [← hops, List.getElem?_append_left hm]
  have hdrop : ops.drop A.length = T := by rw [← hops]; simp
  obtain ⟨es, ps, h0, h1', hK⟩ := wf_at A e h
  obtain ⟨g1, g2, g3, g4⟩ := okAny_parts hok
  have h1 : ∀ i o, i < A.length → ops[i]? = some o → LocG P n F.w0.heap.size ops.toArray fs o (es i) k (ps i) ∧ es (i + 1) = set (es i) o.dst (ps i) := fun i o hi ho => h1' i o (by rw [hA i hi]; exact ho)
  have hes : ∀ (i : Nat), i ≤ A.length → ∀ t, (∃ j o, j < i ∧ ops[j]? = some o ∧ o.dst = some t ∧ get (es i) t = some (ps j)) ∨ ((∀ j o, j < i → ops[j]? = some o → o.dst ≠ some t) ∧ get (es i) t = get (es 0) t) := by
    intro i hi t
    have gA : distinct (A.filterMap (·.dst)) = true := by
      have h2 := g2
      rw [← hops, List.filterMap_append] at h2
      have : ∀ (p q : List Nat), distinct (p ++ q) = true → distinct p = true := by
        intro p q
        induction p with
        | nil => intro _; rfl
        | cons x p ih =>
          intro h
          simp only [List.cons_append, distinct, Bool.and_eq_true, Bool.not_eq_true'] at h ⊢
          refine ⟨?_, ih h.2⟩
          have h3 := h.1
          cases hc : p.contains x with
          | false => rfl
          | true =>
            rw [List.contains_iff_mem] at hc
            rw [List.contains_iff_mem.2 (List.mem_append_left q hc)] at h3
            cases h3
      exact this _ _ h2
    have := es_get (ops := A) (es := es) (ps := ps) gA (fun i o ho => (h1' i o ho).2) i hi t
    rcases this with ⟨j, o, hj, ho, hd, hg⟩ | ⟨hno, hg⟩
    · exact .inl ⟨j, o, hj, by rw [← hA j (by omega)]; exact ho, hd, hg⟩
    · exact .inr ⟨fun j o hj ho => hno j o hj (by rw [hA j (by omega)]; exact ho), hg⟩
  refine wp_region_any hm ?_
  have hb0 : Below w.heap.size w { w with drawn := w.drawn + 1 } := below_drawn w _
  have hf : ∀ i, (Array.replicate ops.toArray.size false).getD i false = false := fun i => by
    rw [Array.getD_eq_getD_getElem?, Array.getElem?_replicate]
    split <;> rfl
  have start : Mid n ops e ps w k (Array.replicate ops.toArray.size false) a { w with drawn := w.drawn + 1 } k := by
    refine ⟨by simp, ha.size, ha.defers, hb0, Agr.refl _ _, hs.sub.below hb0, Le.refl _, fun i o ho hl => ?_, fun i o d ho hd hl => ?_, fun t _ q hq => ha.get t q hq⟩
    · rw [hf] at hl; cases hl
    · rw [hf] at hl; cases hl
  have startF : FrA ops fs w.heap.size (Array.replicate ops.toArray.size false) a { w with drawn := w.drawn + 1 } := by
    refine ⟨fun i o d _ _ _ hl => ?_, fun i j oi oj di dj _ _ _ _ _ _ _ hl _ => ?_⟩
    · rw [hf] at hl; cases hl
    · rw [hf] at hl; cases hl
  have done : ∀ (fuel : Nat) (L : Array Bool) (a' : Act) (w' : World) (k' : PH), Mid n ops e ps w k L a' w' k' → FrA ops fs w.heap.size L a' w' → (∀ j, A.length ≤ j → L.getD j false = false) → L.toList.count false ≤ fuel → (∀ j, j < A.length → L.getD j false = true) → wpAny P .any ops.toArray Q fuel L a' w' := by
    intro fuel L a' w' k' hmid hfr hlf hc hall
    have slot : ∀ t ∈ fs, ∃ i o, ops[i]? = some o ∧ o.dst = some t ∧ i < A.length := by
      intro t ht
      have := (List.all_eq_true.1 hfs) t ht
      obtain ⟨o, ho, hd⟩ := List.mem_filterMap.1 (List.contains_iff_mem.1 this)
      obtain ⟨i, hi, rfl⟩ := List.getElem_of_mem ho
      exact ⟨i, _, by rw [← hA i hi]; exact List.getElem?_eq_getElem hi, hd, hi⟩
    refine tail_run g4 htail T A.length (Nat.le_refl _) hdrop fuel L a' w' hmid.size (fun j hj _ => hall j hj) hlf hc (hK k' a' w' hmid.le ⟨hmid.tsize, hmid.defers, fun t q hq => ?_⟩ (hs.step hmid.below hmid.agr hmid.sub) (fun t ht => ?_) (fun t ht u hu hne => ?_))
    · rcases hes A.length (Nat.le_refl _) t with ⟨j, o, hj, hoj, hd, hg⟩ | ⟨hno, hg⟩
      · rw [hg] at hq
        cases hq
        exact hmid.done j o t hoj hd (hall j hj)
      · rw [hg, h0] at hq
        refine hmid.rest t (fun j o hoj hd => ?_) q hq
        by_cases hjA : j < A.length
        · exact absurd hd (hno j o hjA hoj)
        · exact hlf j (by omega)
    · obtain ⟨i, o, ho, hd, hi⟩ := slot t ht
      obtain ⟨b, hb1, hb2, _⟩ := hfr.fresh i o t ho hd ht (hall i hi)
      exact ⟨b, hb1, hb2⟩
    · obtain ⟨i, o, ho, hd, hi⟩ := slot t ht
      obtain ⟨j, o', ho', hd', hj⟩ := slot u hu
      refine hfr.apart i j o o' t u ho ho' hd hd' ht hu (fun hij => ?_) (hall i hi) (hall j hj)
      subst hij
      rw [ho] at ho'
      cases ho'
      rw [hd] at hd'
      cases hd'
      exact hne rfl
  have key : ∀ (fuel : Nat) (L : Array Bool) (a' : Act) (w' : World) (k' : PH), Mid n ops e ps w k L a' w' k' → FrA ops fs w.heap.size L a' w' → (∀ j, A.length ≤ j → L.getD j false = false) → L.toList.count false ≤ fuel → wpAny P .any ops.toArray Q fuel L a' w' := by
    intro fuel
    induction fuel with
    | zero =>
      intro L a' w' k' hmid hfr hlf hc
      refine done 0 L a' w' k' hmid hfr hlf hc fun j hj => ?_
      cases hLj : L.getD j false with
      | true => rfl
      | false =>
        have := count_pos (i := j) (by rw [hmid.size]; omega) hLj
        omega
    | succ fuel ih =>
      intro L a' w' k' hmid hfr hlf hc
      by_cases hall : ∀ j, j < A.length → L.getD j false = true
      · exact done _ L a' w' k' hmid hfr hlf hc hall
      refine ⟨fun hr => ?_, fun i hi => ?_⟩
      · exfalso
        apply hall
        have : ∀ m j, j < m → j < A.length → L.getD j false = true := by
          intro m
          induction m with
          | zero => intro j h; omega
          | succ m ihm =>
            intro j hjm hj
            cases hLj : L.getD j false with
            | true => rfl
            | false =>
              have hjl : j < ops.length := by omega
              have : j ∈ Region.ready .any ops.toArray L := ready_mem hmid.size hjl hLj fun ed he hb => by
                have hon := g4 j _ (List.getElem?_eq_getElem hjl) ed he hb
                exact ihm ed.on (by omega) (by omega)
              rw [hr] at this
              cases this
        exact fun j hj => this (j + 1) j (Nat.lt_succ_self j) hj
      · obtain ⟨hil, hLf, hed'⟩ := ready_iff hmid.size hi
        have ho : ops[i]? = some ops[i] := List.getElem?_eq_getElem hil
        have hsz : i < L.size := by rw [hmid.size]; exact hil
        have hiA : i < A.length := by
          rcases Nat.lt_or_ge i A.length with h | h
          · exact h
          · exfalso
            apply hall
            intro j hj
            exact mask_done g4 L hmid.down (i + 1) i (Nat.lt_succ_self i) _ ho hed' j (tailOk_spec htail hil h (by omega))
        have hset := getD_set hsz
        have looks : ∀ t ∈ (ops[i]).looksAt ops.toArray, ∀ q, get (es i) t = some q → q.holds k' (a'.tmps.getD t undef) := by
          intro t ht q hq
          rcases hes i (by omega) t with ⟨j, o, hj, hoj, hd, hg⟩ | ⟨hno, hg⟩
          · rw [hg] at hq
            cases hq
            refine hmid.done j o t hoj hd ?_
            have hp := g3 i j hil (by omega)
            unfold okPair at hp
            simp only [hoj, ho, Option.bind_some, hd] at hp
            have hc1 : (slots ops ops[i]).contains t = true := List.contains_iff_mem.2 ht
            have hji : Nat.blt j i = true := by simpa [Nat.blt_eq] using hj
            simp only [hc1, if_true, hji] at hp
            exact mask_done g4 L hmid.down (i + 1) i (Nat.lt_succ_self i) _ ho hed' j hp
          · rw [hg, h0] at hq
            refine hmid.rest t (fun j o hoj hd => ?_) q hq
            cases hLj : L.getD j false with
            | false => rfl
            | true =>
              exfalso
              have hjl : j < ops.length := (List.getElem?_eq_some_iff.1 hoj).1
              have hji : ¬ j < i := fun hlt => hno j o hlt hoj hd
              have hne : j ≠ i := by rintro rfl; rw [hLf] at hLj; cases hLj
              have hp := g3 i j hil hjl
              unfold okPair at hp
              simp only [hoj, ho, Option.bind_some, hd] at hp
              have hc1 : (slots ops ops[i]).contains t = true := List.contains_iff_mem.2 ht
              have b1 : Nat.blt j i = false := by cases e : Nat.blt j i with | false => rfl | true => exact absurd (by simpa [Nat.blt_eq] using e) hji
              have b2 : Nat.blt i j = true := by rw [Nat.blt_eq]; omega
              simp only [hc1, if_true, b1, b2, Bool.false_eq_true, if_false] at hp
              have := mask_done g4 L hmid.down (j + 1) j (Nat.lt_succ_self j) _ hoj (hmid.down j o hoj hLj) i hp
              rw [hLf] at this
              cases this
        have hloc := (h1 i _ hiA ho).1
        have hcount := count_set_lt hsz hLf hc
        have hlf' : ∀ j, A.length ≤ j → (L.setIfInBounds i true).getD j false = false := fun j hj => by
          rw [hset, if_neg (by omega)]; exact hlf j hj
        have step : ∀ v w'' k'', Below w'.heap.size w' w'' → Agr w'.heap.size k' k'' → Sub k'' w'' → (ps i).holds k'' v → Mid n ops e ps w k (L.setIfInBounds i true) (a'.put (ops[i]).dst v) w'' k'' := by
          intro v w'' k'' hb hag hsub hp
          have hle : Le k' k'' := hag.le hmid.sub
          refine ⟨by simp [hmid.size], (put_size _ _ _).trans hmid.tsize, (put_defers _ _ _).trans hmid.defers, hmid.below.trans (hb.mono hmid.below.size), fun b hbl => (hag b (Nat.lt_of_lt_of_le hbl hmid.below.size)).trans (hmid.agr b hbl), hsub, hmid.le.trans hle, ?_, ?_, ?_⟩
          · intro j o hoj hLj ed he hbd
            rw [hset] at hLj ⊢
            split
            · rfl
            · by_cases hji : j = i
              · subst hji
                rw [ho] at hoj
                cases hoj
                exact hed' ed he hbd
              · rw [if_neg hji] at hLj
                exact hmid.down j o hoj hLj ed he hbd
          · intro j o d hoj hd hLj
            rw [hset] at hLj
            by_cases hji : j = i
            · subst hji
              rw [ho] at hoj
              cases hoj
              rw [hd, put_getD_same (by rw [hmid.tsize]; exact g1 j _ d ho hd)]
              exact hp
            · rw [if_neg hji] at hLj
              have hdd : ∀ d', (ops[i]).dst = some d' → d' ≠ d := fun d' hd' hdd => hji (distinct_spec g2 hoj ho hd (hdd ▸ hd'))
              have hjA : j < A.length := by
                rcases Nat.lt_or_ge j A.length with h | h
                · exact h
                · rw [hlf j h] at hLj; cases hLj
              have hpm := (h1 j o hjA hoj).1.1
              have := PV.holds_mono hpm hle (hmid.done j o d hoj hd hLj)
              cases hx : (ops[i]).dst with
              | none => exact this
              | some d' => rw [put_getD_other (hdd d' hx)]; exact this
          · intro t hno q hq
            have hm2 := hmono t q hq
            have hnt : (ops[i]).dst ≠ some t := fun hd => by
              have := hno i _ ho hd
              rw [hset, if_pos rfl] at this
              cases this
            have := PV.holds_mono hm2 hle (hmid.rest t (fun j o hoj hd => by
              have := hno j o hoj hd
              rw [hset] at this
              split at this
              · cases this
              · exact this) q hq)
            cases hx : (ops[i]).dst with
            | none => exact this
            | some d' => rw [put_getD_other (fun h => hnt (by rw [hx, h]))]; exact this
        have stepF : ∀ v w'', w'.heap.size ≤ w''.heap.size → (∀ d, (ops[i]).dst = some d → d ∈ fs → ∃ b, blkV v = some b ∧ w'.heap.size ≤ b ∧ b < w''.heap.size) → FrA ops fs w.heap.size (L.setIfInBounds i true) (a'.put (ops[i]).dst v) w'' := by
          intro v w'' hsz' hv
          have same : ∀ d, (ops[i]).dst = some d → (a'.put (ops[i]).dst v).tmps.getD d undef = v := fun d hd => by
            rw [hd, put_getD_same (by rw [hmid.tsize]; exact g1 i _ d ho hd)]
          have other : ∀ (j : Nat) (o : Oper) (d : Nat), ops[j]? = some o → o.dst = some d → j ≠ i → (a'.put (ops[i]).dst v).tmps.getD d undef = a'.tmps.getD d undef := fun j o d hoj hd hji => by
            cases hx : (ops[i]).dst with
            | none => rfl
            | some d' => rw [put_getD_other (fun hdd : d' = d => hji (distinct_spec g2 hoj ho hd (by rw [hx, hdd])))]
          refine ⟨fun j o d hoj hd hdf hLj => ?_, fun j1 j2 o1 o2 d1 d2 ho1 ho2 hd1 hd2 hf1 hf2 hne hL1 hL2 => ?_⟩
          · rw [hset] at hLj
            by_cases hji : j = i
            · subst hji
              rw [ho] at hoj
              cases hoj
              rw [same d hd]
              obtain ⟨b, e1, e2, e3⟩ := hv d hd hdf
              exact ⟨b, e1, Nat.le_trans hmid.below.size e2, e3⟩
            · rw [if_neg hji] at hLj
              rw [other j o d hoj hd hji]
              obtain ⟨b, e1, e2, e3⟩ := hfr.fresh j o d hoj hd hdf hLj
              exact ⟨b, e1, e2, Nat.lt_of_lt_of_le e3 hsz'⟩
          · rw [hset] at hL1 hL2
            by_cases hj1 : j1 = i
            · subst hj1
              rw [ho] at ho1
              cases ho1
              have hj2 : j2 ≠ j1 := Ne.symm hne
              rw [if_neg hj2] at hL2
              rw [same d1 hd1, other j2 o2 d2 ho2 hd2 hj2]
              obtain ⟨b, e1, e2, _⟩ := hv d1 hd1 hf1
              obtain ⟨b', e1', _, e3'⟩ := hfr.fresh j2 o2 d2 ho2 hd2 hf2 hL2
              rw [e1, e1']
              simp
              omega
            · rw [if_neg hj1] at hL1
              rw [other j1 o1 d1 ho1 hd1 hj1]
              by_cases hj2 : j2 = i
              · subst hj2
                rw [ho] at ho2
                cases ho2
                rw [same d2 hd2]
                obtain ⟨b, e1, e2, _⟩ := hv d2 hd2 hf2
                obtain ⟨b', e1', _, e3'⟩ := hfr.fresh j1 o1 d1 ho1 hd1 hf1 hL1
                rw [e1, e1']
                simp
                omega
              · rw [if_neg hj2] at hL2
                rw [other j2 o2 d2 ho2 hd2 hj2]
                exact hfr.apart j1 j2 o1 o2 d1 d2 ho1 ho2 hd1 hd2 hf1 hf2 hne hL1 hL2
        have hex := hloc.2 a' w' k' hmid.le hmid.sub hmid.tsize (Nat.le_trans hs.size hmid.below.size) looks
        unfold wpOp
        simp only [List.getElem?_toArray, ho]
        split
        · rename_i hw
          rw [if_pos hw] at hex
          exact .inl (hex _ _ fun v w'' ⟨k'', hb, hag, hsub, hp, hfv⟩ => ih _ _ _ _ (step v w'' k'' hb hag hsub hp) (stepF v w'' hb.size hfv) hlf' hcount)
        · rename_i hw
          rw [if_neg hw] at hex
          exact ih _ _ _ _ (step undef w' k' (Below.refl _ _) (Agr.refl _ _) hmid.sub hex.1) (stepF undef w' (Nat.le_refl _) (fun d hd hm => absurd hm (hex.2 d hd))) hlf' hcount
  exact key _ _ _ _ _ start startF (fun j _ => hf j) (by simp [List.count_replicate])

/-- All slots by their values. -/
def nameP (v : Value) : PV → PV
  | .is u => .is u
  | .such _ => .is v
def nameE (vs : Nat → Value) : Env → Env
  | [] => []
  | (t, p) :: r => (t, nameP (vs t) p) :: nameE vs r
theorem nameE_get (vs : Nat → Value) (t : Nat) : ∀ e : Env, get (nameE vs e) t = (get e t).map (nameP (vs t))
  | [] => rfl
  | (d, p) :: r => by
    by_cases hd : d = t
    · subst hd
      simp only [nameE, get_cons_same, Option.map_some]
    · simp only [nameE, get_cons_other _ _ hd]
      exact nameE_get vs t r
theorem WF.mono {K K' : Env → Prop} {ops : Array Oper} (hm : ∀ e, K e → K' e) : ∀ (l : List Oper) (e : Env), WF P n N ops fs k K l e → WF P n N ops fs k K' l e
  | [], e, h => hm e h
  | o :: r, e, ⟨p, hl, h⟩ => ⟨p, hl, WF.mono hm r _ h⟩
theorem fs_nil {ops : Array Oper} {K : Env → Prop} (h : K e) : WF P n N ops fs k K [] e := h
theorem fs_s {ops : Array Oper} {K : Env → Prop} {r : List Oper} {d : Nat} {v : Value} (hd : o.dst = some d) (hl : Loc P n ops o e k (.is v)) (hn : noneOf fs o = true) (h : WF P n N ops fs k K r ((d, .is v) :: e)) : WF P n N ops fs k K (o :: r) e :=
  ⟨_, .of hl hn, by rw [hd]; exact h⟩
theorem fs_v {ops : Array Oper} {K : Env → Prop} {r : List Oper} {d : Nat} {φ : PH → Value → Prop} (hd : o.dst = some d) (hl : Loc P n ops o e k (.such φ)) (hn : noneOf fs o = true) (h : WF P n N ops fs k K r ((d, .such φ) :: e)) : WF P n N ops fs k K (o :: r) e :=
  ⟨_, .of hl hn, by rw [hd]; exact h⟩
theorem fs_new {ops : Array Oper} {K : Env → Prop} {r : List Oper} {d : Nat} {vf : Nat → Value} {obj : Obj} (hd : o.dst = some d) (hg : wantedE ops e o = some true) (hl : Alc P e k o vf obj) (hv : ∀ b, blkV (vf b) = some b) (h : WF P n N ops fs k K r ((d, .such (New k vf obj)) :: e)) : WF P n N ops fs k K (o :: r) e :=
  ⟨_, .new hg hl hv, by rw [hd]; exact h⟩

theorem fs_newN {ops : Array Oper} {K : Env → Prop} {r : List Oper} {d : Nat} {vf : Nat → Value} {obj : Obj} (hd : o.dst = some d) (hg : wantedE ops e o = some true) (hl : Alc P e k o vf obj) (hv : ∀ b, blkV (vf b) = some b) (h : WF P n N ops fs k K r ((d, .such (NewN N k vf obj)) :: e)) : WF P n N ops fs k K (o :: r) e :=
  ⟨_, .newN hg hl hv, by rw [hd]; exact h⟩
theorem fs_copy {ops : Array Oper} {K : Env → Prop} {r : List Oper} {d t : Nat} {φ : PH → Value → Prop} (hd : o.dst = some d) (hg : wantedE ops e o = some true) (hop : o.op = .assign (.tmp t) ∨ o.op = .move (.tmp t)) (ht : get e t = some (.such φ)) (hm : (PV.such φ).Mono) (hn : noneOf fs o = true) (h : WF P n N ops fs k K r ((d, .such φ) :: e)) : WF P n N ops fs k K (o :: r) e :=
  ⟨_, .copy hg hop ht hm hn, by rw [hd]; exact h⟩

/-- A region that draws, makes new blocks in the slots fs, and whose operations from m on each wait for all before. -/
theorem cg_fresh {id : Nat} {l : List Oper} [hm : Mixed P] (m : Nat) (fs : List Nat) (hok : okAny n l = true) (htail : tailOk m l = true) (hml : Nat.ble m l.length = true) (hfs : (fs.all fun t => ((l.take m).filterMap (·.dst)).contains t) = true) (hdet : det e = true)
    (h : WF P n F.w0.heap.size l.toArray fs k (fun e' => ∀ k' vs, Le k k' → (∀ t p, get e' t = some p → p.holds k' (vs t)) → (∀ t ∈ fs, ∃ b, blkV (vs t) = some b ∧ k b = none ∧ F.w0.heap.size ≤ b) → (∀ t ∈ fs, ∀ u ∈ fs, t ≠ u → blkV (vs t) ≠ blkV (vs u)) → RG P F n l.toArray Q (l.drop m) (nameE vs e') k') (l.take m) e) :
    CG P F n Q (.region id l.toArray true) e k := by
  intro a w ha hs
  have hlen : (l.take m).length = m := by
    have := Nat.le_of_ble_eq_true hml
    simp; omega
  have hsplit : l.take m ++ l.drop m = l := List.take_append_drop m l
  generalize hA : l.take m = A at *
  generalize hT : l.drop m = T at *
  subst hlen
  rw [← hsplit] at hok htail h ⊢
  refine region_fresh (F := F) hm.eq hok htail hfs (fun t q hg => by obtain ⟨v, rfl⟩ := det_get hdet hg; trivial) ha hs (WF.mono (fun e' hK k' a' w' hle hag hst hfr hap => ?_) A e h)
  refine hK k' (fun t => a'.tmps.getD t undef) hle (fun t p hp => hag.get t p hp) (fun t ht => ?_) hap a' w' ⟨hag.size, hag.defers, fun t q hq => ?_⟩ hst
  · obtain ⟨b, h1, h2⟩ := hfr t ht
    exact ⟨b, h1, hs.sub.none h2, Nat.le_trans hs.size h2⟩
  · rw [nameE_get] at hq
    cases hg : get e' t with
    | none => rw [hg] at hq; cases hq
    | some p =>
      rw [hg] at hq
      cases hq
      have := hag.get t p hg
      cases p with
      | is v => exact this
      | such φ => rfl
end
end Go.Wm

/-
  Rows of the call's own that lie side by side in a slice of the call's own (a list of lists that grow), and how a row reads as a slice. Conditions: none.
-/
namespace Go.Wm
variable [Dfr]
open Go.RowKit

/-- A row of the call's own reads as a slice. -/
theorem Row.sl {α : Type} {T : Ty α} {N : Nat} {k : PH} {et : Nat} {v : Value} {xs : List α} {f : α → List Value} (h : Row N k et T.sz v xs.length (xs.flatMap f)) (hf : ∀ x ∈ xs, T.rep k (f x) x) : ∃ a c, v = .slice a xs.length c ∧ Sl T k a c xs := by
  obtain ⟨h1, h2⟩ := h
  rcases h2 with ⟨rfl, h2⟩ | ⟨g, cap, cur, rfl, _, hg, hc, hm, hs, ht⟩
  · have : xs = [] := by simpa using h2
    subst this
    exact ⟨none, 0, rfl, by simp, by simp [maxLen], fun _ => rfl, by simp, by simp⟩
  · refine ⟨_, _, rfl, hc, hm, by simp, by simp, fun i x hx => ?_⟩
    have hlt : i < xs.length := (List.getElem?_eq_some_iff.1 hx).1
    refine ⟨g, 0, f x, rfl, hf x (List.mem_of_getElem? hx), cur, et, (0, 0), hg, fun j u hu => ?_⟩
    have hlen : (f x).length = T.sz := T.len (hf x (List.mem_of_getElem? hx))
    have hj : j < T.sz := by rw [← hlen]; exact (List.getElem?_eq_some_iff.1 hu).1
    have key : ∀ (xs : List α) (i : Nat) (x : α), (∀ y ∈ xs, (f y).length = T.sz) → xs[i]? = some x → (xs.flatMap f)[i * T.sz + j]? = (f x)[j]? := by
      intro xs
      induction xs with
      | nil => intro i x _ hx; simp at hx
      | cons y ys ih =>
        intro i x hl hx
        have hy := hl y (by simp)
        cases i with
        | zero =>
          simp at hx
          subst hx
          simp only [List.flatMap_cons, Nat.zero_mul, Nat.zero_add]
          rw [List.getElem?_append_left (by omega)]
        | succ i =>
          simp only [List.flatMap_cons]
          rw [List.getElem?_append_right (by rw [hy, Nat.succ_mul]; omega)]
          rw [show (i + 1) * T.sz + j - (f y).length = i * T.sz + j by rw [hy, Nat.succ_mul]; omega]
          exact ih i x (fun z hz => hl z (by simp [hz])) (by simpa using hx)
    have h3 := key xs i x (fun y hy => T.len (hf y hy)) hx
    rw [← ht, List.getElem?_take] at h3
    split at h3
    · rw [hu] at h3
      simpa using h3
    · rw [hu] at h3
      cases h3

theorem turn1_get {k k' : PH} {b c : Nat} {o : Obj} (h : Turn1 k k' b) (hne : c ≠ b) (hc : k c = some o) : k' c = some o := by
  refine h (fun i => if i = c then some o else none) (fun i ob hi => ?_) (by simp [Ne.symm hne]) c o (by simp)
  simp only at hi
  split at hi
  · rename_i e; subst e; cases hi; exact hc
  · cases hi

/-- A block whose cells are rows of the same width reads as a list. -/
theorem sl_rows {α : Type} {T : Ty α} {k : PH} {b : Nat} {c : Array Value} {et : TypeId} {fr : Nat × Nat} {css : List (List Value)} {xs : List α} (h : k b = some (.cells c et fr)) (hc : c.toList = css.flatten) (hl : css.length = xs.length)
    (hr : ∀ (i : Nat) (cs : List Value) (x : α), css[i]? = some cs → xs[i]? = some x → T.rep k cs x) (hm : xs.length ≤ maxLen) : Sl T k (some ⟨b, 0, none⟩) xs.length xs := by
  refine ⟨Nat.le_refl _, hm, by simp, by simp, fun i x hx => ?_⟩
  have hlt : i < xs.length := (List.getElem?_eq_some_iff.1 hx).1
  have hcs : css[i]? = some (css[i]'(by omega)) := List.getElem?_eq_getElem (by omega)
  generalize css[i]'(by omega) = cs at hcs
  have hrep := hr i cs x hcs hx
  refine ⟨b, 0, cs, rfl, hrep, c, et, fr, h, fun j u hu => ?_⟩
  have hj : j < T.sz := by rw [← T.len hrep]; exact (List.getElem?_eq_some_iff.1 hu).1
  have key : ∀ (css : List (List Value)) (i : Nat) (cs : List Value), (∀ y ∈ css, y.length = T.sz) → css[i]? = some cs → css.flatten[i * T.sz + j]? = cs[j]? := by
    intro css
    induction css with
    | nil => intro i x _ hx; simp at hx
    | cons y ys ih =>
      intro i x hl hx
      have hy := hl y (by simp)
      cases i with
      | zero =>
        simp at hx
        subst hx
        simp only [List.flatten_cons, Nat.zero_mul, Nat.zero_add]
        rw [List.getElem?_append_left (by omega)]
      | succ i =>
        simp only [List.flatten_cons]
        rw [List.getElem?_append_right (by rw [hy, Nat.succ_mul]; omega)]
        rw [show (i + 1) * T.sz + j - y.length = i * T.sz + j by rw [hy, Nat.succ_mul]; omega]
        exact ih i x (fun z hz => hl z (by simp [hz])) (by simpa using hx)
  have hall : ∀ y ∈ css, y.length = T.sz := by
    intro y hy
    obtain ⟨q, hq⟩ := List.getElem?_of_mem hy
    have hql : q < xs.length := by rw [← hl]; exact (List.getElem?_eq_some_iff.1 hq).1
    exact T.len (hr q y xs[q] hq (List.getElem?_eq_getElem hql))
  have h3 := key css i cs hall hcs
  rw [Nat.zero_add, ← Array.getElem?_toList, hc, h3]
  exact hu

/-- Rows side by side: the block bo has the slices vs, each of which is a row that reads as its list; no two rows share a block, and h knows none of them. -/
structure RowsOf {α : Type} (f : α → List Value) (N : Nat) (et sz bet bo : Nat) (h k : PH) (vs : List Value) (rs : List (List α)) : Prop where
  len : vs.length = rs.length
  le : Le h k
  hbo : h bo = none
  N_le : N ≤ bo
  at' : k bo = some (.cells vs.toArray bet (0, 0))
  row : ∀ (i : Nat) (v : Value) (r : List α), vs[i]? = some v → rs[i]? = some r → Row N k et sz v r.length (r.flatMap f) ∧ Apart h v ∧ v.ownBlock ≠ some bo
  apart : ∀ (i j : Nat) (v v' : Value), i ≠ j → vs[i]? = some v → vs[j]? = some v' → ∀ g, v.ownBlock = some g → v'.ownBlock ≠ some g

theorem RowsOf.turn {α : Type} {f : α → List Value} {N et sz bet bo : Nat} {h k k' : PH} {vs : List Value} {rs : List (List α)} (H : RowsOf f N et sz bet bo h k vs rs) {i : Nat} {v v' : Value} {r : List α} (hv : vs[i]? = some v) (hr : rs[i]? = some r) (x : α)
    (hrow : Row N k' et sz v' (r.length + 1) (r.flatMap f ++ f x)) (ht : Turn k k' v v') :
    k' bo = some (.cells vs.toArray bet (0, 0)) ∧ ∀ k'', Turn1 k' k'' bo → k'' bo = some (.cells (vs.toArray.setIfInBounds i v') bet (0, 0)) → RowsOf f N et sz bet bo h k'' (vs.set i v') (rs.set i (r ++ [x])) := by
  obtain ⟨hrv, hapv, hbv⟩ := H.row i v r hv hr
  obtain ⟨d1, d2⟩ := ht (delV k v) (delV_le k v) (fun g hg => delV_own hg)
  obtain ⟨e1, e2⟩ := ht h H.le hapv
  have hk1 : k' bo = some (.cells vs.toArray bet (0, 0)) := d1 bo _ (by rw [delV_of hbv]; exact H.at')
  have hbo' : v'.ownBlock ≠ some bo := fun hg => by
    have := d2 bo hg
    rw [delV_of hbv, H.at'] at this
    cases this
  refine ⟨hk1, fun k'' ht1 hk2 => ⟨by simp [H.len], ht1 h e1 H.hbo, H.hbo, H.N_le, by rw [hk2, List.setIfInBounds_toArray], fun j u s hu hs => ?_, fun j j' u u' hne hu hu' g hg => ?_⟩⟩
  · rw [List.getElem?_set] at hu hs
    by_cases hij : i = j
    · subst hij
      have hil : i < vs.length := (List.getElem?_eq_some_iff.1 hv).1
      have hil' : i < rs.length := (List.getElem?_eq_some_iff.1 hr).1
      simp only [if_true, hil, hil'] at hu hs
      cases hu; cases hs
      refine ⟨?_, e2, hbo'⟩
      rw [List.length_append, List.flatMap_append]
      simp only [List.length_singleton, List.flatMap_cons, List.flatMap_nil, List.append_nil]
      refine hrow.at fun g hg => ?_
      obtain ⟨_, ob, ho⟩ := hrow.block hg
      rw [ho]
      exact turn1_get ht1 (fun e => hbo' (e ▸ hg)) ho
    · simp only [hij, if_false] at hu hs
      obtain ⟨g1, g2, g3⟩ := H.row j u s hu hs
      refine ⟨g1.at fun g hg => ?_, g2, g3⟩
      obtain ⟨_, ob, ho⟩ := g1.block hg
      have h1 : k' g = some ob := d1 g ob (by rw [delV_of (fun e => H.apart i j v u hij hv hu g e hg)]; exact ho)
      rw [ho]
      exact turn1_get ht1 (fun e => g3 (e ▸ hg)) h1
  · rw [List.getElem?_set] at hu hu'
    have hil : i < vs.length := (List.getElem?_eq_some_iff.1 hv).1
    have key : ∀ (m : Nat) (y : Value), i ≠ m → vs[m]? = some y → ∀ g, v'.ownBlock = some g → y.ownBlock ≠ some g := by
      intro m y hm hy g hg hg'
      have hml : m < rs.length := by rw [← H.len]; exact (List.getElem?_eq_some_iff.1 hy).1
      obtain ⟨g1, _, _⟩ := H.row m y rs[m] hy (List.getElem?_eq_getElem hml)
      obtain ⟨_, ob, ho⟩ := g1.block hg'
      have := d2 g hg
      rw [delV_of (fun e => H.apart i m v y hm hv hy g e hg'), ho] at this
      cases this
    by_cases hij : i = j
    · subst hij
      simp only [if_true, hil] at hu
      cases hu
      rw [if_neg hne] at hu'
      exact key j' u' hne hu' g hg
    · rw [if_neg hij] at hu
      by_cases hij' : i = j'
      · subst hij'
        simp only [if_true, hil] at hu'
        cases hu'
        exact fun hg' => key j u hij hu g hg' hg
      · rw [if_neg hij'] at hu'
        exact H.apart j j' u u' hne hu hu' g hg

theorem RowsOf.up {α : Type} {f : α → List Value} {N et sz bet bo : Nat} {h k k' : PH} {vs : List Value} {rs : List (List α)} (H : RowsOf f N et sz bet bo h k vs rs) (hl : Le k k') : RowsOf f N et sz bet bo h k' vs rs :=
  ⟨H.len, H.le.trans hl, H.hbo, H.N_le, hl _ _ H.at', fun i v r hv hr => ⟨(H.row i v r hv hr).1.le hl, (H.row i v r hv hr).2⟩, H.apart⟩
theorem rows_nil {α : Type} (f : α → List Value) {N et sz bet bo : Nat} {h k : PH} (n : Nat) (hle : Le h k) (hbo : h bo = none) (hN : N ≤ bo) (hat : k bo = some (.cells (List.replicate n (Value.slice none 0 0)).toArray bet (0, 0))) :
    RowsOf f N et sz bet bo h k (List.replicate n (.slice none 0 0)) (List.replicate n []) := by
  refine ⟨by simp, hle, hbo, hN, hat, fun i v r hv hr => ?_, fun i j v v' _ hv _ g hg => ?_⟩
  · obtain rfl := (List.mem_replicate.1 (List.mem_of_getElem? hv)).2
    obtain rfl := (List.mem_replicate.1 (List.mem_of_getElem? hr)).2
    exact ⟨row_nil _ _ _ _, apart_nil _ _ _, by simp [Value.ownBlock]⟩
  · obtain rfl := (List.mem_replicate.1 (List.mem_of_getElem? hv)).2
    simp [Value.ownBlock] at hg

theorem RowsOf.sl {α : Type} {T : Ty α} {f : α → List Value} {N et bet bo : Nat} {h k : PH} {vs : List Value} {rs : List (List α)} (H : RowsOf f N et T.sz bet bo h k vs rs) (hmax : rs.length ≤ maxLen) (hf : ∀ r ∈ rs, ∀ x ∈ r, T.rep k (f x) x) : Sl (tSl T) k (some ⟨bo, 0, none⟩) rs.length rs := by
  refine ⟨Nat.le_refl _, hmax, by simp, by simp, fun i r hr => ?_⟩
  have hlt : i < rs.length := (List.getElem?_eq_some_iff.1 hr).1
  have hvl : i < vs.length := by rw [H.len]; exact hlt
  have hv : vs[i]? = some vs[i] := List.getElem?_eq_getElem hvl
  obtain ⟨hrow, _, _⟩ := H.row i _ r hv hr
  obtain ⟨a, c, hac, hsl⟩ := hrow.sl (hf r (List.mem_of_getElem? hr))
  refine ⟨bo, 0, [vs[i]], rfl, ⟨a, c, by rw [hac], hsl⟩, vs.toArray, bet, (0, 0), H.at', fun j u hu => ?_⟩
  have hj : j = 0 := by
    have := (List.getElem?_eq_some_iff.1 hu).1
    simp at this
    exact this
  subst hj
  simp at hu
  subst hu
  show vs.toArray[0 + i * 1 + 0]? = _
  simp [hv]
end Go.Wm

/-
  Parts of slices: 'l[:i]', 'l[i:]', 'l[i:j]' of what reads as a list. Conditions: the bounds.
-/
namespace Go.Wm
variable [Dfr]
open Go.RowKit

def shiftA (c i sz : Nat) (a : Option Addr) : Option Addr := a.map fun ad => if c = i then ad else ad.add (i * sz)
section
variable {P : Program} {n : Nat} {ops : Array Oper} {o : Oper} {e : Env} {k : PH}
theorem d_part {t et : TypeId} {x : Operand} {lo hi : Option Operand} {l h : Option Nat} {a : Option Addr} {m c sz bs : Nat} {z : Value} [ht : TyU P t (.slice et)] [hi' : TyI P et sz bs z] (hop : o.op = .slice t x lo hi none)
    (hx : opv e x = some (.slice a m c)) (hlo : opi e lo (some l)) (hhi : opi e hi (some h)) (h1 : ob 0 l ≤ ob m h) (h2 : ob m h ≤ c) (h3 : m ≤ c) (hn : a = none → c = 0) :
    Det P e k o (.slice (shiftA c (ob 0 l) sz a) (ob m h - ob 0 l) (c - ob 0 l)) := by
  intro ev w hev _
  rw [hop] at hev
  obtain ⟨inf, hi1, hi2, _⟩ := hi'.eq
  have g := run_bounds (P := P) (b := true) m c w hlo hhi (fun y hy u hu => hev y (by
    rcases hy with hy | hy <;> subst hy <;> simp [Op.operands]) u hu) h1 h2 h3
  cases a with
  | none =>
    have e0 := hn rfl
    have e1 : ob 0 l = 0 := by omega
    have e2 : ob m h = 0 := by omega
    rw [e0, e1, e2] at g
    simp [execOp, hop, hev x (by simp [Op.operands]) _ hx, Instr.sliceAt, Instr.slice, run_underlying ht.eq, g, run_size hi1, hi2, e1, e2, e0, shiftA]
  | some ad =>
    simp [execOp, hop, hev x (by simp [Op.operands]) _ hx, Instr.sliceAt, Instr.slice, run_underlying ht.eq, g, run_size hi1, hi2, shiftA]
    split <;> rfl
end
section
variable {α : Type} {T : Ty α} {k : PH} {a : Option Addr} {c : Nat} {l : List α}
theorem Sl.take (h : Sl T k a c l) (i : Nat) : Sl T k a c (l.take i) :=
  ⟨by have := h.cap; rw [List.length_take]; omega, h.max, h.nil, h.spot, fun j x hx => h.el j x (by
    rw [List.getElem?_take] at hx
    split at hx
    · exact hx
    · cases hx)⟩
theorem Sl.drop (h : Sl T k a c l) {i : Nat} (hi : i ≤ l.length) : Sl T k (shiftA c i T.sz a) (c - i) (l.drop i) := by
  have hc := h.cap
  refine ⟨by rw [List.length_drop]; omega, by have := h.max; omega, fun hn => ?_, fun hpos ad hd => ?_, fun j x hx => ?_⟩
  · cases ha : a with
    | none => have := h.nil ha; omega
    | some ad => rw [ha] at hn; cases hn
  · cases ha : a with
    | none => rw [ha] at hd; cases hd
    | some ad' =>
      rw [ha] at hd
      have hs := h.spot (by omega) ad' ha
      simp only [shiftA, Option.map_some, Option.some.injEq] at hd
      rw [if_neg (by omega)] at hd
      subst hd
      obtain ⟨b, off, sp⟩ := ad'
      cases hs
      rw [addr_add]
  · rw [List.getElem?_drop] at hx
    obtain ⟨b, off, cs, ha, hrep, hcs⟩ := h.el _ x hx
    have hlt : i + j < l.length := (List.getElem?_eq_some_iff.1 hx).1
    refine ⟨b, off + i * T.sz, cs, ?_, hrep, by rw [Nat.add_mul, ← Nat.add_assoc] at hcs; exact hcs⟩
    rw [ha]
    simp only [shiftA, Option.map_some, Option.some.injEq]
    rw [if_neg (by omega), addr_add]
variable {P : Program} {n : Nat} {ops : Array Oper} {o : Oper} {e : Env}
/-- 'l[i:]'. -/
theorem d_suf {t et : TypeId} {x y : Operand} {i bs sz : Nat} {z : Value} {kd : IntKind} [ht : TyU P t (.slice et)] [hi' : TyI P et sz bs z] (hs : Sl T k a c l) (hop : o.op = .slice t x (some y) none none)
    (hx : opv e x = some (.slice a l.length c)) (hy : opv e y = some (.int kd (i : Int))) (hi : i ≤ l.length) : Det P e k o (.slice (shiftA c i sz a) (l.drop i).length (c - i)) := by
  have := d_part (P := P) (k := k) (sz := sz) (bs := bs) (z := z) (et := et) (l := some i) (h := none) hop hx ⟨kd, hy⟩ trivial (by show i ≤ l.length; exact hi) hs.cap hs.cap hs.nil
  simp only [ob] at this
  rw [List.length_drop]
  exact this
end
end Go.Wm

/-
  Short forms of single steps, whose small premises are found by themselves. Conditions: none beyond those of each law.
-/
namespace Go.Wm
variable [Dfr]
open Go.RowKit
section
variable {P : Program} {F : Fr} {n N : Nat} {ops : Array Oper} {Q : Exit → Act → World → Prop} {rest : List Oper} {o : Oper} {e : Env} {k : PH}

theorem qwp {K : Env → Prop} {v : Value} {d : Nat} (h : WA P n ops k K rest ((d, .is v) :: e)) (hd : o.dst = some d := by exact rfl)  (hg : wantedE ops e o = some true := by exact rfl) (hv : peval e o.op = some v := by exact rfl) : WA P n ops k K (o :: rest) e :=
  ws hd (loc_det hg (d_pure hv)) h
theorem qws {K : Env → Prop} {t t' : TypeId} {x y : Operand} {a b : Int} {d : Nat} (h : WA P n ops k K rest ((d, .is (.int .i64 (a - b))) :: e)) (hd : o.dst = some d := by exact rfl)  (hg : wantedE ops e o = some true := by exact rfl) (hop : o.op = .binOp .sub t x y t' := by exact rfl) (hx : opv e x = some (.int .i64 a) := by exact rfl) (hy : opv e y = some (.int .i64 b) := by exact rfl) (h1 : -9223372036854775808 ≤ a - b := by omega) (h2 : a - b ≤ 9223372036854775807 := by omega) : WA P n ops k K (o :: rest) e :=
  ws hd (loc_det hg (d_sub hop hx hy h1 h2)) h
theorem qwi {K : Env → Prop} {t et : TypeId} {x ix : Operand} {b off m c i sz bs : Nat} {z : Value} {kd : IntKind}   {d : Nat} (h : WA P n ops k K rest ((d, .is (.pointer (some ⟨b, off + i * sz, none⟩))) :: e)) (hd : o.dst = some d := by exact rfl)  (hg : wantedE ops e o = some true := by exact rfl) (hop : o.op = .indexAddr t x ix := by exact rfl) (hi0 : TyU P t (.slice et) := by exact inferInstance) (hi1 : TyI P et sz bs z := by exact inferInstance) (hx : opv e x = some (.slice (some ⟨b, off, none⟩) m c) := by exact rfl) (hy : opv e ix = some (.int kd (i : Int)) := by exact rfl) (hlt : i < m := by omega) : WA P n ops k K (o :: rest) e :=
  ws hd (loc_det hg (d_idx hop hx hy hlt)) h
theorem qwl {K : Env → Prop} {t : TypeId} {ds : TypeDesc} {x : Operand} {b off : Nat} {v : Value}  {d : Nat} (h : WA P n ops k K rest ((d, .is v) :: e)) (hd : o.dst = some d := by exact rfl)  (hg : wantedE ops e o = some true := by exact rfl) (hop : o.op = .load t x := by exact rfl) (hi0 : TyU P t ds := by exact inferInstance) (hx : opv e x = some (.pointer (some ⟨b, off, none⟩)) := by exact rfl) (hag : aggD ds = false := by exact rfl) (hc : Cells k b off [v] := by assumption) : WA P n ops k K (o :: rest) e :=
  ws hd (loc_det hg (d_load hop hx hag hc)) h
theorem qwg {K : Env → Prop} {t : TypeId} {ds : TypeDesc} {x : Operand} {b off sz bs : Nat} {z : Value} {vs : List Value}   {d : Nat} (h : WA P n ops k K rest ((d, .is (.agg vs.toArray)) :: e)) (hd : o.dst = some d := by exact rfl)  (hg : wantedE ops e o = some true := by exact rfl) (hop : o.op = .load t x := by exact rfl) (hi0 : TyU P t ds := by exact inferInstance) (hi1 : TyI P t sz bs z := by exact inferInstance) (hx : opv e x = some (.pointer (some ⟨b, off, none⟩)) := by exact rfl) (hag : aggD ds = true := by exact rfl) (hc : Cells k b off vs := by assumption) (hln : vs.length = sz := by exact rfl) : WA P n ops k K (o :: rest) e :=
  ws hd (loc_det hg (d_load_agg hop hx hag hln hc)) h
theorem qwf {K : Env → Prop} {t : TypeId} {f b off fo sz : Nat} {ag : Bool} {x : Operand}  {d : Nat} (h : WA P n ops k K rest ((d, .is (.pointer (some ⟨b, off + fo, none⟩))) :: e)) (hd : o.dst = some d := by exact rfl)  (hg : wantedE ops e o = some true := by exact rfl) (hop : o.op = .fieldAddr t x f := by exact rfl) (hi0 : Fld P t f fo sz ag := by exact inferInstance) (hx : opv e x = some (.pointer (some ⟨b, off, none⟩)) := by exact rfl) (hsz : Nat.beq sz 0 = false := by exact rfl) : WA P n ops k K (o :: rest) e :=
  ws hd (loc_det hg (d_faddr hop hx hsz)) h
theorem qwo {K : Env → Prop} {d : Nat} (h : WA P n ops k K rest ((d, .is undef) :: e)) (hd : o.dst = some d := by exact rfl)  (hg : wantedE ops e o = some false := by exact rfl) : WA P n ops k K (o :: rest) e :=
  ws hd (loc_off hg) h
theorem qsp  {v : Value} {d : Nat} (h : RG P F n ops Q rest ((d, .is v) :: e) k) (hd : o.dst = some d := by exact rfl) (hf : Nat.blt d n = true := by exact rfl) (hg : wantedE ops e o = some true := by exact rfl) (hv : peval e o.op = some v := by exact rfl) : RG P F n ops Q (o :: rest) e k :=
  rs hd hf (loc_det hg (d_pure hv)) h
theorem qsn  {t et : TypeId} {x : Operand} {a : Option Addr} {m c : Nat}  {d : Nat} (h : RG P F n ops Q rest ((d, .is (.int .i64 (m : Int))) :: e) k) (hd : o.dst = some d := by exact rfl) (hf : Nat.blt d n = true := by exact rfl) (hg : wantedE ops e o = some true := by exact rfl) (hop : o.op = .call { callee := .builtin .len, args := #[x], argTypes := #[t] } := by exact rfl) (hi0 : TyU P t (.slice et) := by exact inferInstance) (hx : opv e x = some (.slice a m c) := by exact rfl) : RG P F n ops Q (o :: rest) e k :=
  rs hd hf (loc_det hg (d_len hop hx)) h
theorem qsa  {t t' : TypeId} {x y : Operand} {a b : Int} {d : Nat} (h : RG P F n ops Q rest ((d, .is (.int .i64 (a + b))) :: e) k) (hd : o.dst = some d := by exact rfl) (hf : Nat.blt d n = true := by exact rfl) (hg : wantedE ops e o = some true := by exact rfl) (hop : o.op = .binOp .add t x y t' := by exact rfl) (hx : opv e x = some (.int .i64 a) := by exact rfl) (hy : opv e y = some (.int .i64 b) := by exact rfl) (h1 : -9223372036854775808 ≤ a + b := by omega) (h2 : a + b ≤ 9223372036854775807 := by omega) : RG P F n ops Q (o :: rest) e k :=
  rs hd hf (loc_det hg (d_add hop hx hy h1 h2)) h
theorem qss  {t t' : TypeId} {x y : Operand} {a b : Int} {d : Nat} (h : RG P F n ops Q rest ((d, .is (.int .i64 (a - b))) :: e) k) (hd : o.dst = some d := by exact rfl) (hf : Nat.blt d n = true := by exact rfl) (hg : wantedE ops e o = some true := by exact rfl) (hop : o.op = .binOp .sub t x y t' := by exact rfl) (hx : opv e x = some (.int .i64 a) := by exact rfl) (hy : opv e y = some (.int .i64 b) := by exact rfl) (h1 : -9223372036854775808 ≤ a - b := by omega) (h2 : a - b ≤ 9223372036854775807 := by omega) : RG P F n ops Q (o :: rest) e k :=
  rs hd hf (loc_det hg (d_sub hop hx hy h1 h2)) h
theorem qsi  {t et : TypeId} {x ix : Operand} {b off m c i sz bs : Nat} {z : Value} {kd : IntKind}   {d : Nat} (h : RG P F n ops Q rest ((d, .is (.pointer (some ⟨b, off + i * sz, none⟩))) :: e) k) (hd : o.dst = some d := by exact rfl) (hf : Nat.blt d n = true := by exact rfl) (hg : wantedE ops e o = some true := by exact rfl) (hop : o.op = .indexAddr t x ix := by exact rfl) (hi0 : TyU P t (.slice et) := by exact inferInstance) (hi1 : TyI P et sz bs z := by exact inferInstance) (hx : opv e x = some (.slice (some ⟨b, off, none⟩) m c) := by exact rfl) (hy : opv e ix = some (.int kd (i : Int)) := by exact rfl) (hlt : i < m := by omega) : RG P F n ops Q (o :: rest) e k :=
  rs hd hf (loc_det hg (d_idx hop hx hy hlt)) h
theorem qsz  {t et : TypeId} {x ix : Operand} {b off m c sz bs : Nat} {z : Value} {kd : IntKind}   {d : Nat} (h : RG P F n ops Q rest ((d, .is (.pointer (some ⟨b, off + 0 * sz, none⟩))) :: e) k) (hd : o.dst = some d := by exact rfl) (hf : Nat.blt d n = true := by exact rfl) (hg : wantedE ops e o = some true := by exact rfl) (hop : o.op = .indexAddr t x ix := by exact rfl) (hi0 : TyU P t (.slice et) := by exact inferInstance) (hi1 : TyI P et sz bs z := by exact inferInstance) (hx : opv e x = some (.slice (some ⟨b, off, none⟩) m c) := by exact rfl) (hy : opv e ix = some (.int kd ((0 : Nat) : Int)) := by exact rfl) (hlt : 0 < m := by first | omega | simp) : RG P F n ops Q (o :: rest) e k :=
  rs hd hf (loc_det hg (d_idx hop hx hy hlt)) h
theorem qsl  {t : TypeId} {ds : TypeDesc} {x : Operand} {b off : Nat} {v : Value}  {d : Nat} (h : RG P F n ops Q rest ((d, .is v) :: e) k) (hd : o.dst = some d := by exact rfl) (hf : Nat.blt d n = true := by exact rfl) (hg : wantedE ops e o = some true := by exact rfl) (hop : o.op = .load t x := by exact rfl) (hi0 : TyU P t ds := by exact inferInstance) (hx : opv e x = some (.pointer (some ⟨b, off, none⟩)) := by exact rfl) (hag : aggD ds = false := by exact rfl) (hc : Cells k b off [v] := by assumption) : RG P F n ops Q (o :: rest) e k :=
  rs hd hf (loc_det hg (d_load hop hx hag hc)) h
theorem qsg  {t : TypeId} {ds : TypeDesc} {x : Operand} {b off sz bs : Nat} {z : Value} {vs : List Value}   {d : Nat} (h : RG P F n ops Q rest ((d, .is (.agg vs.toArray)) :: e) k) (hd : o.dst = some d := by exact rfl) (hf : Nat.blt d n = true := by exact rfl) (hg : wantedE ops e o = some true := by exact rfl) (hop : o.op = .load t x := by exact rfl) (hi0 : TyU P t ds := by exact inferInstance) (hi1 : TyI P t sz bs z := by exact inferInstance) (hx : opv e x = some (.pointer (some ⟨b, off, none⟩)) := by exact rfl) (hag : aggD ds = true := by exact rfl) (hc : Cells k b off vs := by assumption) (hln : vs.length = sz := by exact rfl) : RG P F n ops Q (o :: rest) e k :=
  rs hd hf (loc_det hg (d_load_agg hop hx hag hln hc)) h
theorem qsf  {t : TypeId} {f b off fo sz : Nat} {ag : Bool} {x : Operand}  {d : Nat} (h : RG P F n ops Q rest ((d, .is (.pointer (some ⟨b, off + fo, none⟩))) :: e) k) (hd : o.dst = some d := by exact rfl) (hf : Nat.blt d n = true := by exact rfl) (hg : wantedE ops e o = some true := by exact rfl) (hop : o.op = .fieldAddr t x f := by exact rfl) (hi0 : Fld P t f fo sz ag := by exact inferInstance) (hx : opv e x = some (.pointer (some ⟨b, off, none⟩)) := by exact rfl) (hsz : Nat.beq sz 0 = false := by exact rfl) : RG P F n ops Q (o :: rest) e k :=
  rs hd hf (loc_det hg (d_faddr hop hx hsz)) h
theorem qsd  {t : TypeId} {f fo sz : Nat} {x : Operand} {cs : Array Value} {v : Value}  {d : Nat} (h : RG P F n ops Q rest ((d, .is v) :: e) k) (hd : o.dst = some d := by exact rfl) (hf : Nat.blt d n = true := by exact rfl) (hg : wantedE ops e o = some true := by exact rfl) (hop : o.op = .field t x f := by exact rfl) (hi0 : Fld P t f fo sz false := by exact inferInstance) (hx : opv e x = some (.agg cs) := by exact rfl) (hv : cs[fo]? = some v := by exact rfl) : RG P F n ops Q (o :: rest) e k :=
  rs hd hf (loc_det hg (d_field hop hx hv)) h
theorem qse  {t t' : TypeId} {ds : List (TypeId × TypeDesc)} {x y : Operand} {xs ys : Array Value} {r : Bool}  {d : Nat} (h : RG P F n ops Q rest ((d, .is (.bool r)) :: e) k) (hd : o.dst = some d := by exact rfl) (hf : Nat.blt d n = true := by exact rfl) (hg : wantedE ops e o = some true := by exact rfl) (hop : o.op = .binOp .eql t x y t' := by exact rfl) (hi0 : Flat P t ds := by exact inferInstance) (hx : opv e x = some (.agg xs) := by exact rfl) (hy : opv e y = some (.agg ys) := by exact rfl) (hr : eqFlat ds xs.toList ys.toList = some r := by exact rfl) : RG P F n ops Q (o :: rest) e k :=
  rs hd hf (loc_det hg (d_eq_flat hop hx hy hr)) h
theorem qsx  {t t' : TypeId} {ds : List (TypeId × TypeDesc)} {x y : Operand} {xs ys : Array Value} {r : Bool}  {d : Nat} (h : RG P F n ops Q rest ((d, .is (.bool (!r))) :: e) k) (hd : o.dst = some d := by exact rfl) (hf : Nat.blt d n = true := by exact rfl) (hg : wantedE ops e o = some true := by exact rfl) (hop : o.op = .binOp .neq t x y t' := by exact rfl) (hi0 : Flat P t ds := by exact inferInstance) (hx : opv e x = some (.agg xs) := by exact rfl) (hy : opv e y = some (.agg ys) := by exact rfl) (hr : eqFlat ds xs.toList ys.toList = some r := by exact rfl) : RG P F n ops Q (o :: rest) e k :=
  rs hd hf (loc_det hg (d_ne_flat hop hx hy hr)) h
theorem qso  {d : Nat} (h : RG P F n ops Q rest ((d, .is undef) :: e) k) (hd : o.dst = some d := by exact rfl) (hf : Nat.blt d n = true := by exact rfl) (hg : wantedE ops e o = some false := by exact rfl) : RG P F n ops Q (o :: rest) e k :=
  rs hd hf (loc_off hg) h
theorem qvp {X0 : PH → World → Prop} {X1 : Value → PH → World → Prop} {K : Nat → Env → Prop} {i0 : Nat} {dd : Option Nat} {v : Value} {d : Nat} (h : WE P F n ops k X0 X1 K (i0 + 1) dd rest ((d, .is v) :: e)) (hd : o.dst = some d := by exact rfl)  (hg : wantedE ops e o = some true := by exact rfl) (hv : peval e o.op = some v := by exact rfl) : WE P F n ops k X0 X1 K i0 dd (o :: rest) e :=
  we_s hd (loc_det hg (d_pure hv)) h
theorem qvi {X0 : PH → World → Prop} {X1 : Value → PH → World → Prop} {K : Nat → Env → Prop} {i0 : Nat} {dd : Option Nat} {t et : TypeId} {x ix : Operand} {b off m c i sz bs : Nat} {z : Value} {kd : IntKind}   {d : Nat} (h : WE P F n ops k X0 X1 K (i0 + 1) dd rest ((d, .is (.pointer (some ⟨b, off + i * sz, none⟩))) :: e)) (hd : o.dst = some d := by exact rfl)  (hg : wantedE ops e o = some true := by exact rfl) (hop : o.op = .indexAddr t x ix := by exact rfl) (hi0 : TyU P t (.slice et) := by exact inferInstance) (hi1 : TyI P et sz bs z := by exact inferInstance) (hx : opv e x = some (.slice (some ⟨b, off, none⟩) m c) := by exact rfl) (hy : opv e ix = some (.int kd (i : Int)) := by exact rfl) (hlt : i < m := by omega) : WE P F n ops k X0 X1 K i0 dd (o :: rest) e :=
  we_s hd (loc_det hg (d_idx hop hx hy hlt)) h
theorem qvl {X0 : PH → World → Prop} {X1 : Value → PH → World → Prop} {K : Nat → Env → Prop} {i0 : Nat} {dd : Option Nat} {t : TypeId} {ds : TypeDesc} {x : Operand} {b off : Nat} {v : Value}  {d : Nat} (h : WE P F n ops k X0 X1 K (i0 + 1) dd rest ((d, .is v) :: e)) (hd : o.dst = some d := by exact rfl)  (hg : wantedE ops e o = some true := by exact rfl) (hop : o.op = .load t x := by exact rfl) (hi0 : TyU P t ds := by exact inferInstance) (hx : opv e x = some (.pointer (some ⟨b, off, none⟩)) := by exact rfl) (hag : aggD ds = false := by exact rfl) (hc : Cells k b off [v] := by assumption) : WE P F n ops k X0 X1 K i0 dd (o :: rest) e :=
  we_s hd (loc_det hg (d_load hop hx hag hc)) h
theorem qvg {X0 : PH → World → Prop} {X1 : Value → PH → World → Prop} {K : Nat → Env → Prop} {i0 : Nat} {dd : Option Nat} {t : TypeId} {ds : TypeDesc} {x : Operand} {b off sz bs : Nat} {z : Value} {vs : List Value}   {d : Nat} (h : WE P F n ops k X0 X1 K (i0 + 1) dd rest ((d, .is (.agg vs.toArray)) :: e)) (hd : o.dst = some d := by exact rfl)  (hg : wantedE ops e o = some true := by exact rfl) (hop : o.op = .load t x := by exact rfl) (hi0 : TyU P t ds := by exact inferInstance) (hi1 : TyI P t sz bs z := by exact inferInstance) (hx : opv e x = some (.pointer (some ⟨b, off, none⟩)) := by exact rfl) (hag : aggD ds = true := by exact rfl) (hc : Cells k b off vs := by assumption) (hln : vs.length = sz := by exact rfl) : WE P F n ops k X0 X1 K i0 dd (o :: rest) e :=
  we_s hd (loc_det hg (d_load_agg hop hx hag hln hc)) h
theorem qfp {fs : List Nat} {K : Env → Prop} {v : Value} {d : Nat} (h : WF P n N ops fs k K rest ((d, .is v) :: e)) (hd : o.dst = some d := by exact rfl) (hn : noneOf fs o = true := by exact rfl) (hg : wantedE ops e o = some true := by exact rfl) (hv : peval e o.op = some v := by exact rfl) : WF P n N ops fs k K (o :: rest) e :=
  fs_s hd (loc_det hg (d_pure hv)) hn h
theorem qfn {fs : List Nat} {K : Env → Prop} {t et : TypeId} {x : Operand} {a : Option Addr} {m c : Nat}  {d : Nat} (h : WF P n N ops fs k K rest ((d, .is (.int .i64 (m : Int))) :: e)) (hd : o.dst = some d := by exact rfl) (hn : noneOf fs o = true := by exact rfl) (hg : wantedE ops e o = some true := by exact rfl) (hop : o.op = .call { callee := .builtin .len, args := #[x], argTypes := #[t] } := by exact rfl) (hi0 : TyU P t (.slice et) := by exact inferInstance) (hx : opv e x = some (.slice a m c) := by exact rfl) : WF P n N ops fs k K (o :: rest) e :=
  fs_s hd (loc_det hg (d_len hop hx)) hn h
theorem qfa {fs : List Nat} {K : Env → Prop} {t t' : TypeId} {x y : Operand} {a b : Int} {d : Nat} (h : WF P n N ops fs k K rest ((d, .is (.int .i64 (a + b))) :: e)) (hd : o.dst = some d := by exact rfl) (hn : noneOf fs o = true := by exact rfl) (hg : wantedE ops e o = some true := by exact rfl) (hop : o.op = .binOp .add t x y t' := by exact rfl) (hx : opv e x = some (.int .i64 a) := by exact rfl) (hy : opv e y = some (.int .i64 b) := by exact rfl) (h1 : -9223372036854775808 ≤ a + b := by omega) (h2 : a + b ≤ 9223372036854775807 := by omega) : WF P n N ops fs k K (o :: rest) e :=
  fs_s hd (loc_det hg (d_add hop hx hy h1 h2)) hn h
theorem qfl {fs : List Nat} {K : Env → Prop} {t : TypeId} {ds : TypeDesc} {x : Operand} {b off : Nat} {v : Value}  {d : Nat} (h : WF P n N ops fs k K rest ((d, .is v) :: e)) (hd : o.dst = some d := by exact rfl) (hn : noneOf fs o = true := by exact rfl) (hg : wantedE ops e o = some true := by exact rfl) (hop : o.op = .load t x := by exact rfl) (hi0 : TyU P t ds := by exact inferInstance) (hx : opv e x = some (.pointer (some ⟨b, off, none⟩)) := by exact rfl) (hag : aggD ds = false := by exact rfl) (hc : Cells k b off [v] := by assumption) : WF P n N ops fs k K (o :: rest) e :=
  fs_s hd (loc_det hg (d_load hop hx hag hc)) hn h
theorem qfg {fs : List Nat} {K : Env → Prop} {t : TypeId} {ds : TypeDesc} {x : Operand} {b off sz bs : Nat} {z : Value} {vs : List Value}   {d : Nat} (h : WF P n N ops fs k K rest ((d, .is (.agg vs.toArray)) :: e)) (hd : o.dst = some d := by exact rfl) (hn : noneOf fs o = true := by exact rfl) (hg : wantedE ops e o = some true := by exact rfl) (hop : o.op = .load t x := by exact rfl) (hi0 : TyU P t ds := by exact inferInstance) (hi1 : TyI P t sz bs z := by exact inferInstance) (hx : opv e x = some (.pointer (some ⟨b, off, none⟩)) := by exact rfl) (hag : aggD ds = true := by exact rfl) (hc : Cells k b off vs := by assumption) (hln : vs.length = sz := by exact rfl) : WF P n N ops fs k K (o :: rest) e :=
  fs_s hd (loc_det hg (d_load_agg hop hx hag hln hc)) hn h
theorem qff {fs : List Nat} {K : Env → Prop} {t : TypeId} {f b off fo sz : Nat} {ag : Bool} {x : Operand}  {d : Nat} (h : WF P n N ops fs k K rest ((d, .is (.pointer (some ⟨b, off + fo, none⟩))) :: e)) (hd : o.dst = some d := by exact rfl) (hn : noneOf fs o = true := by exact rfl) (hg : wantedE ops e o = some true := by exact rfl) (hop : o.op = .fieldAddr t x f := by exact rfl) (hi0 : Fld P t f fo sz ag := by exact inferInstance) (hx : opv e x = some (.pointer (some ⟨b, off, none⟩)) := by exact rfl) (hsz : Nat.beq sz 0 = false := by exact rfl) : WF P n N ops fs k K (o :: rest) e :=
  fs_s hd (loc_det hg (d_faddr hop hx hsz)) hn h
end
end Go.Wm

/-
  More on rows: what reads as a list lies in a row of cells; a list appended to a row; a row of known pieces reads as a list; sums that may wrap. Conditions: those of each law.
-/
namespace Go.Wm
variable [Dfr]
open Go.RowKit

/-- The pieces of a list. -/
def Pieces {α : Type} (T : Ty α) (k : PH) (css : List (List Value)) (xs : List α) : Prop := css.length = xs.length ∧ ∀ (i : Nat) (cs : List Value) (x : α), css[i]? = some cs → xs[i]? = some x → T.rep k cs x
theorem Pieces.nil {α : Type} (T : Ty α) (k : PH) : Pieces T k [] [] := ⟨rfl, by simp⟩
theorem Pieces.le {α : Type} {T : Ty α} {k k' : PH} {css : List (List Value)} {xs : List α} (h : Pieces T k css xs) (hl : Le k k') : Pieces T k' css xs := ⟨h.1, fun i cs x h1 h2 => T.mono hl (h.2 i cs x h1 h2)⟩
theorem Pieces.append {α : Type} {T : Ty α} {k : PH} {css ds : List (List Value)} {xs ys : List α} (h : Pieces T k css xs) (h' : Pieces T k ds ys) : Pieces T k (css ++ ds) (xs ++ ys) := by
  refine ⟨by rw [List.length_append, List.length_append, h.1, h'.1], fun i cs x h1 h2 => ?_⟩
  by_cases hi : i < css.length
  · rw [List.getElem?_append_left hi] at h1
    rw [List.getElem?_append_left (by rw [← h.1]; exact hi)] at h2
    exact h.2 i cs x h1 h2
  · rw [List.getElem?_append_right (by omega)] at h1
    rw [List.getElem?_append_right (by rw [← h.1]; omega), ← h.1] at h2
    exact h'.2 _ cs x h1 h2
theorem Pieces.one {α : Type} {T : Ty α} {k : PH} {cs : List Value} {x : α} (h : T.rep k cs x) : Pieces T k [cs] [x] := by
  refine ⟨rfl, fun i c y h1 h2 => ?_⟩
  cases i with
  | zero => simp at h1 h2; rw [← h1, ← h2]; exact h
  | succ i => simp at h1
theorem Pieces.set {α : Type} {T : Ty α} {k : PH} {css : List (List Value)} {xs : List α} (h : Pieces T k css xs) (i : Nat) {cs : List Value} {x : α} (hr : T.rep k cs x) : Pieces T k (css.set i cs) (xs.set i x) := by
  refine ⟨by simp [h.1], fun j c y h1 h2 => ?_⟩
  rw [List.getElem?_set] at h1 h2
  by_cases hij : i = j
  · subst hij
    simp only [if_true, h.1] at h1 h2
    split at h1
    · rename_i hl
      simp only [hl, if_true] at h2
      cases h1; cases h2
      exact hr
    · cases h1
  · rw [if_neg hij] at h1 h2
    exact h.2 j c y h1 h2
theorem Pieces.len {α : Type} {T : Ty α} {k : PH} {css : List (List Value)} {xs : List α} (h : Pieces T k css xs) : ∀ cs ∈ css, cs.length = T.sz := by
  intro y hy
  obtain ⟨q, hq⟩ := List.getElem?_of_mem hy
  have hql : q < xs.length := by rw [← h.1]; exact (List.getElem?_eq_some_iff.1 hq).1
  exact T.len (h.2 q y xs[q] hq (List.getElem?_eq_getElem hql))
theorem flat_at {sz : Nat} : ∀ (css : List (List Value)) (i : Nat) (cs : List Value) (j : Nat), (∀ y ∈ css, y.length = sz) → css[i]? = some cs → j < sz → css.flatten[i * sz + j]? = cs[j]? := by
  intro css
  induction css with
  | nil => intro i x j _ hx _; simp at hx
  | cons y ys ih =>
    intro i x j hl hx hj
    have hy := hl y (by simp)
    cases i with
    | zero =>
      simp at hx
      subst hx
      simp only [List.flatten_cons, Nat.zero_mul, Nat.zero_add]
      rw [List.getElem?_append_left (by omega)]
    | succ i =>
      simp only [List.flatten_cons]
      rw [List.getElem?_append_right (by rw [hy, Nat.succ_mul]; omega)]
      rw [show (i + 1) * sz + j - y.length = i * sz + j by rw [hy, Nat.succ_mul]; omega]
      exact ih i x j (fun z hz => hl z (by simp [hz])) (by simpa using hx) hj
theorem flat_len {sz : Nat} : ∀ (css : List (List Value)), (∀ y ∈ css, y.length = sz) → css.flatten.length = css.length * sz
  | [], _ => by simp
  | y :: ys, h => by rw [List.flatten_cons, List.length_append, flat_len ys (fun z hz => h z (by simp [hz])), h y (by simp), List.length_cons, Nat.succ_mul]; omega

/-- What reads as a list lies in a row of cells. -/
theorem Sl.pieces {α : Type} {T : Ty α} {k : PH} {b off c : Nat} {sp : Option _} {xs : List α} (h : Sl T k (some ⟨b, off, sp⟩) c xs) (hne : xs ≠ []) : sp = none ∧ ∃ css, Pieces T k css xs ∧ Cells k b off css.flatten := by
  have hpos : 0 < xs.length := List.length_pos_iff.2 hne
  have hsp : sp = none := h.spot (by have := h.cap; omega) _ rfl
  subst hsp
  refine ⟨rfl, ?_⟩
  obtain ⟨b0, off0, cs0, e0, _, c0, et, fr, hk, _⟩ := h.el 0 xs[0] (List.getElem?_eq_getElem hpos)
  cases e0
  have key : ∀ n, n ≤ xs.length → ∃ css, Pieces T k css (xs.take n) ∧ ∀ (i : Nat) (cs : List Value), css[i]? = some cs → ∀ (j : Nat) (v : Value), cs[j]? = some v → c0[off + i * T.sz + j]? = some v := by
    intro n
    induction n with
    | zero => intro _; exact ⟨[], by rw [List.take_zero]; exact Pieces.nil T k, by simp⟩
    | succ n ih =>
      intro hn
      obtain ⟨css, hp, hc⟩ := ih (by omega)
      obtain ⟨b1, off1, cs1, e1, hr, c1, et1, fr1, hk1, hc1⟩ := h.el n xs[n] (List.getElem?_eq_getElem (by omega))
      cases e1
      rw [hk] at hk1
      cases hk1
      have hl : css.length = n := by rw [hp.1, List.length_take]; omega
      refine ⟨css ++ [cs1], by rw [List.take_succ_eq_append_getElem (by omega)]; exact hp.append (.one hr), fun i cs hi j v hv => ?_⟩
      by_cases hin : i < css.length
      · rw [List.getElem?_append_left hin] at hi
        exact hc i cs hi j v hv
      · rw [List.getElem?_append_right (by omega)] at hi
        cases hq : i - css.length with
        | zero =>
          rw [hq] at hi
          simp at hi
          subst hi
          have : i = n := by omega
          subst this
          exact hc1 j v hv
        | succ q => rw [hq] at hi; simp at hi
  obtain ⟨css, hp, hc⟩ := key xs.length (Nat.le_refl _)
  rw [List.take_length] at hp
  refine ⟨css, hp, c0, et, fr, hk, fun q v hv => ?_⟩
  have hq : q < css.flatten.length := (List.getElem?_eq_some_iff.1 hv).1
  rw [flat_len css hp.len] at hq
  have hsz : 0 < T.sz := by
    rcases Nat.eq_zero_or_pos T.sz with h0 | h0
    · rw [h0] at hq; omega
    · exact h0
  have hd : q / T.sz < css.length := by rw [Nat.div_lt_iff_lt_mul hsz]; exact hq
  have hm := Nat.mod_lt q hsz
  have hdm : q / T.sz * T.sz + q % T.sz = q := by rw [Nat.mul_comm]; exact Nat.div_add_mod q T.sz
  have h2 : css[q / T.sz]? = some css[q / T.sz] := List.getElem?_eq_getElem hd
  have h3 := flat_at css _ _ _ hp.len h2 hm
  rw [hdm, hv] at h3
  have := hc _ _ h2 _ v h3.symm
  rw [Nat.add_assoc, hdm] at this
  exact this

section
variable {P : Program} {F : Fr} {n : Nat} {ops : Array Oper} {Q : Exit → Act → World → Prop} {rest : List Oper} {o : Oper} {e : Env} {k : PH}
/-- Nothing appended. -/
theorem d_app0 {t et : TypeId} {sz bs : Nat} {z : Value} {x y : Operand} {base a : Option Addr} {m cap c : Nat} [ht : TyU P t (.slice et)] [hi : TyI P et sz bs z] (hop : o.op = .call { callee := .builtin .append, args := #[x, y], argTypes := #[t, t] })
    (hx : opv e x = some (.slice base m cap)) (hy : opv e y = some (.slice a 0 c)) (hmc : m ≤ cap) : Det P e k o (.slice base m cap) := by
  intro ev w hev _
  rw [hop] at hev
  have e1 := hev x (by simp [Op.operands, Call.operands]) _ hx
  have e2 := hev y (by simp [Op.operands, Call.operands]) _ hy
  obtain ⟨i, hi1, hi2, _⟩ := hi.eq
  have hfc : (Builtin.firstCells i.size 0 (.slice a 0 c)).run P w = .ok #[] w := by
    cases a with
    | none => exact run_firstCells_none _ _ _ _ _
    | some ad => exact run_firstCells_some (P := P) w i.size 0 ad 0 c [] (by simp) (by simp)
  have hr : (Builtin.append_ #[t, t] o.type #[.slice base m cap, .slice a 0 c]).run P w = .ok (.slice base m cap) w := by
    cases base with
    | none => simp [Builtin.append_, run_underlying ht.eq, run_size hi1, Builtin.lenOf, hfc, hmc]
    | some ad => simp [Builtin.append_, run_underlying ht.eq, run_size hi1, Builtin.lenOf, hfc, hmc, storeCells]
  simp [execOp, hop, resolve, invoke, builtin, e1, e2, hr]
theorem Turn.refl (k : PH) (v : Value) : Turn k k v v := fun _ h h' => ⟨h, h'⟩
/-- append of what reads as a list, to a row of the call's own. -/
theorem raps {α : Type} {T : Ty α} {t et : TypeId} {bs : Nat} {z : Value} {d : Nat} {x y : Operand} {v : Value} {m c : Nat} {a : Option Addr} {olds : List Value} {xs : List α} (hd : o.dst = some d) (hf : Nat.blt d n = true) (hdet : det e = true) (hg : o.guard = none) [ht : TyU P t (.slice et)] [hi : TyI P et T.sz bs z]
    (hop : o.op = .call { callee := .builtin .append, args := #[x, y], argTypes := #[t, t] }) (hx : opv e x = some v) (hy : opv e y = some (.slice a xs.length c))
    (hrow : Row F.w0.heap.size k et T.sz v m olds) (hs : Sl T k a c xs) (h1 : ∀ k cs x, T.rep k cs x → ∀ u ∈ cs, u.oneCell' = true) (hz : Nat.beq z.cells.size T.sz = true) (hpos : Nat.blt 0 T.sz = true) (hm : m + xs.length ≤ maxLen) (hby : (m + xs.length) * bs ≤ 140737488355328)
    (h : ∀ v' k' css, Pieces T k css xs → Row F.w0.heap.size k' et T.sz v' (m + xs.length) (olds ++ css.flatten) → Turn k k' v v' → RG P F n ops Q rest ((d, .is v') :: e) k') : RG P F n ops Q (o :: rest) e k := by
  by_cases hne : xs = []
  · subst hne
    have hv : ∃ base cap, v = .slice base m cap ∧ m ≤ cap := by
      obtain ⟨_, h5⟩ := hrow
      rcases h5 with ⟨rfl, rfl⟩ | ⟨g, cap, cur, rfl, _, _, hmc, _⟩
      · exact ⟨none, 0, rfl, Nat.le_refl _⟩
      · exact ⟨_, cap, rfl, hmc⟩
    obtain ⟨base, cap, rfl, hmc⟩ := hv
    exact rs hd hf (loc_det (by simp [wantedE, hg]) (d_app0 hop hx hy hmc)) (h _ k [] (Pieces.nil T k) (by simpa using hrow) (Turn.refl _ _))
  · cases ha : a with
    | none =>
      have := hs.nil ha
      have := hs.cap
      exact absurd (List.length_eq_zero_iff.1 (by omega)) hne
    | some ad =>
      obtain ⟨b, off, sp⟩ := ad
      subst ha
      obtain ⟨hsp, css, hp, hc⟩ := hs.pieces hne
      subst hsp
      refine rap hd hf hdet hg hop hx hy hrow hc (by rw [flat_len css hp.len, hp.1]) (fun u hu => ?_) hz hpos hm hby fun v' k' hr ht => h v' k' css hp hr ht
      obtain ⟨cs, hcs, hu⟩ := List.mem_flatten.1 hu
      obtain ⟨q, hq⟩ := List.getElem?_of_mem hcs
      have hql : q < xs.length := by rw [← hp.1]; exact (List.getElem?_eq_some_iff.1 hq).1
      exact h1 k cs xs[q] (hp.2 q cs xs[q] hq (List.getElem?_eq_getElem hql)) u hu
end
/-- A row of known pieces reads as a list. -/
theorem Row.sls {α : Type} {T : Ty α} {N : Nat} {k : PH} {et : Nat} {v : Value} {css : List (List Value)} {xs : List α} (h : Row N k et T.sz v xs.length css.flatten) (hp : Pieces T k css xs) : ∃ a c, v = .slice a xs.length c ∧ Sl T k a c xs := by
  obtain ⟨h1, h2⟩ := h
  rcases h2 with ⟨rfl, h2⟩ | ⟨g, cap, cur, rfl, _, hg, hc, hm, hs, ht⟩
  · have : xs = [] := List.length_eq_zero_iff.1 h2
    subst this
    exact ⟨none, 0, rfl, by simp, by simp [maxLen], fun _ => rfl, by simp, by simp⟩
  · refine ⟨_, _, rfl, hc, hm, by simp, by simp, fun i x hx => ?_⟩
    have hlt : i < xs.length := (List.getElem?_eq_some_iff.1 hx).1
    have hcl : i < css.length := by rw [hp.1]; exact hlt
    have hci : css[i]? = some css[i] := List.getElem?_eq_getElem hcl
    have hrep := hp.2 i _ x hci hx
    refine ⟨g, 0, css[i], rfl, hrep, cur, et, (0, 0), hg, fun j u hu => ?_⟩
    have hj : j < T.sz := by rw [← T.len hrep]; exact (List.getElem?_eq_some_iff.1 hu).1
    have h3 := flat_at css i _ j hp.len hci hj
    rw [← ht, List.getElem?_take] at h3
    split at h3
    · rw [hu] at h3
      simpa using h3
    · rw [hu] at h3
      cases h3
theorem flat_set {sz : Nat} : ∀ (css : List (List Value)) (i : Nat) (cs : List Value) (j : Nat) (x : Value), (∀ y ∈ css, y.length = sz) → css[i]? = some cs → j < sz → (css.set i (cs.set j x)).flatten = css.flatten.set (i * sz + j) x := by
  intro css
  induction css with
  | nil => intro i cs j x _ hx _; simp at hx
  | cons y ys ih =>
    intro i cs j x hl hx hj
    have hy := hl y (by simp)
    cases i with
    | zero =>
      simp at hx
      subst hx
      simp only [List.set_cons_zero, List.flatten_cons, Nat.zero_mul, Nat.zero_add]
      rw [List.set_append_left _ _ (by omega)]
    | succ i =>
      simp only [List.set_cons_succ, List.flatten_cons]
      rw [ih i cs j x (fun z hz => hl z (by simp [hz])) (by simpa using hx) hj]
      rw [List.set_append_right _ _ (by rw [hy, Nat.succ_mul]; omega)]
      congr 2
      rw [hy, Nat.succ_mul]; omega
/-- A cell of a row of the call's own: where it lies, and the row behind a store into it. -/
theorem Row.cell {N : Nat} {k : PH} {et sz : Nat} {v : Value} {m i j : Nat} {css : List (List Value)} {cs : List Value} (h : Row N k et sz v m css.flatten) (hall : ∀ y ∈ css, y.length = sz) (hi : css[i]? = some cs) (hj : j < sz) :
    ∃ g cap cur, v = .slice (some ⟨g, 0, none⟩) m cap ∧ N ≤ g ∧ k g = some (.cells cur et (0, 0)) ∧ i * sz + j < cur.size ∧ Cells k g (0 + i * sz) cs ∧
      ∀ k' x, Turn1 k k' g → k' g = some (.cells (cur.setIfInBounds (i * sz + j) x) et (0, 0)) → Row N k' et sz v m (css.set i (cs.set j x)).flatten := by
  obtain ⟨h1, h2⟩ := h
  have hil : i < css.length := (List.getElem?_eq_some_iff.1 hi).1
  have hm : css.length = m := by
    rw [flat_len css hall] at h1
    exact Nat.eq_of_mul_eq_mul_right (by omega) h1
  have hcs : cs.length = sz := hall cs (List.mem_of_getElem? hi)
  rcases h2 with ⟨rfl, h2⟩ | ⟨g, cap, cur, rfl, hN, hg, hc, hmx, hs, ht⟩
  · omega
  · have hlt : i * sz + j < m * sz := by
      have : (i + 1) * sz ≤ m * sz := Nat.mul_le_mul_right _ (by omega)
      rw [Nat.succ_mul] at this
      omega
    have hle : m * sz ≤ cap * sz := Nat.mul_le_mul_right _ hc
    refine ⟨g, cap, cur, rfl, hN, hg, by omega, ⟨cur, et, (0, 0), hg, fun q u hu => ?_⟩, fun k' x ht1 hk' => ⟨?_, .inr ⟨g, cap, _, rfl, hN, hk', hc, hmx, by simpa using hs, ?_⟩⟩⟩
    · have hq : q < sz := by rw [← hcs]; exact (List.getElem?_eq_some_iff.1 hu).1
      have h3 := flat_at css i cs q hall hi hq
      rw [← ht, List.getElem?_take] at h3
      rw [Nat.zero_add]
      split at h3
      · rw [hu] at h3
        simpa using h3
      · rw [hu] at h3; cases h3
    · rw [flat_set css i cs j x hall hi hj, List.length_set]
      exact h1
    · rw [flat_set css i cs j x hall hi hj, ← ht]
      simp only [Array.toList_setIfInBounds]
      rw [List.take_set]
end Go.Wm

/-
  Arguments of a law as this calculus reads them, over any program. Conditions: none.
-/
namespace Go.Wm
variable [Dfr]
open Go.RowKit Go.ChangeShapes Go.WideShapes
section
variable {P : Program}
theorem garg_str {t : TypeId} (ht : P.underlying t = some .string) {H : Type} {enc : TypeId × Value → H} {W : World} {base : Nat} {v : Value} {d : DataW H} {p : List MemPlace} (hv : Value.okWide P W .any base t v) (hr : DataW.Trod enc P W 0 (fun _ => true) true t v d p) :
    ∃ s, v = .string s ∧ s.size ≤ maxLen := by
  obtain ⟨s, rfl⟩ := okWide_string ht hv
  obtain ⟨n, hn⟩ := hr
  obtain ⟨s', e0, _, hs⟩ := DataW.trod_string ht hn
  simp [Value.cells] at e0
  subst e0
  exact ⟨_, rfl, hs⟩
theorem garg_int {t : TypeId} (ht : P.underlying t = some (.int .i64)) {H : Type} {enc : TypeId × Value → H} {W : World} {base : Nat} {v : Value} {d : DataW H} {p : List MemPlace} (hv : Value.okWide P W .any base t v) (hr : DataW.Trod enc P W 0 (fun _ => true) true t v d p) :
    ∃ x, v = .int .i64 x ∧ I64 x := by
  obtain ⟨x, rfl⟩ := okWide_int ht hv
  obtain ⟨n, hn⟩ := hr
  obtain ⟨a, e0, hw⟩ := DataW.trod_int ht hn
  simp [Value.cells] at e0
  subst e0
  exact ⟨_, rfl, wf_I64 hw.2⟩
/-- The walk of a law: it returns true, and turns nothing that was there. -/
theorem gwalk_of_ct {f : FuncId} {args : Array Value} {W : World} (h : CT P f args (heapOf W) (fun _ v => v = .bool true)) : Calls P f args W fun e W' => e = .returned (.bool true) ∧ Below W.heap.size W W' :=
  (h W (heapOf W) (Le.refl _) (sub_heapOf W)).mono fun e W' ⟨v, k', h1, h2, _, _, h5⟩ => ⟨by rw [h1, h5], h2⟩
end
end Go.Wm

/-
  Maps by their keys and values: look-ups, length, updates. Conditions: the key's type is one that '==' decides ('KeyOk').
-/
namespace Go.Wm
variable [Dfr]
open Go.RowKit
section
variable {α : Type} [DecidableEq α]
def kget (x : α) : List (α × Value) → Option Value
  | [] => none
  | p :: r => if x = p.1 then some p.2 else kget x r
def kput (x : α) (v : Value) : List (α × Value) → List (α × Value)
  | [] => [(x, v)]
  | p :: r => if x = p.1 then (p.1, v) :: r else p :: kput x v r
def kdel (x : α) (l : List (α × Value)) : List (α × Value) := l.filter fun p => !decide (x = p.1)
/-- The map in block r has these keys and values. -/
def MapAt (enc : α → Value) (k : PH) (r : Nat) (kv : List (α × Value)) : Prop :=
  ∃ (es : List (α × Value × Nat)) (cl : Nat), k r = some (.map (es.map (toE enc)).toArray cl) ∧ es.map (fun p => (p.1, p.2.1)) = kv ∧ (es.map (·.2.2)).Nodup ∧ ∀ p ∈ es, p.2.2 < cl
theorem MapAt.le {enc : α → Value} {k k' : PH} {r : Nat} {kv : List (α × Value)} (h : MapAt enc k r kv) (hl : Le k k') : MapAt enc k' r kv := by
  obtain ⟨es, cl, h1, h2⟩ := h
  exact ⟨es, cl, hl _ _ h1, h2⟩
theorem MapAt.new (enc : α → Value) {k : PH} {r : Nat} (h : k r = some (.map #[] 0)) : MapAt enc k r [] := ⟨[], 0, by simpa using h, rfl, by simp, by simp⟩
theorem look_kget (x : α) : ∀ (es : List (α × Value × Nat)) (i : Nat), (lookE x es i).map (·.2) = kget x (es.map fun p => (p.1, p.2.1))
  | [], i => rfl
  | p :: r, i => by
    simp only [lookE, List.map_cons, kget]
    by_cases h : x = p.1
    · simp [h]
    · simp only [h, if_false]
      exact look_kget x r (i + 1)
theorem atE_kget (x : α) (z : Value) (es : List (α × Value × Nat)) : atE x z es = (kget x (es.map fun p => (p.1, p.2.1))).getD z := by
  rw [← look_kget x es 0]
  unfold atE
  cases lookE x es 0 <;> rfl
/-- What an update leaves. -/
theorem upd_kput (x : α) (v : Value) (es : List (α × Value × Nat)) (cl : Nat) (hn : (es.map (·.2.2)).Nodup) (hlt : ∀ p ∈ es, p.2.2 < cl) :
    ((updE x v es cl).1.map fun p => (p.1, p.2.1)) = kput x v (es.map fun p => (p.1, p.2.1)) ∧ ((updE x v es cl).1.map (·.2.2)).Nodup ∧ ∀ p ∈ (updE x v es cl).1, p.2.2 < (updE x v es cl).2 := by
  have key : ∀ (es : List (α × Value × Nat)) (i j : Nat) (u : Value), lookE x es i = some (j, u) → ((es.modify (j - i) (fun p => (p.1, v, p.2.2))).map fun p => (p.1, p.2.1)) = kput x v (es.map fun p => (p.1, p.2.1)) := by
    intro es
    induction es with
    | nil => intro i j u h; simp [lookE] at h
    | cons p r ih =>
      intro i j u h
      simp only [lookE] at h
      by_cases hx : x = p.1
      · rw [if_pos hx] at h
        cases h
        simp [kput, hx]
      · rw [if_neg hx] at h
        have hle := (lookE_mem h).1
        have := ih (i + 1) j u h
        rw [show j - i = (j - (i + 1)) + 1 by omega]
        simp only [List.modify_succ_cons, List.map_cons, kput, hx, if_false]
        rw [this]
  have key0 : ∀ (es : List (α × Value × Nat)), lookE x es 0 = none → ((es ++ [(x, v, cl)]).map fun p => (p.1, p.2.1)) = kput x v (es.map fun p => (p.1, p.2.1)) := by
    intro es h
    rw [lookE_none] at h
    induction es with
    | nil => rfl
    | cons p r ih =>
      have hp := h p (by simp)
      simp only [List.cons_append, List.map_cons, kput, Ne.symm hp, if_false]
      rw [← ih (fun q hq => h q (by simp [hq]))]
  unfold updE
  cases hl : lookE x es 0 with
  | none =>
    refine ⟨key0 es hl, ?_, fun p hp => ?_⟩
    · simp only [List.map_append, List.map_cons, List.map_nil]
      rw [List.nodup_append]
      refine ⟨hn, by simp, fun a ha b hb => ?_⟩
      obtain ⟨p, hp, rfl⟩ := List.mem_map.1 ha
      have := hlt p hp
      simp at hb
      omega
    · simp only [List.mem_append, List.mem_singleton] at hp
      rcases hp with hp | rfl
      · exact Nat.lt_succ_of_lt (hlt p hp)
      · exact Nat.lt_succ_self _
  | some q =>
    obtain ⟨j, u⟩ := q
    have h1 := key es 0 j u hl
    rw [Nat.sub_zero] at h1
    have h2 : (es.modify j (fun p => (p.1, v, p.2.2))).map (·.2.2) = es.map (·.2.2) := by
      apply List.ext_getElem?
      intro i
      simp only [List.getElem?_map, List.getElem?_modify]
      by_cases hij : j = i
      · subst hij
        cases es[j]? <;> simp
      · simp [hij]
    refine ⟨h1, by rw [h2]; exact hn, fun p hp => ?_⟩
    have : p.2.2 ∈ (es.modify j (fun p => (p.1, v, p.2.2))).map (·.2.2) := List.mem_map.2 ⟨p, hp, rfl⟩
    rw [h2] at this
    obtain ⟨p', hp', e⟩ := List.mem_map.1 this
    rw [← e]
    exact hlt p' hp'
variable {P : Program} {F : Fr} {n : Nat} {ops : Array Oper} {Q : Exit → Act → World → Prop} {rest : List Oper} {o : Oper} {e : Env} {k : PH} {kt : TypeId} {enc : α → Value}
/-- A look-up. -/
theorem d_look {t et : TypeId} {sz bs : Nat} {z : Value} {m key : Operand} {r : Nat} {x : α} {kv : List (α × Value)} [ht : TyU P t (.map kt et)] [hz : TyI P et sz bs z] [h : KeyOk P kt enc] (hk : MapAt enc k r kv) (hop : o.op = .lookup t m key false) (hmv : opv e m = some (.map (some r))) (hkv : opv e key = some (enc x)) : Det P e k o ((kget x kv).getD z) := by
  obtain ⟨es, cl, h1, rfl, _⟩ := hk
  have := d_lookup (P := P) (z := z) hop hmv hkv h1
  rw [atE_kget] at this
  exact this
theorem d_maplen {t kt' et : TypeId} {x : Operand} {r : Nat} {kv : List (α × Value)} [ht : TyU P t (.map kt' et)] (hk : MapAt enc k r kv) (hop : o.op = .call { callee := .builtin .len, args := #[x], argTypes := #[t] }) (hx : opv e x = some (.map (some r))) : Det P e k o (.int .i64 (kv.length : Int)) := by
  obtain ⟨es, cl, h1, rfl, _⟩ := hk
  have := d_len_map (P := P) hop hx h1
  simpa using this
/-- An update. -/
theorem r_put {t et : TypeId} {m key y : Operand} {r : Nat} {x : α} {v : Value} {kv : List (α × Value)} [h : KeyOk P kt enc] [ht : TyU P t (.map kt et)] (hk : MapAt enc k r kv) (hr : F.w0.heap.size ≤ r) (hd : o.dst = none) (hdet : det e = true) (hg : o.guard = none) (hop : o.op = .mapUpdate t m key y) (hmv : opv e m = some (.map (some r))) (hkv : opv e key = some (enc x)) (hyv : opv e y = some v)
    (hh : ∀ k', Turn1 k k' r → MapAt enc k' r (kput x v kv) → RG P F n ops Q rest e k') : RG P F n ops Q (o :: rest) e k := by
  obtain ⟨es, cl, h1, rfl, h2, h3⟩ := hk
  refine r_update (x := x) hd hdet hg hop hmv hkv hyv h1 hr ?_
  obtain ⟨g1, g2, g3⟩ := upd_kput x v es cl h2 h3
  exact hh _ (turn1_upd _ _ _) ⟨_, _, upd_same _ _ _, g1, g2, g3⟩
theorem MapAt.turn1 {k' : PH} {r b : Nat} {kv : List (α × Value)} (h : MapAt enc k r kv) (ht : Turn1 k k' b) (hne : r ≠ b) : MapAt enc k' r kv := by
  obtain ⟨es, cl, h1, h2⟩ := h
  exact ⟨es, cl, turn1_get ht hne h1, h2⟩
end
section
variable {P : Program} {o : Oper} {e : Env} {k : PH} {t t' kt et : TypeId} {x : Operand}
/-- A map, or a slice, held against nil. -/
theorem d_eqmap {r : Option Nat} [h : TyU P t (.map kt et)] (hop : o.op = .binOp .eql t x (.const (.map none)) t') (hx : opv e x = some (.map r)) : Det P e k o (.bool r.isNone) := by
  intro ev w hev _
  rw [hop] at hev
  have e1 := hev x (by simp [Op.operands]) _ hx
  have e2 := hev (.const (.map none)) (by simp [Op.operands]) _ rfl
  have g : (binOp .eql t (.map r) (.map none)).run P w = .ok (.bool r.isNone) w := by
    have := run_equalIn_map_nil (P := P) (w := w) 9999 t kt et r h.eq
    simp only [binOp, Op.equal, Op.maxDepth, Sem.run_bind, this, Result.andThen_ok, Sem.run_pure]
  simp [execOp, hop, e1, e2, eqGuard, g]
end
end Go.Wm

/-
  Contracts that say from where on the blocks are new that a call hands back; append of made zeros; caps. Conditions: those of each law.
-/
namespace Go.Wm
variable [Dfr]
open Go.RowKit
/-- As 'CT', and told the number of blocks ahead of the call. -/
def CTN (P : Program) (f : FuncId) (args : Array Value) (kr : PH) (φ : Nat → PH → Value → Prop) : Prop :=
  ∀ w k, Le kr k → Sub k w → Calls P f args w (Ret k w (φ w.heap.size))
theorem ctn_of_body {P : Program} {f : FuncId} {fn : Func} {c : Code} {l : List Value} {k : PH} {φ : Nat → PH → Value → Prop} (hf : P.funcs[f]? = some fn) (hb : fn.body = some c) {n : Nat} (hn : fn.ntmps = n)
    (hl : l.length ≤ n) (hm : ∀ N k k' v, Le k k' → φ N k v → φ N k' v)
    (h : ∀ F : Fr, F.k0 = k → (F.mu = fun _ => False) → CG P F n (bodyPost P fn (RetF F (φ F.w0.heap.size))) c (argEnv 0 l) k) (hD : Dfr.ds = [] := by rfl) : CTN P f l.toArray k φ := by
  intro w k1 hle hs
  have hs0 : St ⟨w, k, fun _ => False⟩ k w := ⟨rfl, rfl, rfl, Nat.le_refl _, fun _ _ _ => rfl, hs.mono hle, fun _ _ _ => rfl⟩
  subst hn
  refine Calls.mono (calls_of_wp (R := RetF ⟨w, k, fun _ => False⟩ (φ w.heap.size)) hf hb (h ⟨w, k, fun _ => False⟩ rfl rfl _ w (ag_args hl hD) hs0)) ?_
  rintro e w' ⟨v, kc, he, hst, hφ⟩
  refine ⟨v, fun b => if b < w.heap.size then k1 b else kc b, he, ⟨hst.os, hst.tape, hst.output, hst.size, fun b hb => hst.old b hb (fun h => h)⟩, fun b hb => by simp [hb], ?_, ?_⟩
  · intro b o hb
    by_cases hlt : b < w.heap.size
    · simp only [hlt, if_true] at hb
      rw [hst.old b hlt (fun h => h)]
      exact hs b o hb
    · simp only [hlt, if_false] at hb
      exact hst.sub b o hb
  · refine hm _ kc _ v (fun b o hb => ?_) hφ
    by_cases hlt : b < w.heap.size
    · simp only [hlt, if_true]
      rw [hst.keep b hlt (fun h => h)] at hb
      exact hle b o hb
    · simp only [hlt, if_false]
      exact hb
section
variable {P : Program} {F : Fr} {n : Nat} {ops : Array Oper} {Q : Exit → Act → World → Prop} {rest : List Oper} {o : Oper} {e : Env} {k : PH}
/-- A call by such a contract. -/
theorem rvn {x : Operand} {args : Array Operand} {ats : Array TypeId} {g : FuncId} {first cap : Array Value} {vs : List Value} [FnOk P g] {φ : Nat → PH → Value → Prop} {d : Nat}
    (hd : o.dst = some d) (hf : Nat.blt d n = true) (hdet : det e = true) (hgd : o.guard = none) (hop : o.op = .call { callee := .value x, args := args, argTypes := ats }) (hx : opv e x = some (.func (.func g) first cap)) (ha : opvs e args.toList = some vs)
    (hct : CTN P g (first ++ vs.toArray ++ cap) k φ)
    (h : ∀ N k' v, F.w0.heap.size ≤ N → (∀ b, N ≤ b → k b = none) → Le k k' → φ N k' v → RG P F n ops Q rest ((d, .is v) :: e) k') : RG P F n ops Q (o :: rest) e k := by
  intro a w hag hs
  unfold wpList
  rw [if_pos (by simp [Region.wanted, hgd])]
  refine .inl (ex_enter (run_call hop hx ha (evs_of (ops := ops) (ag_looks hag))) (φ := fun v w' => ∃ k', (∀ b, w.heap.size ≤ b → k b = none) ∧ Le k k' ∧ φ w.heap.size k' v ∧ St F k' w') ((hct w k (Le.refl _) hs.sub).mono ?_) _ _ ?_)
  · rintro en w' ⟨v, k', h1, h2, h3, h4, h5⟩
    exact ⟨v, h1, k', fun b hb => hs.sub.none hb, h3.le hs.sub, h5, hs.step h2 h3 h4⟩
  · rintro v w' ⟨k', h1, h2, h3, h4⟩
    refine h w.heap.size k' v hs.size h1 h2 h3 _ _ ?_ h4
    rw [hd]
    exact (hag.heap (k' := k') hdet).put (d := some d) (p := .is v) hf rfl
theorem d_cap {t et : TypeId} {x : Operand} {a : Option Addr} {m c : Nat} [h : TyU P t (.slice et)] (hop : o.op = .call { callee := .builtin .cap, args := #[x], argTypes := #[t] }) (hx : opv e x = some (.slice a m c)) : Det P e k o (.int .i64 (c : Int)) := by
  intro ev w hev _
  rw [hop] at hev
  have e1 := hev x (by simp [Op.operands, Call.operands]) _ hx
  simp [execOp, hop, resolve, invoke, builtin, e1, Builtin.cap_, run_underlying h.eq]
  rfl
/-- append(nil, make([]T, n)...). -/
theorem a_zeros {t tn et : TypeId} {kn ki : IntKind} {sz bs : Nat} {z : Value} {x y : Operand} {m d : Nat} [ht : TyU P t (.slice et)] [htn : TyU P tn (.int kn)] [hi : TyI P et sz bs z] (hd : o.dst = some d) (hf : Nat.blt d n = true) (hdet : det e = true) (hg : o.guard = none)
    (hop : o.op = .call { callee := .builtin .append, args := #[x, y], argTypes := #[t, tn] }) (hx : opv e x = some (.slice none 0 0)) (hy : opv e y = some (.int ki (m : Int))) (h0 : 0 < m) (hs : Nat.blt 0 sz = true) (hz : Nat.beq z.cells.size sz = true) (h63 : m ≤ maxLen) (h48 : m * bs ≤ 281474976710656)
    (h : ∀ g cap cur k', F.w0.heap.size ≤ g → k g = none → Le k k' → k' g = some (.cells cur et (0, 0)) → m ≤ cap → cap ≤ maxLen → cur.size = cap * sz → RG P F n ops Q rest ((d, .is (.slice (some ⟨g, 0, none⟩) m cap)) :: e) k') : RG P F n ops Q (o :: rest) e k := by
  intro a w ha hst
  unfold wpList
  rw [if_pos (by simp [Region.wanted, hg])]
  have ev := evs_of (ops := ops) (o := o) (ag_looks ha)
  rw [hop] at ev
  have e1 := ev x (by simp [Op.operands, Call.operands]) _ hx
  have e2 := ev y (by simp [Op.operands, Call.operands]) _ hy
  obtain ⟨i, hi1, hi2, hi3, hi4⟩ := hi.eq
  subst hi2
  subst hi3
  have hzs : z.cells.size = i.size := Nat.eq_of_beq_eq_true hz
  have hpos' : 0 < i.size := by simpa [Nat.blt_eq] using hs
  have h63' : maxLen = 9223372036854775807 := rfl
  have hr := Lib.run_append_nil_zeros (P := P) w t tn o.type et i z ki kn ht.eq htn.eq hi1 hi4 m h0 hpos' (by omega) h48
  have hexec : ∀ v' w', (Builtin.append_ #[t, tn] o.type #[.slice none 0 0, .int ki (m : Int)]).run P w = .ok v' w' → (execOp a.eval o).run P w = .ok (.value v') w' := by
    intro v' w' hr
    simp [execOp, hop, resolve, invoke, builtin, e1, e2, hr]
  have hcap := grownCap_bd w m 0 et h63
  have hb : Below w.heap.size w (w.drew.alloc (.cells (Builtin.zeroCells z.cells m ++ Builtin.zeroCells z.cells (grownCap w m 0 et - m)) et)) := (Below.refl _ w).drew.alloc (Nat.le_refl _) _
  refine .inl (ex_value (hexec _ _ hr) _ _ ?_)
  rintro _ _ ⟨rfl, rfl⟩
  rw [hd]
  refine h w.heap.size (grownCap w m 0 et) (Builtin.zeroCells z.cells m ++ Builtin.zeroCells z.cells (grownCap w m 0 et - m)) (upd k w.heap.size _) hst.size (hst.sub.none (Nat.le_refl _)) (le_new (hst.sub.none (Nat.le_refl _)) _) (upd_same _ _ _) hcap.1 hcap.2 ?_ _ _ ?_ ?_
  · rw [Array.size_append, size_zeroCells, size_zeroCells, hzs, ← Nat.add_mul]
    congr 1
    omega
  · exact (ha.heap hdet).put (d := some d) (p := .is _) hf rfl
  · refine hst.step hb (agr_upd (Nat.le_refl _) _) fun b ob hbo => ?_
    by_cases hbe : b = w.heap.size
    · subst hbe
      rw [upd_same] at hbo
      cases hbo
      show (w.heap.push _)[w.heap.size]? = _
      simp
    · rw [upd_other hbe] at hbo
      rw [hb.block b (hst.sub.lt hbo)]
      exact hst.sub b ob hbo
end
theorem Row.N_le {N N' : Nat} {k : PH} {et sz : Nat} {v : Value} {m : Nat} {xs : List Value} (h : Row N k et sz v m xs) (hN : N' ≤ N) : Row N' k et sz v m xs := by
  obtain ⟨h1, h2⟩ := h
  refine ⟨h1, ?_⟩
  rcases h2 with h2 | ⟨g, cap, cur, e, hg, h3⟩
  · exact .inl h2
  · exact .inr ⟨g, cap, cur, e, Nat.le_trans hN hg, h3⟩
theorem Row.apart {N : Nat} {k h : PH} {et sz : Nat} {v : Value} {m : Nat} {xs : List Value} (H : Row N k et sz v m xs) (hn : ∀ b, N ≤ b → h b = none) : Apart h v := fun g hg => hn g (H.block hg).1
end Go.Wm

/-
  What the form's own reach says of what is read: no list takes more bytes than there is room for. Conditions: none.
-/
namespace Go.Wm
variable [Dfr]
open Go.RowKit Go.ChangeShapes Go.WideShapes
/-- As 'Rd', and what the reach says of the data. -/
class RdW (P : Program) (t : TypeId) {α : Type} (T : Ty α) (B : outParam (α → Prop)) : Prop where
  one : P.cellsOf t = T.sz
  rd : ∀ {H : Type} {enc : TypeId × Value → H} {W : World} {base : Nat} {held : Bool} {n : Nat} {cs : List Value} {y : DataW H × List MemPlace}, DataW.trod enc P W base (fun _ => true) held n t cs = some y →
    (∀ q ∈ y.1.weights P t, q ≤ reachBytes) → ∃ x, T.rep (heapOf W) cs x ∧ B x
section
variable {P : Program}
theorem weightsAll_mem {H : Type} {e : TypeId} {d : DataW H} {q : Nat} : ∀ {l : List (DataW H)}, d ∈ l → q ∈ d.weights P e → q ∈ DataW.weightsAll P e l
  | [], h, _ => by cases h
  | x :: r, h, hq => by
    rw [DataW.weightsAll]
    rcases List.mem_cons.1 h with rfl | h
    · exact List.mem_append.2 (.inl hq)
    · exact List.mem_append.2 (.inr (weightsAll_mem h hq))
theorem rdw_slice {t e : TypeId} {α : Type} {T : Ty α} {B : α → Prop} (h : P.underlying t = some (.slice e)) (h1 : P.cellsOf t = 1) (hpos : 0 < T.sz) [he : RdW P e T B] : RdW P t (tSl T) (fun xs => xs.length * P.bytesOf e ≤ reachBytes ∧ ∀ x ∈ xs, B x) where
  one := h1
  rd := by
    intro H enc W base held n cs y hr hwt
    rcases Deep.open_slice h hr with ⟨rfl, _⟩ | ⟨a, len, cap, m, nn, D, Pl, rfl, _, hlc, hcm, hm, hy, hel⟩
    · exact ⟨[], ⟨none, 0, rfl, by simp, by simp [maxLen], fun _ => rfl, by simp, by simp⟩, by simp, by simp⟩
    · subst hy
      simp only [DataW.weights, h] at hwt
      have hlm : len ≤ m := by rw [hm]; split <;> omega
      have hlen : len * P.bytesOf e ≤ reachBytes := by
        have := hwt _ (List.mem_cons.2 (.inl rfl))
        simp only [List.length_map, List.length_range] at this
        exact Nat.le_trans (Nat.mul_le_mul_right _ (by omega)) this
      have hx : ∀ i, i < len → ∃ x cs', W.cells? base (a.add (i * T.sz)) T.sz = some cs' ∧ T.rep (heapOf W) cs' x ∧ B x := by
        intro i hi
        obtain ⟨cs', hc, ht⟩ := hel i (by omega)
        obtain ⟨x, hx, hb⟩ := he.rd ht fun q hq => hwt q (List.mem_cons.2 (.inr (List.mem_append.2 (.inl (weightsAll_mem (List.mem_map.2 ⟨i, by simpa using hi, rfl⟩) hq)))))
        rw [he.one] at hc
        exact ⟨x, cs', hc, hx, hb⟩
      have hall : ∃ xs : List α, xs.length = len ∧ (∀ x ∈ xs, B x) ∧ ∀ i x, xs[i]? = some x → ∃ cs', W.cells? base (a.add (i * T.sz)) T.sz = some cs' ∧ T.rep (heapOf W) cs' x := by
        have : ∀ q, q ≤ len → ∃ xs : List α, xs.length = q ∧ (∀ x ∈ xs, B x) ∧ ∀ i x, xs[i]? = some x → ∃ cs', W.cells? base (a.add (i * T.sz)) T.sz = some cs' ∧ T.rep (heapOf W) cs' x := by
          intro q
          induction q with
          | zero => intro _; exact ⟨[], rfl, by simp, by simp⟩
          | succ q ih =>
            intro hq
            obtain ⟨xs, hl, hbs, hxs⟩ := ih (by omega)
            obtain ⟨x, cs', hc, hr, hb⟩ := hx q (by omega)
            refine ⟨xs ++ [x], by simp [hl], fun y hy => ?_, fun i y hy => ?_⟩
            · rcases List.mem_append.1 hy with hy | hy
              · exact hbs y hy
              · simp at hy; rw [hy]; exact hb
            by_cases hi : i < q
            · rw [List.getElem?_append_left (by omega)] at hy
              exact hxs i y hy
            · rw [List.getElem?_append_right (by omega)] at hy
              have : i = q := by
                have := (List.getElem?_eq_some_iff.1 hy).1
                simp at this
                omega
              subst this
              simp [hl] at hy
              subst hy
              exact ⟨cs', hc, hr⟩
        exact this len (Nat.le_refl _)
      obtain ⟨xs, hl, hbs, hxs⟩ := hall
      subst hl
      have hspot : ∀ i, i < xs.length → a.spot = none := by
        intro i hi
        obtain ⟨cs', hc, hr⟩ := hxs 0 xs[0] (List.getElem?_eq_getElem (by omega))
        have := (cells_of_read hc hpos).1
        simpa [Addr.add] using this
      by_cases h0 : xs.length = 0
      · have : xs = [] := List.length_eq_zero_iff.1 h0
        subst this
        refine ⟨[], ⟨some a, cap, rfl, by simp, hcm, by simp, fun hc ad h => ?_, by simp⟩, by simp, by simp⟩
        cases h
        obtain ⟨cs', hc', _⟩ := hel 0 (by rw [hm]; simpa using hc)
        rw [he.one] at hc'
        have := (cells_of_read hc' hpos).1
        simpa [Addr.add] using this
      · refine ⟨xs, ⟨some a, cap, rfl, hlc, hcm, by simp, fun _ ad h => by cases h; exact hspot 0 (by omega), fun i x hx' => ?_⟩, hlen, hbs⟩
        have hi : i < xs.length := (List.getElem?_eq_some_iff.1 hx').1
        obtain ⟨b, off, spot⟩ := a
        have hs := hspot i hi
        simp only at hs
        subst hs
        obtain ⟨cs', hc, hr⟩ := hxs i x hx'
        refine ⟨b, off, cs', rfl, hr, ?_⟩
        have := (cells_of_read hc hpos).2 (off + i * T.sz) (fun j hj => by rw [addr_add, addr_add])
        rw [addr_add] at this
        exact this
theorem weightsEach_cons {H : Type} {t : TypeId} {ts : List TypeId} {d : DataW H} {ds : List (DataW H)} (h : (DataW.weightsEach P (t :: ts) (d :: ds)).all (fun q => decide (q ≤ reachBytes)) = true) : (∀ q ∈ d.weights P t, q ≤ reachBytes) ∧ (DataW.weightsEach P ts ds).all (fun q => decide (q ≤ reachBytes)) = true := by
  rw [DataW.weightsEach, List.all_append, Bool.and_eq_true] at h
  refine ⟨fun q hq => ?_, h.2⟩
  have := List.all_eq_true.1 h.1 q hq
  simpa using this
end
end Go.Wm

/-
  Structs of plain data, one in another: equality, keys of maps, and how they are read. Conditions: those of each law.
-/
namespace Go.Wm
variable [Dfr]
open Go.RowKit
/-- '==' of two structs of this type asks nothing ahead. -/
class EqG (P : Program) (t : TypeId) : Prop where
  eq : P.eqGuardType P.depth t = false
/-- Data of type α, as enc has them at type t: '==' decides them, from d levels on; they may be keys. -/
class DEq (P : Program) (t : TypeId) {α : outParam Type} (d : outParam Nat) (enc : outParam (α → Value)) (eqb : outParam (α → α → Bool)) : Prop where
  eqv : ∀ (m : Nat) (w : World) (x y : α), d ≤ m → (Op.equalIn m t (enc x) (enc y)).run P w = .ok (eqb x y) w
  chk : ∀ (em : Bool) (m : Nat) (w : World) (x : α), d ≤ m → (Instr.checkKey em m t (enc x)).run P w = .ok () w
section
variable {P : Program}
theorem deq_int {t : TypeId} (h : P.underlying t = some (.int .i64)) : DEq P t 1 (fun x : Int => Value.int .i64 x) (fun x y => decide (x = y)) where
  eqv := fun m w x y hm => by
    obtain ⟨m, rfl⟩ : ∃ q, m = q + 1 := ⟨m - 1, by omega⟩
    exact run_litEq h rfl m w
  chk := fun em m w x hm => by
    obtain ⟨m, rfl⟩ : ∃ q, m = q + 1 := ⟨m - 1, by omega⟩
    exact chk_plain h rfl em m _ w
theorem deq_str {t : TypeId} (h : P.underlying t = some .string) : DEq P t 1 (fun x : ByteArray => Value.string x) (fun x y => decide (x = y)) where
  eqv := fun m w x y hm => by
    obtain ⟨m, rfl⟩ : ∃ q, m = q + 1 := ⟨m - 1, by omega⟩
    exact run_litEq h rfl m w
  chk := fun em m w x hm => by
    obtain ⟨m, rfl⟩ : ∃ q, m = q + 1 := ⟨m - 1, by omega⟩
    exact chk_plain h rfl em m _ w
theorem deq_bool {t : TypeId} (h : P.underlying t = some .bool) : DEq P t 1 (fun x : Bool => Value.bool x) (fun x y => decide (x = y)) where
  eqv := fun m w x y hm => by
    obtain ⟨m, rfl⟩ : ∃ q, m = q + 1 := ⟨m - 1, by omega⟩
    rw [run_litEq h (r := x == y) rfl m w]
    congr 1
  chk := fun em m w x hm => by
    obtain ⟨m, rfl⟩ : ∃ q, m = q + 1 := ⟨m - 1, by omega⟩
    exact chk_plain h rfl em m _ w
/-- Fields of two structs: what is at each, and whether it is the same. -/
def FieldsAre (P : Program) (d : Nat) (xs ys : Array Value) : List (Bool × TypeId × Nat) → List Bool → Prop
  | [], [] => True
  | f :: fs, r :: rs => (f.1 = false ∧ ∃ px py, (∀ w : World, (part f.2.1 xs f.2.2).run P w = .ok px w ∧ (part f.2.1 ys f.2.2).run P w = .ok py w) ∧ (∀ (m : Nat) (w : World), d ≤ m → (Op.equalIn m f.2.1 px py).run P w = .ok r w) ∧
      ∀ (em : Bool) (m : Nat) (w : World), d ≤ m → (Instr.checkKey em m f.2.1 px).run P w = .ok () w) ∧ FieldsAre P d xs ys fs rs
  | _, _ => False
theorem run_fieldsAre {d m : Nat} (hm : d ≤ m) (w : World) (xs ys : Array Value) : ∀ (fs : List Field) (ds : List (Bool × TypeId × Nat)) (rs : List Bool), (fs.map fun f => (f.name == "_", f.type, f.offset)) = ds → FieldsAre P d xs ys ds rs → (Op.eqFields m xs ys fs).run P w = .ok (rs.all id) w
  | [], _, rs, h, hf => by
    subst h
    cases rs with
    | nil => rfl
    | cons r rs => exact hf.elim
  | f :: fs, _, rs, h, hf => by
    subst h
    cases rs with
    | nil => exact hf.elim
    | cons r rs =>
      obtain ⟨⟨h1, px, py, h2, h3, _⟩, h4⟩ := hf
      have hne : f.name ≠ "_" := by simpa using h1
      have ih := run_fieldsAre hm w xs ys fs _ rs rfl h4
      simp only [Op.eqFields, hne, ne_eq, not_false_eq_true, if_true, Sem.run_bind, (h2 w).1, (h2 w).2, Result.andThen_ok, h3 m w hm]
      cases r
      · simp
      · simp [ih]
theorem chk_fieldsAre {d m : Nat} (hm : d ≤ m) (em : Bool) (xs ys : Array Value) : ∀ (fs : List Field) (w : World) (ds : List (Bool × TypeId × Nat)) (rs : List Bool), (fs.map fun f => (f.name == "_", f.type, f.offset)) = ds → FieldsAre P d xs ys ds rs →
    (forIn fs PUnit.unit (fun f _ => (if f.name ≠ "_" then do
        Instr.checkKey em m f.type (← part f.type xs f.offset)
        pure (ForInStep.yield PUnit.unit)
      else pure (ForInStep.yield PUnit.unit) : Sem (ForInStep PUnit)))).run P w = .ok PUnit.unit w
  | [], w, _, _, _, _ => by simp
  | f :: fs, w, _, rs, h, hf => by
    subst h
    cases rs with
    | nil => exact hf.elim
    | cons r rs =>
      obtain ⟨⟨h1, px, py, h2, _, h3⟩, h4⟩ := hf
      have hne : f.name ≠ "_" := by simpa using h1
      have ih := chk_fieldsAre hm em xs ys fs w _ rs rfl h4
      simp only [List.forIn_cons, hne, ne_eq, not_false_eq_true, if_true, Sem.run_bind, (h2 w).1, Result.andThen_ok, h3 em m w hm, Sem.run_pure]
      exact ih
theorem part_plain {t : TypeId} {ds : TypeDesc} {xs : Array Value} {off : Nat} {v : Value} (h : P.underlying t = some ds) (hd : aggD ds = false) (hx : xs[off]? = some v) (w : World) : (part t xs off).run P w = .ok v w := by
  simp only [part, Sem.run_bind, run_isAgg h, hd, Result.andThen_ok, Bool.false_eq_true, if_false, hx, Sem.run_pure]
/-- One field more. -/
theorem fieldsAre_cons {d d' : Nat} {xs ys : Array Value} {t : TypeId} {off : Nat} {fs : List (Bool × TypeId × Nat)} {rs : List Bool} {β : Type} {enc : β → Value} {eqb : β → β → Bool} [h : DEq P t d' enc eqb] (hd : Nat.ble d' d = true) (a b : β) (ha : ∀ w : World, (part t xs off).run P w = .ok (enc a) w) (hb : ∀ w : World, (part t ys off).run P w = .ok (enc b) w)
    (hr : FieldsAre P d xs ys fs rs) : FieldsAre P d xs ys ((false, t, off) :: fs) (eqb a b :: rs) :=
  have hd' : d' ≤ d := Nat.le_of_ble_eq_true hd
  ⟨⟨rfl, enc a, enc b, fun w => ⟨ha w, hb w⟩, fun m w hm => h.eqv m w a b (Nat.le_trans hd' hm), fun em m w hm => h.chk em m w a (Nat.le_trans hd' hm)⟩, hr⟩
theorem deq_struct {t : TypeId} {α : Type} [DecidableEq α] {d : Nat} {vs : α → List Value} {ds : List (Bool × TypeId × Nat)} (h1 : P.underlying t = some (.struct (P.fieldsOf t))) (h2 : P.stoodInHeld t = false) (h3 : ((P.fieldsOf t).toList.map fun f => (f.name == "_", f.type, f.offset)) = ds)
    (rs : α → α → List Bool) (hf : ∀ x y, FieldsAre P d (vs x).toArray (vs y).toArray ds (rs x y)) (hr : ∀ x y, (rs x y).all id = decide (x = y)) : DEq P t (d + 1) (fun x : α => Value.agg (vs x).toArray) (fun x y => decide (x = y)) where
  eqv := fun m w x y hm => by
    obtain ⟨m, rfl⟩ : ∃ q, m = q + 1 := ⟨m - 1, by omega⟩
    rw [run_equalIn_struct w m t _ _ h1 h2, run_fieldsAre (d := d) (by omega) w _ _ _ _ _ h3 (hf x y), hr]
  chk := fun em m w x hm => by
    obtain ⟨m, rfl⟩ : ∃ q, m = q + 1 := ⟨m - 1, by omega⟩
    have := chk_fieldsAre (d := d) (m := m) (by omega) em _ _ (P.fieldsOf t).toList w _ _ h3 (hf x x)
    simp only [Instr.checkKey, Sem.run_bind, run_underlying h1, Result.andThen_ok]
    rw [← Array.forIn_toList]
    simp only [Sem.run_bind, this, Result.andThen_ok, Sem.run_pure]
/-- '==' of structs, by what they are. -/
theorem d_eqd {o : Oper} {e : Env} {k : PH} {t t' : TypeId} {α : Type} {d : Nat} {enc : α → Value} {eqb : α → α → Bool} [h : DEq P t d enc eqb] {x y : Operand} {a b : α} {xs ys : Array Value} (hop : o.op = .binOp .eql t x y t') (hx : opv e x = some (enc a)) (hy : opv e y = some (enc b)) (hxa : enc a = .agg xs) (hya : enc b = .agg ys) [hg' : EqG P t] (hd : Nat.ble d 10000 = true) : Det P e k o (.bool (eqb a b)) := by
  intro ev w hev _
  rw [hop] at hev
  have g := h.eqv 10000 w a b (Nat.le_of_ble_eq_true hd)
  rw [hxa, hya] at g
  rw [hxa] at hx
  rw [hya] at hy
  simp only [execOp, hop, hev x (by simp [Op.operands]) _ hx, hev y (by simp [Op.operands]) _ hy, Sem.run_bind, run_eqGuard_agg w .eql t x y xs ys hg'.eq, Result.andThen_ok, run_eql_struct, g, Sem.run_pure]
theorem d_ned {o : Oper} {e : Env} {k : PH} {t t' : TypeId} {α : Type} {d : Nat} {enc : α → Value} {eqb : α → α → Bool} [h : DEq P t d enc eqb] {x y : Operand} {a b : α} {xs ys : Array Value} (hop : o.op = .binOp .neq t x y t') (hx : opv e x = some (enc a)) (hy : opv e y = some (enc b)) (hxa : enc a = .agg xs) (hya : enc b = .agg ys) [hg' : EqG P t] (hd : Nat.ble d 10000 = true) : Det P e k o (.bool (!eqb a b)) := by
  intro ev w hev _
  rw [hop] at hev
  have g := h.eqv 10000 w a b (Nat.le_of_ble_eq_true hd)
  rw [hxa, hya] at g
  rw [hxa] at hx
  rw [hya] at hy
  simp only [execOp, hop, hev x (by simp [Op.operands]) _ hx, hev y (by simp [Op.operands]) _ hy, Sem.run_bind, run_eqGuard_agg w .neq t x y xs ys hg'.eq, Result.andThen_ok, run_neq_struct, g, Sem.run_pure]
/-- Such data as keys. -/
theorem key_of_deq {t : TypeId} {α : Type} [DecidableEq α] {d : Nat} {vs : α → List Value} [h : DEq P t d (fun x : α => Value.agg (vs x).toArray) (fun x y => decide (x = y))] {fs : Array Field} (h1 : P.underlying t = some (.struct fs)) (hd : Nat.ble d 10000 = true) (hb : ∀ x : α, ∀ v ∈ vs x, Instr.sameBits 9999 v v = true) : KeyOk P t (fun x : α => Value.agg (vs x).toArray) where
  chk := fun em w x => h.chk em 10000 w x (Nat.le_of_ble_eq_true hd)
  eqv := fun w x y => h.eqv 10000 w x y (Nat.le_of_ble_eq_true hd)
  now := ⟨.struct fs, h1, .inr fun x y => rfl⟩
  bits := fun x => by
    have : ((vs x).toArray.toList.zip (vs x).toArray.toList).all (fun p => Instr.sameBits 9999 p.1 p.2) = true := by
      rw [List.all_eq_true]
      intro p hp
      have h2 : p.1 = p.2 := by
        obtain ⟨i, hi⟩ := List.getElem?_of_mem hp
        rw [List.getElem?_zip_eq_some] at hi
        have := hi.1.symm.trans hi.2
        simpa using this
      rw [← h2]
      exact hb x _ (by
        have := (List.of_mem_zip (a := p.1) (b := p.2) hp).1
        simpa using this)
    show ((vs x).toArray.size == (vs x).toArray.size && _) = true
    simp only [beq_self_eq_true, Bool.true_and]
    exact this
theorem bits_int (m : Nat) (k : IntKind) (x : Int) : Instr.sameBits m (.int k x) (.int k x) = true := by cases m <;> simp [Instr.sameBits]
theorem bits_str (m : Nat) (x : ByteArray) : Instr.sameBits m (.string x) (.string x) = true := by cases m <;> simp [Instr.sameBits]
theorem bits_bool (m : Nat) (x : Bool) : Instr.sameBits m (.bool x) (.bool x) = true := by cases m <;> simp [Instr.sameBits]
theorem key_int {t : TypeId} (h : P.underlying t = some (.int .i64)) : KeyOk P t (fun x : Int => Value.int .i64 x) where
  chk := fun em w x => (deq_int h).chk em 10000 w x (by omega)
  eqv := fun w x y => (deq_int h).eqv 10000 w x y (by omega)
  now := ⟨.int .i64, h, .inl fun x y => by
    simp only [Instr.sameNow]
    congr 1⟩
  bits := fun x => bits_int _ _ _
theorem key_str {t : TypeId} (h : P.underlying t = some .string) : KeyOk P t (fun x : ByteArray => Value.string x) where
  chk := fun em w x => (deq_str h).chk em 10000 w x (by omega)
  eqv := fun w x y => (deq_str h).eqv 10000 w x y (by omega)
  now := ⟨.string, h, .inl fun x y => by
    simp only [Instr.sameNow]
    rw [beq_toListBytes, beq_toList]⟩
  bits := fun x => bits_str _ _

/-! ### reading -/
theorem rdw_int {t : TypeId} (h : P.underlying t = some (.int .i64)) (h1 : P.cellsOf t = 1) : RdW P t tInt (fun _ => True) where
  one := h1
  rd := fun hr _ => by
    obtain ⟨n, rfl, _, hw⟩ := DataW.trod_int h hr
    exact ⟨n, ⟨rfl, wf_I64 hw⟩, trivial⟩
theorem rdw_bool {t : TypeId} (h : P.underlying t = some .bool) (h1 : P.cellsOf t = 1) : RdW P t tBool (fun _ => True) where
  one := h1
  rd := fun hr _ => by
    obtain ⟨n, rfl, _⟩ := DataW.trod_bool h hr
    exact ⟨n, rfl, trivial⟩
theorem rdw_str {t : TypeId} (h : P.underlying t = some .string) (h1 : P.cellsOf t = 1) : RdW P t tStr (fun s => s.size ≤ reachBytes) where
  one := h1
  rd := fun hr hw => by
    obtain ⟨s, rfl, hy, hs⟩ := DataW.trod_string h hr
    refine ⟨s, ⟨rfl, hs⟩, ?_⟩
    rw [hy] at hw
    have := hw s.data.toList.length (by simp [DataW.weights])
    simpa using this
theorem weightsEach_mem {H : Type} {t : TypeId} {d : DataW H} {q : Nat} : ∀ {ts : List TypeId} {ds : List (DataW H)} {i : Nat}, ts[i]? = some t → ds[i]? = some d → q ∈ d.weights P t → q ∈ DataW.weightsEach P ts ds
  | [], _, i, h, _, _ => by simp at h
  | _ :: _, [], i, _, h, _ => by simp at h
  | t' :: ts, d' :: ds, 0, h, h', hq => by
    simp at h h'
    subst h h'
    rw [DataW.weightsEach]
    exact List.mem_append.2 (.inl hq)
  | t' :: ts, d' :: ds, i + 1, h, h', hq => by
    rw [DataW.weightsEach]
    exact List.mem_append.2 (.inr (weightsEach_mem (by simpa using h) (by simpa using h') hq))
/-- A struct's fields, each with its cells. -/
theorem struct_fields {t : TypeId} {fs : List (Nat × TypeId)} (hs : P.underlying t = some (.struct (P.fieldsOf t))) (hf : ((P.fieldsOf t).toList.map fun f => (f.offset, f.type)) = fs)
    {H : Type} {enc : TypeId × Value → H} {W : World} {base : Nat} {held : Bool} {n : Nat} {cs : List Value} {y : DataW H × List MemPlace} (h : DataW.trod enc P W base (fun _ => true) held n t cs = some y) (hw : ∀ q ∈ y.1.weights P t, q ≤ reachBytes) :
    cs.length = P.cellsOf t ∧ ∃ m, ∀ off ft, (off, ft) ∈ fs → ∃ z, DataW.trod enc P W base (fun _ => true) held m ft ((cs.drop off).take (P.cellsOf ft)) = some z ∧ ∀ q ∈ z.1.weights P ft, q ≤ reachBytes := by
  obtain ⟨xs, m, _, hy, hl, hxl, hel⟩ := DataW.trod_struct hs h
  refine ⟨hl, m, fun off ft hm => ?_⟩
  subst hf
  obtain ⟨f, hfm, e⟩ := List.mem_map.1 hm
  simp only [Prod.mk.injEq] at e
  obtain ⟨e1, e2⟩ := e
  obtain ⟨j, hj⟩ := List.getElem?_of_mem hfm
  have hjl : j < (P.fieldsOf t).toList.length := (List.getElem?_eq_some_iff.1 hj).1
  have h1 := hel j f (by simpa using hj)
  have hjx : j < xs.length := by
    rw [hxl]
    simpa using hjl
  rw [e1, e2, List.getElem?_eq_getElem hjx] at h1
  refine ⟨xs[j], h1, fun q hq => hw q ?_⟩
  rw [hy]
  simp only [DataW.weights, hs]
  refine weightsEach_mem (i := j) (t := ft) (d := xs[j].1) ?_ ?_ hq
  · rw [List.getElem?_map, hj, Option.map_some, e2]
  · rw [List.getElem?_map, List.getElem?_eq_getElem hjx]; rfl
end
end Go.Wm

/-
  Short forms of single steps, whose small premises are found by themselves. Conditions: none beyond those of each law.
-/
namespace Go.Wm
variable [Dfr]
open Go.RowKit
section
variable {P : Program} {F : Fr} {n N : Nat} {ops : Array Oper} {Q : Exit → Act → World → Prop} {rest : List Oper} {o : Oper} {e : Env} {k : PH}

theorem qwE {K : Env → Prop} {t t' : TypeId} {α : Type} {dd' : Nat} {enc : α → Value} {eqb : α → α → Bool} {x y : Operand} {a b : α} {xs ys : Array Value} {d : Nat} (h : WA P n ops k K rest ((d, .is (.bool (eqb a b))) :: e)) (hd : o.dst = some d := by exact rfl)  (hg : wantedE ops e o = some true := by exact rfl) (hop : o.op = .binOp .eql t x y t' := by exact rfl) (hi0 : DEq P t dd' enc eqb := by exact inferInstance) (hi1 : EqG P t := by exact inferInstance) (hx : opv e x = some (enc a) := by exact rfl) (hy : opv e y = some (enc b) := by exact rfl) (hxa : enc a = .agg xs := by exact rfl) (hya : enc b = .agg ys := by exact rfl) (hdd : Nat.ble dd' 10000 = true := by exact rfl) : WA P n ops k K (o :: rest) e :=
  ws hd (loc_det hg (d_eqd hop hx hy hxa hya hdd)) h
theorem qwX {K : Env → Prop} {t t' : TypeId} {α : Type} {dd' : Nat} {enc : α → Value} {eqb : α → α → Bool} {x y : Operand} {a b : α} {xs ys : Array Value} {d : Nat} (h : WA P n ops k K rest ((d, .is (.bool (!eqb a b))) :: e)) (hd : o.dst = some d := by exact rfl)  (hg : wantedE ops e o = some true := by exact rfl) (hop : o.op = .binOp .neq t x y t' := by exact rfl) (hi0 : DEq P t dd' enc eqb := by exact inferInstance) (hi1 : EqG P t := by exact inferInstance) (hx : opv e x = some (enc a) := by exact rfl) (hy : opv e y = some (enc b) := by exact rfl) (hxa : enc a = .agg xs := by exact rfl) (hya : enc b = .agg ys := by exact rfl) (hdd : Nat.ble dd' 10000 = true := by exact rfl) : WA P n ops k K (o :: rest) e :=
  ws hd (loc_det hg (d_ned hop hx hy hxa hya hdd)) h
theorem qsE  {t t' : TypeId} {α : Type} {dd' : Nat} {enc : α → Value} {eqb : α → α → Bool} {x y : Operand} {a b : α} {xs ys : Array Value} {d : Nat} (h : RG P F n ops Q rest ((d, .is (.bool (eqb a b))) :: e) k) (hd : o.dst = some d := by exact rfl) (hf : Nat.blt d n = true := by exact rfl) (hg : wantedE ops e o = some true := by exact rfl) (hop : o.op = .binOp .eql t x y t' := by exact rfl) (hi0 : DEq P t dd' enc eqb := by exact inferInstance) (hi1 : EqG P t := by exact inferInstance) (hx : opv e x = some (enc a) := by exact rfl) (hy : opv e y = some (enc b) := by exact rfl) (hxa : enc a = .agg xs := by exact rfl) (hya : enc b = .agg ys := by exact rfl) (hdd : Nat.ble dd' 10000 = true := by exact rfl) : RG P F n ops Q (o :: rest) e k :=
  rs hd hf (loc_det hg (d_eqd hop hx hy hxa hya hdd)) h
theorem qsX  {t t' : TypeId} {α : Type} {dd' : Nat} {enc : α → Value} {eqb : α → α → Bool} {x y : Operand} {a b : α} {xs ys : Array Value} {d : Nat} (h : RG P F n ops Q rest ((d, .is (.bool (!eqb a b))) :: e) k) (hd : o.dst = some d := by exact rfl) (hf : Nat.blt d n = true := by exact rfl) (hg : wantedE ops e o = some true := by exact rfl) (hop : o.op = .binOp .neq t x y t' := by exact rfl) (hi0 : DEq P t dd' enc eqb := by exact inferInstance) (hi1 : EqG P t := by exact inferInstance) (hx : opv e x = some (enc a) := by exact rfl) (hy : opv e y = some (enc b) := by exact rfl) (hxa : enc a = .agg xs := by exact rfl) (hya : enc b = .agg ys := by exact rfl) (hdd : Nat.ble dd' 10000 = true := by exact rfl) : RG P F n ops Q (o :: rest) e k :=
  rs hd hf (loc_det hg (d_ned hop hx hy hxa hya hdd)) h
end
end Go.Wm

/-
  Results that are cells. Conditions: none beyond those of each law.
-/
namespace Go.Wm
variable [Dfr]
open Go.RowKit
section
variable {P : Program} {F : Fr} {n : Nat} {e : Env} {k : PH}
theorem run_loadAgg {t : TypeId} {d : TypeDesc} {b off sz bs : Nat} {z : Value} {vs : List Value} [h : TyU P t d] [hi : TyI P t sz bs z] (hd : aggD d = true) (hl : vs.length = sz) (hc : Cells k b off vs) {w : World} (hs : Sub k w) :
    (loadVar t ⟨b, off, none⟩).run P w = .ok (.agg vs.toArray) w := by
  obtain ⟨inf, hi1, hi2, _⟩ := hi.eq
  have h1 := run_loadCells_list (P := P) w ⟨b, off, none⟩ vs (fun j v hv => by rw [addr_add]; exact hc.cell hs hv)
  rw [hl] at h1
  simp [loadVar, run_isAgg h.eq, hd, run_size hi1, hi2, h1]
theorem eg_returnC {fn : Func} {φ : PH → Value → Prop} {t : Nat} {ty : TypeId} (hr : fn.results = #[.cell t ty]) {d : TypeDesc} {b off sz bs : Nat} {z : Value} {vs : List Value} [h : TyU P ty d] [hi : TyI P ty sz bs z] (hv : get e t = some (.is (.pointer (some ⟨b, off, none⟩)))) (hd : aggD d = true)
    (hc : Cells k b off vs) (hl : vs.length = sz) (hφ : φ k (.agg vs.toArray)) (hD : Dfr.ds = [] := by rfl) : EG F n (bodyPost P fn (RetF F φ) .ret) e k := by
  intro a w ha hs
  have h1 := ha.get t _ hv
  have h1 : a.tmps.getD t undef = .pointer (some ⟨b, off, none⟩) := h1
  have hl := run_loadAgg (P := P) (t := ty) (w := w) hd hl hc hs.sub
  refine bodyPost_ret ?_ (ha.defers.trans hD) ⟨_, k, rfl, hs, hφ⟩
  have h2 : a.tmps[t]?.getD undef = .pointer (some ⟨b, off, none⟩) := by rw [← h1]; simp
  simp [results, hr, asAddr, h2, hl]
end
end Go.Wm

/-
  A region that draws its order, some of whose operations turn memory, one behind the other ('fx', their places): one walk in the text's order serves every order; from the tail on each operation waits for all before it. Conditions: the region's own order, Bools that the kernel reckons.
-/
namespace Go.Wm
variable [Dfr]
open Go.RowKit

/-- Stage s (so many effects are done) may hold when operation i is carried out. -/
def winOk (ms : List Nat) (fx : List Nat) (i s : Nat) : Bool :=
  (List.range fx.length).all fun q => (!(ms.getD i 0).testBit (fx.getD q 0) || Nat.blt q s) && (!(ms.getD (fx.getD q 0) 0).testBit i || Nat.ble s q)
/-- The effects stand one behind the other. -/
def chainOk (ms : List Nat) (fx : List Nat) (m : Nat) : Bool :=
  distinct fx && (fx.all fun j => Nat.blt j m) && (List.range fx.length).all fun q => (List.range q).all fun p => (ms.getD (fx.getD q 0) 0).testBit (fx.getD p 0)

def tmsOf (a : Act) : Nat → Value := fun t => a.tmps.getD t undef

section
variable {P : Program} {F : Fr} {n : Nat} {k : PH} {e : Env} {Q : Exit → Act → World → Prop}

/-- One of the effects: from stage q to the next. -/
def EffS (P : Program) (F : Fr) (n : Nat) (ops : Array Oper) (X : Nat → (Nat → Value) → PH → World → Prop) (q : Nat) (o : Oper) (e : Env) (kr : PH) (p : PV) : Prop :=
  p.Mono ∧ o.guard = none ∧ ∀ (a : Act) (w : World) (k : PH), Le kr k → St F k w → X q (tmsOf a) k w → a.tmps.size = n →
    (∀ t ∈ o.looksAt ops, ∀ q, get e t = some q → q.holds k (a.tmps.getD t undef)) →
    Ex P o a w (fun v w' => ∃ k', Le k k' ∧ St F k' w' ∧ X (q + 1) (tmsOf (a.put o.dst v)) k' w' ∧ p.holds k' v)

def WC (P : Program) (F : Fr) (n : Nat) (ops : Array Oper) (ms : List Nat) (fx : List Nat) (k : PH) (X : Nat → (Nat → Value) → PH → World → Prop) (K : Env → Prop) : Nat → List Oper → Env → Prop
  | _, [], e => K e
  | i, o :: r, e =>
    (fx.contains i = false ∧ ∃ p, LocI P n ops (fun k w => ∃ s tm, s ≤ fx.length ∧ winOk ms fx i s = true ∧ X s tm k w) o e k p ∧ WC P F n ops ms fx k X K (i + 1) r (set e o.dst p)) ∨
    (∃ q, fx[q]? = some i ∧ ∃ p, EffS P F n ops X q o e k p ∧ WC P F n ops ms fx k X K (i + 1) r (set e o.dst p))

theorem wc_at {ops : Array Oper} {ms fx : List Nat} {X : Nat → (Nat → Value) → PH → World → Prop} {K : Env → Prop} : ∀ (l : List Oper) (i : Nat) (e : Env), WC P F n ops ms fx k X K i l e → ∃ (es : Nat → Env) (ps : Nat → PV), es 0 = e ∧
    (∀ m o, l[m]? = some o → es (m + 1) = set (es m) o.dst (ps m) ∧ ((fx.contains (i + m) = false ∧ LocI P n ops (fun k w => ∃ s tm, s ≤ fx.length ∧ winOk ms fx (i + m) s = true ∧ X s tm k w) o (es m) k (ps m)) ∨ ∃ q, fx[q]? = some (i + m) ∧ EffS P F n ops X q o (es m) k (ps m))) ∧ K (es l.length)
  | [], i, e, h => ⟨fun _ => e, fun _ => .is undef, rfl, fun m o h => by simp at h, h⟩
  | x :: r, i, e, h => by
    have : ∃ p, ((fx.contains i = false ∧ LocI P n ops (fun k w => ∃ s tm, s ≤ fx.length ∧ winOk ms fx i s = true ∧ X s tm k w) x e k p) ∨ ∃ q, fx[q]? = some i ∧ EffS P F n ops X q x e k p) ∧ WC P F n ops ms fx k X K (i + 1) r (set e x.dst p) := by
      rcases h with ⟨h1, p, h2, h3⟩ | ⟨q, h1, p, h2, h3⟩
      · exact ⟨p, .inl ⟨h1, h2⟩, h3⟩
      · exact ⟨p, .inr ⟨q, h1, h2⟩, h3⟩
    obtain ⟨p, hp, h3⟩ := this
    obtain ⟨es, ps, g0, g1, g2⟩ := wc_at r (i + 1) _ h3
    refine ⟨fun m => match m with | 0 => e | m + 1 => es m, fun m => match m with | 0 => p | m + 1 => ps m, rfl, fun m o ho => ?_, g2⟩
    cases m with
    | zero =>
      simp only [List.getElem?_cons_zero, Option.some.injEq] at ho
      subst ho
      exact ⟨g0, hp⟩
    | succ m =>
      have := g1 m o (by simpa using ho)
      rw [show i + 1 + m = i + (m + 1) by omega] at this
      exact this

structure MidC (F : Fr) (n : Nat) (ops : List Oper) (es0 : Env) (ps : Nat → PV) (k : PH) (fx : List Nat) (X : Nat → (Nat → Value) → PH → World → Prop) (L : Array Bool) (a : Act) (w : World) (k' : PH) : Prop where
  size : L.size = ops.length
  tsize : a.tmps.size = n
  defers : a.defers = Dfr.ds
  st : St F k' w
  le : Le k k'
  x : ∃ s, s ≤ fx.length ∧ X s (tmsOf a) k' w ∧ ∀ q j, fx[q]? = some j → (L.getD j false = true ↔ q < s)
  down : ∀ i o, ops[i]? = some o → L.getD i false = true → ∀ ed ∈ o.after.toList, Region.binds .any ed = true → L.getD ed.on false = true
  done : ∀ i o d, ops[i]? = some o → o.dst = some d → L.getD i false = true → (ps i).holds k' (a.tmps.getD d undef)
  rest : ∀ t, (∀ i o, ops[i]? = some o → o.dst = some t → L.getD i false = false) → ∀ q, get es0 t = some q → q.holds k' (a.tmps.getD t undef)

theorem fx_inj {fx : List Nat} (h : distinct fx = true) {p q j : Nat} (hp : fx[p]? = some j) (hq : fx[q]? = some j) : p = q := by
  induction fx generalizing p q with
  | nil => simp at hp
  | cons x r ih =>
    simp only [distinct, Bool.and_eq_true, Bool.not_eq_true'] at h
    have hx : ∀ i, r[i]? = some x → False := fun i hi => by
      have := List.contains_iff_mem.2 (List.mem_of_getElem? hi)
      rw [h.1] at this
      cases this
    cases p with
    | zero =>
      simp only [List.getElem?_cons_zero, Option.some.injEq] at hp
      subst hp
      cases q with
      | zero => rfl
      | succ q => exact (hx q (by simpa using hq)).elim
    | succ p =>
      cases q with
      | zero =>
        simp only [List.getElem?_cons_zero, Option.some.injEq] at hq
        subst hq
        exact (hx p (by simpa using hp)).elim
      | succ q => exact congrArg (· + 1) (ih h.2 (by simpa using hp) (by simpa using hq))

theorem region_chain {A T : List Oper} {id : Nat} {fx : List Nat} {X : Nat → (Nat → Value) → PH → World → Prop} (hm : P.follows .mixedOrders = true) (hok : okAny n (A ++ T) = true) (htail : tailOk A.length (A ++ T) = true) (hch : chainOk (masks (A ++ T) []) fx A.length = true)
    (stays : ∀ s tm k w k' w', Below w.heap.size w w' → Agr w.heap.size k k' → X s tm k w → X s tm k' w')
    (same : ∀ s tm tm' k w, (∀ q j o d, q < s → fx[q]? = some j → A[j]? = some o → o.dst = some d → tm' d = tm d) → X s tm k w → X s tm' k w)
    (hmono : ∀ t q, get e t = some q → q.Mono) {a : Act} {w : World} (ha : Ag n e k a) (hs : St F k w) (hx : X 0 (tmsOf a) k w)
    (h : WC P F n (A ++ T).toArray (masks (A ++ T) []) fx k X (fun e' => ∀ k' a' w', Le k k' → Ag n e' k' a' → St F k' w' → X fx.length (tmsOf a') k' w' → wpList P (A ++ T).toArray Q T a' w') 0 A e) :
    (Code.region id (A ++ T).toArray true).wp P Q a w := by
  generalize hops : A ++ T = ops at *
  have hAl : A.length ≤ ops.length := by rw [← hops]; simp
  have hA : ∀ m, m < A.length → A[m]? = ops[m]? := fun m hm => by rw [← hops, List.getElem?_append_left hm]
  have hdrop : ops.drop A.length = T := by rw [← hops]; simp
  obtain ⟨es, ps, h0, h1', hK⟩ := wc_at A 0 e h
  obtain ⟨g1, g2, g3, g4⟩ := okAny_parts hok
  simp only [chainOk, Bool.and_eq_true, List.all_eq_true] at hch
  obtain ⟨⟨c1, c2⟩, c3⟩ := hch
  have fxlt : ∀ q j, fx[q]? = some j → j < A.length := fun q j hj => by
    have := c2 j (List.mem_of_getElem? hj)
    simpa [Nat.blt_eq] using this
  have fxord : ∀ p q i j, p < q → fx[p]? = some i → fx[q]? = some j → ((masks ops []).getD j 0).testBit i = true := fun p q i j hpq hp hq => by
    have hql := (List.getElem?_eq_some_iff.1 hq).1
    have := c3 q (List.mem_range.2 hql) p (List.mem_range.2 hpq)
    have e1 : fx.getD q 0 = j := by rw [List.getD_eq_getElem?_getD, hq]; rfl
    have e2 : fx.getD p 0 = i := by rw [List.getD_eq_getElem?_getD, hp]; rfl
    rwa [e1, e2] at this
  have h1 : ∀ i o, i < A.length → ops[i]? = some o → es (i + 1) = set (es i) o.dst (ps i) ∧ ((fx.contains i = false ∧ LocI P n ops.toArray (fun k w => ∃ s tm, s ≤ fx.length ∧ winOk (masks ops []) fx i s = true ∧ X s tm k w) o (es i) k (ps i)) ∨ ∃ q, fx[q]? = some i ∧ EffS P F n ops.toArray X q o (es i) k (ps i)) := by
    intro i o hi ho
    have := h1' i o (by rw [hA i hi]; exact ho)
    simp only [Nat.zero_add] at this
    exact this
  have hes : ∀ (i : Nat), i ≤ A.length → ∀ t, (∃ j o, j < i ∧ ops[j]? = some o ∧ o.dst = some t ∧ get (es i) t = some (ps j)) ∨ ((∀ j o, j < i → ops[j]? = some o → o.dst ≠ some t) ∧ get (es i) t = get (es 0) t) := by
    intro i hi t
    have gA : distinct (A.filterMap (·.dst)) = true := by
      have h2 := g2
      rw [← hops, List.filterMap_append] at h2
      have : ∀ (p q : List Nat), distinct (p ++ q) = true → distinct p = true := by
        intro p q
        induction p with
        | nil => intro _; rfl
        | cons x p ih =>
          intro h
          simp only [List.cons_append, distinct, Bool.and_eq_true, Bool.not_eq_true'] at h ⊢
          refine ⟨?_, ih h.2⟩
          have h3 := h.1
          cases hc : p.contains x with
          | false => rfl
          | true =>
            rw [List.contains_iff_mem] at hc
            rw [List.contains_iff_mem.2 (List.mem_append_left q hc)] at h3
            cases h3
      exact this _ _ h2
    have := es_get (ops := A) (es := es) (ps := ps) gA (fun i o ho => by
      have hi : i < A.length := (List.getElem?_eq_some_iff.1 ho).1
      exact (h1 i o hi (by rw [← hA i hi]; exact ho)).1) i hi t
    rcases this with ⟨j, o, hj, ho, hd, hg⟩ | ⟨hno, hg⟩
    · exact .inl ⟨j, o, hj, by rw [← hA j (by omega)]; exact ho, hd, hg⟩
    · exact .inr ⟨fun j o hj ho => hno j o hj (by rw [hA j (by omega)]; exact ho), hg⟩
  refine wp_region_any hm ?_
  have hb0 : Below w.heap.size w { w with drawn := w.drawn + 1 } := below_drawn w _
  have hf : ∀ i, (Array.replicate ops.toArray.size false).getD i false = false := fun i => by
    rw [Array.getD_eq_getD_getElem?, Array.getElem?_replicate]
    split <;> rfl
  have start : MidC F n ops e ps k fx X (Array.replicate ops.toArray.size false) a { w with drawn := w.drawn + 1 } k := by
    refine ⟨by simp, ha.size, ha.defers, hs.below hb0, Le.refl _, ⟨0, Nat.zero_le _, stays _ _ _ _ _ _ hb0 (Agr.refl _ _) hx, fun q j _ => by rw [hf]; simp⟩, fun i o ho hl => ?_, fun i o d ho hd hl => ?_, fun t _ q hq => ha.get t q hq⟩
    · rw [hf] at hl; cases hl
    · rw [hf] at hl; cases hl
  have done : ∀ (fuel : Nat) (L : Array Bool) (a' : Act) (w' : World) (k' : PH), MidC F n ops e ps k fx X L a' w' k' → (∀ j, A.length ≤ j → L.getD j false = false) → L.toList.count false ≤ fuel → (∀ j, j < A.length → L.getD j false = true) → wpAny P .any ops.toArray Q fuel L a' w' := by
    intro fuel L a' w' k' hmid hlf hc hall
    obtain ⟨s, hsl, hxs, hiff⟩ := hmid.x
    have hsf : s = fx.length := by
      rcases Nat.lt_or_ge s fx.length with hlt | hge
      · exfalso
        have := (hiff s fx[s] (List.getElem?_eq_getElem hlt)).1 (hall _ (fxlt s _ (List.getElem?_eq_getElem hlt)))
        omega
      · omega
    subst hsf
    refine tail_run g4 htail T A.length (Nat.le_refl _) hdrop fuel L a' w' hmid.size (fun j hj _ => hall j hj) hlf hc (hK k' a' w' hmid.le ⟨hmid.tsize, hmid.defers, fun t q hq => ?_⟩ hmid.st hxs)
    rcases hes A.length (Nat.le_refl _) t with ⟨j, o, hj, hoj, hd, hg⟩ | ⟨hno, hg⟩
    · rw [hg] at hq
      cases hq
      exact hmid.done j o t hoj hd (hall j hj)
    · rw [hg, h0] at hq
      refine hmid.rest t (fun j o hoj hd => ?_) q hq
      by_cases hjA : j < A.length
      · exact absurd hd (hno j o hjA hoj)
      · exact hlf j (by omega)
  have key : ∀ (fuel : Nat) (L : Array Bool) (a' : Act) (w' : World) (k' : PH), MidC F n ops e ps k fx X L a' w' k' → (∀ j, A.length ≤ j → L.getD j false = false) → L.toList.count false ≤ fuel → wpAny P .any ops.toArray Q fuel L a' w' := by
    intro fuel
    induction fuel with
    | zero =>
      intro L a' w' k' hmid hlf hc
      refine done 0 L a' w' k' hmid hlf hc fun j hj => ?_
      cases hLj : L.getD j false with
      | true => rfl
      | false =>
        have := count_pos (i := j) (by rw [hmid.size]; omega) hLj
        omega
    | succ fuel ih =>
      intro L a' w' k' hmid hlf hc
      by_cases hall : ∀ j, j < A.length → L.getD j false = true
      · exact done _ L a' w' k' hmid hlf hc hall
      refine ⟨fun hr => ?_, fun i hi => ?_⟩
      · exfalso
        apply hall
        have : ∀ m j, j < m → j < A.length → L.getD j false = true := by
          intro m
          induction m with
          | zero => intro j h; omega
          | succ m ihm =>
            intro j hjm hj
            cases hLj : L.getD j false with
            | true => rfl
            | false =>
              have hjl : j < ops.length := by omega
              have : j ∈ Region.ready .any ops.toArray L := ready_mem hmid.size hjl hLj fun ed he hb => by
                have hon := g4 j _ (List.getElem?_eq_getElem hjl) ed he hb
                exact ihm ed.on (by omega) (by omega)
              rw [hr] at this
              cases this
        exact fun j hj => this (j + 1) j (Nat.lt_succ_self j) hj
      · obtain ⟨hil, hLf, hed'⟩ := ready_iff hmid.size hi
        have ho : ops[i]? = some ops[i] := List.getElem?_eq_getElem hil
        have hsz : i < L.size := by rw [hmid.size]; exact hil
        have before : ∀ j, ((masks ops []).getD i 0).testBit j = true → L.getD j false = true := fun j hj =>
          mask_done g4 L hmid.down (i + 1) i (Nat.lt_succ_self i) _ ho hed' j hj
        have behind : ∀ (j : Nat) (o : Oper), ops[j]? = some o → L.getD j false = true → ((masks ops []).getD j 0).testBit i = true → False := fun j o hoj hLj hb => by
          have := mask_done g4 L hmid.down (j + 1) j (Nat.lt_succ_self j) _ hoj (hmid.down j o hoj hLj) i hb
          rw [hLf] at this
          cases this
        have hiA : i < A.length := by
          rcases Nat.lt_or_ge i A.length with h | h
          · exact h
          · exfalso
            apply hall
            intro j hj
            exact before j (tailOk_spec htail hil h (by omega))
        have hset := getD_set hsz
        have looks : ∀ t ∈ (ops[i]).looksAt ops.toArray, ∀ q, get (es i) t = some q → q.holds k' (a'.tmps.getD t undef) := by
          intro t ht q hq
          rcases hes i (by omega) t with ⟨j, o, hj, hoj, hd, hg⟩ | ⟨hno, hg⟩
          · rw [hg] at hq
            cases hq
            refine hmid.done j o t hoj hd (before j ?_)
            have hp := g3 i j hil (by omega)
            unfold okPair at hp
            simp only [hoj, ho, Option.bind_some, hd] at hp
            have hc1 : (slots ops ops[i]).contains t = true := List.contains_iff_mem.2 ht
            have hji : Nat.blt j i = true := by simpa [Nat.blt_eq] using hj
            simpa only [hc1, if_true, hji] using hp
          · rw [hg, h0] at hq
            refine hmid.rest t (fun j o hoj hd => ?_) q hq
            cases hLj : L.getD j false with
            | false => rfl
            | true =>
              exfalso
              have hjl : j < ops.length := (List.getElem?_eq_some_iff.1 hoj).1
              have hji : ¬ j < i := fun hlt => hno j o hlt hoj hd
              have hne : j ≠ i := by rintro rfl; rw [hLf] at hLj; cases hLj
              have hp := g3 i j hil hjl
              unfold okPair at hp
              simp only [hoj, ho, Option.bind_some, hd] at hp
              have hc1 : (slots ops ops[i]).contains t = true := List.contains_iff_mem.2 ht
              have b1 : Nat.blt j i = false := by cases e : Nat.blt j i with | false => rfl | true => exact absurd (by simpa [Nat.blt_eq] using e) hji
              have b2 : Nat.blt i j = true := by rw [Nat.blt_eq]; omega
              simp only [hc1, if_true, b1, b2, Bool.false_eq_true, if_false] at hp
              exact behind j o hoj hLj hp
        have hcount := count_set_lt hsz hLf hc
        have hlf' : ∀ j, A.length ≤ j → (L.setIfInBounds i true).getD j false = false := fun j hj => by
          rw [hset, if_neg (by omega)]; exact hlf j hj
        obtain ⟨s, hsl, hxs, hiff⟩ := hmid.x
        have mono_at : ∀ j o, j < A.length → ops[j]? = some o → (ps j).Mono := fun j o hj hoj => by
          rcases (h1 j o hj hoj).2 with ⟨_, hl⟩ | ⟨q, _, hl⟩
          · exact hl.1
          · exact hl.1
        have step : ∀ v w'' k'', St F k'' w'' → Le k' k'' → (ps i).holds k'' v → (∃ s, s ≤ fx.length ∧ X s (tmsOf (a'.put (ops[i]).dst v)) k'' w'' ∧ ∀ q j, fx[q]? = some j → ((L.setIfInBounds i true).getD j false = true ↔ q < s)) →
            MidC F n ops e ps k fx X (L.setIfInBounds i true) (a'.put (ops[i]).dst v) w'' k'' := by
          intro v w'' k'' hst hle hp hx'
          refine ⟨by simp [hmid.size], (put_size _ _ _).trans hmid.tsize, (put_defers _ _ _).trans hmid.defers, hst, hmid.le.trans hle, hx', ?_, ?_, ?_⟩
          · intro j o hoj hLj ed he hbd
            rw [hset] at hLj ⊢
            split
            · rfl
            · by_cases hji : j = i
              · subst hji
                rw [ho] at hoj
                cases hoj
                exact hed' ed he hbd
              · rw [if_neg hji] at hLj
                exact hmid.down j o hoj hLj ed he hbd
          · intro j o d hoj hd hLj
            rw [hset] at hLj
            by_cases hji : j = i
            · subst hji
              rw [ho] at hoj
              cases hoj
              rw [hd, put_getD_same (by rw [hmid.tsize]; exact g1 j _ d ho hd)]
              exact hp
            · rw [if_neg hji] at hLj
              have hdd : ∀ d', (ops[i]).dst = some d' → d' ≠ d := fun d' hd' hdd => hji (distinct_spec g2 hoj ho hd (hdd ▸ hd'))
              have hjA : j < A.length := by
                rcases Nat.lt_or_ge j A.length with h | h
                · exact h
                · rw [hlf j h] at hLj; cases hLj
              have := PV.holds_mono (mono_at j o hjA hoj) hle (hmid.done j o d hoj hd hLj)
              cases hx : (ops[i]).dst with
              | none => exact this
              | some d' => rw [put_getD_other (hdd d' hx)]; exact this
          · intro t hno q hq
            have hm2 := hmono t q hq
            have hnt : (ops[i]).dst ≠ some t := fun hd => by
              have := hno i _ ho hd
              rw [hset, if_pos rfl] at this
              cases this
            have := PV.holds_mono hm2 hle (hmid.rest t (fun j o hoj hd => by
              have := hno j o hoj hd
              rw [hset] at this
              split at this
              · cases this
              · exact this) q hq)
            cases hx : (ops[i]).dst with
            | none => exact this
            | some d' => rw [put_getD_other (fun h => hnt (by rw [hx, h]))]; exact this
        unfold wpOp
        simp only [List.getElem?_toArray, ho]
        rcases (h1 i _ hiA ho).2 with ⟨hnf, hloc⟩ | ⟨q0, hq0, heff⟩
        · -- it turns nothing
          have hne : ∀ q j, fx[q]? = some j → j ≠ i := fun q j hj hji => by
            subst hji
            rw [List.contains_iff_mem.2 (List.mem_of_getElem? hj)] at hnf
            cases hnf
          have hwin : winOk (masks ops []) fx i s = true := by
            unfold winOk
            rw [List.all_eq_true]
            intro q hq
            have hql := List.mem_range.1 hq
            have hfq : fx[q]? = some fx[q] := List.getElem?_eq_getElem hql
            have e1 : fx.getD q 0 = fx[q] := by rw [List.getD_eq_getElem?_getD, hfq]; rfl
            rw [e1]
            simp only [Bool.and_eq_true, Bool.or_eq_true, Bool.not_eq_true', Nat.blt_eq]
            refine ⟨?_, ?_⟩
            · cases hb : ((masks ops []).getD i 0).testBit fx[q] with
              | false => exact .inl rfl
              | true => exact .inr ((hiff q _ hfq).1 (before _ hb))
            · cases hb : ((masks ops []).getD fx[q] 0).testBit i with
              | false => exact .inl rfl
              | true =>
                right
                rw [Nat.ble_eq]
                rcases Nat.lt_or_ge q s with hlt | hge
                · exfalso
                  have hjl := fxlt q _ hfq
                  exact behind fx[q] _ (List.getElem?_eq_getElem (by omega)) ((hiff q _ hfq).2 hlt) hb
                · exact hge
          have go : ∀ v w'' k'', Below w'.heap.size w' w'' → Agr w'.heap.size k' k'' → Sub k'' w'' → (ps i).holds k'' v → wpAny P .any ops.toArray Q fuel (L.setIfInBounds i true) (a'.put (ops[i]).dst v) w'' := by
            intro v w'' k'' hb hag hsub hp
            refine ih _ _ _ _ (step v w'' k'' (hmid.st.step hb hag hsub) (hag.le hmid.st.sub) hp ⟨s, hsl, stays _ _ _ _ _ _ hb hag (same s _ _ _ _ (fun q j o d _ hj hoj hd => ?_) hxs), fun q j hj => ?_⟩) hlf' hcount
            · have hjl := fxlt q j hj
              rw [hA j hjl] at hoj
              unfold tmsOf
              cases hx : (ops[i]).dst with
              | none => rfl
              | some d' => rw [put_getD_other (fun hdd : d' = d => hne q j hj (distinct_spec g2 hoj ho hd (by rw [hx, hdd])))]
            · rw [hset, if_neg (hne q j hj)]
              exact hiff q j hj
          have hex := hloc.2 a' w' k' hmid.le hmid.st.sub ⟨s, tmsOf a', hsl, hwin, hxs⟩ hmid.tsize looks
          split
          · rename_i hw
            rw [if_pos hw] at hex
            exact .inl (hex _ _ fun v w'' ⟨k'', hb, hag, hsub, hp⟩ => go v w'' k'' hb hag hsub hp)
          · rename_i hw
            rw [if_neg hw] at hex
            exact go undef w' k' (Below.refl _ _) (Agr.refl _ _) hmid.st.sub hex
        · -- an effect
          have hql := (List.getElem?_eq_some_iff.1 hq0).1
          have hsq : s = q0 := by
            have h2 : ¬ q0 < s := fun h => by
              have := (hiff q0 i hq0).2 h
              rw [hLf] at this
              cases this
            rcases Nat.lt_or_ge s q0 with hlt | hge
            · exfalso
              have hfs : fx[s]? = some fx[s] := List.getElem?_eq_getElem (by omega)
              have := (hiff s _ hfs).1 (before _ (fxord s q0 _ _ hlt hfs hq0))
              omega
            · omega
          subst hsq
          have hex := heff.2.2 a' w' k' hmid.le hmid.st hxs hmid.tsize looks
          rw [if_pos (by simp [Region.wanted, heff.2.1])]
          refine .inl (hex _ _ fun v w'' ⟨k'', hle, hst, hx1, hp⟩ => ih _ _ _ _ (step v w'' k'' hst hle hp ⟨s + 1, hql, hx1, fun q j hj => ?_⟩) hlf' hcount)
          rw [hset]
          by_cases hji : j = i
          · subst hji
            have := fx_inj c1 hj hq0
            simp [this]
          · rw [if_neg hji, hiff q j hj]
            have : q ≠ s := fun h => by subst h; rw [hj] at hq0; cases hq0; exact hji rfl
            omega
  exact key _ _ _ _ _ start (fun j _ => hf j) (by simp [List.count_replicate])
end
end Go.Wm

/-
  Regions that draw their order and turn blocks of the call's own, one effect behind the other: the effects' laws, for maps. Conditions: the region's own order, Bools that the kernel reckons.
-/
namespace Go.Wm
variable [Dfr]
open Go.RowKit

def delL (k : PH) (rs : List Nat) : PH := fun b => if rs.contains b then none else k b
def setL (k : PH) : List (Nat × Obj) → PH
  | [] => k
  | p :: l => upd (setL k l) p.1 p.2
/-- These blocks are so, and nothing else is known of them. -/
def HasL (l : List (Nat × Obj)) (k : PH) (w : World) : Prop := ∀ p ∈ l, w.heap[p.1]? = some p.2 ∧ k p.1 = none
theorem delL_le (k : PH) (rs : List Nat) : Le (delL k rs) k := fun b o h => by
  unfold delL at h
  split at h
  · cases h
  · exact h
theorem delL_of {k : PH} {rs : List Nat} {b : Nat} (h : rs.contains b = false) : delL k rs b = k b := by
  unfold delL; rw [h]; rfl
theorem delL_in {k : PH} {rs : List Nat} {b : Nat} (h : b ∈ rs) : delL k rs b = none := by
  unfold delL; rw [List.contains_iff_mem.2 h]; rfl
theorem Cells.delL {k : PH} {rs : List Nat} {b off : Nat} {vs : List Value} (h : Cells k b off vs) (hn : rs.contains b = false) : Cells (delL k rs) b off vs := by
  obtain ⟨c, et, fr, h1, h2⟩ := h
  exact ⟨c, et, fr, by rw [delL_of hn]; exact h1, h2⟩

section
variable {P : Program} {F : Fr} {n : Nat} {k : PH} {e : Env} {Q : Exit → Act → World → Prop}
theorem WC.mono {ops : Array Oper} {ms fx : List Nat} {X : Nat → (Nat → Value) → PH → World → Prop} {K K' : Env → Prop} (hm : ∀ e, K e → K' e) : ∀ (l : List Oper) (i : Nat) (e : Env), WC P F n ops ms fx k X K i l e → WC P F n ops ms fx k X K' i l e
  | [], _, e, h => hm e h
  | o :: r, i, e, h => by
    rcases h with ⟨h1, p, h2, h3⟩ | ⟨q, h1, p, h2, h3⟩
    · exact .inl ⟨h1, p, h2, WC.mono hm r _ _ h3⟩
    · exact .inr ⟨q, h1, p, h2, WC.mono hm r _ _ h3⟩

/-- What holds of the blocks D at each stage. -/
abbrev XL (D : Nat → List (Nat × Obj)) : Nat → (Nat → Value) → PH → World → Prop := fun s _ => HasL (D s)

theorem cg_chain {id : Nat} {l : List Oper} [hm : Mixed P] (m : Nat) (fx : List Nat) (D : Nat → List (Nat × Obj)) (rs : List Nat) (hD : ∀ s, (D s).map (·.1) = rs) (hok : okAny n l = true) (htail : tailOk m l = true) (hml : Nat.ble m l.length = true) (hch : chainOk (masks l []) fx m = true) (hdet : det e = true)
    (hk : ∀ p ∈ D 0, k p.1 = some p.2) (hown : ∀ r ∈ rs, F.w0.heap.size ≤ r)
    (h : WC P F n l.toArray (masks l []) fx (delL k rs) (XL D) (fun e' => ∀ k' vs, Le (delL k rs) k' → (∀ t p, get e' t = some p → p.holds k' (vs t)) → RG P F n l.toArray Q (l.drop m) (nameE vs e') (setL k' (D fx.length))) 0 (l.take m) e) :
    CG P F n Q (.region id l.toArray true) e k := by
  intro a w ha hs
  have hlen : (l.take m).length = m := by
    have := Nat.le_of_ble_eq_true hml
    simp; omega
  have hsplit : l.take m ++ l.drop m = l := List.take_append_drop m l
  generalize hA : l.take m = A at *
  generalize hT : l.drop m = T at *
  subst hlen
  rw [← hsplit] at hok htail hch h ⊢
  have memD : ∀ s p, p ∈ D s → p.1 ∈ rs := fun s p hp => by rw [← hD s]; exact List.mem_map.2 ⟨p, hp, rfl⟩
  have hs' : St F (delL k rs) w := hs.weak (delL_le k rs) fun b hb hmu => by
    have : rs.contains b = false := by
      cases hc : rs.contains b with
      | false => rfl
      | true => have := hown b (List.contains_iff_mem.1 hc); omega
    rw [delL_of this]
    exact hs.keep b hb hmu
  refine region_chain (F := F) (k := delL k rs) hm.eq hok htail hch (fun s tm k w k' w' hb hag hX p hp => ?_) (fun s tm tm' k w _ hX => hX) (fun t q hg => by obtain ⟨v, rfl⟩ := det_get hdet hg; trivial) (ha.heap hdet) hs' (fun p hp => ⟨hs.sub _ _ (hk p hp), delL_in (memD 0 p hp)⟩) (WC.mono (fun e' hK k' a' w' hle hag hst hX => ?_) A 0 e h)
  · obtain ⟨h1, h2⟩ := hX p hp
    have hlt := (Array.getElem?_eq_some_iff.1 h1).1
    exact ⟨by rw [hb.block _ hlt]; exact h1, (hag _ hlt).trans h2⟩
  · refine hK k' (fun t => a'.tmps.getD t undef) hle (fun t p hp => hag.get t p hp) a' w' ⟨hag.size, hag.defers, fun t q hq => ?_⟩ ?_
    · rw [nameE_get] at hq
      cases hg : get e' t with
      | none => rw [hg] at hq; cases hq
      | some p =>
        rw [hg] at hq
        cases hq
        have := hag.get t p hg
        cases p with
        | is v => exact this
        | such φ => rfl
    · have key : ∀ l : List (Nat × Obj), (∀ p ∈ l, p ∈ D fx.length) → St F (setL k' l) w' := by
        intro l
        induction l with
        | nil => intro _; exact hst
        | cons p l ih =>
          intro hl
          have ih := ih fun q hq => hl q (by simp [hq])
          have hp := hX p (hl p (by simp))
          exact ih.turn (w' := w') (.inl (hown _ (memD _ p (hl p (by simp))))) rfl rfl rfl (Nat.le_refl _) hp.1 fun i _ _ => rfl
      exact key _ fun p hp => hp

/-! ### the effects -/
/-- Only this block is turned. -/
theorem eff_turn {ops : Array Oper} {o : Oper} {kr : PH} {D : Nat → List (Nat × Obj)} {q j r : Nat} {ob ob' : Obj} {v : Value} (hg : o.guard = none) (h0 : (D q)[j]? = some (r, ob)) (h1 : D (q + 1) = (D q).set j (r, ob')) (hne : ∀ i p, (D q)[i]? = some p → i ≠ j → p.1 ≠ r) (hr : F.w0.heap.size ≤ r)
    (hrun : ∀ ev w, Evs e ev o.op.operands.toList → w.heap[r]? = some ob → (execOp ev o).run P w = .ok (.value v) { w with heap := w.heap.setIfInBounds r ob' } ∨ ((execOp ev o).run P w = .ok .skip { w with heap := w.heap.setIfInBounds r ob' } ∧ v = undef)) :
    EffS P F n ops (XL D) q o e kr (.is v) := by
  refine ⟨trivial, hg, fun a w k1 hk hs hX hsz hl => ?_⟩
  have hj : (r, ob) ∈ D q := List.mem_of_getElem? h0
  obtain ⟨hw, hkr⟩ := hX _ hj
  have hb : (w.heap.setIfInBounds r ob')[r]? = some ob' := heap_setObj hw
  have hst := hs.turn (w' := { w with heap := w.heap.setIfInBounds r ob' }) (.inl hr) rfl rfl rfl (by simp) hb (fun i hi _ => by simp [Array.getElem?_setIfInBounds, Ne.symm hi])
  have fin : ∀ u w', u = v → w' = { w with heap := w.heap.setIfInBounds r ob' } → ∃ k', Le k1 k' ∧ St F k' w' ∧ XL D (q + 1) (tmsOf (a.put o.dst u)) k' w' ∧ PV.holds k' u (.is v) := by
    rintro u w' rfl rfl
    refine ⟨k1, Le.refl _, hst.weak ((Le.refl k1).upd hkr) hs.keep, fun p hp => ?_, rfl⟩
    rw [h1] at hp
    obtain ⟨i, hi⟩ := List.getElem?_of_mem hp
    rw [List.getElem?_set] at hi
    by_cases hij : j = i
    · subst hij
      have hjl := (List.getElem?_eq_some_iff.1 h0).1
      rw [if_pos rfl, if_pos hjl] at hi
      cases hi
      exact ⟨hb, hkr⟩
    · rw [if_neg hij] at hi
      obtain ⟨g1, g2⟩ := hX p (List.mem_of_getElem? hi)
      have := hne i p hi (Ne.symm hij)
      exact ⟨by simpa [Array.getElem?_setIfInBounds, Ne.symm this] using g1, g2⟩
  rcases hrun a.eval w (evs_of hl) hw with h | ⟨h, hv⟩
  · exact (ex_value h).mono fun u w' ⟨h1, h2⟩ => fin u w' h1 h2
  · exact (ex_skip h).mono fun u w' ⟨h1, h2⟩ => fin u w' (h1.trans hv.symm) h2

section
variable {kt : TypeId} {α : Type} [DecidableEq α] {enc : α → Value} {ops : Array Oper} {o : Oper} {kr : PH} {D : Nat → List (Nat × Obj)} {q j r : Nat}
end

/-! ### steps -/
section
variable {ops : Array Oper} {ms fx : List Nat} {X : Nat → (Nat → Value) → PH → World → Prop} {K : Env → Prop} {i : Nat} {o : Oper} {r : List Oper}
theorem wc_nil (h : K e) : WC P F n ops ms fx k X K i [] e := h
theorem wc_s {d : Nat} {v : Value} (hd : o.dst = some d) (hl : Loc P n ops o e k (.is v)) (hn : fx.contains i = false) (h : WC P F n ops ms fx k X K (i + 1) r ((d, .is v) :: e)) : WC P F n ops ms fx k X K i (o :: r) e :=
  .inl ⟨hn, _, .of hl, by rw [hd]; exact h⟩
theorem wc_v {d : Nat} {φ : PH → Value → Prop} (hd : o.dst = some d) (hl : Loc P n ops o e k (.such φ)) (hn : fx.contains i = false) (h : WC P F n ops ms fx k X K (i + 1) r ((d, .such φ) :: e)) : WC P F n ops ms fx k X K i (o :: r) e :=
  .inl ⟨hn, _, .of hl, by rw [hd]; exact h⟩
theorem wc_e {p : PV} (q : Nat) (hq : fx[q]? = some i) (he : EffS P F n ops X q o e k p) (h : WC P F n ops ms fx k X K (i + 1) r (set e o.dst p)) : WC P F n ops ms fx k X K i (o :: r) e :=
  .inr ⟨q, hq, p, he, h⟩
end
end
end Go.Wm
namespace Go.Wm
variable [Dfr]
/-- Where ways meet again, whatever code stands there: 'apply meet E H' names neither the code nor what follows. -/
theorem meet {P : Program} {F : Fr} {n : Nat} {Q : Exit → Act → World → Prop} {c : Code} {k : PH} {G : Prop} (E : Env) (H : Prop) (main : (∀ e, H → EnvLe E e → CG P F n Q c e k) → G) (key : H → CG P F n Q c E k) : G :=
  main fun _ hh he => cg_env E he (key hh)
end Go.Wm
namespace Go.Wm
variable [Dfr]
theorem meetR {P : Program} {F : Fr} {n : Nat} {ops : Array Oper} {rest : List Oper} {Q : Exit → Act → World → Prop} {k : PH} {G : Prop} (E : Env) (H : Prop) (main : (∀ e, H → EnvLe E e → RG P F n ops Q rest e k) → G) (key : H → RG P F n ops Q rest E k) : G :=
  main fun _ hh he a w ha hs => key hh a w (ha.le he) hs
theorem some_ne {k : PH} {r c : Nat} {o : Obj} (h : k r = some o) (hn : k c = none) : c ≠ r := by rintro rfl; rw [h] at hn; cases hn
theorem MapAt.ne {α : Type} [DecidableEq α] {enc : α → Value} {k : PH} {r c : Nat} {kv : List (α × Value)} (h : MapAt enc k r kv) (hn : k c = none) : c ≠ r := by
  obtain ⟨_, _, g, _⟩ := h
  exact some_ne g hn
theorem Cells.ne {k : PH} {b off c : Nat} {vs : List Value} (h : Cells k b off vs) (hn : k c = none) : c ≠ b := by
  obtain ⟨_, _, _, g, _⟩ := h
  exact some_ne g hn
theorem Le.none {h k : PH} {r : Nat} (hl : Le h k) (hn : k r = none) : h r = none := by
  cases e : h r with
  | none => rfl
  | some o => rw [hl _ _ e] at hn; cases hn
end Go.Wm

/-
  Short forms of single steps inside a chain of effects, whose small premises are found by themselves. Conditions: none beyond those of each law.
-/
namespace Go.Wm
variable [Dfr]
open Go.RowKit
section
variable {P : Program} {F : Fr} {n N : Nat} {ops : Array Oper} {Q : Exit → Act → World → Prop} {rest : List Oper} {o : Oper} {e : Env} {k : PH}

theorem qcp {ms fx : List Nat} {X : Nat → (Nat → Value) → PH → World → Prop} {K : Env → Prop} {i0 : Nat} {v : Value} {d : Nat} (h : WC P F n ops ms fx k X K (i0 + 1) rest ((d, .is v) :: e)) (hd : o.dst = some d := by exact rfl) (hn : fx.contains i0 = false := by exact rfl) (hg : wantedE ops e o = some true := by exact rfl) (hv : peval e o.op = some v := by exact rfl) : WC P F n ops ms fx k X K i0 (o :: rest) e :=
  wc_s hd (loc_det hg (d_pure hv)) hn h
theorem qci {ms fx : List Nat} {X : Nat → (Nat → Value) → PH → World → Prop} {K : Env → Prop} {i0 : Nat} {t et : TypeId} {x ix : Operand} {b off m c i sz bs : Nat} {z : Value} {kd : IntKind}   {d : Nat} (h : WC P F n ops ms fx k X K (i0 + 1) rest ((d, .is (.pointer (some ⟨b, off + i * sz, none⟩))) :: e)) (hd : o.dst = some d := by exact rfl) (hn : fx.contains i0 = false := by exact rfl) (hg : wantedE ops e o = some true := by exact rfl) (hop : o.op = .indexAddr t x ix := by exact rfl) (hi0 : TyU P t (.slice et) := by exact inferInstance) (hi1 : TyI P et sz bs z := by exact inferInstance) (hx : opv e x = some (.slice (some ⟨b, off, none⟩) m c) := by exact rfl) (hy : opv e ix = some (.int kd (i : Int)) := by exact rfl) (hlt : i < m := by omega) : WC P F n ops ms fx k X K i0 (o :: rest) e :=
  wc_s hd (loc_det hg (d_idx hop hx hy hlt)) hn h
theorem qcl {ms fx : List Nat} {X : Nat → (Nat → Value) → PH → World → Prop} {K : Env → Prop} {i0 : Nat} {t : TypeId} {ds : TypeDesc} {x : Operand} {b off : Nat} {v : Value}  {d : Nat} (h : WC P F n ops ms fx k X K (i0 + 1) rest ((d, .is v) :: e)) (hd : o.dst = some d := by exact rfl) (hn : fx.contains i0 = false := by exact rfl) (hg : wantedE ops e o = some true := by exact rfl) (hop : o.op = .load t x := by exact rfl) (hi0 : TyU P t ds := by exact inferInstance) (hx : opv e x = some (.pointer (some ⟨b, off, none⟩)) := by exact rfl) (hag : aggD ds = false := by exact rfl) (hc : Cells k b off [v] := by assumption) : WC P F n ops ms fx k X K i0 (o :: rest) e :=
  wc_s hd (loc_det hg (d_load hop hx hag hc)) hn h
theorem qcg {ms fx : List Nat} {X : Nat → (Nat → Value) → PH → World → Prop} {K : Env → Prop} {i0 : Nat} {t : TypeId} {ds : TypeDesc} {x : Operand} {b off sz bs : Nat} {z : Value} {vs : List Value}   {d : Nat} (h : WC P F n ops ms fx k X K (i0 + 1) rest ((d, .is (.agg vs.toArray)) :: e)) (hd : o.dst = some d := by exact rfl) (hn : fx.contains i0 = false := by exact rfl) (hg : wantedE ops e o = some true := by exact rfl) (hop : o.op = .load t x := by exact rfl) (hi0 : TyU P t ds := by exact inferInstance) (hi1 : TyI P t sz bs z := by exact inferInstance) (hx : opv e x = some (.pointer (some ⟨b, off, none⟩)) := by exact rfl) (hag : aggD ds = true := by exact rfl) (hc : Cells k b off vs := by assumption) (hln : vs.length = sz := by exact rfl) : WC P F n ops ms fx k X K i0 (o :: rest) e :=
  wc_s hd (loc_det hg (d_load_agg hop hx hag hln hc)) hn h
theorem qcf {ms fx : List Nat} {X : Nat → (Nat → Value) → PH → World → Prop} {K : Env → Prop} {i0 : Nat} {t : TypeId} {f b off fo sz : Nat} {ag : Bool} {x : Operand}  {d : Nat} (h : WC P F n ops ms fx k X K (i0 + 1) rest ((d, .is (.pointer (some ⟨b, off + fo, none⟩))) :: e)) (hd : o.dst = some d := by exact rfl) (hn : fx.contains i0 = false := by exact rfl) (hg : wantedE ops e o = some true := by exact rfl) (hop : o.op = .fieldAddr t x f := by exact rfl) (hi0 : Fld P t f fo sz ag := by exact inferInstance) (hx : opv e x = some (.pointer (some ⟨b, off, none⟩)) := by exact rfl) (hsz : Nat.beq sz 0 = false := by exact rfl) : WC P F n ops ms fx k X K i0 (o :: rest) e :=
  wc_s hd (loc_det hg (d_faddr hop hx hsz)) hn h
end
end Go.Wm

/-
  Rows of the call's own: an element stored whole, cleared tails, shorter rows, the empty literal. Conditions: none beyond those of each law.
-/
namespace Go.Wm
variable [Dfr]
open Go.RowKit

theorem flat_set_all {sz : Nat} : ∀ (css : List (List Value)) (i : Nat) (vs : List Value), (∀ y ∈ css, y.length = sz) → i < css.length → vs.length = sz → (css.set i vs).flatten = css.flatten.take (i * sz) ++ vs ++ css.flatten.drop (i * sz + sz)
  | [], i, vs, _, h, _ => by simp at h
  | y :: ys, 0, vs, hl, _, hv => by
    have hy := hl y (by simp)
    simp only [List.set_cons_zero, List.flatten_cons, Nat.zero_mul, List.take_zero, List.nil_append, Nat.zero_add]
    rw [List.drop_left' hy]
  | y :: ys, i + 1, vs, hl, h, hv => by
    have hy := hl y (by simp)
    simp only [List.set_cons_succ, List.flatten_cons]
    rw [flat_set_all ys i vs (fun z hz => hl z (by simp [hz])) (by simpa using h) hv]
    have e1 : (i + 1) * sz = y.length + i * sz := by rw [hy, Nat.succ_mul, Nat.add_comm]
    rw [e1, List.take_length_add_append, show y.length + i * sz + sz = y.length + (i * sz + sz) by omega, List.drop_length_add_append]
    simp
theorem flat_take {sz : Nat} : ∀ (css : List (List Value)) (i : Nat), (∀ y ∈ css, y.length = sz) → (css.take i).flatten = css.flatten.take (i * sz)
  | [], i, _ => by simp
  | y :: ys, 0, _ => by simp
  | y :: ys, i + 1, hl => by
    have hy := hl y (by simp)
    simp only [List.take_succ_cons, List.flatten_cons]
    rw [flat_take ys i (fun z hz => hl z (by simp [hz])), show (i + 1) * sz = y.length + i * sz by rw [hy, Nat.succ_mul, Nat.add_comm], List.take_length_add_append]

/-- An element of a row of the call's own: where it lies, and the row behind a store of a whole element. -/
theorem Row.el {N : Nat} {k : PH} {et sz : Nat} {v : Value} {m i : Nat} {css : List (List Value)} {cs : List Value} (h : Row N k et sz v m css.flatten) (hall : ∀ y ∈ css, y.length = sz) (hi : css[i]? = some cs) (hpos : 0 < sz) :
    ∃ g cap cur, v = .slice (some ⟨g, 0, none⟩) m cap ∧ N ≤ g ∧ k g = some (.cells cur et (0, 0)) ∧ i < m ∧ m ≤ cap ∧ 0 + i * sz + sz ≤ cur.size ∧ Cells k g (0 + i * sz) cs ∧
      ∀ k' vs, vs.length = sz → k' g = some (.cells (cur.toList.take (0 + i * sz) ++ vs ++ cur.toList.drop (0 + i * sz + vs.length)).toArray et (0, 0)) → Row N k' et sz v m (css.set i vs).flatten := by
  obtain ⟨g, cap, cur, rfl, hN, hg, hlt, hc, _⟩ := h.cell (j := 0) hall hi hpos
  have h' := h
  obtain ⟨h1, h2⟩ := h'
  have hil : i < css.length := (List.getElem?_eq_some_iff.1 hi).1
  have hm : css.length = m := by
    rw [flat_len css hall] at h1
    exact Nat.eq_of_mul_eq_mul_right hpos h1
  rcases h2 with ⟨h2, _⟩ | ⟨g', cap', cur', h2, hN', hg', hc', hmx, hs, ht⟩
  · simp at h2
  · simp only [Value.slice.injEq, Option.some.injEq, Addr.mk.injEq, and_true, true_and] at h2
    obtain ⟨rfl, rfl⟩ := h2
    rw [hg] at hg'
    cases hg'
    have h3 : (i + 1) * sz ≤ m * sz := Nat.mul_le_mul_right _ (by omega)
    rw [Nat.succ_mul] at h3
    have h4 : m * sz ≤ cap * sz := Nat.mul_le_mul_right _ hc'
    refine ⟨g, cap, cur, rfl, hN, hg, by omega, hc', by omega, hc, fun k' vs hv hk' => ⟨?_, .inr ⟨g, cap, _, rfl, hN, hk', hc', hmx, ?_, ?_⟩⟩⟩
    · have hall' : ∀ y ∈ css.set i vs, y.length = sz := fun y hy => by
        rcases List.mem_or_eq_of_mem_set hy with hy | rfl
        · exact hall y hy
        · exact hv
      rw [flat_len _ hall', List.length_set, hm]
    · have : cur.toList.length = cap * sz := by simpa using hs
      simp only [List.size_toArray, List.length_append, List.length_take, List.length_drop, hv]
      omega
    · have hl : cur.toList.length = cap * sz := by simpa using hs
      rw [flat_set_all css i vs hall hil hv, ← ht]
      simp only [Nat.zero_add, hv]
      rw [List.append_assoc, List.take_append]
      simp only [List.length_take]
      rw [List.take_take, Nat.min_eq_right (by omega : i * sz ≤ m * sz), List.take_append, List.take_take]
      rw [Nat.min_eq_left (by omega : i * sz ≤ cur.toList.length), Nat.min_eq_left (by omega : i * sz ≤ m * sz), List.append_assoc]
      congr 1
      rw [List.take_of_length_le (by rw [hv]; omega : vs.length ≤ m * sz - i * sz)]
      congr 1
      rw [List.drop_take, hv]
      congr 1
      omega
theorem Row.own {N : Nat} {k : PH} {et sz : Nat} {v : Value} {m : Nat} {xs : List Value} (h : Row N k et sz v m xs) : (v = .slice none 0 0 ∧ m = 0 ∧ xs = []) ∨ ∃ g cap cur, v = .slice (some ⟨g, 0, none⟩) m cap ∧ N ≤ g ∧ k g = some (.cells cur et (0, 0)) ∧ m ≤ cap ∧ cap ≤ maxLen ∧ cur.size = cap * sz ∧ cur.toList.take (m * sz) = xs := by
  obtain ⟨h1, h2⟩ := h
  rcases h2 with ⟨h2, rfl⟩ | h2
  · exact .inl ⟨h2, rfl, List.length_eq_zero_iff.1 (by simpa using h1)⟩
  · exact .inr h2

section
variable {P : Program} {F : Fr} {n : Nat} {ops : Array Oper} {Q : Exit → Act → World → Prop} {rest : List Oper} {o : Oper} {e : Env} {k : PH}
/-- The empty literal. -/
theorem a_empty {t et : TypeId} {sz bs : Nat} {z : Value} [ht : TyU P t (.slice et)] [h : TyI P et sz bs z] (hop : o.op = .buildSlice t 0 #[]) : Alc P e k o (fun b => .slice (some ⟨b, 0, none⟩) 0 0) (.cells #[] et) := by
  intro ev w hev _
  rw [hop] at hev
  obtain ⟨i, h1, h2, h3, h4⟩ := h.eq
  simp [execOp, hop, Instr.buildSlice, run_underlying ht.eq, run_size h1, Instr.fill, newRow, run_newObj_alloc]
  rw [Array.eq_empty_of_size_eq_zero (xs := Array.map _ (Array.range 0)) (by simp)]
theorem row_empty {N : Nat} {k : PH} {et sz b : Nat} (hN : N ≤ b) (hk : k b = some (.cells #[] et)) : Row N k et sz (.slice (some ⟨b, 0, none⟩) 0 0) 0 [] :=
  ⟨by simp, .inr ⟨b, 0, #[], rfl, hN, hk, Nat.le_refl _, by simp [maxLen], by simp, by simp⟩⟩
/-- 's[:i]' of a row. -/
theorem d_pre_row {t et : TypeId} {x y : Operand} {g m c i bs sz : Nat} {z : Value} {kd : IntKind} [ht : TyU P t (.slice et)] [hi' : TyI P et sz bs z] (hop : o.op = .slice t x none (some y) none)
    (hx : opv e x = some (.slice (some ⟨g, 0, none⟩) m c)) (hy : opv e y = some (.int kd (i : Int))) (hi : i ≤ m) (hm : m ≤ c) : Det P e k o (.slice (some ⟨g, 0, none⟩) i c) := by
  have := d_part (P := P) (k := k) (sz := sz) (bs := bs) (z := z) (et := et) (l := none) (h := some i) hop hx trivial ⟨kd, hy⟩ (Nat.zero_le _) (by show i ≤ c; omega) hm (by simp)
  simp only [ob, Nat.sub_zero, shiftA, Option.map_some, Nat.zero_mul, addr_add, Nat.zero_add, ite_self] at this
  exact this
/-- 's[i:]' of a row. -/
theorem d_suf_row {t et : TypeId} {x y : Operand} {g m c i bs sz : Nat} {z : Value} {kd : IntKind} [ht : TyU P t (.slice et)] [hi' : TyI P et sz bs z] (hop : o.op = .slice t x (some y) none none)
    (hx : opv e x = some (.slice (some ⟨g, 0, none⟩) m c)) (hy : opv e y = some (.int kd (i : Int))) (hi : i ≤ m) (hm : m ≤ c) : Det P e k o (.slice (shiftA c i sz (some ⟨g, 0, none⟩)) (m - i) (c - i)) :=
  d_part (P := P) (k := k) (sz := sz) (bs := bs) (z := z) (et := et) (l := some i) (h := none) hop hx ⟨kd, hy⟩ trivial (by show i ≤ m; exact hi) hm hm (by simp)
theorem zeroCells_one {z : Array Value} (h : ∀ u ∈ z.toList, u.oneCell' = true) (n : Nat) : ∀ u ∈ (Builtin.zeroCells z n).toList, u.oneCell' = true := by
  intro u hu
  simp only [Builtin.zeroCells, Array.toList_map, List.mem_map] at hu
  obtain ⟨j, hj, rfl⟩ := hu
  by_cases h0 : z.size = 0
  · simp [h0] at hj
  · have : j % z.size < z.size := Nat.mod_lt _ (by omega)
    rw [getElem!_pos z _ this]
    exact h _ (by simp)
/-- 'clear' of a row's tail. -/
theorem r_clear {t et : TypeId} {x : Operand} {g m cap c' i bs sz : Nat} {z : Value} {cur : Array Value} [ht : TyU P t (.slice et)] [hi' : TyI P et sz bs z] (hd : o.dst = none) (hdet : det e = true) (hg : o.guard = none) (hop : o.op = .call { callee := .builtin .clear, args := #[x], argTypes := #[t] })
    (hx : opv e x = some (.slice (shiftA cap i sz (some ⟨g, 0, none⟩)) (m - i) c')) (hi : i ≤ m) (hm : m ≤ cap) (hk : k g = some (.cells cur et (0, 0))) (hs : cur.size = cap * sz) (hzs : z.cells.size = sz) (hz1 : ∀ u ∈ z.cells.toList, u.oneCell' = true) (hown : F.w0.heap.size ≤ g ∨ F.mu g)
    (h : ∀ k' cur', Turn1 k k' g → k' g = some (.cells cur' et (0, 0)) → cur'.size = cur.size → cur'.toList.take (i * sz) = cur.toList.take (i * sz) → RG P F n ops Q rest e k') : RG P F n ops Q (o :: rest) e k := by
  intro a w ha hst
  unfold wpList
  rw [if_pos (by simp [Region.wanted, hg])]
  have hev := evs_of (ops := ops) (o := o) (ag_looks ha)
  rw [hop] at hev
  have e1 := hev x (by simp [Op.operands, Call.operands]) _ hx
  have hb := hst.sub _ _ hk
  by_cases h0 : m - i = 0
  · have hrun : (execOp a.eval o).run P w = .ok (.value (.tuple #[])) w := by
      simp [execOp, hop, resolve, invoke, builtin, e1, Builtin.clear_, run_underlying ht.eq, h0, shiftA]
    refine .inl (ex_value hrun _ _ ?_)
    rintro u w' ⟨rfl, rfl⟩
    rw [hd]
    exact h k cur (fun h' hl _ => hl) hk rfl rfl _ _ ha hst
  · have hci : ¬ cap = i := by omega
    have hsh : shiftA cap i sz (some ⟨g, 0, none⟩) = some ⟨g, 0 + i * sz, none⟩ := by simp [shiftA, hci, addr_add]
    rw [hsh] at e1
    have hzc : (Builtin.zeroCells z.cells (m - i)).toList.length = (m - i) * sz := by
      rw [Array.length_toList, size_zeroCells, hzs]
    have hle : i * sz + (m - i) * sz ≤ cap * sz := by
      rw [← Nat.add_mul]; exact Nat.mul_le_mul_right _ (by omega)
    have hsto := run_storeCells_at P g (0 + i * sz) et (Builtin.zeroCells z.cells (m - i)).toList 0 cur w hb (by rw [hzc]; omega) (zeroCells_one hz1 _)
    simp only [Nat.add_zero, Nat.zero_add] at hsto
    have hrun : (execOp a.eval o).run P w = .ok (.value (.tuple #[])) (w.setRow g (cur.toList.take (i * sz) ++ (Builtin.zeroCells z.cells (m - i)).toList ++ cur.toList.drop (i * sz + (Builtin.zeroCells z.cells (m - i)).toList.length)).toArray) := by
      obtain ⟨q, hq⟩ : ∃ q, m - i = q + 1 := ⟨m - i - 1, by omega⟩
      simp only [hq] at hsto e1 ⊢
      have hclr : (Builtin.clear_ #[t] o.type #[.slice (some ⟨g, i * sz, none⟩) (q + 1) c']).run P w = .ok (.tuple #[]) (w.setRow g (cur.toList.take (i * sz) ++ (Builtin.zeroCells z.cells (q + 1)).toList ++ cur.toList.drop (i * sz + (Builtin.zeroCells z.cells (q + 1)).toList.length)).toArray) := by
        have x1 : (#[t] : Array TypeId)[0]? = some t := rfl
        have x2 : (#[Value.slice (some ⟨g, i * sz, none⟩) (q + 1) c'] : Array Value)[0]? = some (Value.slice (some ⟨g, i * sz, none⟩) (q + 1) c') := rfl
        simp only [Builtin.clear_, x1, x2]
        simp only [Nat.zero_add, Sem.run_bind, run_underlying ht.eq, Result.andThen_ok, run_zero, hsto, Sem.run_pure]
      simp only [Nat.zero_add] at e1
      simp [execOp, hop, resolve, invoke, builtin, e1, hclr]
    refine .inl (ex_value hrun _ _ ?_)
    rintro u w' ⟨rfl, rfl⟩
    rw [hd]
    refine h _ (cur.toList.take (i * sz) ++ (Builtin.zeroCells z.cells (m - i)).toList ++ cur.toList.drop (i * sz + (Builtin.zeroCells z.cells (m - i)).toList.length)).toArray (turn1_upd _ _ _) (upd_same _ _ _) ?_ ?_ _ _ (ha.heap hdet) (hst.turn hown rfl rfl rfl (by simp [World.setRow]) (setRow_heap w g cur _ et _ hb) fun j hj _ => setRow_other w g j _ hj)
    · have : cur.toList.length = cap * sz := by simpa using hs
      simp only [List.size_toArray, List.length_append, List.length_take, List.length_drop, hzc]
      omega
    · have : cur.toList.length = cap * sz := by simpa using hs
      rw [List.append_assoc, List.take_left' (by rw [List.length_take]; omega)]
end
end Go.Wm
namespace Go.Wm
variable [Dfr]
open Go.RowKit
section
variable {P : Program} {o : Oper} {e : Env} {k : PH} {t t' et : TypeId} {x : Operand}
/-- A slice held against nil. -/
theorem d_eqsl {a : Option Addr} {m c : Nat} [h : TyU P t (.slice et)] (hop : o.op = .binOp .eql t x (.const (.slice none 0 0)) t') (hx : opv e x = some (.slice a m c)) : Det P e k o (.bool a.isNone) := by
  intro ev w hev _
  rw [hop] at hev
  have e1 := hev x (by simp [Op.operands]) _ hx
  have e2 := hev (.const (.slice none 0 0)) (by simp [Op.operands]) _ rfl
  have g : (binOp .eql t (.slice a m c) (.slice none 0 0)).run P w = .ok (.bool a.isNone) w := by
    have := run_equalIn_slice_nil (P := P) (w := w) 9999 t et a m c h.eq
    simp only [binOp, Op.equal, Op.maxDepth, Sem.run_bind, this, Result.andThen_ok, Sem.run_pure]
  simp [execOp, hop, e1, e2, eqGuard, g]
end
/-- Where the first one is that is so, or -1. -/
def idxF {α : Type} (l : List α) (f : α → Bool) : Int := match l.findIdx? f with | some i => (i : Int) | none => -1
theorem idxF_at {α : Type} {l : List α} {f : α → Bool} {i : Nat} (hlt : i < l.length) (hf : f l[i] = true) (hno : ∀ x ∈ l.take i, f x = false) : idxF l f = (i : Int) := by
  unfold idxF
  have : l.findIdx? f = some i := by
    rw [List.findIdx?_eq_some_iff_getElem]
    refine ⟨hlt, hf, fun j hj => ?_⟩
    rw [hno l[j] (List.mem_take_iff_getElem.2 ⟨j, by omega, rfl⟩)]
    simp
  rw [this]
theorem idxF_no {α : Type} {l : List α} {f : α → Bool} (hno : ∀ x ∈ l, f x = false) : idxF l f = -1 := by
  unfold idxF
  have : l.findIdx? f = none := by
    rw [List.findIdx?_eq_none_iff]
    exact fun x hx => hno x hx
  rw [this]
theorem idxF_cases {α : Type} (l : List α) (f : α → Bool) : (idxF l f = -1 ∧ ∀ x ∈ l, f x = false) ∨ ∃ i, ∃ h : i < l.length, idxF l f = (i : Int) ∧ f l[i] = true ∧ ∀ x ∈ l.take i, f x = false := by
  cases hfi : l.findIdx? f with
  | none =>
    rw [List.findIdx?_eq_none_iff] at hfi
    exact .inl ⟨idxF_no hfi, hfi⟩
  | some i =>
    rw [List.findIdx?_eq_some_iff_getElem] at hfi
    obtain ⟨h1, h2, h3⟩ := hfi
    have h4 : ∀ x ∈ l.take i, f x = false := fun x hx => by
      obtain ⟨j, hj, rfl⟩ := List.mem_take_iff_getElem.1 hx
      simpa using h3 j (by omega)
    exact .inr ⟨i, h1, idxF_at h1 h2 h4, h2, h4⟩
theorem idxF_ge {α : Type} (l : List α) (f : α → Bool) : decide (idxF l f ≥ 0) = l.any f := by
  rw [Bool.eq_iff_iff]
  rcases idxF_cases l f with ⟨h1, h2⟩ | ⟨i, h, h1, h2, _⟩
  · rw [h1]
    simp
    exact fun x hx => by simpa using h2 x hx
  · rw [h1]
    simp
    exact ⟨l[i], List.getElem_mem h, h2⟩
end Go.Wm
namespace Go.Wm
variable [Dfr]
open Go.RowKit
section
variable {P : Program} {F : Fr} {n : Nat} {ops : Array Oper} {Q : Exit → Act → World → Prop} {rest : List Oper} {o : Oper} {e : Env} {k : PH}
/-- As 'raps', where the list reads in less than is known. -/
theorem raps2 {α : Type} {T : Ty α} {h : PH} {t et : TypeId} {sz bs : Nat} {z : Value} {d : Nat} {x y : Operand} {v : Value} {m c : Nat} {a : Option Addr} {olds : List Value} {xs : List α} (hd : o.dst = some d) (hf : Nat.blt d n = true) (hdet : det e = true) (hg : o.guard = none) [ht : TyU P t (.slice et)] [hi : TyI P et sz bs z]
    (hop : o.op = .call { callee := .builtin .append, args := #[x, y], argTypes := #[t, t] }) (hx : opv e x = some v) (hy : opv e y = some (.slice a xs.length c)) (hsz : T.sz = sz)
    (hrow : Row F.w0.heap.size k et sz v m olds) (hs : Sl T h a c xs) (hle : Le h k) (h1 : ∀ k cs x, T.rep k cs x → ∀ u ∈ cs, u.oneCell' = true) (hz : Nat.beq z.cells.size sz = true) (hpos : Nat.blt 0 sz = true) (hm : m + xs.length ≤ maxLen) (hby : (m + xs.length) * bs ≤ 140737488355328)
    (hh : ∀ v' k' css, Pieces T h css xs → Row F.w0.heap.size k' et sz v' (m + xs.length) (olds ++ css.flatten) → Turn k k' v v' → RG P F n ops Q rest ((d, .is v') :: e) k') : RG P F n ops Q (o :: rest) e k := by
  by_cases hne : xs = []
  · subst hne
    have hv : ∃ base cap, v = .slice base m cap ∧ m ≤ cap := by
      obtain ⟨_, h5⟩ := hrow
      rcases h5 with ⟨rfl, rfl⟩ | ⟨g, cap, cur, rfl, _, _, hmc, _⟩
      · exact ⟨none, 0, rfl, Nat.le_refl _⟩
      · exact ⟨_, cap, rfl, hmc⟩
    obtain ⟨base, cap, rfl, hmc⟩ := hv
    exact rs hd hf (loc_det (by simp [wantedE, hg]) (d_app0 hop hx hy hmc)) (hh _ k [] (Pieces.nil T h) (by simpa using hrow) (Turn.refl _ _))
  · cases ha : a with
    | none =>
      have := hs.nil ha
      have := hs.cap
      exact absurd (List.length_eq_zero_iff.1 (by omega)) hne
    | some ad =>
      obtain ⟨b, off, sp⟩ := ad
      subst ha
      obtain ⟨hsp, css, hp, hc⟩ := hs.pieces hne
      subst hsp
      refine rap hd hf hdet hg hop hx hy hrow (hc.le hle) (by rw [flat_len css hp.len, hp.1, hsz]) (fun u hu => ?_) hz hpos hm hby fun v' k' hr ht => hh v' k' css hp hr ht
      obtain ⟨cs, hcs, hu⟩ := List.mem_flatten.1 hu
      obtain ⟨q, hq⟩ := List.getElem?_of_mem hcs
      have hql : q < xs.length := by rw [← hp.1]; exact (List.getElem?_eq_some_iff.1 hq).1
      exact h1 h cs xs[q] (hp.2 q cs xs[q] hq (List.getElem?_eq_getElem hql)) u hu
end
end Go.Wm
namespace Go.Wm
variable [Dfr]
open Go.RowKit
section
variable {P : Program} {F : Fr} {n : Nat} {ops : Array Oper} {Q : Exit → Act → World → Prop} {rest : List Oper} {o : Oper} {e : Env} {k : PH}
/-- A call, made with less than is known: what it hands back lies in what it was told and in new blocks alone. -/
theorem rvh {h : PH} {x : Operand} {args : Array Operand} {ats : Array TypeId} {g : FuncId} {first cap : Array Value} {vs : List Value} [FnOk P g] {φ : PH → Value → Prop} {d : Nat}
    (hd : o.dst = some d) (hf : Nat.blt d n = true) (hdet : det e = true) (hgd : o.guard = none) (hop : o.op = .call { callee := .value x, args := args, argTypes := ats }) (hx : opv e x = some (.func (.func g) first cap)) (ha : opvs e args.toList = some vs)
    (hle : Le h k) (hct : CT P g (first ++ vs.toArray ++ cap) h φ)
    (hh : ∀ k2 k' v, Le h k2 → (∀ b o, k b = some o → k2 b = h b) → Le k k' → Le k2 k' → φ k2 v → RG P F n ops Q rest ((d, .is v) :: e) k') : RG P F n ops Q (o :: rest) e k := by
  intro a w hag hs
  unfold wpList
  rw [if_pos (by simp [Region.wanted, hgd])]
  refine .inl (ex_enter (run_call hop hx ha (evs_of (ops := ops) (ag_looks hag))) (φ := fun v w' => ∃ k2 k', Le h k2 ∧ (∀ b o, k b = some o → k2 b = h b) ∧ Le k k' ∧ Le k2 k' ∧ φ k2 v ∧ St F k' w') ((hct w h (Le.refl _) (hs.sub.mono hle)).mono ?_) _ _ ?_)
  · rintro en w' ⟨v, k2, h1, h2, h3, h4, h5⟩
    have hag' : Agr w.heap.size k (fun b => if b < w.heap.size then k b else k2 b) := fun b hb => by simp [hb]
    have hsub' : Sub (fun b => if b < w.heap.size then k b else k2 b) w' := fun b ob hb => by
      by_cases hbl : b < w.heap.size
      · simp only [hbl, if_true] at hb
        rw [h2.block b hbl]
        exact hs.sub b ob hb
      · simp only [hbl, if_false] at hb
        exact h4 b ob hb
    refine ⟨v, h1, k2, _, fun b ob hb => ?_, fun b ob hb => h3 b (hs.sub.lt hb), hag'.le hs.sub, fun b ob hb => ?_, h5, hs.step h2 hag' hsub'⟩
    · rw [h3 b (hs.sub.lt (hle b ob hb))]; exact hb
    · by_cases hbl : b < w.heap.size
      · simp only [hbl, if_true]
        rw [h3 b hbl] at hb
        exact hle b ob hb
      · simp only [hbl, if_false]
        exact hb
  · rintro v w' ⟨k2, k', h1, h2, h3, h4, h5, h6⟩
    rw [hd]
    exact hh k2 k' v h1 h2 h3 h4 h5 _ _ ((hag.heap (k' := k') hdet).put (d := some d) (p := .is v) hf rfl) h6
end
end Go.Wm

/-
  Loops over a map that is not written meanwhile: its entries come in whatever order. Conditions: none beyond those of each law.
-/
namespace Go.Wm
variable [Dfr]
open Go.RowKit

section
variable {P : Program} {F : Fr} {n : Nat} {ops : Array Oper} {Q : Exit → Act → World → Prop} {rest : List Oper} {o : Oper} {e : Env} {k : PH} {α : Type} {enc : α → Value}
/-- How many entries have not come yet. -/
def restOf (es : List (α × Value × Nat)) (seen : Array Nat) : Nat := (es.filter fun p => !seen.contains p.2.2).length
end
end Go.Wm
namespace Go.Wm
variable [Dfr]
end Go.Wm
namespace Go.Wm
variable [Dfr]
end Go.Wm
namespace Go.Wm
variable [Dfr]
end Go.Wm
namespace Go.Wm
variable [Dfr]
section
variable {P : Program} {F : Fr} {n : Nat} {ops : Array Oper} {Q : Exit → Act → World → Prop} {rest : List Oper} {o : Oper} {e : Env} {k : PH}
end
end Go.Wm

/-
  Arrays of two whole numbers: literals, and as keys of maps. Conditions: those of each law.
-/
namespace Go.Wm
variable [Dfr]
open Go.RowKit

abbrev eII : Int × Int → Value := fun p => .agg #[.int .i64 p.1, .int .i64 p.2]
section
variable {P : Program}
variable {o : Oper} {e : Env} {k : PH}
end
end Go.Wm

/-
  Regions that draw, all of whose values get names at the end; structs as a law's arguments. Conditions: none beyond those of each law.
-/
namespace Go.Wm
variable [Dfr]
open Go.RowKit Go.ChangeShapes Go.WideShapes

section
variable {P : Program} {F : Fr} {n : Nat} {ops : Array Oper} {Q : Exit → Act → World → Prop} {rest : List Oper} {o : Oper} {e : Env} {k : PH}
end
section
variable {P : Program}
/-- A struct, and its bound. -/
theorem wgarg_agg {t : TypeId} {fs : Array Field} {α : Type} {T : Ty α} {B : α → Prop} [h : RdW P t T B] (ht : P.underlying t = some (.struct fs)) {H : Type} {enc : TypeId × Value → H} {W : World} {base : Nat} {v : Value} {d : DataW H} {p : List MemPlace} (hv : Value.okWide P W .any base t v) (hr : DataW.Trod enc P W 0 (fun _ => true) true t v d p)
    (hw : ∀ q ∈ d.weights P t, q ≤ reachBytes) : ∃ l x, v = .agg l.toArray ∧ T.rep (heapOf W) l x ∧ B x := by
  obtain ⟨cs, rfl, _⟩ := okWide_struct ht hv
  obtain ⟨n, hn⟩ := hr
  obtain ⟨x, hx, hb⟩ := h.rd hn hw
  exact ⟨cs.toList, x, by simp, hx, hb⟩
end
end Go.Wm
namespace Go.Wm
variable [Dfr]
/-- Two rows that do not share a block. -/
def Disj (v u : Value) : Prop := ∀ g, v.ownBlock = some g → u.ownBlock ≠ some g
theorem Disj.symm {v u : Value} (h : Disj v u) : Disj u v := fun g hg hv => h g hv hg
end Go.Wm
