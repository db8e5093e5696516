/-
  A region that draws its order, makes new blocks, and ends with operations each of which waits for all before it: one walk in the text's order; the new blocks are no two the same. Conditions: the region's own order, a Bool that the kernel reckons.
-/
import Derived.Test.YtapfmndcjcdcjaaEff
import Derived.Test.YtapfmndcjcdcjaaCtl
set_option linter.all false
namespace Go.Wm
open Go.RowKit

def blkV : Value → Option Nat
  | .slice (some a) _ _ => some a.block
  | .pointer (some a) => some a.block
  | .map (some r) => some r
  | _ => none

/-- As 'Loc', and the value of a slot of fs is a block that was not there. -/
def LocG (P : Program) (n N : Nat) (ops : Array Oper) (fs : List Nat) (o : Oper) (e : Env) (kr : PH) (p : PV) : Prop :=
  p.Mono ∧ ∀ (a : Act) (w : World) (k : PH), Le kr k → Sub k w → a.tmps.size = n → N ≤ w.heap.size →
    (∀ t ∈ o.looksAt ops, ∀ q, get e t = some q → q.holds k (a.tmps.getD t undef)) →
    if Region.wanted o (yielded ops a.tmps) then
      Ex P o a w (fun v w' => ∃ k', Below w.heap.size w w' ∧ Agr w.heap.size k k' ∧ Sub k' w' ∧ p.holds k' v ∧ ∀ d, o.dst = some d → d ∈ fs → ∃ b, blkV v = some b ∧ w.heap.size ≤ b ∧ b < w'.heap.size)
    else p.holds k undef ∧ ∀ d, o.dst = some d → d ∉ fs
def noneOf (fs : List Nat) (o : Oper) : Bool := match o.dst with | some d => !fs.contains d | none => true
theorem noneOf_spec {fs : List Nat} {o : Oper} (h : noneOf fs o = true) {d : Nat} (hd : o.dst = some d) : d ∉ fs := by
  unfold noneOf at h
  rw [hd] at h
  intro hm
  have h' : d ∉ fs := by simpa using h
  exact h' hm

section
variable {P : Program} {F : Fr} {n N : Nat} {ops : Array Oper} {Q : Exit → Act → World → Prop} {fs : List Nat} {o : Oper} {e : Env} {k : PH}
theorem LocG.of {p : PV} (h : Loc P n ops o e k p) (hn : noneOf fs o = true) : LocG P n N ops fs o e k p := by
  refine ⟨h.1, fun a w k1 h1 h2 h3 _ h4 => ?_⟩
  have := h.2 a w k1 h1 h2 h3 h4
  split
  · rename_i hw
    rw [if_pos hw] at this
    exact this.mono fun v w' ⟨k', g1, g2, g3, g4⟩ => ⟨k', g1, g2, g3, g4, fun d hd hm => absurd hm (noneOf_spec hn hd)⟩
  · rename_i hw
    rw [if_neg hw] at this
    exact ⟨this, fun d hd => noneOf_spec hn hd⟩
theorem LocG.new {vf : Nat → Value} {obj : Obj} (hg : wantedE ops e o = some true) (h : Alc P e k o vf obj) (hv : ∀ b, blkV (vf b) = some b) : LocG P n N ops fs o e k (.such (New k vf obj)) := by
  refine ⟨fun k1 k2 v hl ⟨b, h1, h2, h3⟩ => ⟨b, h1, hl b _ h2, h3⟩, fun a w k1 hk hs _ _ hl => ?_⟩
  rw [if_pos (wanted_of hl hg)]
  exact (ex_value (h a.eval w (evs_of hl) (hs.mono hk))).mono fun u u' ⟨h1, h2⟩ => by
    subst h2
    refine ⟨upd k1 w.heap.size obj, below_alloc _ _, agr_upd (Nat.le_refl _) _, sub_alloc hs _, ⟨_, h1, upd_same _ _ _, (hs.mono hk).none (Nat.le_refl _)⟩, fun d _ _ => ⟨w.heap.size, by rw [h1]; exact hv _, Nat.le_refl _, ?_⟩⟩
    show w.heap.size < (w.heap.push obj).size
    simp

/-- As 'New', and none from before N. -/
def NewN (N : Nat) (kr : PH) (vf : Nat → Value) (obj : Obj) (k : PH) (v : Value) : Prop := ∃ b, v = vf b ∧ k b = some obj ∧ kr b = none ∧ N ≤ b
theorem newN_mono {N : Nat} {kr : PH} {vf : Nat → Value} {obj : Obj} : (PV.such (NewN N kr vf obj)).Mono := fun _ _ _ hl ⟨b, h1, h2, h3⟩ => ⟨b, h1, hl b _ h2, h3⟩
theorem LocG.newN {vf : Nat → Value} {obj : Obj} (hg : wantedE ops e o = some true) (h : Alc P e k o vf obj) (hv : ∀ b, blkV (vf b) = some b) : LocG P n N ops fs o e k (.such (NewN N k vf obj)) := by
  refine ⟨newN_mono, fun a w k1 hk hs _ hN hl => ?_⟩
  rw [if_pos (wanted_of hl hg)]
  exact (ex_value (h a.eval w (evs_of hl) (hs.mono hk))).mono fun u u' ⟨h1, h2⟩ => by
    subst h2
    refine ⟨upd k1 w.heap.size obj, below_alloc _ _, agr_upd (Nat.le_refl _) _, sub_alloc hs _, ⟨_, h1, upd_same _ _ _, (hs.mono hk).none (Nat.le_refl _), hN⟩, fun d _ _ => ⟨w.heap.size, by rw [h1]; exact hv _, Nat.le_refl _, ?_⟩⟩
    show w.heap.size < (w.heap.push obj).size
    simp
theorem LocG.copy {t : Nat} {φ : PH → Value → Prop} (hg : wantedE ops e o = some true) (hop : o.op = .assign (.tmp t) ∨ o.op = .move (.tmp t)) (ht : get e t = some (.such φ)) (hm : (PV.such φ).Mono) (hn : noneOf fs o = true) : LocG P n N ops fs o e k (.such φ) := by
  refine ⟨hm, fun a w k1 hk hs _ _ hl => ?_⟩
  rw [if_pos (wanted_of hl hg)]
  have hex : (execOp a.eval o).run P w = .ok (.value (a.eval (.tmp t))) w := by
    rcases hop with hop | hop <;> simp [execOp, hop]
  have hmem : t ∈ o.looksAt ops := by
    unfold Oper.looksAt
    refine List.mem_append.2 (.inl ?_)
    rw [List.mem_filterMap]
    rcases hop with hop | hop
    · exact ⟨.tmp t, by rw [hop]; simp [Op.operands], rfl⟩
    · exact ⟨.tmp t, by rw [hop]; simp [Op.operands], rfl⟩
  refine (ex_value hex).mono fun u u' ⟨h1, h2⟩ => ?_
  subst h2
  refine ⟨k1, RowKit.Below.refl _ _, Agr.refl _ _, hs, ?_, fun d hd hm' => absurd hm' (noneOf_spec hn hd)⟩
  rw [h1]
  exact hl t hmem _ ht
/-- The walk in the text's order. -/
def WF (P : Program) (n N : Nat) (ops : Array Oper) (fs : List Nat) (k : PH) (K : Env → Prop) : List Oper → Env → Prop
  | [], e => K e
  | o :: r, e => ∃ p, LocG P n N ops fs o e k p ∧ WF P n N ops fs k K r (set e o.dst p)
theorem wf_at {K : Env → Prop} : ∀ (l : List Oper) (e : Env), WF P n N ops fs k K l e → ∃ (es : Nat → Env) (ps : Nat → PV), es 0 = e ∧ (∀ i o, l[i]? = some o → LocG P n N ops fs o (es i) k (ps i) ∧ es (i + 1) = set (es i) o.dst (ps i)) ∧ K (es l.length)
  | [], e, h => ⟨fun _ => e, fun _ => .is undef, rfl, fun i o h => by simp at h, h⟩
  | x :: r, e, ⟨p, hl, h⟩ => by
    obtain ⟨es, ps, h0, h1, h2⟩ := wf_at r _ h
    refine ⟨fun i => match i with | 0 => e | i + 1 => es i, fun i => match i with | 0 => p | i + 1 => ps i, rfl, fun i o ho => ?_, h2⟩
    cases i with
    | zero =>
      simp only [List.getElem?_cons_zero, Option.some.injEq] at ho
      subst ho
      exact ⟨hl, h0⟩
    | succ i => exact h1 i o (by simpa using ho)

/-- From m on, each operation waits for all before it. -/
def tailOk (m : Nat) (ops : List Oper) : Bool := (List.range ops.length).all fun i => Nat.blt i m || (List.range i).all fun j => ((masks ops []).getD i 0).testBit j
theorem tailOk_spec {m : Nat} {ops : List Oper} (h : tailOk m ops = true) {i j : Nat} (hi : i < ops.length) (hm : m ≤ i) (hj : j < i) : ((masks ops []).getD i 0).testBit j = true := by
  unfold tailOk at h
  rw [List.all_eq_true] at h
  have := h i (List.mem_range.2 hi)
  have hb : Nat.blt i m = false := by
    cases e : Nat.blt i m with
    | false => rfl
    | true => rw [Nat.blt_eq] at e; omega
  rw [hb, Bool.false_or, List.all_eq_true] at this
  exact this j (List.mem_range.2 hj)

theorem ready_iff {ops : List Oper} {L : Array Bool} (hsz : L.size = ops.length) {i : Nat} (hi : i ∈ Region.ready .any ops.toArray L) :
    ∃ hil : i < ops.length, L.getD i false = false ∧ ∀ ed ∈ (ops[i]).after.toList, Region.binds .any ed = true → L.getD ed.on false = true := by
  unfold Region.ready at hi
  obtain ⟨hi1, hi2⟩ := List.mem_filter.1 hi
  have hil : i < ops.length := by simpa using hi1
  have ho : ops[i]? = some ops[i] := List.getElem?_eq_getElem hil
  simp only [List.getElem?_toArray, ho, Option.map_some, Option.getD_some, Bool.and_eq_true, Bool.not_eq_true'] at hi2
  obtain ⟨hLi, hed⟩ := hi2
  rw [← Array.all_toList, List.all_eq_true] at hed
  refine ⟨hil, ?_, fun ed he hb => ?_⟩
  · rw [Array.getD_eq_getD_getElem?, Array.getElem?_eq_getElem (by omega)] at hLi ⊢
    exact hLi
  · have := hed ed he
    rw [hb] at this
    simpa using this
theorem ready_mem {ops : List Oper} {L : Array Bool} (hsz : L.size = ops.length) {i : Nat} (hil : i < ops.length) (hL : L.getD i false = false) (hed : ∀ ed ∈ (ops[i]).after.toList, Region.binds .any ed = true → L.getD ed.on false = true) : i ∈ Region.ready .any ops.toArray L := by
  have ho : ops[i]? = some ops[i] := List.getElem?_eq_getElem hil
  have hLt : L.getD i true = false := by
    rw [Array.getD_eq_getD_getElem?, Array.getElem?_eq_getElem (by omega)] at hL ⊢
    exact hL
  unfold Region.ready
  refine List.mem_filter.2 ⟨by simpa using hil, ?_⟩
  simp only [hLt, List.getElem?_toArray, ho, Option.map_some, Option.getD_some, Bool.not_false, Bool.true_and]
  rw [← Array.all_toList, List.all_eq_true]
  intro ed he
  by_cases hb : Region.binds .any ed = true
  · rw [hed ed he hb]; simp
  · simp [hb]
theorem ready_nil {ops : List Oper} {L : Array Bool} (hsz : L.size = ops.length) (hall : ∀ i, i < ops.length → L.getD i false = true) : Region.ready .any ops.toArray L = [] := by
  rw [List.eq_nil_iff_forall_not_mem]
  intro i hi
  obtain ⟨hil, h1, _⟩ := ready_iff hsz hi
  rw [hall i hil] at h1
  cases h1
theorem getD_set {L : Array Bool} {i : Nat} (hi : i < L.size) (j : Nat) : (L.setIfInBounds i true).getD j false = if j = i then true else L.getD j false := by
  rw [Array.getD_eq_getD_getElem?, Array.getD_eq_getD_getElem?, Array.getElem?_setIfInBounds]
  by_cases hji : i = j
  · subst hji; simp [hi]
  · simp [hji, Ne.symm hji]
theorem count_set_lt {L : Array Bool} {i fuel : Nat} (hi : i < L.size) (hL : L.getD i false = false) (hc : L.toList.count false ≤ fuel + 1) : (L.setIfInBounds i true).toList.count false ≤ fuel := by
  have h3 : (L.setIfInBounds i true).toList = L.toList.set i true := by simp
  rw [h3]
  have h5 : i < L.toList.length := by simpa using hi
  have h6 := List.count_set (a := true) (b := false) (l := L.toList) (i := i) (h := h5)
  rw [h6]
  have h7 : L.toList[i] = false := by
    rw [Array.getD_eq_getD_getElem?, Array.getElem?_eq_getElem hi] at hL
    simpa using hL
  have e1 : ((false : Bool) == false) = true := rfl
  have e2 : ((true : Bool) == false) = false := rfl
  have : 0 < L.toList.count false := List.count_pos_iff.2 (by rw [← h7]; exact List.getElem_mem h5)
  rw [h7, e1, e2]
  simp only [if_true, Bool.false_eq_true, if_false]
  omega
theorem count_pos {L : Array Bool} {i : Nat} (hi : i < L.size) (hL : L.getD i false = false) : 0 < L.toList.count false := by
  have h5 : i < L.toList.length := by simpa using hi
  have h7 : L.toList[i] = false := by
    rw [Array.getD_eq_getD_getElem?, Array.getElem?_eq_getElem hi] at hL
    simpa using hL
  exact List.count_pos_iff.2 (by rw [← h7]; exact List.getElem_mem h5)

/-- The tail is carried out in the text's order. -/
theorem tail_run {ops : List Oper} {m0 : Nat} (g4 : ∀ (i : Nat) (o : Oper), ops[i]? = some o → ∀ ed ∈ o.after.toList, Region.binds .any ed = true → ed.on < i) (ht : tailOk m0 ops = true) : ∀ (r : List Oper) (m : Nat), m0 ≤ m → ops.drop m = r →
    ∀ (fuel : Nat) (L : Array Bool) (a : Act) (w : World), L.size = ops.length → (∀ j, j < m → j < ops.length → L.getD j false = true) → (∀ j, m ≤ j → L.getD j false = false) → L.toList.count false ≤ fuel → wpList P ops.toArray Q r a w → wpAny P .any ops.toArray Q fuel L a w
  | [], m, hm, hd, fuel, L, a, w, hsz, h1, h2, hc, hw => by
    have hml : ops.length ≤ m := by
      have := congrArg List.length hd
      simp at this
      omega
    have hr := ready_nil hsz (fun i hi => h1 i (by omega) hi)
    have hQ : Q .normal a w := hw
    cases fuel with
    | zero => exact ⟨hr, hQ⟩
    | succ f => exact ⟨fun _ => hQ, fun i hi => by rw [hr] at hi; cases hi⟩
  | o :: r, m, hm, hd, fuel, L, a, w, hsz, h1, h2, hc, hw => by
    have hml : m < ops.length := by
      have := congrArg List.length hd
      simp at this
      omega
    have ho : ops[m]? = some o := by
      have : (ops.drop m)[0]? = some o := by rw [hd]; rfl
      simpa using this
    have hmo : ops[m] = o := by rw [List.getElem?_eq_getElem hml] at ho; exact Option.some.inj ho
    have hLm := h2 m (Nat.le_refl _)
    have hms : m < L.size := by omega
    cases fuel with
    | zero => have := count_pos hms hLm; omega
    | succ fuel =>
      have hrm : m ∈ Region.ready .any ops.toArray L := ready_mem hsz hml hLm fun ed he hb => by
        have := g4 m _ (List.getElem?_eq_getElem hml) ed he hb
        exact h1 ed.on this (by omega)
      refine ⟨fun hr => (by rw [hr] at hrm; cases hrm), fun i hi => ?_⟩
      obtain ⟨hil, hLi, hed⟩ := ready_iff hsz hi
      have him : i = m := by
        rcases Nat.lt_trichotomy i m with h | h | h
        · rw [h1 i h hil] at hLi; cases hLi
        · exact h
        · exfalso
          have hb := tailOk_spec ht hil (by omega) h
          have := mask_done g4 L (fun q oq hq hLq ed he hbd => by
            have hqm : q < m := by
              rcases Nat.lt_or_ge q m with h' | h'
              · exact h'
              · rw [h2 q h'] at hLq; cases hLq
            have := g4 q oq hq ed he hbd
            exact h1 ed.on (by omega) (by omega)) (i + 1) i (Nat.lt_succ_self _) _ (List.getElem?_eq_getElem hil) hed m hb
          rw [hLm] at this
          cases this
      subst him
      have hset := getD_set hms
      have next : ∀ a'' w'', wpList P ops.toArray Q r a'' w'' → wpAny P .any ops.toArray Q fuel (L.setIfInBounds i true) a'' w'' := fun a'' w'' hq =>
        tail_run g4 ht r (i + 1) (by omega) (by rw [Nat.add_comm, show 1 + i = i + 1 from Nat.add_comm _ _, ← List.tail_drop, hd]; rfl) fuel _ a'' w'' (by simpa using hsz) (fun j hj hjl => by
          rw [hset]
          split
          · rfl
          · exact h1 j (by omega) hjl) (fun j hj => by
          rw [hset, if_neg (by omega)]
          exact h2 j (by omega)) (count_set_lt hms hLm hc) hq
      unfold wpOp
      simp only [List.getElem?_toArray, ho]
      unfold wpList at hw
      split
      · rename_i hwt
        rw [if_pos hwt] at hw
        rcases hw with hw | hw
        · exact .inl (Oper.wp_mono (fun a'' w'' hq => next a'' w'' hq) hw)
        · exact .inr hw
      · rename_i hwt
        rw [if_neg hwt] at hw
        exact next _ _ hw
structure FrA (ops : List Oper) (fs : List Nat) (N : Nat) (L : Array Bool) (a : Act) (w : World) : Prop where
  fresh : ∀ i o d, ops[i]? = some o → o.dst = some d → d ∈ fs → L.getD i false = true → ∃ b, blkV (a.tmps.getD d undef) = some b ∧ N ≤ b ∧ b < w.heap.size
  apart : ∀ i j oi oj di dj, ops[i]? = some oi → ops[j]? = some oj → oi.dst = some di → oj.dst = some dj → di ∈ fs → dj ∈ fs → i ≠ j → L.getD i false = true → L.getD j false = true → blkV (a.tmps.getD di undef) ≠ blkV (a.tmps.getD dj undef)

theorem region_fresh {A T : List Oper} {id : Nat} (hm : P.follows .mixedOrders = true) (hok : okAny n (A ++ T) = true) (htail : tailOk A.length (A ++ T) = true) (hfs : (fs.all fun t => (A.filterMap (·.dst)).contains t) = true) (hmono : ∀ t q, get e t = some q → q.Mono) {a : Act} {w : World} (ha : Ag n e k a) (hs : St F k w)
    (h : WF P n F.w0.heap.size (A ++ T).toArray fs k (fun e' => ∀ k' a' w', Le k k' → Ag n e' k' a' → St F k' w' → (∀ t ∈ fs, ∃ b, blkV (a'.tmps.getD t undef) = some b ∧ w.heap.size ≤ b) → (∀ t ∈ fs, ∀ u ∈ fs, t ≠ u → blkV (a'.tmps.getD t undef) ≠ blkV (a'.tmps.getD u undef)) → wpList P (A ++ T).toArray Q T a' w') A e) :
    (Code.region id (A ++ T).toArray true).wp P Q a w := by
  generalize hops : A ++ T = ops at *
  have hAl : A.length ≤ ops.length := by rw [← hops]; simp
  have hA : ∀ m, m < A.length → A[m]? = ops[m]? := fun m hm => by rw [← hops, List.getElem?_append_left hm]
  have hdrop : ops.drop A.length = T := by rw [← hops]; simp
  obtain ⟨es, ps, h0, h1', hK⟩ := wf_at A e h
  obtain ⟨g1, g2, g3, g4⟩ := okAny_parts hok
  have h1 : ∀ i o, i < A.length → ops[i]? = some o → LocG P n F.w0.heap.size ops.toArray fs o (es i) k (ps i) ∧ es (i + 1) = set (es i) o.dst (ps i) := fun i o hi ho => h1' i o (by rw [hA i hi]; exact ho)
  have hes : ∀ (i : Nat), i ≤ A.length → ∀ t, (∃ j o, j < i ∧ ops[j]? = some o ∧ o.dst = some t ∧ get (es i) t = some (ps j)) ∨ ((∀ j o, j < i → ops[j]? = some o → o.dst ≠ some t) ∧ get (es i) t = get (es 0) t) := by
    intro i hi t
    have gA : distinct (A.filterMap (·.dst)) = true := by
      have h2 := g2
      rw [← hops, List.filterMap_append] at h2
      have : ∀ (p q : List Nat), distinct (p ++ q) = true → distinct p = true := by
        intro p q
        induction p with
        | nil => intro _; rfl
        | cons x p ih =>
          intro h
          simp only [List.cons_append, distinct, Bool.and_eq_true, Bool.not_eq_true'] at h ⊢
          refine ⟨?_, ih h.2⟩
          have h3 := h.1
          cases hc : p.contains x with
          | false => rfl
          | true =>
            rw [List.contains_iff_mem] at hc
            rw [List.contains_iff_mem.2 (List.mem_append_left q hc)] at h3
            cases h3
      exact this _ _ h2
    have := es_get (ops := A) (es := es) (ps := ps) gA (fun i o ho => (h1' i o ho).2) i hi t
    rcases this with ⟨j, o, hj, ho, hd, hg⟩ | ⟨hno, hg⟩
    · exact .inl ⟨j, o, hj, by rw [← hA j (by omega)]; exact ho, hd, hg⟩
    · exact .inr ⟨fun j o hj ho => hno j o hj (by rw [hA j (by omega)]; exact ho), hg⟩
  refine wp_region_any hm ?_
  have hb0 : Below w.heap.size w { w with drawn := w.drawn + 1 } := below_drawn w _
  have hf : ∀ i, (Array.replicate ops.toArray.size false).getD i false = false := fun i => by
    rw [Array.getD_eq_getD_getElem?, Array.getElem?_replicate]
    split <;> rfl
  have start : Mid n ops e ps w k (Array.replicate ops.toArray.size false) a { w with drawn := w.drawn + 1 } k := by
    refine ⟨by simp, ha.size, ha.defers, hb0, Agr.refl _ _, hs.sub.below hb0, Le.refl _, fun i o ho hl => ?_, fun i o d ho hd hl => ?_, fun t _ q hq => ha.get t q hq⟩
    · rw [hf] at hl; cases hl
    · rw [hf] at hl; cases hl
  have startF : FrA ops fs w.heap.size (Array.replicate ops.toArray.size false) a { w with drawn := w.drawn + 1 } := by
    refine ⟨fun i o d _ _ _ hl => ?_, fun i j oi oj di dj _ _ _ _ _ _ _ hl _ => ?_⟩
    · rw [hf] at hl; cases hl
    · rw [hf] at hl; cases hl
  have done : ∀ (fuel : Nat) (L : Array Bool) (a' : Act) (w' : World) (k' : PH), Mid n ops e ps w k L a' w' k' → FrA ops fs w.heap.size L a' w' → (∀ j, A.length ≤ j → L.getD j false = false) → L.toList.count false ≤ fuel → (∀ j, j < A.length → L.getD j false = true) → wpAny P .any ops.toArray Q fuel L a' w' := by
    intro fuel L a' w' k' hmid hfr hlf hc hall
    have slot : ∀ t ∈ fs, ∃ i o, ops[i]? = some o ∧ o.dst = some t ∧ i < A.length := by
      intro t ht
      have := (List.all_eq_true.1 hfs) t ht
      obtain ⟨o, ho, hd⟩ := List.mem_filterMap.1 (List.contains_iff_mem.1 this)
      obtain ⟨i, hi, rfl⟩ := List.getElem_of_mem ho
      exact ⟨i, _, by rw [← hA i hi]; exact List.getElem?_eq_getElem hi, hd, hi⟩
    refine tail_run g4 htail T A.length (Nat.le_refl _) hdrop fuel L a' w' hmid.size (fun j hj _ => hall j hj) hlf hc (hK k' a' w' hmid.le ⟨hmid.tsize, hmid.defers, fun t q hq => ?_⟩ (hs.step hmid.below hmid.agr hmid.sub) (fun t ht => ?_) (fun t ht u hu hne => ?_))
    · rcases hes A.length (Nat.le_refl _) t with ⟨j, o, hj, hoj, hd, hg⟩ | ⟨hno, hg⟩
      · rw [hg] at hq
        cases hq
        exact hmid.done j o t hoj hd (hall j hj)
      · rw [hg, h0] at hq
        refine hmid.rest t (fun j o hoj hd => ?_) q hq
        by_cases hjA : j < A.length
        · exact absurd hd (hno j o hjA hoj)
        · exact hlf j (by omega)
    · obtain ⟨i, o, ho, hd, hi⟩ := slot t ht
      obtain ⟨b, hb1, hb2, _⟩ := hfr.fresh i o t ho hd ht (hall i hi)
      exact ⟨b, hb1, hb2⟩
    · obtain ⟨i, o, ho, hd, hi⟩ := slot t ht
      obtain ⟨j, o', ho', hd', hj⟩ := slot u hu
      refine hfr.apart i j o o' t u ho ho' hd hd' ht hu (fun hij => ?_) (hall i hi) (hall j hj)
      subst hij
      rw [ho] at ho'
      cases ho'
      rw [hd] at hd'
      cases hd'
      exact hne rfl
  have key : ∀ (fuel : Nat) (L : Array Bool) (a' : Act) (w' : World) (k' : PH), Mid n ops e ps w k L a' w' k' → FrA ops fs w.heap.size L a' w' → (∀ j, A.length ≤ j → L.getD j false = false) → L.toList.count false ≤ fuel → wpAny P .any ops.toArray Q fuel L a' w' := by
    intro fuel
    induction fuel with
    | zero =>
      intro L a' w' k' hmid hfr hlf hc
      refine done 0 L a' w' k' hmid hfr hlf hc fun j hj => ?_
      cases hLj : L.getD j false with
      | true => rfl
      | false =>
        have := count_pos (i := j) (by rw [hmid.size]; omega) hLj
        omega
    | succ fuel ih =>
      intro L a' w' k' hmid hfr hlf hc
      by_cases hall : ∀ j, j < A.length → L.getD j false = true
      · exact done _ L a' w' k' hmid hfr hlf hc hall
      refine ⟨fun hr => ?_, fun i hi => ?_⟩
      · exfalso
        apply hall
        have : ∀ m j, j < m → j < A.length → L.getD j false = true := by
          intro m
          induction m with
          | zero => intro j h; omega
          | succ m ihm =>
            intro j hjm hj
            cases hLj : L.getD j false with
            | true => rfl
            | false =>
              have hjl : j < ops.length := by omega
              have : j ∈ Region.ready .any ops.toArray L := ready_mem hmid.size hjl hLj fun ed he hb => by
                have hon := g4 j _ (List.getElem?_eq_getElem hjl) ed he hb
                exact ihm ed.on (by omega) (by omega)
              rw [hr] at this
              cases this
        exact fun j hj => this (j + 1) j (Nat.lt_succ_self j) hj
      · obtain ⟨hil, hLf, hed'⟩ := ready_iff hmid.size hi
        have ho : ops[i]? = some ops[i] := List.getElem?_eq_getElem hil
        have hsz : i < L.size := by rw [hmid.size]; exact hil
        have hiA : i < A.length := by
          rcases Nat.lt_or_ge i A.length with h | h
          · exact h
          · exfalso
            apply hall
            intro j hj
            exact mask_done g4 L hmid.down (i + 1) i (Nat.lt_succ_self i) _ ho hed' j (tailOk_spec htail hil h (by omega))
        have hset := getD_set hsz
        have looks : ∀ t ∈ (ops[i]).looksAt ops.toArray, ∀ q, get (es i) t = some q → q.holds k' (a'.tmps.getD t undef) := by
          intro t ht q hq
          rcases hes i (by omega) t with ⟨j, o, hj, hoj, hd, hg⟩ | ⟨hno, hg⟩
          · rw [hg] at hq
            cases hq
            refine hmid.done j o t hoj hd ?_
            have hp := g3 i j hil (by omega)
            unfold okPair at hp
            simp only [hoj, ho, Option.bind_some, hd] at hp
            have hc1 : (slots ops ops[i]).contains t = true := List.contains_iff_mem.2 ht
            have hji : Nat.blt j i = true := by simpa [Nat.blt_eq] using hj
            simp only [hc1, if_true, hji] at hp
            exact mask_done g4 L hmid.down (i + 1) i (Nat.lt_succ_self i) _ ho hed' j hp
          · rw [hg, h0] at hq
            refine hmid.rest t (fun j o hoj hd => ?_) q hq
            cases hLj : L.getD j false with
            | false => rfl
            | true =>
              exfalso
              have hjl : j < ops.length := (List.getElem?_eq_some_iff.1 hoj).1
              have hji : ¬ j < i := fun hlt => hno j o hlt hoj hd
              have hne : j ≠ i := by rintro rfl; rw [hLf] at hLj; cases hLj
              have hp := g3 i j hil hjl
              unfold okPair at hp
              simp only [hoj, ho, Option.bind_some, hd] at hp
              have hc1 : (slots ops ops[i]).contains t = true := List.contains_iff_mem.2 ht
              have b1 : Nat.blt j i = false := by cases e : Nat.blt j i with | false => rfl | true => exact absurd (by simpa [Nat.blt_eq] using e) hji
              have b2 : Nat.blt i j = true := by rw [Nat.blt_eq]; omega
              simp only [hc1, if_true, b1, b2, Bool.false_eq_true, if_false] at hp
              have := mask_done g4 L hmid.down (j + 1) j (Nat.lt_succ_self j) _ hoj (hmid.down j o hoj hLj) i hp
              rw [hLf] at this
              cases this
        have hloc := (h1 i _ hiA ho).1
        have hcount := count_set_lt hsz hLf hc
        have hlf' : ∀ j, A.length ≤ j → (L.setIfInBounds i true).getD j false = false := fun j hj => by
          rw [hset, if_neg (by omega)]; exact hlf j hj
        have step : ∀ v w'' k'', Below w'.heap.size w' w'' → Agr w'.heap.size k' k'' → Sub k'' w'' → (ps i).holds k'' v → Mid n ops e ps w k (L.setIfInBounds i true) (a'.put (ops[i]).dst v) w'' k'' := by
          intro v w'' k'' hb hag hsub hp
          have hle : Le k' k'' := hag.le hmid.sub
          refine ⟨by simp [hmid.size], (put_size _ _ _).trans hmid.tsize, (put_defers _ _ _).trans hmid.defers, hmid.below.trans (hb.mono hmid.below.size), fun b hbl => (hag b (Nat.lt_of_lt_of_le hbl hmid.below.size)).trans (hmid.agr b hbl), hsub, hmid.le.trans hle, ?_, ?_, ?_⟩
          · intro j o hoj hLj ed he hbd
            rw [hset] at hLj ⊢
            split
            · rfl
            · by_cases hji : j = i
              · subst hji
                rw [ho] at hoj
                cases hoj
                exact hed' ed he hbd
              · rw [if_neg hji] at hLj
                exact hmid.down j o hoj hLj ed he hbd
          · intro j o d hoj hd hLj
            rw [hset] at hLj
            by_cases hji : j = i
            · subst hji
              rw [ho] at hoj
              cases hoj
              rw [hd, put_getD_same (by rw [hmid.tsize]; exact g1 j _ d ho hd)]
              exact hp
            · rw [if_neg hji] at hLj
              have hdd : ∀ d', (ops[i]).dst = some d' → d' ≠ d := fun d' hd' hdd => hji (distinct_spec g2 hoj ho hd (hdd ▸ hd'))
              have hjA : j < A.length := by
                rcases Nat.lt_or_ge j A.length with h | h
                · exact h
                · rw [hlf j h] at hLj; cases hLj
              have hpm := (h1 j o hjA hoj).1.1
              have := PV.holds_mono hpm hle (hmid.done j o d hoj hd hLj)
              cases hx : (ops[i]).dst with
              | none => exact this
              | some d' => rw [put_getD_other (hdd d' hx)]; exact this
          · intro t hno q hq
            have hm2 := hmono t q hq
            have hnt : (ops[i]).dst ≠ some t := fun hd => by
              have := hno i _ ho hd
              rw [hset, if_pos rfl] at this
              cases this
            have := PV.holds_mono hm2 hle (hmid.rest t (fun j o hoj hd => by
              have := hno j o hoj hd
              rw [hset] at this
              split at this
              · cases this
              · exact this) q hq)
            cases hx : (ops[i]).dst with
            | none => exact this
            | some d' => rw [put_getD_other (fun h => hnt (by rw [hx, h]))]; exact this
        have stepF : ∀ v w'', w'.heap.size ≤ w''.heap.size → (∀ d, (ops[i]).dst = some d → d ∈ fs → ∃ b, blkV v = some b ∧ w'.heap.size ≤ b ∧ b < w''.heap.size) → FrA ops fs w.heap.size (L.setIfInBounds i true) (a'.put (ops[i]).dst v) w'' := by
          intro v w'' hsz' hv
          have same : ∀ d, (ops[i]).dst = some d → (a'.put (ops[i]).dst v).tmps.getD d undef = v := fun d hd => by
            rw [hd, put_getD_same (by rw [hmid.tsize]; exact g1 i _ d ho hd)]
          have other : ∀ (j : Nat) (o : Oper) (d : Nat), ops[j]? = some o → o.dst = some d → j ≠ i → (a'.put (ops[i]).dst v).tmps.getD d undef = a'.tmps.getD d undef := fun j o d hoj hd hji => by
            cases hx : (ops[i]).dst with
            | none => rfl
            | some d' => rw [put_getD_other (fun hdd : d' = d => hji (distinct_spec g2 hoj ho hd (by rw [hx, hdd])))]
          refine ⟨fun j o d hoj hd hdf hLj => ?_, fun j1 j2 o1 o2 d1 d2 ho1 ho2 hd1 hd2 hf1 hf2 hne hL1 hL2 => ?_⟩
          · rw [hset] at hLj
            by_cases hji : j = i
            · subst hji
              rw [ho] at hoj
              cases hoj
              rw [same d hd]
              obtain ⟨b, e1, e2, e3⟩ := hv d hd hdf
              exact ⟨b, e1, Nat.le_trans hmid.below.size e2, e3⟩
            · rw [if_neg hji] at hLj
              rw [other j o d hoj hd hji]
              obtain ⟨b, e1, e2, e3⟩ := hfr.fresh j o d hoj hd hdf hLj
              exact ⟨b, e1, e2, Nat.lt_of_lt_of_le e3 hsz'⟩
          · rw [hset] at hL1 hL2
            by_cases hj1 : j1 = i
            · subst hj1
              rw [ho] at ho1
              cases ho1
              have hj2 : j2 ≠ j1 := Ne.symm hne
              rw [if_neg hj2] at hL2
              rw [same d1 hd1, other j2 o2 d2 ho2 hd2 hj2]
              obtain ⟨b, e1, e2, _⟩ := hv d1 hd1 hf1
              obtain ⟨b', e1', _, e3'⟩ := hfr.fresh j2 o2 d2 ho2 hd2 hf2 hL2
              rw [e1, e1']
              simp
              omega
            · rw [if_neg hj1] at hL1
              rw [other j1 o1 d1 ho1 hd1 hj1]
              by_cases hj2 : j2 = i
              · subst hj2
                rw [ho] at ho2
                cases ho2
                rw [same d2 hd2]
                obtain ⟨b, e1, e2, _⟩ := hv d2 hd2 hf2
                obtain ⟨b', e1', _, e3'⟩ := hfr.fresh j1 o1 d1 ho1 hd1 hf1 hL1
                rw [e1, e1']
                simp
                omega
              · rw [if_neg hj2] at hL2
                rw [other j2 o2 d2 ho2 hd2 hj2]
                exact hfr.apart j1 j2 o1 o2 d1 d2 ho1 ho2 hd1 hd2 hf1 hf2 hne hL1 hL2
        have hex := hloc.2 a' w' k' hmid.le hmid.sub hmid.tsize (Nat.le_trans hs.size hmid.below.size) looks
        unfold wpOp
        simp only [List.getElem?_toArray, ho]
        split
        · rename_i hw
          rw [if_pos hw] at hex
          exact .inl (hex _ _ fun v w'' ⟨k'', hb, hag, hsub, hp, hfv⟩ => ih _ _ _ _ (step v w'' k'' hb hag hsub hp) (stepF v w'' hb.size hfv) hlf' hcount)
        · rename_i hw
          rw [if_neg hw] at hex
          exact ih _ _ _ _ (step undef w' k' (Below.refl _ _) (Agr.refl _ _) hmid.sub hex.1) (stepF undef w' (Nat.le_refl _) (fun d hd hm => absurd hm (hex.2 d hd))) hlf' hcount
  exact key _ _ _ _ _ start startF (fun j _ => hf j) (by simp [List.count_replicate])

/-- All slots by their values. -/
def nameP (v : Value) : PV → PV
  | .is u => .is u
  | .such _ => .is v
def nameE (vs : Nat → Value) : Env → Env
  | [] => []
  | (t, p) :: r => (t, nameP (vs t) p) :: nameE vs r
theorem nameE_get (vs : Nat → Value) (t : Nat) : ∀ e : Env, get (nameE vs e) t = (get e t).map (nameP (vs t))
  | [] => rfl
  | (d, p) :: r => by
    by_cases hd : d = t
    · subst hd
      simp only [nameE, get_cons_same, Option.map_some]
    · simp only [nameE, get_cons_other _ _ hd]
      exact nameE_get vs t r
theorem WF.mono {K K' : Env → Prop} {ops : Array Oper} (hm : ∀ e, K e → K' e) : ∀ (l : List Oper) (e : Env), WF P n N ops fs k K l e → WF P n N ops fs k K' l e
  | [], e, h => hm e h
  | o :: r, e, ⟨p, hl, h⟩ => ⟨p, hl, WF.mono hm r _ h⟩
theorem fs_nil {ops : Array Oper} {K : Env → Prop} (h : K e) : WF P n N ops fs k K [] e := h
theorem fs_s {ops : Array Oper} {K : Env → Prop} {r : List Oper} {d : Nat} {v : Value} (hd : o.dst = some d) (hl : Loc P n ops o e k (.is v)) (hn : noneOf fs o = true) (h : WF P n N ops fs k K r ((d, .is v) :: e)) : WF P n N ops fs k K (o :: r) e :=
  ⟨_, .of hl hn, by rw [hd]; exact h⟩
theorem fs_v {ops : Array Oper} {K : Env → Prop} {r : List Oper} {d : Nat} {φ : PH → Value → Prop} (hd : o.dst = some d) (hl : Loc P n ops o e k (.such φ)) (hn : noneOf fs o = true) (h : WF P n N ops fs k K r ((d, .such φ) :: e)) : WF P n N ops fs k K (o :: r) e :=
  ⟨_, .of hl hn, by rw [hd]; exact h⟩
theorem fs_new {ops : Array Oper} {K : Env → Prop} {r : List Oper} {d : Nat} {vf : Nat → Value} {obj : Obj} (hd : o.dst = some d) (hg : wantedE ops e o = some true) (hl : Alc P e k o vf obj) (hv : ∀ b, blkV (vf b) = some b) (h : WF P n N ops fs k K r ((d, .such (New k vf obj)) :: e)) : WF P n N ops fs k K (o :: r) e :=
  ⟨_, .new hg hl hv, by rw [hd]; exact h⟩

theorem fs_newN {ops : Array Oper} {K : Env → Prop} {r : List Oper} {d : Nat} {vf : Nat → Value} {obj : Obj} (hd : o.dst = some d) (hg : wantedE ops e o = some true) (hl : Alc P e k o vf obj) (hv : ∀ b, blkV (vf b) = some b) (h : WF P n N ops fs k K r ((d, .such (NewN N k vf obj)) :: e)) : WF P n N ops fs k K (o :: r) e :=
  ⟨_, .newN hg hl hv, by rw [hd]; exact h⟩
theorem fs_copy {ops : Array Oper} {K : Env → Prop} {r : List Oper} {d t : Nat} {φ : PH → Value → Prop} (hd : o.dst = some d) (hg : wantedE ops e o = some true) (hop : o.op = .assign (.tmp t) ∨ o.op = .move (.tmp t)) (ht : get e t = some (.such φ)) (hm : (PV.such φ).Mono) (hn : noneOf fs o = true) (h : WF P n N ops fs k K r ((d, .such φ) :: e)) : WF P n N ops fs k K (o :: r) e :=
  ⟨_, .copy hg hop ht hm hn, by rw [hd]; exact h⟩

/-- A region that draws, makes new blocks in the slots fs, and whose operations from m on each wait for all before. -/
theorem cg_fresh {id : Nat} {l : List Oper} [hm : Mixed P] (m : Nat) (fs : List Nat) (hok : okAny n l = true) (htail : tailOk m l = true) (hml : Nat.ble m l.length = true) (hfs : (fs.all fun t => ((l.take m).filterMap (·.dst)).contains t) = true) (hdet : det e = true)
    (h : WF P n F.w0.heap.size l.toArray fs k (fun e' => ∀ k' vs, Le k k' → (∀ t p, get e' t = some p → p.holds k' (vs t)) → (∀ t ∈ fs, ∃ b, blkV (vs t) = some b ∧ k b = none ∧ F.w0.heap.size ≤ b) → (∀ t ∈ fs, ∀ u ∈ fs, t ≠ u → blkV (vs t) ≠ blkV (vs u)) → RG P F n l.toArray Q (l.drop m) (nameE vs e') k') (l.take m) e) :
    CG P F n Q (.region id l.toArray true) e k := by
  intro a w ha hs
  have hlen : (l.take m).length = m := by
    have := Nat.le_of_ble_eq_true hml
    simp; omega
  have hsplit : l.take m ++ l.drop m = l := List.take_append_drop m l
  generalize hA : l.take m = A at *
  generalize hT : l.drop m = T at *
  subst hlen
  rw [← hsplit] at hok htail h ⊢
  refine region_fresh (F := F) hm.eq hok htail hfs (fun t q hg => by obtain ⟨v, rfl⟩ := det_get hdet hg; trivial) ha hs (WF.mono (fun e' hK k' a' w' hle hag hst hfr hap => ?_) A e h)
  refine hK k' (fun t => a'.tmps.getD t undef) hle (fun t p hp => hag.get t p hp) (fun t ht => ?_) hap a' w' ⟨hag.size, hag.defers, fun t q hq => ?_⟩ hst
  · obtain ⟨b, h1, h2⟩ := hfr t ht
    exact ⟨b, h1, hs.sub.none h2, Nat.le_trans hs.size h2⟩
  · rw [nameE_get] at hq
    cases hg : get e' t with
    | none => rw [hg] at hq; cases hq
    | some p =>
      rw [hg] at hq
      cases hq
      have := hag.get t p hg
      cases p with
      | is v => exact this
      | such φ => rfl
end
end Go.Wm
