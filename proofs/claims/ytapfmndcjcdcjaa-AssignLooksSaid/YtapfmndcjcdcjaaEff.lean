/-
  A region that draws its order, one of whose operations turns something that the others do not turn, and whose last one, if it is a store, waits for all others: one walk in the text's order serves every order. Conditions: the region's own order, a Bool that the kernel reckons.
-/
import Derived.Test.YtapfmndcjcdcjaaAny
import Derived.Test.YtapfmndcjcdcjaaOps
set_option linter.all false
namespace Go.Wm
open Go.RowKit

/-- As 'Loc', in worlds where I holds besides. -/
def LocI (P : Program) (n : Nat) (ops : Array Oper) (I : PH → World → Prop) (o : Oper) (e : Env) (kr : PH) (p : PV) : Prop :=
  p.Mono ∧ ∀ (a : Act) (w : World) (k : PH), Le kr k → Sub k w → I k w → a.tmps.size = n →
    (∀ t ∈ o.looksAt ops, ∀ q, get e t = some q → q.holds k (a.tmps.getD t undef)) →
    if Region.wanted o (yielded ops a.tmps) then
      Ex P o a w (fun v w' => ∃ k', Below w.heap.size w w' ∧ Agr w.heap.size k k' ∧ Sub k' w' ∧ p.holds k' v)
    else p.holds k undef
theorem LocI.of {P : Program} {n : Nat} {ops : Array Oper} {I : PH → World → Prop} {o : Oper} {e : Env} {kr : PH} {p : PV} (h : Loc P n ops o e kr p) : LocI P n ops I o e kr p :=
  ⟨h.1, fun a w k h1 h2 _ h3 h4 => h.2 a w k h1 h2 h3 h4⟩
/-- The one operation that turns something: from X0 to X1, which is told its value. -/
def EffI (P : Program) (F : Fr) (n : Nat) (ops : Array Oper) (X0 : PH → World → Prop) (X1 : Value → PH → World → Prop) (o : Oper) (e : Env) (kr : PH) (p : PV) : Prop :=
  p.Mono ∧ o.guard = none ∧ ∀ (a : Act) (w : World) (k : PH), Le kr k → St F k w → X0 k w → a.tmps.size = n →
    (∀ t ∈ o.looksAt ops, ∀ q, get e t = some q → q.holds k (a.tmps.getD t undef)) →
    Ex P o a w (fun v w' => ∃ k', Le k k' ∧ St F k' w' ∧ w.heap.size ≤ w'.heap.size ∧ X1 v k' w' ∧ p.holds k' v)

def WE (P : Program) (F : Fr) (n : Nat) (ops : Array Oper) (k : PH) (X0 : PH → World → Prop) (X1 : Value → PH → World → Prop) (K : Nat → Env → Prop) : Nat → Option Nat → List Oper → Env → Prop
  | _, d, [], e => ∃ j, d = some j ∧ K j e
  | i, d, o :: r, e =>
    (∃ p, LocI P n ops X0 o e k p ∧ LocI P n ops (fun k w => ∃ v, X1 v k w) o e k p ∧ WE P F n ops k X0 X1 K (i + 1) d r (set e o.dst p)) ∨
    (d = none ∧ ∃ p, EffI P F n ops X0 X1 o e k p ∧ WE P F n ops k X0 X1 K (i + 1) (some i) r (set e o.dst p))

section
variable {P : Program} {F : Fr} {n : Nat} {ops : Array Oper} {k : PH} {X0 : PH → World → Prop} {X1 : Value → PH → World → Prop} {K : Nat → Env → Prop} {e : Env} {o : Oper} {r : List Oper} {i : Nat} {d : Option Nat}
theorem we_nil {j : Nat} (h : K j e) : WE P F n ops k X0 X1 K i (some j) [] e := ⟨j, rfl, h⟩
theorem we_loc {p : PV} (hl : Loc P n ops o e k p) (h : WE P F n ops k X0 X1 K (i + 1) d r (set e o.dst p)) : WE P F n ops k X0 X1 K i d (o :: r) e := .inl ⟨p, .of hl, .of hl, h⟩
theorem we_two {p : PV} (h0 : LocI P n ops X0 o e k p) (h1 : LocI P n ops (fun k w => ∃ v, X1 v k w) o e k p) (h : WE P F n ops k X0 X1 K (i + 1) d r (set e o.dst p)) : WE P F n ops k X0 X1 K i d (o :: r) e := .inl ⟨p, h0, h1, h⟩
theorem we_eff {p : PV} (he : EffI P F n ops X0 X1 o e k p) (h : WE P F n ops k X0 X1 K (i + 1) (some i) r (set e o.dst p)) : WE P F n ops k X0 X1 K i none (o :: r) e := .inr ⟨rfl, p, he, h⟩
end

/-- What the walk has said of operation i. -/
theorem we_at {P : Program} {F : Fr} {n : Nat} {ops : Array Oper} {k : PH} {X0 : PH → World → Prop} {X1 : Value → PH → World → Prop} {K : Nat → Env → Prop} :
    ∀ (l : List Oper) (i : Nat) (d : Option Nat) (e : Env), WE P F n ops k X0 X1 K i d l e → ∃ (es : Nat → Env) (ps : Nat → PV) (j : Nat), es 0 = e ∧
      (∀ m o, l[m]? = some o → es (m + 1) = set (es m) o.dst (ps m) ∧ ((i + m ≠ j ∨ d = some j) → LocI P n ops X0 o (es m) k (ps m) ∧ LocI P n ops (fun k w => ∃ v, X1 v k w) o (es m) k (ps m)) ∧ (i + m = j → d = none → EffI P F n ops X0 X1 o (es m) k (ps m))) ∧
      K j (es l.length) ∧ (∀ x, d = some x → j = x) ∧ (d = none → i ≤ j ∧ j < i + l.length)
  | [], i, d, e, ⟨j, hd, hK⟩ => ⟨fun _ => e, fun _ => .is undef, j, rfl, fun m o h => by simp at h, hK, fun x hx => by rw [hd] at hx; cases hx; rfl, fun h => by rw [hd] at h; cases h⟩
  | x :: r, i, d, e, .inl ⟨p, h0, h1, h⟩ => by
    obtain ⟨es, ps, j, g0, g1, g2, g3, g4⟩ := we_at r (i + 1) d _ h
    refine ⟨fun m => match m with | 0 => e | m + 1 => es m, fun m => match m with | 0 => p | m + 1 => ps m, j, rfl, fun m o ho => ?_, g2, g3, fun hd => by have := g4 hd; simp; omega⟩
    cases m with
    | zero =>
      simp only [List.getElem?_cons_zero, Option.some.injEq] at ho
      subst ho
      exact ⟨g0, fun _ => ⟨h0, h1⟩, fun hj hd => by have := g4 hd; omega⟩
    | succ m =>
      have := g1 m o (by simpa using ho)
      exact ⟨this.1, fun hj => this.2.1 (by rcases hj with hj | hj; exact .inl (by omega); exact .inr hj), fun hj hd => this.2.2 (by omega) hd⟩
  | x :: r, i, d, e, .inr ⟨hd, p, h0, h⟩ => by
    obtain ⟨es, ps, j, g0, g1, g2, g3, g4⟩ := we_at r (i + 1) (some i) _ h
    have hj := g3 i rfl
    subst hj
    refine ⟨fun m => match m with | 0 => e | m + 1 => es m, fun m => match m with | 0 => p | m + 1 => ps m, j, rfl, fun m o ho => ?_, g2, ?_, fun _ => by simp⟩
    · cases m with
      | zero =>
        simp only [List.getElem?_cons_zero, Option.some.injEq] at ho
        subst ho
        refine ⟨g0, fun hne => ?_, fun _ _ => h0⟩
        rcases hne with hne | hne
        · exact absurd rfl hne
        · rw [hd] at hne
          cases hne
      | succ m =>
        have := g1 m o (by simpa using ho)
        exact ⟨this.1, fun _ => this.2.1 (.inr rfl), fun hj _ => by omega⟩
    · intro x hx
      rw [hd] at hx
      cases hx

structure MidE (F : Fr) (n : Nat) (ops : List Oper) (es0 : Env) (ps : Nat → PV) (k : PH) (X0 : PH → World → Prop) (X1 : Value → PH → World → Prop) (je : Nat) (L : Array Bool) (a : Act) (w : World) (k' : PH) : Prop where
  size : L.size = ops.length
  tsize : a.tmps.size = n
  defers : a.defers = []
  st : St F k' w
  le : Le k k'
  x0 : L.getD je false = false → X0 k' w
  x1 : L.getD je false = true → ∀ o d, ops[je]? = some o → o.dst = some d → X1 (a.tmps.getD d undef) k' w
  down : ∀ i o, ops[i]? = some o → L.getD i false = true → ∀ ed ∈ o.after.toList, Region.binds .any ed = true → L.getD ed.on false = true
  done : ∀ i o d, ops[i]? = some o → o.dst = some d → L.getD i false = true → (ps i).holds k' (a.tmps.getD d undef)
  rest : ∀ t, (∀ i o, ops[i]? = some o → o.dst = some t → L.getD i false = false) → ∀ q, get es0 t = some q → q.holds k' (a.tmps.getD t undef)

/-- The last operation waits for all others. -/
def lastOk (ops : List Oper) : Bool := (List.range (ops.length - 1)).all fun j => ((masks ops []).getD (ops.length - 1) 0).testBit j

theorem region_eff {P : Program} {F : Fr} {n : Nat} {A : List Oper} {last : Oper} {k : PH} {X0 : PH → World → Prop} {X1 : Value → PH → World → Prop} {Q : Exit → Act → World → Prop} {e : Env} {id : Nat} (hm : P.follows .mixedOrders = true) (hok : okAny n (A ++ [last]) = true) (hlast : lastOk (A ++ [last]) = true)
    (hdst : ∀ (o : Oper), o ∈ A → o.dst.isSome = true) (s0 : ∀ k w k' w', Below w.heap.size w w' → Agr w.heap.size k k' → X0 k w → X0 k' w') (s1 : ∀ v k w k' w', Below w.heap.size w w' → Agr w.heap.size k k' → X1 v k w → X1 v k' w')
    (hmono : ∀ t q, get e t = some q → q.Mono) {a : Act} {w : World} (ha : Ag n e k a) (hs : St F k w) (hx : X0 k w)
    (h : WE P F n (A ++ [last]).toArray k X0 X1 (fun j e' => ∀ k' a' w', Le k k' → Ag n e' k' a' → St F k' w' → (∀ o d, (A ++ [last])[j]? = some o → o.dst = some d → X1 (a'.tmps.getD d undef) k' w') → wpList P (A ++ [last]).toArray Q [last] a' w') 0 none A e) :
    (Code.region id (A ++ [last]).toArray true).wp P Q a w := by
  generalize hops : A ++ [last] = ops at *
  have hlen : ops.length = A.length + 1 := by rw [← hops]; simp
  have hA : ∀ m, m < A.length → A[m]? = ops[m]? := fun m hm => by rw [← hops, List.getElem?_append_left hm]
  have hL : ops[A.length]? = some last := by rw [← hops]; simp
  obtain ⟨es, ps, je, h0, h1', hK, _, hje'⟩ := we_at A 0 none e h
  have hje : je < A.length := by have := hje' rfl; omega
  obtain ⟨g1, g2, g3, g4⟩ := okAny_parts hok
  -- the last one has a word of its own, which is never asked
  have h1 : ∀ i o, i < A.length → ops[i]? = some o → es (i + 1) = set (es i) o.dst (ps i) ∧ (i ≠ je → LocI P n ops.toArray X0 o (es i) k (ps i) ∧ LocI P n ops.toArray (fun k w => ∃ v, X1 v k w) o (es i) k (ps i)) ∧ (i = je → EffI P F n ops.toArray X0 X1 o (es i) k (ps i)) := by
    intro i o hi ho
    have := h1' i o (by rw [hA i hi]; exact ho)
    simp only [Nat.zero_add] at this
    exact ⟨this.1, fun hne => this.2.1 (.inl hne), fun he => by first | exact this.2.2 he rfl | exact this.2.2 he trivial⟩
  have hes : ∀ (i : Nat), i ≤ A.length → ∀ t, (∃ j o, j < i ∧ ops[j]? = some o ∧ o.dst = some t ∧ get (es i) t = some (ps j)) ∨ ((∀ j o, j < i → ops[j]? = some o → o.dst ≠ some t) ∧ get (es i) t = get (es 0) t) := by
    intro i hi t
    have gA : distinct (A.filterMap (·.dst)) = true := by
      have h2 := g2
      rw [← hops, List.filterMap_append] at h2
      have : ∀ (p q : List Nat), distinct (p ++ q) = true → distinct p = true := by
        intro p q
        induction p with
        | nil => intro _; rfl
        | cons x p ih =>
          intro h
          simp only [List.cons_append, distinct, Bool.and_eq_true, Bool.not_eq_true'] at h ⊢
          refine ⟨?_, ih h.2⟩
          have h3 := h.1
          cases hc : p.contains x with
          | false => rfl
          | true =>
            rw [List.contains_iff_mem] at hc
            rw [List.contains_iff_mem.2 (List.mem_append_left q hc)] at h3
            cases h3
      exact this _ _ h2
    have := es_get (ops := A) (es := es) (ps := ps) gA (fun i o ho => by
      have hi : i < A.length := (List.getElem?_eq_some_iff.1 ho).1
      exact (h1 i o hi (by rw [← hA i hi]; exact ho)).1) i hi t
    rcases this with ⟨j, o, hj, ho, hd, hg⟩ | ⟨hno, hg⟩
    · exact .inl ⟨j, o, hj, by rw [← hA j (by omega)]; exact ho, hd, hg⟩
    · exact .inr ⟨fun j o hj ho => hno j o hj (by rw [hA j (by omega)]; exact ho), hg⟩
  refine wp_region_any hm ?_
  have hb0 : Below w.heap.size w { w with drawn := w.drawn + 1 } := below_drawn w _
  have start : MidE F n ops e ps k X0 X1 je (Array.replicate ops.toArray.size false) a { w with drawn := w.drawn + 1 } k := by
    have hf : ∀ i, (Array.replicate ops.toArray.size false).getD i false = false := fun i => by
      rw [Array.getD_eq_getD_getElem?, Array.getElem?_replicate]
      split <;> rfl
    refine ⟨by simp, ha.size, ha.defers, hs.below hb0, Le.refl _, fun _ => s0 _ _ _ _ hb0 (Agr.refl _ _) hx, fun hl => ?_, fun i o ho hl => ?_, fun i o d ho hd hl => ?_, fun t _ q hq => ha.get t q hq⟩
    · rw [hf] at hl; cases hl
    · rw [hf] at hl; cases hl
    · rw [hf] at hl; cases hl
  -- all are carried out
  have over : ∀ fuel L a' w', L.size = ops.length → (∀ i, i < ops.length → L.getD i false = true) → Q .normal a' w' → wpAny P .any ops.toArray Q fuel L a' w' := by
    intro fuel L a' w' hsz hall hQ
    have hr : Region.ready .any ops.toArray L = [] := by
      unfold Region.ready
      rw [List.filter_eq_nil_iff]
      intro i hi
      have hi' : i < ops.length := by simpa using hi
      have h2 := hall i hi'
      have : L.getD i true = true := by
        rw [Array.getD_eq_getD_getElem?] at h2 ⊢
        have : i < L.size := by omega
        rw [Array.getElem?_eq_getElem this] at h2 ⊢
        exact h2
      simp [this]
    cases fuel with
    | zero => exact ⟨hr, hQ⟩
    | succ f => exact ⟨fun _ => hQ, fun i hi => by rw [hr] at hi; cases hi⟩
  have key : ∀ (fuel : Nat) (L : Array Bool) (a' : Act) (w' : World) (k' : PH), MidE F n ops e ps k X0 X1 je L a' w' k' → L.getD A.length false = false → (L.toList.count false ≤ fuel) → wpAny P .any ops.toArray Q fuel L a' w' := by
    intro fuel
    induction fuel with
    | zero =>
      intro L a' w' k' hmid hlf hc
      exfalso
      have hsz : A.length < L.size := by rw [hmid.size]; omega
      have : (false : Bool) ∈ L.toList := by
        rw [Array.getD_eq_getD_getElem?, Array.getElem?_eq_getElem hsz] at hlf
        have : L[A.length] = false := by simpa using hlf
        rw [← this]
        exact Array.mem_toList_iff.2 (Array.getElem_mem hsz)
      have := List.count_pos_iff.2 this
      omega
    | succ fuel ih =>
      intro L a' w' k' hmid hlf hc
      have notnil : Region.ready .any ops.toArray L ≠ [] := by
        intro hr
        have all : ∀ m i, i < m → i < ops.length → L.getD i false = true := by
          intro m
          induction m with
          | zero => intro i h; omega
          | succ m ihm =>
            intro i him hi
            cases hLi : L.getD i false with
            | true => rfl
            | false =>
              exfalso
              have ho : ops[i]? = some ops[i] := List.getElem?_eq_getElem hi
              have hsz : i < L.size := by rw [hmid.size]; exact hi
              have hLt : L.getD i true = false := by
                rw [Array.getD_eq_getD_getElem?, Array.getElem?_eq_getElem hsz] at hLi ⊢
                exact hLi
              have : i ∈ Region.ready .any ops.toArray L := by
                unfold Region.ready
                refine List.mem_filter.2 ⟨by simpa using hi, ?_⟩
                simp only [hLt, List.getElem?_toArray, ho, Option.map_some, Option.getD_some, Bool.not_false, Bool.true_and]
                rw [← Array.all_toList, List.all_eq_true]
                intro ed he
                by_cases hb : Region.binds .any ed = true
                · have hon := g4 i _ ho ed he hb
                  rw [ihm ed.on (by omega) (by omega)]
                  simp
                · simp [hb]
              rw [hr] at this
              cases this
        have := all _ A.length (Nat.lt_succ_self _) (by omega)
        rw [hlf] at this
        cases this
      refine ⟨fun hr => absurd hr notnil, fun i hi => ?_⟩
      unfold Region.ready at hi
      obtain ⟨hi1, hi2⟩ := List.mem_filter.1 hi
      have hil : i < ops.length := by simpa using hi1
      have ho : ops[i]? = some ops[i] := List.getElem?_eq_getElem hil
      have hsz : i < L.size := by rw [hmid.size]; exact hil
      simp only [List.getElem?_toArray, ho, Option.map_some, Option.getD_some, Bool.and_eq_true, Bool.not_eq_true'] at hi2
      obtain ⟨hLi, hed⟩ := hi2
      rw [← Array.all_toList, List.all_eq_true] at hed
      have hed' : ∀ ed ∈ (ops[i]).after.toList, Region.binds .any ed = true → L.getD ed.on false = true := fun ed he hb => by
        have := hed ed he
        rw [hb] at this
        simpa using this
      have hLf : L.getD i false = false := by
        rw [Array.getD_eq_getD_getElem?, Array.getElem?_eq_getElem hsz] at hLi ⊢
        exact hLi
      have hset : ∀ j, (L.setIfInBounds i true).getD j false = if j = i then true else L.getD j false := by
        intro j
        rw [Array.getD_eq_getD_getElem?, Array.getD_eq_getD_getElem?, Array.getElem?_setIfInBounds]
        by_cases hji : i = j
        · subst hji; simp [hsz]
        · simp [hji, Ne.symm hji]
      by_cases hiA : i = A.length
      · -- the last one
        subst hiA
        have hlo : ops[A.length] = last := by rw [hL] at ho; exact (Option.some.inj ho).symm
        have all : ∀ j, j < A.length → L.getD j false = true := by
          intro j hj
          refine mask_done g4 L hmid.down (A.length + 1) A.length (Nat.lt_succ_self _) _ ho hed' j ?_
          unfold lastOk at hlast
          rw [List.all_eq_true] at hlast
          have := hlast j (List.mem_range.2 (by omega))
          rw [hlen] at this
          simpa using this
        have hx1 := hmid.x1 (all je hje)
        have hfin := hK k' a' w' hmid.le ⟨hmid.tsize, hmid.defers, fun t q hq => ?_⟩ hmid.st hx1
        · unfold wpOp
          simp only [List.getElem?_toArray, ho]
          unfold wpList at hfin
          rw [hlo]
          have hov : ∀ a'' w'', Q .normal a'' w'' → wpAny P .any ops.toArray Q fuel (L.setIfInBounds A.length true) a'' w'' := fun a'' w'' hQ =>
            over _ _ _ _ (by simp [hmid.size]) (fun j hj => by
              rw [hset]
              split
              · rfl
              · exact all j (by omega)) hQ
          split
          · rename_i hw
            rw [if_pos hw] at hfin
            rcases hfin with hfin | hfin
            · exact .inl (Oper.wp_mono (fun a'' w'' hq => hov a'' w'' hq) hfin)
            · exact .inr hfin
          · rename_i hw
            rw [if_neg hw] at hfin
            exact hov _ _ hfin
        · rcases hes A.length (Nat.le_refl _) t with ⟨j, o, hj, hoj, hd, hg⟩ | ⟨hno, hg⟩
          · rw [hg] at hq
            cases hq
            exact hmid.done j o t hoj hd (all j hj)
          · rw [hg, h0] at hq
            refine hmid.rest t (fun j o hoj hd => ?_) q hq
            by_cases hjA : j < A.length
            · exact absurd hd (hno j o hjA hoj)
            · have hjl : j < ops.length := (List.getElem?_eq_some_iff.1 hoj).1
              have : j = A.length := by omega
              subst this
              exact hlf
      · have hiA' : i < A.length := by omega
        have looks : ∀ t ∈ (ops[i]).looksAt ops.toArray, ∀ q, get (es i) t = some q → q.holds k' (a'.tmps.getD t undef) := by
          intro t ht q hq
          rcases hes i (by omega) t with ⟨j, o, hj, hoj, hd, hg⟩ | ⟨hno, hg⟩
          · rw [hg] at hq
            cases hq
            refine hmid.done j o t hoj hd ?_
            have hp := g3 i j hil (by omega)
            unfold okPair at hp
            simp only [hoj, ho, Option.bind_some, hd] at hp
            have hc1 : (slots ops ops[i]).contains t = true := List.contains_iff_mem.2 ht
            have hji : Nat.blt j i = true := by simpa [Nat.blt_eq] using hj
            simp only [hc1, if_true, hji] at hp
            exact mask_done g4 L hmid.down (i + 1) i (Nat.lt_succ_self i) _ ho hed' j hp
          · rw [hg, h0] at hq
            refine hmid.rest t (fun j o hoj hd => ?_) q hq
            cases hLj : L.getD j false with
            | false => rfl
            | true =>
              exfalso
              have hjl : j < ops.length := (List.getElem?_eq_some_iff.1 hoj).1
              have hji : ¬ j < i := fun hlt => hno j o hlt hoj hd
              have hne : j ≠ i := by rintro rfl; rw [hLf] at hLj; cases hLj
              have hp := g3 i j hil hjl
              unfold okPair at hp
              simp only [hoj, ho, Option.bind_some, hd] at hp
              have hc1 : (slots ops ops[i]).contains t = true := List.contains_iff_mem.2 ht
              have b1 : Nat.blt j i = false := by cases e : Nat.blt j i with | false => rfl | true => exact absurd (by simpa [Nat.blt_eq] using e) hji
              have b2 : Nat.blt i j = true := by rw [Nat.blt_eq]; omega
              simp only [hc1, if_true, b1, b2, Bool.false_eq_true, if_false] at hp
              have := mask_done g4 L hmid.down (j + 1) j (Nat.lt_succ_self j) _ hoj (hmid.down j o hoj hLj) i hp
              rw [hLf] at this
              cases this
        have hcount : (L.setIfInBounds i true).toList.count false ≤ fuel := by
          have h3 : (L.setIfInBounds i true).toList = L.toList.set i true := by simp
          rw [h3]
          have h4 : L.toList[i]? = some false := by
            rw [Array.getD_eq_getD_getElem?, Array.getElem?_eq_getElem hsz] at hLf
            simp [hsz]
            simpa using hLf
          have h5 : i < L.toList.length := by simpa using hsz
          have h6 := List.count_set (a := true) (b := false) (l := L.toList) (i := i) (h := h5)
          rw [h6]
          have h7 : L.toList[i] = false := by
            rw [List.getElem?_eq_getElem h5] at h4
            exact Option.some.inj h4
          rw [h7]
          simp
          have : 0 < L.toList.count false := List.count_pos_iff.2 (List.mem_of_getElem? h4)
          simp at hc
          omega
        have hlf' : (L.setIfInBounds i true).getD A.length false = false := by
          rw [hset, if_neg (by omega)]; exact hlf
        have step : ∀ v w'' k'', St F k'' w'' → Le k' k'' → (ps i).holds k'' v → ((L.setIfInBounds i true).getD je false = false → X0 k'' w'') → ((L.setIfInBounds i true).getD je false = true → ∀ o d, ops[je]? = some o → o.dst = some d → X1 ((a'.put (ops[i]).dst v).tmps.getD d undef) k'' w'') →
            MidE F n ops e ps k X0 X1 je (L.setIfInBounds i true) (a'.put (ops[i]).dst v) w'' k'' := by
          intro v w'' k'' hst hle hp hx0 hx1
          refine ⟨by simp [hmid.size], (put_size _ _ _).trans hmid.tsize, (put_defers _ _ _).trans hmid.defers, hst, hmid.le.trans hle, hx0, hx1, ?_, ?_, ?_⟩
          · intro j o hoj hLj ed he hbd
            rw [hset] at hLj ⊢
            split
            · rfl
            · by_cases hji : j = i
              · subst hji
                rw [ho] at hoj
                cases hoj
                exact hed' ed he hbd
              · rw [if_neg hji] at hLj
                exact hmid.down j o hoj hLj ed he hbd
          · intro j o d hoj hd hLj
            rw [hset] at hLj
            by_cases hji : j = i
            · subst hji
              rw [ho] at hoj
              cases hoj
              rw [hd, put_getD_same (by rw [hmid.tsize]; exact g1 j _ d ho hd)]
              exact hp
            · rw [if_neg hji] at hLj
              have hdd : ∀ d', (ops[i]).dst = some d' → d' ≠ d := fun d' hd' hdd => hji (distinct_spec g2 hoj ho hd (hdd ▸ hd'))
              have hjA : j < A.length := by
                have hjl : j < ops.length := (List.getElem?_eq_some_iff.1 hoj).1
                rcases Nat.lt_or_ge j A.length with h | h
                · exact h
                · have : j = A.length := by omega
                  subst this
                  rw [hlf] at hLj
                  cases hLj
              have hpm : (ps j).Mono := by
                have := h1 j o hjA hoj
                by_cases hjj : j = je
                · exact (this.2.2 hjj).1
                · exact (this.2.1 hjj).1.1
              have := PV.holds_mono hpm hle (hmid.done j o d hoj hd hLj)
              cases hx : (ops[i]).dst with
              | none => exact this
              | some d' => rw [put_getD_other (hdd d' hx)]; exact this
          · intro t hno q hq
            have hm2 := hmono t q hq
            have hnt : (ops[i]).dst ≠ some t := fun hd => by
              have := hno i _ ho hd
              rw [hset, if_pos rfl] at this
              cases this
            have := PV.holds_mono hm2 hle (hmid.rest t (fun j o hoj hd => by
              have := hno j o hoj hd
              rw [hset] at this
              split at this
              · cases this
              · exact this) q hq)
            cases hx : (ops[i]).dst with
            | none => exact this
            | some d' => rw [put_getD_other (fun h => hnt (by rw [hx, h]))]; exact this
        unfold wpOp
        simp only [List.getElem?_toArray, ho]
        by_cases hie : i = je
        · -- the effect
          subst hie
          have heff := (h1 i _ hiA' ho).2.2 rfl
          have hx0 := hmid.x0 hLf
          have hex := heff.2.2 a' w' k' hmid.le hmid.st hx0 hmid.tsize looks
          rw [if_pos (by simp [Region.wanted, heff.2.1])]
          refine .inl (hex _ _ fun v w'' ⟨k'', hle, hst, hszl, hx1, hp⟩ => ih _ _ _ _ (step v w'' k'' hst hle hp (fun h => by rw [hset, if_pos rfl] at h; cases h) (fun _ o d ho' hd => ?_)) hlf' hcount)
          rw [ho] at ho'
          cases ho'
          rw [hd, put_getD_same (by rw [hmid.tsize]; exact g1 i _ d ho hd)]
          exact hx1
        · have hloc := (h1 i _ hiA' ho).2.1 hie
          have hne : (L.setIfInBounds i true).getD je false = L.getD je false := by rw [hset, if_neg (Ne.symm hie)]
          have put_je : ∀ v o d, ops[je]? = some o → o.dst = some d → (a'.put (ops[i]).dst v).tmps.getD d undef = a'.tmps.getD d undef := by
            intro v o d hoj hd
            cases hx : (ops[i]).dst with
            | none => rfl
            | some d' =>
              have : d' ≠ d := fun hdd => hie (distinct_spec g2 ho hoj (hdd ▸ hx) hd)
              rw [put_getD_other this]
          have go : ∀ v w'' k'', Below w'.heap.size w' w'' → Agr w'.heap.size k' k'' → Sub k'' w'' → (ps i).holds k'' v → wpAny P .any ops.toArray Q fuel (L.setIfInBounds i true) (a'.put (ops[i]).dst v) w'' := by
            intro v w'' k'' hb hag hsub hp
            refine ih _ _ _ _ (step v w'' k'' (hmid.st.step hb hag hsub) (hag.le hmid.st.sub) hp (fun h => s0 _ _ _ _ hb hag (hmid.x0 (by rw [← hne]; exact h))) (fun h o d hoj hd => ?_)) hlf' hcount
            rw [put_je v o d hoj hd]
            exact s1 _ _ _ _ _ hb hag (hmid.x1 (by rw [← hne]; exact h) o d hoj hd)
          have hex : if Region.wanted ops[i] (yielded ops.toArray a'.tmps) then Ex P ops[i] a' w' (fun v w'' => ∃ k'', Below w'.heap.size w' w'' ∧ Agr w'.heap.size k' k'' ∧ Sub k'' w'' ∧ (ps i).holds k'' v) else (ps i).holds k' undef := by
            cases hLje : L.getD je false with
            | false => exact hloc.1.2 a' w' k' hmid.le hmid.st.sub (hmid.x0 hLje) hmid.tsize looks
            | true =>
              have hoj : ops[je]? = some ops[je] := List.getElem?_eq_getElem (by omega)
              have hdj := hdst ops[je] (by rw [← hA je hje] at hoj; exact List.mem_of_getElem? hoj)
              obtain ⟨d, hd⟩ := Option.isSome_iff_exists.1 hdj
              exact hloc.2.2 a' w' k' hmid.le hmid.st.sub ⟨_, hmid.x1 hLje _ d hoj hd⟩ hmid.tsize looks
          split
          · rename_i hw
            rw [if_pos hw] at hex
            exact .inl (hex _ _ fun v w'' ⟨k'', hb, hag, hsub, hp⟩ => go v w'' k'' hb hag hsub hp)
          · rename_i hw
            rw [if_neg hw] at hex
            exact go undef w' k' (Below.refl _ _) (Agr.refl _ _) hmid.st.sub hex
  refine key _ _ _ _ _ start ?_ ?_
  · rw [Array.getD_eq_getD_getElem?, Array.getElem?_replicate]
    split <;> rfl
  · simp [List.count_replicate]
end Go.Wm
