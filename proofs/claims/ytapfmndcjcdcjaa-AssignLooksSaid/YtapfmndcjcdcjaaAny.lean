/-
  One walk in the text's order serves a region whatever order the tape picks, if no operation turns what was there before: each operation is taken by itself ('Loc'). Conditions: the region's own order, a Bool that the kernel reckons ('okAny').
-/
import Derived.Test.YtapfmndcjcdcjaaCore
set_option linter.all false
namespace Go.Wm
open Go.RowKit

/-- The walk in the text's order. -/
def WA (P : Program) (n : Nat) (ops : Array Oper) (k : PH) (K : Env → Prop) : List Oper → Env → Prop
  | [], e => K e
  | o :: r, e => ∃ p, Loc P n ops o e k p ∧ WA P n ops k K r (set e o.dst p)

theorem wa_nil {P : Program} {n : Nat} {ops : Array Oper} {k : PH} {K : Env → Prop} {e : Env} (h : K e) : WA P n ops k K [] e := h
theorem wa_step {P : Program} {n : Nat} {ops : Array Oper} {k : PH} {K : Env → Prop} {e : Env} {o : Oper} {r : List Oper} {p : PV} (hl : Loc P n ops o e k p) (h : WA P n ops k K r (set e o.dst p)) : WA P n ops k K (o :: r) e := ⟨p, hl, h⟩

/-! ### the order -/
def maskOf (o : Oper) (acc : List Nat) : Nat :=
  o.after.toList.foldl (fun s ed => if Region.binds .any ed then s ||| (2 ^ ed.on ||| acc.getD ed.on 0) else s) 0
def masks : List Oper → List Nat → List Nat
  | [], acc => acc
  | o :: r, acc => masks r (acc ++ [maskOf o acc])
def slots (ops : List Oper) (o : Oper) : List Nat := o.looksAt ops.toArray
def okPair (ms : List Nat) (ops : List Oper) (i j : Nat) : Bool :=
  match (ops[j]?).bind (·.dst), ops[i]? with
  | some d, some o => if (slots ops o).contains d then (if Nat.blt j i then (ms.getD i 0).testBit j else if Nat.blt i j then (ms.getD j 0).testBit i else true) else true
  | _, _ => true
def distinct : List Nat → Bool
  | [] => true
  | d :: r => !r.contains d && distinct r
def okAny (n : Nat) (ops : List Oper) : Bool :=
  let ms := masks ops []
  (ops.all fun o => match o.dst with | some d => Nat.blt d n | none => true) &&
  distinct (ops.filterMap (·.dst)) &&
  ((List.range ops.length).all fun i => (List.range ops.length).all fun j => okPair ms ops i j) &&
  (ops.zipIdx.all fun (o, i) => o.after.toList.all fun ed => !Region.binds .any ed || Nat.blt ed.on i)

theorem foldl_or_testBit (f : Edge → Nat) (b : Edge → Bool) : ∀ (l : List Edge) (s j : Nat), (l.foldl (fun s ed => if b ed then s ||| f ed else s) s).testBit j = true → s.testBit j = true ∨ ∃ ed ∈ l, b ed = true ∧ (f ed).testBit j = true
  | [], s, j, h => .inl h
  | x :: l, s, j, h => by
    rw [List.foldl_cons] at h
    rcases foldl_or_testBit f b l _ j h with h | ⟨ed, h1, h2, h3⟩
    · by_cases hb : b x = true
      · simp only [hb, if_true, Nat.testBit_or, Bool.or_eq_true] at h
        rcases h with h | h
        · exact .inl h
        · exact .inr ⟨x, by simp, hb, h⟩
      · simp only [hb] at h
        exact .inl h
    · exact .inr ⟨ed, by simp [h1], h2, h3⟩
theorem masks_prefix : ∀ (l : List Oper) (acc : List Nat) (i : Nat), i < acc.length → (masks l acc)[i]? = acc[i]?
  | [], acc, i, h => rfl
  | o :: r, acc, i, h => by
    rw [masks, masks_prefix r _ i (by simp; omega), List.getElem?_append_left h]
theorem masks_at : ∀ (l : List Oper) (acc : List Nat) (i : Nat) (o : Oper), l[i]? = some o → ∃ acc', (masks l acc)[acc.length + i]? = some (maskOf o acc') ∧ acc'.length = acc.length + i ∧ ∀ j, j < acc'.length → (masks l acc)[j]? = acc'[j]?
  | [], acc, i, o, h => by simp at h
  | x :: r, acc, 0, o, h => by
    simp only [List.getElem?_cons_zero, Option.some.injEq] at h
    subst h
    refine ⟨acc, ?_, by simp, fun j hj => ?_⟩
    · rw [masks, masks_prefix r _ _ (by simp)]
      simp
    · rw [masks, masks_prefix r _ _ (by simp; omega), List.getElem?_append_left hj]
  | x :: r, acc, i + 1, o, h => by
    obtain ⟨acc', h1, h2, h3⟩ := masks_at r (acc ++ [maskOf x acc]) i o (by simpa using h)
    refine ⟨acc', ?_, by simp at h2; omega, fun j hj => ?_⟩
    · rw [masks]
      simpa [Nat.add_assoc, Nat.add_comm 1 i] using h1
    · rw [masks]
      exact h3 j hj
/-- A bit of an operation's mask: an edge to it, or to one that has the bit. -/
theorem mask_bit {l : List Oper} {i j : Nat} {o : Oper} (ho : l[i]? = some o) (h : ((masks l []).getD i 0).testBit j = true) (hlt : ∀ ed ∈ o.after.toList, Region.binds .any ed = true → ed.on < i) :
    ∃ ed ∈ o.after.toList, Region.binds .any ed = true ∧ (ed.on = j ∨ ((masks l []).getD ed.on 0).testBit j = true) := by
  obtain ⟨acc', h1, h2, h3⟩ := masks_at l [] i o ho
  simp only [List.length_nil, Nat.zero_add] at h1 h2
  have h4 : (masks l []).getD i 0 = maskOf o acc' := by rw [List.getD_eq_getElem?_getD, h1]; rfl
  rw [h4] at h
  unfold maskOf at h
  rcases foldl_or_testBit (fun ed => 2 ^ ed.on ||| acc'.getD ed.on 0) (fun ed => Region.binds .any ed) _ _ _ h with h | ⟨ed, he, hb, h⟩
  · simp at h
  · refine ⟨ed, he, hb, ?_⟩
    simp only [Nat.testBit_or, Bool.or_eq_true] at h
    rcases h with h | h
    · left
      rw [Nat.testBit_two_pow] at h
      simpa using h
    · right
      have hlt' := hlt ed he hb
      rw [List.getD_eq_getElem?_getD, h3 ed.on (by omega), ← List.getD_eq_getElem?_getD]
      exact h

section
variable {P : Program} {n : Nat} {ops : List Oper} {k : PH}

/-- What the walk in the text's order has said of operation i: the environment ahead of it, and its own word. -/
theorem wa_at {K : Env → Prop} : ∀ (l : List Oper) (e : Env), WA P n ops.toArray k K l e → ∃ (es : Nat → Env) (ps : Nat → PV), es 0 = e ∧ (∀ i o, l[i]? = some o → Loc P n ops.toArray o (es i) k (ps i) ∧ es (i + 1) = set (es i) o.dst (ps i)) ∧ K (es l.length)
  | [], e, h => ⟨fun _ => e, fun _ => .is undef, rfl, fun i o h => by simp at h, h⟩
  | x :: r, e, ⟨p, hl, h⟩ => by
    obtain ⟨es, ps, h0, h1, h2⟩ := wa_at r _ h
    refine ⟨fun i => match i with | 0 => e | i + 1 => es i, fun i => match i with | 0 => p | i + 1 => ps i, rfl, fun i o ho => ?_, h2⟩
    cases i with
    | zero =>
      simp only [List.getElem?_cons_zero, Option.some.injEq] at ho
      subst ho
      exact ⟨hl, h0⟩
    | succ i => exact h1 i o (by simpa using ho)

theorem distinct_spec {l : List Oper} (h : distinct (l.filterMap (·.dst)) = true) {i j : Nat} {oi oj : Oper} {d : Nat} (hi : l[i]? = some oi) (hj : l[j]? = some oj) (hdi : oi.dst = some d) (hdj : oj.dst = some d) : i = j := by
  induction l generalizing i j with
  | nil => simp at hi
  | cons x r ih =>
    have mem : ∀ (j : Nat) (o : Oper), r[j]? = some o → o.dst = some d → d ∈ r.filterMap (·.dst) := fun j o ho hd => List.mem_filterMap.2 ⟨o, List.mem_of_getElem? ho, hd⟩
    have hr : distinct (r.filterMap (·.dst)) = true := by
      cases hx : x.dst with
      | none => simpa [List.filterMap_cons, hx] using h
      | some dx =>
        simp only [List.filterMap_cons, hx, distinct, Bool.and_eq_true] at h
        exact h.2
    have hn : x.dst = some d → d ∉ r.filterMap (·.dst) := fun hx => by
      simp only [List.filterMap_cons, hx, distinct, Bool.and_eq_true] at h
      have := h.1
      intro hm
      rw [List.contains_iff_mem.2 hm] at this
      cases this
    cases i with
    | zero =>
      simp only [List.getElem?_cons_zero, Option.some.injEq] at hi
      subst hi
      cases j with
      | zero => rfl
      | succ j => exact absurd (mem j oj (by simpa using hj) hdj) (hn hdi)
    | succ i =>
      cases j with
      | zero =>
        simp only [List.getElem?_cons_zero, Option.some.injEq] at hj
        subst hj
        exact absurd (mem i oi (by simpa using hi) hdi) (hn hdj)
      | succ j => exact congrArg (· + 1) (ih hr (by simpa using hi) (by simpa using hj))

/-- The environment ahead of operation i says of slot t: what the one operation ahead of i that writes t says, or what was known at first. -/
theorem es_get {es : Nat → Env} {ps : Nat → PV} (hd : distinct (ops.filterMap (·.dst)) = true) (hes : ∀ i o, ops[i]? = some o → es (i + 1) = set (es i) o.dst (ps i)) :
    ∀ (i : Nat), i ≤ ops.length → ∀ t, (∃ j o, j < i ∧ ops[j]? = some o ∧ o.dst = some t ∧ get (es i) t = some (ps j)) ∨ ((∀ j o, j < i → ops[j]? = some o → o.dst ≠ some t) ∧ get (es i) t = get (es 0) t)
  | 0, _, t => .inr ⟨fun j o h => by omega, rfl⟩
  | i + 1, hi, t => by
    have hlt : i < ops.length := by omega
    have ho : ops[i]? = some ops[i] := List.getElem?_eq_getElem hlt
    rw [hes i _ ho]
    by_cases hdt : (ops[i]).dst = some t
    · left
      refine ⟨i, _, by omega, ho, hdt, ?_⟩
      rw [hdt]
      exact get_cons_same _ _ _
    · have hg : get (set (es i) (ops[i]).dst (ps i)) t = get (es i) t := by
        cases hx : (ops[i]).dst with
        | none => rfl
        | some d => exact get_cons_other _ _ (fun h => hdt (by rw [hx, h]))
      rcases es_get hd hes i (by omega) t with ⟨j, o, h1, h2, h3, h4⟩ | ⟨h1, h2⟩
      · exact .inl ⟨j, o, by omega, h2, h3, hg.trans h4⟩
      · refine .inr ⟨fun j o hj hoj => ?_, hg.trans h2⟩
        by_cases hji : j = i
        · subst hji
          rw [ho] at hoj
          cases hoj
          exact hdt
        · exact h1 j o (by omega) hoj

theorem okAny_parts (h : okAny n ops = true) : (∀ (i : Nat) (o : Oper) (d : Nat), ops[i]? = some o → o.dst = some d → d < n) ∧ distinct (ops.filterMap (·.dst)) = true ∧ (∀ i j, i < ops.length → j < ops.length → okPair (masks ops []) ops i j = true) ∧
    (∀ (i : Nat) (o : Oper), ops[i]? = some o → ∀ ed ∈ o.after.toList, Region.binds .any ed = true → ed.on < i) := by
  simp only [okAny, Bool.and_eq_true, List.all_eq_true] at h
  obtain ⟨⟨⟨h1, h2⟩, h3⟩, h4⟩ := h
  refine ⟨fun i o d ho hd => ?_, h2, fun i j hi hj => h3 i (List.mem_range.2 hi) j (List.mem_range.2 hj), fun i o ho ed he hb => ?_⟩
  · have := h1 o (List.mem_of_getElem? ho)
    simpa [hd, Nat.blt_eq] using this
  · have := h4 (o, i) (List.mk_mem_zipIdx_iff_getElem?.2 ho)
    have := this ed he
    rw [hb] at this
    simpa [Nat.blt_eq] using this

/-- Once an operation's edges are carried out, so is all that they hang on. -/
theorem mask_done (hlt : ∀ i o, ops[i]? = some o → ∀ ed ∈ o.after.toList, Region.binds .any ed = true → ed.on < i) (L : Array Bool) (hdown : ∀ i o, ops[i]? = some o → L.getD i false = true → ∀ ed ∈ o.after.toList, Region.binds .any ed = true → L.getD ed.on false = true) :
    ∀ (m i : Nat), i < m → ∀ (o : Oper), ops[i]? = some o → (∀ ed ∈ o.after.toList, Region.binds .any ed = true → L.getD ed.on false = true) → ∀ j, ((masks ops []).getD i 0).testBit j = true → L.getD j false = true
  | 0, i, h, _, _, _, _, _ => by omega
  | m + 1, i, h, o, ho, hed, j, hb => by
    obtain ⟨ed, he, hbd, hj⟩ := mask_bit ho hb (hlt i o ho)
    rcases hj with hj | hj
    · rw [← hj]; exact hed ed he hbd
    · have hon := hlt i o ho ed he hbd
      have hi : i < ops.length := (List.getElem?_eq_some_iff.1 ho).1
      have ho' : ops[ed.on]? = some ops[ed.on] := List.getElem?_eq_getElem (by omega)
      exact mask_done hlt L hdown m ed.on (by omega) _ ho' (hdown _ _ ho' (hed ed he hbd)) j hj

/-- What holds in the middle of a region: some operations ('L') are carried out. -/
structure Mid (n : Nat) (ops : List Oper) (es0 : Env) (ps : Nat → PV) (w0 : World) (k : PH) (L : Array Bool) (a : Act) (w : World) (k' : PH) : Prop where
  size : L.size = ops.length
  tsize : a.tmps.size = n
  defers : a.defers = []
  below : Below w0.heap.size w0 w
  agr : Agr w0.heap.size k k'
  sub : Sub k' w
  le : Le k k'
  down : ∀ i o, ops[i]? = some o → L.getD i false = true → ∀ ed ∈ o.after.toList, Region.binds .any ed = true → L.getD ed.on false = true
  done : ∀ i o d, ops[i]? = some o → o.dst = some d → L.getD i false = true → (ps i).holds k' (a.tmps.getD d undef)
  rest : ∀ t, (∀ i o, ops[i]? = some o → o.dst = some t → L.getD i false = false) → ∀ q, get es0 t = some q → q.holds k' (a.tmps.getD t undef)

theorem region_any {F : Fr} {Q : Exit → Act → World → Prop} {e : Env} {id : Nat} (hm : P.follows .mixedOrders = true) (hok : okAny n ops = true) (hmono : ∀ t q, get e t = some q → q.Mono)
    (h : WA P n ops.toArray k (fun e' => ∀ k', Le k k' → EG F n (Q .normal) e' k') ops e) : CG P F n Q (.region id ops.toArray true) e k := by
  intro a w ha hs
  obtain ⟨es, ps, h0, h1, hK⟩ := wa_at ops e h
  obtain ⟨g1, g2, g3, g4⟩ := okAny_parts hok
  have hes := es_get g2 (fun i o ho => (h1 i o ho).2)
  refine wp_region_any hm ?_
  have hb0 : Below w.heap.size w { w with drawn := w.drawn + 1 } := below_drawn w _
  have start : Mid n ops e ps w k (Array.replicate ops.toArray.size false) a { w with drawn := w.drawn + 1 } k := by
    refine ⟨by simp, ha.size, ha.defers, hb0, Agr.refl _ _, hs.sub.below hb0, Le.refl _, fun i o ho hl => ?_, fun i o d ho hd hl => ?_, fun t _ q hq => ha.get t q hq⟩
    · simp [Array.getD_eq_getD_getElem?, Array.getElem?_replicate] at hl
      split at hl <;> simp_all
    · simp [Array.getD_eq_getD_getElem?, Array.getElem?_replicate] at hl
      split at hl <;> simp_all
  have fin : ∀ L a' w' k', Mid n ops e ps w k L a' w' k' → Region.ready .any ops.toArray L = [] → Q .normal a' w' := by
    intro L a' w' k' hmid hr
    have all : ∀ m i, i < m → i < ops.length → L.getD i false = true := by
      intro m
      induction m with
      | zero => intro i h; omega
      | succ m ih =>
        intro i him hi
        cases hL : L.getD i false with
        | true => rfl
        | false =>
          have ho : ops[i]? = some ops[i] := List.getElem?_eq_getElem hi
          have hLi : L.getD i true = false := by
            rw [Array.getD_eq_getD_getElem?] at hL ⊢
            have : i < L.size := by rw [hmid.size]; exact hi
            rw [Array.getElem?_eq_getElem this] at hL ⊢
            exact hL
          have : i ∈ Region.ready .any ops.toArray L := by
            unfold Region.ready
            refine List.mem_filter.2 ⟨by simpa using hi, ?_⟩
            simp only [hLi, List.getElem?_toArray, ho, Option.map_some, Option.getD_some, Bool.not_false, Bool.true_and]
            rw [← Array.all_toList, List.all_eq_true]
            intro ed he
            by_cases hb : Region.binds .any ed = true
            · have hon := g4 i _ ho ed he hb
              rw [ih ed.on (by omega) (by omega)]
              simp
            · simp [hb]
          rw [hr] at this
          cases this
    refine hK k' hmid.le a' w' ⟨hmid.tsize, hmid.defers, fun t q hq => ?_⟩ (hs.step hmid.below hmid.agr hmid.sub)
    rcases hes ops.length (Nat.le_refl _) t with ⟨j, o, hj, ho, hd, hg⟩ | ⟨hno, hg⟩
    · rw [hg] at hq
      cases hq
      exact hmid.done j o t ho hd (all _ j (Nat.lt_succ_self j) hj)
    · rw [hg, h0] at hq
      exact hmid.rest t (fun i o ho hd => absurd hd (hno i o ((List.getElem?_eq_some_iff.1 ho).1) ho)) q hq
  have key : ∀ (fuel : Nat) (L : Array Bool) (a' : Act) (w' : World) (k' : PH), Mid n ops e ps w k L a' w' k' → (L.toList.count false ≤ fuel) → wpAny P .any ops.toArray Q fuel L a' w' := by
    intro fuel
    induction fuel with
    | zero =>
      intro L a' w' k' hmid hc
      have hr : Region.ready .any ops.toArray L = [] := by
        unfold Region.ready
        rw [List.filter_eq_nil_iff]
        intro i hi
        have hi' : i < ops.length := by simpa using hi
        have hsz : i < L.size := by rw [hmid.size]; exact hi'
        have : L[i] ≠ false := by
          intro hf
          have : (false : Bool) ∈ L.toList := by rw [← hf]; exact Array.mem_toList_iff.2 (Array.getElem_mem hsz)
          have := List.count_pos_iff.2 this
          omega
        have h2 : L.getD i true = true := by
          rw [Array.getD_eq_getD_getElem?, Array.getElem?_eq_getElem hsz]
          simpa using this
        simp [h2]
      exact ⟨hr, fin _ _ _ _ hmid hr⟩
    | succ fuel ih =>
      intro L a' w' k' hmid hc
      refine ⟨fun hr => fin _ _ _ _ hmid hr, fun i hi => ?_⟩
      unfold Region.ready at hi
      obtain ⟨hi1, hi2⟩ := List.mem_filter.1 hi
      have hil : i < ops.length := by simpa using hi1
      have ho : ops[i]? = some ops[i] := List.getElem?_eq_getElem hil
      have hsz : i < L.size := by rw [hmid.size]; exact hil
      simp only [List.getElem?_toArray, ho, Option.map_some, Option.getD_some, Bool.and_eq_true, Bool.not_eq_true'] at hi2
      obtain ⟨hLi, hed⟩ := hi2
      rw [← Array.all_toList, List.all_eq_true] at hed
      have hed' : ∀ ed ∈ (ops[i]).after.toList, Region.binds .any ed = true → L.getD ed.on false = true := fun ed he hb => by
        have := hed ed he
        rw [hb] at this
        simpa using this
      have hLf : L.getD i false = false := by
        rw [Array.getD_eq_getD_getElem?, Array.getElem?_eq_getElem hsz] at hLi ⊢
        exact hLi
      have hset : ∀ j, (L.setIfInBounds i true).getD j false = if j = i then true else L.getD j false := by
        intro j
        rw [Array.getD_eq_getD_getElem?, Array.getD_eq_getD_getElem?, Array.getElem?_setIfInBounds]
        by_cases hji : i = j
        · subst hji; simp [hsz]
        · simp [hji, Ne.symm hji]
      have looks : ∀ t ∈ (ops[i]).looksAt ops.toArray, ∀ q, get (es i) t = some q → q.holds k' (a'.tmps.getD t undef) := by
        intro t ht q hq
        rcases hes i (by omega) t with ⟨j, o, hj, hoj, hd, hg⟩ | ⟨hno, hg⟩
        · rw [hg] at hq
          cases hq
          refine hmid.done j o t hoj hd ?_
          have hp := g3 i j hil (by omega)
          unfold okPair at hp
          simp only [hoj, ho, Option.bind_some, hd] at hp
          have hc1 : (slots ops ops[i]).contains t = true := List.contains_iff_mem.2 ht
          have hji : Nat.blt j i = true := by simpa [Nat.blt_eq] using hj
          simp only [hc1, if_true, hji] at hp
          exact mask_done g4 L hmid.down (i + 1) i (Nat.lt_succ_self i) _ ho hed' j hp
        · rw [hg, h0] at hq
          refine hmid.rest t (fun j o hoj hd => ?_) q hq
          cases hLj : L.getD j false with
          | false => rfl
          | true =>
            exfalso
            have hjl : j < ops.length := (List.getElem?_eq_some_iff.1 hoj).1
            have hji : ¬ j < i := fun hlt => hno j o hlt hoj hd
            have hne : j ≠ i := by rintro rfl; rw [hLf] at hLj; cases hLj
            have hp := g3 i j hil hjl
            unfold okPair at hp
            simp only [hoj, ho, Option.bind_some, hd] at hp
            have hc1 : (slots ops ops[i]).contains t = true := List.contains_iff_mem.2 ht
            have b1 : Nat.blt j i = false := by cases e : Nat.blt j i with | false => rfl | true => exact absurd (by simpa [Nat.blt_eq] using e) hji
            have b2 : Nat.blt i j = true := by rw [Nat.blt_eq]; omega
            simp only [hc1, if_true, b1, b2, Bool.false_eq_true, if_false] at hp
            have := mask_done g4 L hmid.down (j + 1) j (Nat.lt_succ_self j) _ hoj (hmid.down j o hoj hLj) i hp
            rw [hLf] at this
            cases this
      have hloc := (h1 i _ ho).1
      have hcount : (L.setIfInBounds i true).toList.count false ≤ fuel := by
        have h3 : (L.setIfInBounds i true).toList = L.toList.set i true := by simp
        rw [h3]
        have h4 : L.toList[i]? = some false := by
          rw [Array.getD_eq_getD_getElem?, Array.getElem?_eq_getElem hsz] at hLf
          simp [hsz]
          simpa using hLf
        have h5 : i < L.toList.length := by simpa using hsz
        have h6 := List.count_set (a := true) (b := false) (l := L.toList) (i := i) (h := h5)
        rw [h6]
        have h7 : L.toList[i] = false := by
          rw [List.getElem?_eq_getElem h5] at h4
          exact Option.some.inj h4
        rw [h7]
        simp
        have : 0 < L.toList.count false := List.count_pos_iff.2 (List.mem_of_getElem? h4)
        simp at hc
        omega
      have step : ∀ v w'' k'', Below w'.heap.size w' w'' → Agr w'.heap.size k' k'' → Sub k'' w'' → (ps i).holds k'' v → Mid n ops e ps w k (L.setIfInBounds i true) (a'.put (ops[i]).dst v) w'' k'' := by
        intro v w'' k'' hb hag hsub hp
        have hle : Le k' k'' := hag.le hmid.sub
        refine ⟨by simp [hmid.size], (put_size _ _ _).trans hmid.tsize, (put_defers _ _ _).trans hmid.defers, hmid.below.trans (hb.mono hmid.below.size), fun b hbl => (hag b (Nat.lt_of_lt_of_le hbl hmid.below.size)).trans (hmid.agr b hbl), hsub, hmid.le.trans hle, ?_, ?_, ?_⟩
        · intro j o hoj hLj ed he hbd
          rw [hset] at hLj ⊢
          split
          · rfl
          · by_cases hji : j = i
            · subst hji
              rw [ho] at hoj
              cases hoj
              exact hed' ed he hbd
            · rw [if_neg hji] at hLj
              exact hmid.down j o hoj hLj ed he hbd
        · intro j o d hoj hd hLj
          rw [hset] at hLj
          by_cases hji : j = i
          · subst hji
            rw [ho] at hoj
            cases hoj
            rw [hd, put_getD_same (by rw [hmid.tsize]; exact g1 j _ d ho hd)]
            exact hp
          · rw [if_neg hji] at hLj
            have hdd : ∀ d', (ops[i]).dst = some d' → d' ≠ d := fun d' hd' hdd => hji (distinct_spec g2 hoj ho hd (hdd ▸ hd'))
            have hpm := (h1 j o hoj).1.1
            have := PV.holds_mono hpm hle (hmid.done j o d hoj hd hLj)
            cases hx : (ops[i]).dst with
            | none => exact this
            | some d' => rw [put_getD_other (hdd d' hx)]; exact this
        · intro t hno q hq
          have hm2 := hmono t q hq
          have hnt : (ops[i]).dst ≠ some t := fun hd => by
            have := hno i _ ho hd
            rw [hset, if_pos rfl] at this
            cases this
          have := PV.holds_mono hm2 hle (hmid.rest t (fun j o hoj hd => by
            have := hno j o hoj hd
            rw [hset] at this
            split at this
            · cases this
            · exact this) q hq)
          cases hx : (ops[i]).dst with
          | none => exact this
          | some d' => rw [put_getD_other (fun h => hnt (by rw [hx, h]))]; exact this
      have hex := hloc.2 a' w' k' hmid.le hmid.sub hmid.tsize looks
      unfold wpOp
      simp only [List.getElem?_toArray, ho]
      split
      · rename_i hw
        rw [if_pos hw] at hex
        exact .inl (hex _ _ fun v w'' ⟨k'', hb, hag, hsub, hp⟩ => ih _ _ _ _ (step v w'' k'' hb hag hsub hp) hcount)
      · rename_i hw
        rw [if_neg hw] at hex
        exact ih _ _ _ _ (step undef w' k' (Below.refl _ _) (Agr.refl _ _) hmid.sub hex) hcount
  refine key _ _ _ _ _ start ?_
  simp [List.count_replicate]

theorem WA.mono {K K' : Env → Prop} (hm : ∀ e, K e → K' e) {ops' : Array Oper} : ∀ (l : List Oper) (e : Env), WA P n ops' k K l e → WA P n ops' k K' l e
  | [], e, h => hm e h
  | o :: r, e, ⟨p, hl, h⟩ => ⟨p, hl, WA.mono hm r _ h⟩
end
end Go.Wm
