/-
  Producers, in plain Lean: what may be, what is looked for, what is written down. Conditions: none.
-/
import Derived.Test.YtfejamdfhbamcaaDat
import Derived.Test.YtfejamdfhbamcaaO8
set_option linter.all false
namespace Go.Wm
def inI (n a b : Int) : Bool := decide (a ≤ n) && decide (n ≤ b)
end Go.Wm
namespace Go.Wm
theorem inI_iff {n a b : Int} : inI n a b = true ↔ a ≤ n ∧ n ≤ b := by simp [inI]
theorem chkB_form {b : Batch} (h : chkB b = 0) : FormP b := by
  unfold chkB at h
  split at h
  · assumption
  · cases h
/-! ### producers that may be -/
def didOk (d : Did) : Bool := inI d.seq 0 d.last && (inI d.last 0 1048576 && inI d.base 0 1099511627776)
def DidsP (l : List Did) : Prop := ∀ i, (h : i < l.length) → didOk l[i] = true ∧ (0 < i → l[i - 1].last + 1 = l[i].seq)
instance (l : List Did) : Decidable (DidsP l) := by unfold DidsP; infer_instance
def prodOk (p : ProdT) : Bool := inI p.pid 0 1099511627776 && (inI p.gen 0 1048576 && (decide (p.did.length ≤ 5) && decide (DidsP p.did)))
def ProdsP (l : List ProdT) : Prop := ∀ i, (h : i < l.length) → prodOk l[i] = true ∧ (0 < i → l[i - 1].pid < l[i].pid)
instance (l : List ProdT) : Decidable (ProdsP l) := by unfold ProdsP; infer_instance
def chkP (l : List ProdT) : Int := if 1024 < l.length then 2 else if ProdsP l then 0 else 1
/-! ### what is looked for, and what is written down -/
def didB (b : Batch) : Did := ⟨b.seq, b.seq + b.last - b.base, b.base⟩
def findP (l : List ProdT) (pid : Int) : Option ProdT := l.find? fun p => decide (p.pid = pid)
/-- What a batch's producer was, as far as it counts; and whether the batch is kept out. -/
def stateR (l : List ProdT) (b : Batch) : ProdT × Bool := match findP l b.pid with
  | some p => if b.gen ≤ p.gen then (p, decide (b.gen < p.gen)) else (⟨b.pid, b.gen, []⟩, false)
  | none => (⟨b.pid, b.gen, []⟩, false)
def nextD (l : List Did) : Int := match l.getLast? with
  | some d => d.last + 1
  | none => 0
def sameD (b : Batch) (d : Did) : Bool := decide (b.seq = d.seq) && decide (b.seq + b.last - b.base = d.last)
def stepLook (p : ProdT) (b : Batch) : Int × Bool × Int := match p.did.find? (sameD b) with
  | some d => (d.base, true, 0)
  | none => if b.seq = nextD p.did then (0, false, 0) else (0, false, 111)
def lookR (l : List ProdT) (b : Batch) : Int × Bool × Int :=
  if chkP l ≠ 0 then (0, false, chkP l) else if chkB b ≠ 0 ∨ b.pid < 0 then (0, false, chkB b)
  else if (stateR l b).2 = true then (0, false, 110) else if b.ctl ≠ 0 then (0, false, 0) else stepLook (stateR l b).1 b
def lastFive (l : List Did) : List Did := l.drop (l.length - 5)
def withB (p : ProdT) (b : Batch) : ProdT := if b.ctl = 0 then { p with did := lastFive (p.did ++ [didB b]) } else p
/-- A producer in its place. -/
def putP : List ProdT → ProdT → List ProdT
  | [], p => [p]
  | q :: l, p => if q.pid < p.pid then q :: putP l p else if q.pid = p.pid then p :: l else p :: q :: l
def fullP (l : List ProdT) (b : Batch) : Bool := decide (0 ≤ b.pid) && ((findP l b.pid).isNone && decide (1024 ≤ l.length))
def putR (l : List ProdT) (b : Batch) : List ProdT × Int :=
  if (lookR l b).2.2 ≠ 0 then ([], (lookR l b).2.2) else if fullP l b = true then ([], 2) else if (lookR l b).2.1 = true ∨ b.pid < 0 then (l, 0)
  else (putP l (withB (stateR l b).1 b), 0)
def aboveD (l : List Did) (b : Batch) : Bool := match l.getLast? with
  | none => true
  | some d => decide (d.last < b.seq)
def ofStep (l : List ProdT) (b : Batch) : List ProdT :=
  if (putR l b).2 = 0 then (putR l b).1 else if (putR l b).2 = 111 then
    (if aboveD (stateR l b).1.did b = true ∧ fullP l b = false then putP l { (stateR l b).1 with did := [didB b] } else l)
  else l
def ofR (bs : List Batch) : List ProdT := bs.foldl ofStep []

/-! ### laws -/
theorem dids_nil : DidsP [] := fun i h => absurd h (by simp)
theorem dids_one {d : Did} (h : didOk d = true) : DidsP [d] := fun i hi => by
  have : i = 0 := by simpa using hi
  subst this
  exact ⟨h, fun h => absurd h (by omega)⟩
theorem dids_snoc {l : List Did} {d : Did} (h : DidsP l) (hd : didOk d = true) (hn : ∀ x, l.getLast? = some x → x.last + 1 = d.seq) : DidsP (l ++ [d]) := fun i hi => by
  by_cases hlt : i < l.length
  · rw [List.getElem_append_left hlt]
    refine ⟨(h i hlt).1, fun h0 => ?_⟩
    rw [List.getElem_append_left (by omega)]
    exact (h i hlt).2 h0
  · have : i = l.length := by simp at hi; omega
    subst this
    rw [List.getElem_append_right (Nat.le_refl _)]
    simp only [Nat.sub_self, List.getElem_cons_zero]
    refine ⟨hd, fun h0 => ?_⟩
    rw [List.getElem_append_left (by omega)]
    apply hn
    rw [List.getLast?_eq_getElem?, List.getElem?_eq_getElem (by omega)]
theorem dids_drop {l : List Did} (h : DidsP l) (n : Nat) : DidsP (l.drop n) := fun i hi => by
  rw [List.length_drop] at hi
  rw [List.getElem_drop]
  refine ⟨(h (n + i) (by omega)).1, fun h0 => ?_⟩
  rw [List.getElem_drop]
  have := (h (n + i) (by omega)).2 (by omega)
  have e : n + i - 1 = n + (i - 1) := by omega
  simp only [e] at this
  exact this
theorem lastFive_le (l : List Did) : (lastFive l).length ≤ 5 := by unfold lastFive; rw [List.length_drop]; omega
theorem prodOk_iff {p : ProdT} : prodOk p = true ↔ (0 ≤ p.pid ∧ p.pid ≤ 1099511627776) ∧ (0 ≤ p.gen ∧ p.gen ≤ 1048576) ∧ p.did.length ≤ 5 ∧ DidsP p.did := by
  unfold prodOk; simp only [Bool.and_eq_true, inI_iff, decide_eq_true_eq]
theorem prods_tail {p : ProdT} {l : List ProdT} (h : ProdsP (p :: l)) : ProdsP l := fun i hi => by
  have := h (i + 1) (by simpa using hi)
  refine ⟨by simpa using this.1, fun h0 => ?_⟩
  have := this.2 (by omega)
  obtain ⟨j, rfl⟩ : ∃ j, i = j + 1 := ⟨i - 1, by omega⟩
  simpa using this
theorem prods_iff (l : List ProdT) : ProdsP l ↔ (∀ p ∈ l, prodOk p = true) ∧ l.Pairwise fun a b => a.pid < b.pid := by
  induction l with
  | nil => exact ⟨fun _ => ⟨by simp, .nil⟩, fun _ i hi => absurd hi (by simp)⟩
  | cons p l ih =>
    constructor
    · intro h
      have ht := ih.1 (prods_tail h)
      refine ⟨fun q hq => ?_, ?_⟩
      · rcases List.mem_cons.1 hq with rfl | hq
        · exact (h 0 (by simp)).1
        · exact ht.1 q hq
      · refine List.pairwise_cons.2 ⟨fun q hq => ?_, ht.2⟩
        cases l with
        | nil => simp at hq
        | cons r l =>
          have h1 := (h 1 (by simp)).2 (by omega)
          simp at h1
          rcases List.mem_cons.1 hq with rfl | hq
          · exact h1
          · exact Int.lt_trans h1 ((List.pairwise_cons.1 ht.2).1 q hq)
    · rintro ⟨h1, h2⟩ i hi
      refine ⟨h1 _ (List.getElem_mem _), fun h0 => ?_⟩
      exact List.pairwise_iff_getElem.1 h2 _ _ _ _ (by omega)
theorem findP_some {l : List ProdT} {pid : Int} {p : ProdT} (h : findP l pid = some p) : p ∈ l ∧ p.pid = pid := ⟨List.mem_of_find?_eq_some h, by simpa using List.find?_some h⟩
theorem findP_mem {l : List ProdT} (hp : l.Pairwise fun a b => a.pid < b.pid) {p : ProdT} (h : p ∈ l) : findP l p.pid = some p := by
  induction l with
  | nil => simp at h
  | cons q l ih =>
    obtain ⟨h1, h2⟩ := List.pairwise_cons.1 hp
    unfold findP
    rcases List.mem_cons.1 h with rfl | h
    · simp
    · have := h1 p h
      rw [List.find?_cons_of_neg (by simp; omega)]
      exact ih h2 h
theorem putP_mem {l : List ProdT} {p q : ProdT} (h : q ∈ putP l p) : q = p ∨ (q ∈ l ∧ (l.Pairwise (fun a b => a.pid < b.pid) → q.pid ≠ p.pid)) := by
  induction l with
  | nil => exact .inl (by simpa [putP] using h)
  | cons r l ih =>
    unfold putP at h
    split at h
    · rename_i h1
      rcases List.mem_cons.1 h with rfl | h
      · exact .inr ⟨by simp, fun _ => by omega⟩
      · rcases ih h with h | ⟨h, h'⟩
        · exact .inl h
        · exact .inr ⟨by simp [h], fun hp => h' (List.pairwise_cons.1 hp).2⟩
    · split at h
      · rename_i h1 h2
        rcases List.mem_cons.1 h with h | h
        · exact .inl h
        · exact .inr ⟨by simp [h], fun hp => by have := (List.pairwise_cons.1 hp).1 q h; omega⟩
      · rename_i h1 h2
        rcases List.mem_cons.1 h with h | h
        · exact .inl h
        · refine .inr ⟨h, fun hp => ?_⟩
          rcases List.mem_cons.1 h with rfl | h
          · exact h2
          · have := (List.pairwise_cons.1 hp).1 q h; omega
theorem putP_pair {l : List ProdT} {p : ProdT} (hp : l.Pairwise fun a b => a.pid < b.pid) : (putP l p).Pairwise fun a b => a.pid < b.pid := by
  induction l with
  | nil => simp [putP]
  | cons r l ih =>
    obtain ⟨h1, h2⟩ := List.pairwise_cons.1 hp
    unfold putP
    split
    · rename_i h3
      refine List.pairwise_cons.2 ⟨fun q hq => ?_, ih h2⟩
      rcases putP_mem hq with rfl | ⟨hq, _⟩
      · exact h3
      · exact h1 q hq
    · split
      · rename_i h3 h4
        exact List.pairwise_cons.2 ⟨fun q hq => by have := h1 q hq; omega, h2⟩
      · rename_i h3 h4
        refine List.pairwise_cons.2 ⟨fun q hq => ?_, hp⟩
        rcases List.mem_cons.1 hq with rfl | hq
        · omega
        · have := h1 q hq; omega
theorem putP_self (l : List ProdT) (p : ProdT) : p ∈ putP l p := by
  induction l with
  | nil => simp [putP]
  | cons r l ih => unfold putP; split <;> (try split) <;> simp [ih]
theorem putP_len (l : List ProdT) (p : ProdT) : (putP l p).length ≤ l.length + 1 := by
  induction l with
  | nil => simp [putP]
  | cons r l ih => unfold putP; split <;> (try split) <;> simp; exact ih
theorem putP_len_same {l : List ProdT} {p q : ProdT} (hp : l.Pairwise fun a b => a.pid < b.pid) (h : findP l p.pid = some q) : (putP l p).length = l.length := by
  induction l with
  | nil => simp [findP] at h
  | cons r l ih =>
    obtain ⟨h1, h2⟩ := List.pairwise_cons.1 hp
    unfold putP
    split
    · rename_i h3
      unfold findP at h
      rw [List.find?_cons_of_neg (by simp; omega)] at h
      simp [ih h2 h]
    · split
      · simp
      · rename_i h3 h4
        exfalso
        obtain ⟨hm, he⟩ := findP_some h
        rcases List.mem_cons.1 hm with rfl | hm
        · exact h4 he
        · have := h1 q hm; omega
theorem putP_find {l : List ProdT} {p : ProdT} (hp : l.Pairwise fun a b => a.pid < b.pid) : findP (putP l p) p.pid = some p := findP_mem (putP_pair hp) (putP_self l p)
theorem putP_filter {l : List ProdT} {p : ProdT} (hp : l.Pairwise fun a b => a.pid < b.pid) : (putP l p).filter (fun q => !decide (q.pid = p.pid)) = l.filter (fun q => !decide (q.pid = p.pid)) := by
  induction l with
  | nil => simp [putP]
  | cons r l ih =>
    obtain ⟨h1, h2⟩ := List.pairwise_cons.1 hp
    unfold putP
    split
    · rename_i h3
      rw [List.filter_cons, List.filter_cons, ih h2]
    · split
      · rename_i h3 h4
        rw [List.filter_cons, List.filter_cons]
        simp [h4]
      · rename_i h3 h4
        rw [List.filter_cons]; simp
theorem putP_twice {l : List ProdT} {p : ProdT} (hp : l.Pairwise fun a b => a.pid < b.pid) : putP (putP l p) p = putP l p := by
  induction l with
  | nil => simp [putP]
  | cons r l ih =>
    obtain ⟨h1, h2⟩ := List.pairwise_cons.1 hp
    conv => rhs; unfold putP
    conv => lhs; arg 1; unfold putP
    split
    · rename_i h3
      simp only [putP, if_pos h3, ih h2]
    · split
      · rename_i h3 h4; simp [putP]
      · rename_i h3 h4; simp [putP]
end Go.Wm
