/-
  Producers as bytes, in plain Lean. Conditions: none.
-/
import Derived.Test.YtfejamdfhbamcaaDat
import Derived.Test.YtfejamdfhbamcaaO8
import Derived.Test.YtfejamdfhbamcaaB4
import Derived.Test.YtfejamdfhbamcaaCrP
set_option linter.all false
namespace Go.Wm
def inI (n a b : Int) : Bool := decide (a ≤ n) && decide (n ≤ b)
end Go.Wm
namespace Go.Wm
theorem inI_iff {n a b : Int} : inI n a b = true ↔ a ≤ n ∧ n ≤ b := by simp [inI]
theorem chkB_form {b : Batch} (h : chkB b = 0) : FormP b := by
  unfold chkB at h
  split at h
  · assumption
  · cases h
/-! ### producers that may be -/
def didOk (d : Did) : Bool := inI d.seq 0 d.last && (inI d.last 0 1048576 && inI d.base 0 1099511627776)
def DidsP (l : List Did) : Prop := ∀ i, (h : i < l.length) → didOk l[i] = true ∧ (0 < i → l[i - 1].last + 1 = l[i].seq)
instance (l : List Did) : Decidable (DidsP l) := by unfold DidsP; infer_instance
def prodOk (p : ProdT) : Bool := inI p.pid 0 1099511627776 && (inI p.gen 0 1048576 && (decide (p.did.length ≤ 5) && decide (DidsP p.did)))
def ProdsP (l : List ProdT) : Prop := ∀ i, (h : i < l.length) → prodOk l[i] = true ∧ (0 < i → l[i - 1].pid < l[i].pid)
instance (l : List ProdT) : Decidable (ProdsP l) := by unfold ProdsP; infer_instance
def chkP (l : List ProdT) : Int := if 1024 < l.length then 2 else if ProdsP l then 0 else 1
/-! ### what is looked for, and what is written down -/
def didB (b : Batch) : Did := ⟨b.seq, b.seq + b.last - b.base, b.base⟩
def findP (l : List ProdT) (pid : Int) : Option ProdT := l.find? fun p => decide (p.pid = pid)
/-- What a batch's producer was, as far as it counts; and whether the batch is kept out. -/
def stateR (l : List ProdT) (b : Batch) : ProdT × Bool := match findP l b.pid with
  | some p => if b.gen ≤ p.gen then (p, decide (b.gen < p.gen)) else (⟨b.pid, b.gen, []⟩, false)
  | none => (⟨b.pid, b.gen, []⟩, false)
def nextD (l : List Did) : Int := match l.getLast? with
  | some d => d.last + 1
  | none => 0
def sameD (b : Batch) (d : Did) : Bool := decide (b.seq = d.seq) && decide (b.seq + b.last - b.base = d.last)
def stepLook (p : ProdT) (b : Batch) : Int × Bool × Int := match p.did.find? (sameD b) with
  | some d => (d.base, true, 0)
  | none => if b.seq = nextD p.did then (0, false, 0) else (0, false, 111)
def lookR (l : List ProdT) (b : Batch) : Int × Bool × Int :=
  if chkP l ≠ 0 then (0, false, chkP l) else if chkB b ≠ 0 ∨ b.pid < 0 then (0, false, chkB b)
  else if (stateR l b).2 = true then (0, false, 110) else if b.ctl ≠ 0 then (0, false, 0) else stepLook (stateR l b).1 b
def lastFive (l : List Did) : List Did := l.drop (l.length - 5)
def withB (p : ProdT) (b : Batch) : ProdT := if b.ctl = 0 then { p with did := lastFive (p.did ++ [didB b]) } else p
/-- A producer in its place. -/
def putP : List ProdT → ProdT → List ProdT
  | [], p => [p]
  | q :: l, p => if q.pid < p.pid then q :: putP l p else if q.pid = p.pid then p :: l else p :: q :: l
def fullP (l : List ProdT) (b : Batch) : Bool := decide (0 ≤ b.pid) && ((findP l b.pid).isNone && decide (1024 ≤ l.length))
def putR (l : List ProdT) (b : Batch) : List ProdT × Int :=
  if (lookR l b).2.2 ≠ 0 then ([], (lookR l b).2.2) else if fullP l b = true then ([], 2) else if (lookR l b).2.1 = true ∨ b.pid < 0 then (l, 0)
  else (putP l (withB (stateR l b).1 b), 0)
def aboveD (l : List Did) (b : Batch) : Bool := match l.getLast? with
  | none => true
  | some d => decide (d.last < b.seq)
def ofStep (l : List ProdT) (b : Batch) : List ProdT :=
  if (putR l b).2 = 0 then (putR l b).1 else if (putR l b).2 = 111 then
    (if aboveD (stateR l b).1.did b = true ∧ fullP l b = false then putP l { (stateR l b).1 with did := [didB b] } else l)
  else l
def ofR (bs : List Batch) : List ProdT := bs.foldl ofStep []

/-! ### laws -/
theorem dids_nil : DidsP [] := fun i h => absurd h (by simp)
theorem dids_one {d : Did} (h : didOk d = true) : DidsP [d] := fun i hi => by
  have : i = 0 := by simpa using hi
  subst this
  exact ⟨h, fun h => absurd h (by omega)⟩
theorem dids_snoc {l : List Did} {d : Did} (h : DidsP l) (hd : didOk d = true) (hn : ∀ x, l.getLast? = some x → x.last + 1 = d.seq) : DidsP (l ++ [d]) := fun i hi => by
  by_cases hlt : i < l.length
  · rw [List.getElem_append_left hlt]
    refine ⟨(h i hlt).1, fun h0 => ?_⟩
    rw [List.getElem_append_left (by omega)]
    exact (h i hlt).2 h0
  · have : i = l.length := by simp at hi; omega
    subst this
    rw [List.getElem_append_right (Nat.le_refl _)]
    simp only [Nat.sub_self, List.getElem_cons_zero]
    refine ⟨hd, fun h0 => ?_⟩
    rw [List.getElem_append_left (by omega)]
    apply hn
    rw [List.getLast?_eq_getElem?, List.getElem?_eq_getElem (by omega)]
theorem dids_drop {l : List Did} (h : DidsP l) (n : Nat) : DidsP (l.drop n) := fun i hi => by
  rw [List.length_drop] at hi
  rw [List.getElem_drop]
  refine ⟨(h (n + i) (by omega)).1, fun h0 => ?_⟩
  rw [List.getElem_drop]
  have := (h (n + i) (by omega)).2 (by omega)
  have e : n + i - 1 = n + (i - 1) := by omega
  simp only [e] at this
  exact this
theorem lastFive_le (l : List Did) : (lastFive l).length ≤ 5 := by unfold lastFive; rw [List.length_drop]; omega
theorem prodOk_iff {p : ProdT} : prodOk p = true ↔ (0 ≤ p.pid ∧ p.pid ≤ 1099511627776) ∧ (0 ≤ p.gen ∧ p.gen ≤ 1048576) ∧ p.did.length ≤ 5 ∧ DidsP p.did := by
  unfold prodOk; simp only [Bool.and_eq_true, inI_iff, decide_eq_true_eq]
theorem prods_tail {p : ProdT} {l : List ProdT} (h : ProdsP (p :: l)) : ProdsP l := fun i hi => by
  have := h (i + 1) (by simpa using hi)
  refine ⟨by simpa using this.1, fun h0 => ?_⟩
  have := this.2 (by omega)
  obtain ⟨j, rfl⟩ : ∃ j, i = j + 1 := ⟨i - 1, by omega⟩
  simpa using this
theorem prods_iff (l : List ProdT) : ProdsP l ↔ (∀ p ∈ l, prodOk p = true) ∧ l.Pairwise fun a b => a.pid < b.pid := by
  induction l with
  | nil => exact ⟨fun _ => ⟨by simp, .nil⟩, fun _ i hi => absurd hi (by simp)⟩
  | cons p l ih =>
    constructor
    · intro h
      have ht := ih.1 (prods_tail h)
      refine ⟨fun q hq => ?_, ?_⟩
      · rcases List.mem_cons.1 hq with rfl | hq
        · exact (h 0 (by simp)).1
        · exact ht.1 q hq
      · refine List.pairwise_cons.2 ⟨fun q hq => ?_, ht.2⟩
        cases l with
        | nil => simp at hq
        | cons r l =>
          have h1 := (h 1 (by simp)).2 (by omega)
          simp at h1
          rcases List.mem_cons.1 hq with rfl | hq
          · exact h1
          · exact Int.lt_trans h1 ((List.pairwise_cons.1 ht.2).1 q hq)
    · rintro ⟨h1, h2⟩ i hi
      refine ⟨h1 _ (List.getElem_mem _), fun h0 => ?_⟩
      exact List.pairwise_iff_getElem.1 h2 _ _ _ _ (by omega)
theorem findP_some {l : List ProdT} {pid : Int} {p : ProdT} (h : findP l pid = some p) : p ∈ l ∧ p.pid = pid := ⟨List.mem_of_find?_eq_some h, by simpa using List.find?_some h⟩
theorem findP_none {l : List ProdT} {pid : Int} (h : findP l pid = none) : ∀ p ∈ l, p.pid ≠ pid := by
  intro p hp
  have := List.find?_eq_none.1 h p hp
  simpa using this
theorem putP_mem {l : List ProdT} {p q : ProdT} (h : q ∈ putP l p) : q = p ∨ (q ∈ l ∧ (l.Pairwise (fun a b => a.pid < b.pid) → q.pid ≠ p.pid)) := by
  induction l with
  | nil => exact .inl (by simpa [putP] using h)
  | cons r l ih =>
    unfold putP at h
    split at h
    · rename_i h1
      rcases List.mem_cons.1 h with rfl | h
      · exact .inr ⟨by simp, fun _ => by omega⟩
      · rcases ih h with h | ⟨h, h'⟩
        · exact .inl h
        · exact .inr ⟨by simp [h], fun hp => h' (List.pairwise_cons.1 hp).2⟩
    · split at h
      · rename_i h1 h2
        rcases List.mem_cons.1 h with h | h
        · exact .inl h
        · exact .inr ⟨by simp [h], fun hp => by have := (List.pairwise_cons.1 hp).1 q h; omega⟩
      · rename_i h1 h2
        rcases List.mem_cons.1 h with h | h
        · exact .inl h
        · refine .inr ⟨h, fun hp => ?_⟩
          rcases List.mem_cons.1 h with rfl | h
          · exact h2
          · have := (List.pairwise_cons.1 hp).1 q h; omega
theorem putP_pair {l : List ProdT} {p : ProdT} (hp : l.Pairwise fun a b => a.pid < b.pid) : (putP l p).Pairwise fun a b => a.pid < b.pid := by
  induction l with
  | nil => simp [putP]
  | cons r l ih =>
    obtain ⟨h1, h2⟩ := List.pairwise_cons.1 hp
    unfold putP
    split
    · rename_i h3
      refine List.pairwise_cons.2 ⟨fun q hq => ?_, ih h2⟩
      rcases putP_mem hq with rfl | ⟨hq, _⟩
      · exact h3
      · exact h1 q hq
    · split
      · rename_i h3 h4
        exact List.pairwise_cons.2 ⟨fun q hq => by have := h1 q hq; omega, h2⟩
      · rename_i h3 h4
        refine List.pairwise_cons.2 ⟨fun q hq => ?_, hp⟩
        rcases List.mem_cons.1 hq with rfl | hq
        · omega
        · have := h1 q hq; omega
theorem putP_self (l : List ProdT) (p : ProdT) : p ∈ putP l p := by
  induction l with
  | nil => simp [putP]
  | cons r l ih => unfold putP; split <;> (try split) <;> simp [ih]
theorem putP_other {l : List ProdT} {p q : ProdT} (h : q ∈ l) (hne : q.pid ≠ p.pid) : q ∈ putP l p := by
  induction l with
  | nil => simp at h
  | cons r l ih =>
    unfold putP
    rcases List.mem_cons.1 h with rfl | h
    · split
      · simp
      · simp
    · split
      · simp [ih h]
      · split <;> simp [h]
theorem putP_len (l : List ProdT) (p : ProdT) : (putP l p).length ≤ l.length + 1 := by
  induction l with
  | nil => simp [putP]
  | cons r l ih => unfold putP; split <;> (try split) <;> simp; exact ih
theorem putP_len_same {l : List ProdT} {p q : ProdT} (hp : l.Pairwise fun a b => a.pid < b.pid) (h : findP l p.pid = some q) : (putP l p).length = l.length := by
  induction l with
  | nil => simp [findP] at h
  | cons r l ih =>
    obtain ⟨h1, h2⟩ := List.pairwise_cons.1 hp
    unfold putP
    split
    · rename_i h3
      unfold findP at h
      rw [List.find?_cons_of_neg (by simp; omega)] at h
      simp [ih h2 h]
    · split
      · simp
      · rename_i h3 h4
        exfalso
        obtain ⟨hm, he⟩ := findP_some h
        rcases List.mem_cons.1 hm with rfl | hm
        · exact h4 he
        · have := h1 q hm; omega
end Go.Wm
namespace Go.Wm
theorem chk_zero {l : List ProdT} : chkP l = 0 ↔ l.length ≤ 1024 ∧ ProdsP l := by
  unfold chkP
  split
  · simp; omega
  · split
    · rename_i h1 h2; simp; exact ⟨by omega, h2⟩
    · rename_i h1 h2; simp; intro _; exact h2
theorem form_pid {b : Batch} (h : FormP b) (hp : ¬ b.pid < 0) : 0 ≤ b.pid ∧ b.pid ≤ 1099511627776 := h.some (by omega)
theorem didB_ok {b : Batch} (h : FormP b) : didOk (didB b) = true := by
  have h1 := h.seq; have h2 := h.seqs; have h3 := h.base; have h4 := h.span
  unfold didOk didB; simp only [Bool.and_eq_true, inI_iff]
  refine ⟨⟨h1.1, by omega⟩, ⟨by omega, by omega⟩, h3⟩
/-- What is known of a batch's producer, where the batch is not kept out. -/
theorem state_ok {l : List ProdT} {b : Batch} (hl : ProdsP l) (hs : (stateR l b).2 = false) : (stateR l b).1.pid = b.pid ∧ (stateR l b).1.gen = b.gen ∧ DidsP (stateR l b).1.did ∧ (stateR l b).1.did.length ≤ 5 := by
  unfold stateR at hs ⊢
  split at hs
  · rename_i p hp
    obtain ⟨hm, he⟩ := findP_some hp
    have hok := prodOk_iff.1 (((prods_iff l).1 hl).1 p hm)
    try rw [hp]
    try dsimp only
    split at hs
    · rename_i h1
      rw [if_pos h1]
      have : ¬ b.gen < p.gen := by simpa using hs
      exact ⟨he, by dsimp only; omega, hok.2.2.2, hok.2.2.1⟩
    · rename_i h1
      rw [if_neg h1]
      exact ⟨rfl, rfl, dids_nil, by simp⟩
  · exact ⟨rfl, rfl, dids_nil, by simp⟩
theorem withB_pid (p : ProdT) (b : Batch) : (withB p b).pid = p.pid ∧ (withB p b).gen = p.gen := by unfold withB; split <;> exact ⟨rfl, rfl⟩
theorem next_last {l : List Did} {b : Batch} (h : b.seq = nextD l) : ∀ x, l.getLast? = some x → x.last + 1 = (didB b).seq := fun x hx => by
  unfold nextD at h; rw [hx] at h; exact h.symm
inductive PutC (l : List ProdT) (b : Batch) : Prop
  | none : b.pid < 0 → putR l b = (l, 0) → lookR l b = (0, false, 0) → PutC l b
  | there (d : Did) : 0 ≤ b.pid → (stateR l b).2 = false → b.ctl = 0 → (stateR l b).1.did.find? (sameD b) = some d → putR l b = (l, 0) → lookR l b = (d.base, true, 0) → PutC l b
  | ctl : 0 ≤ b.pid → (stateR l b).2 = false → fullP l b = false → b.ctl ≠ 0 → putR l b = (putP l (stateR l b).1, 0) → lookR l b = (0, false, 0) → PutC l b
  | data : 0 ≤ b.pid → (stateR l b).2 = false → fullP l b = false → b.ctl = 0 → (stateR l b).1.did.find? (sameD b) = .none → b.seq = nextD (stateR l b).1.did → putR l b = (putP l (withB (stateR l b).1 b), 0) → lookR l b = (0, false, 0) → PutC l b
theorem look_zero {l : List ProdT} {b : Batch} (h : (lookR l b).2.2 = 0) : chkP l = 0 ∧ chkB b = 0 := by
  unfold lookR at h
  split at h
  · rename_i h1; exact absurd h h1
  · rename_i h1
    refine ⟨Decidable.not_not.1 h1, ?_⟩
    split at h
    · exact h
    · rename_i h2
      exact Decidable.byContradiction fun h3 => h2 (.inl h3)
theorem put_zero {l : List ProdT} {b : Batch} (h : (putR l b).2 = 0) : (lookR l b).2.2 = 0 := by
  unfold putR at h
  split at h
  · exact h
  · rename_i h1; exact Decidable.not_not.1 h1
theorem put_cases {l : List ProdT} {b : Batch} (h : (putR l b).2 = 0) : PutC l b := by
  have hz := put_zero h
  obtain ⟨c1, c2⟩ := look_zero hz
  have hput : putR l b = if fullP l b = true then ([], 2) else if (lookR l b).2.1 = true ∨ b.pid < 0 then (l, 0) else (putP l (withB (stateR l b).1 b), 0) := by
    conv => lhs; unfold putR
    rw [if_neg (by simp [hz])]
  have hnf : fullP l b = false := by
    cases hf : fullP l b
    · rfl
    · rw [hput, hf] at h; simp at h
  rw [hnf] at hput
  simp only [Bool.false_eq_true, if_false] at hput
  by_cases hpid : b.pid < 0
  · refine .none hpid ?_ ?_
    · rw [hput, if_pos (.inr hpid)]
    · unfold lookR; rw [if_neg (by simp [c1]), if_pos (.inr hpid), c2]
  have hlk : lookR l b = if (stateR l b).2 = true then (0, false, 110) else if b.ctl ≠ 0 then (0, false, 0) else stepLook (stateR l b).1 b := by
    conv => lhs; unfold lookR
    rw [if_neg (by simp [c1]), if_neg (by simp [c2]; omega)]
  have hs : (stateR l b).2 = false := by
    cases hf : (stateR l b).2
    · rfl
    · rw [hlk, hf] at hz; simp at hz
  rw [hs] at hlk
  simp only [Bool.false_eq_true, if_false] at hlk
  by_cases hc : b.ctl = 0
  · rw [if_neg (by simp [hc])] at hlk
    unfold stepLook at hlk
    cases hf : (stateR l b).1.did.find? (sameD b) with
    | some d =>
      rw [hf] at hlk
      dsimp only at hlk
      refine .there d (by omega) hs hc hf ?_ hlk
      rw [hput, hlk]; simp
    | none =>
      rw [hf] at hlk
      dsimp only at hlk
      by_cases hn : b.seq = nextD (stateR l b).1.did
      · rw [if_pos hn] at hlk
        refine .data (by omega) hs hnf hc hf hn ?_ hlk
        rw [hput, hlk]; simp; omega
      · rw [if_neg hn] at hlk
        rw [hlk] at hz; simp at hz
  · rw [if_pos hc] at hlk
    refine .ctl (by omega) hs hnf hc ?_ hlk
    rw [hput, hlk]
    simp only [Bool.false_eq_true, false_or, if_neg hpid]
    unfold withB; rw [if_neg hc]
theorem full_len {l : List ProdT} {b : Batch} (hp : 0 ≤ b.pid) (h : fullP l b = false) : (∃ q, findP l b.pid = some q) ∨ l.length < 1024 := by
  unfold fullP at h
  cases hf : findP l b.pid with
  | some q => exact .inl ⟨q, rfl⟩
  | none =>
    rw [hf] at h
    simp at h
    exact .inr (h hp)
theorem chk_put {l : List ProdT} {b : Batch} {p : ProdT} (hl : chkP l = 0) (hp : 0 ≤ b.pid) (hf : fullP l b = false) (he : p.pid = b.pid) (hok : prodOk p = true) : chkP (putP l p) = 0 := by
  obtain ⟨h1, h2⟩ := chk_zero.1 hl
  obtain ⟨h3, h4⟩ := (prods_iff l).1 h2
  refine chk_zero.2 ⟨?_, (prods_iff _).2 ⟨fun q hq => ?_, putP_pair h4⟩⟩
  · rcases full_len hp hf with ⟨q, hq⟩ | h
    · rw [putP_len_same h4 (by rw [he]; exact hq)]; exact h1
    · have := putP_len l p; omega
  · rcases putP_mem hq with rfl | ⟨hq, _⟩
    · exact hok
    · exact h3 q hq
theorem state_prod {l : List ProdT} {b : Batch} (hb : FormP b) (hl : ProdsP l) (hp : 0 ≤ b.pid) (hs : (stateR l b).2 = false) : prodOk (stateR l b).1 = true := by
  obtain ⟨s1, s2, s3, s4⟩ := state_ok hl hs
  exact prodOk_iff.2 ⟨by rw [s1]; exact form_pid hb (by omega), by rw [s2]; exact hb.gen, s4, s3⟩
theorem with_prod {l : List ProdT} {b : Batch} (hb : FormP b) (hl : ProdsP l) (hp : 0 ≤ b.pid) (hs : (stateR l b).2 = false) (hn : b.seq = nextD (stateR l b).1.did) : prodOk (withB (stateR l b).1 b) = true := by
  obtain ⟨s1, s2, s3, s4⟩ := state_ok hl hs
  obtain ⟨w1, w2⟩ := withB_pid (stateR l b).1 b
  refine prodOk_iff.2 ⟨by rw [w1, s1]; exact form_pid hb (by omega), by rw [w2, s2]; exact hb.gen, ?_, ?_⟩
  · unfold withB; split
    · exact lastFive_le _
    · exact s4
  · unfold withB; split
    · exact dids_drop (dids_snoc s3 (didB_ok hb) (next_last hn)) _
    · exact s3
/-- What is written down may be. -/
theorem put_chk {l : List ProdT} {b : Batch} (h : (putR l b).2 = 0) : chkP (putR l b).1 = 0 := by
  obtain ⟨c1, c2⟩ := look_zero (put_zero h)
  have hb := chkB_form c2
  have hl := (chk_zero.1 c1).2
  cases put_cases h with
  | none _ e => rw [e]; exact c1
  | there d _ _ _ _ e => rw [e]; exact c1
  | ctl hp hs hf _ e => rw [e]; exact chk_put c1 hp hf (state_ok hl hs).1 (state_prod hb hl hp hs)
  | data hp hs hf _ _ hn e => rw [e]; exact chk_put c1 hp hf ((withB_pid _ _).1.trans (state_ok hl hs).1) (with_prod hb hl hp hs hn)
theorem look_seq {l : List ProdT} {b : Batch} (h : (lookR l b).2.2 = 111) : chkP l = 0 → chkB b ≠ 111 → chkB b = 0 ∧ 0 ≤ b.pid ∧ (stateR l b).2 = false ∧ b.ctl = 0 := by
  intro c1 c3
  unfold lookR at h
  rw [if_neg (by simp [c1])] at h
  split at h
  · exact absurd h c3
  rename_i h2
  have c2 : chkB b = 0 := Decidable.byContradiction fun h3 => h2 (.inl h3)
  have hp : ¬ b.pid < 0 := fun h3 => h2 (.inr h3)
  split at h
  · simp at h
  rename_i h4
  split at h
  · simp at h
  rename_i h5
  exact ⟨c2, by omega, by simpa using h4, Decidable.not_not.1 h5⟩
theorem put_seq {l : List ProdT} {b : Batch} (h : (putR l b).2 = 111) : (lookR l b).2.2 = 111 := by
  unfold putR at h
  split at h
  · exact h
  · split at h
    · simp at h
    · split at h <;> simp at h
theorem ofStep_chk {l : List ProdT} {b : Batch} (hl : chkP l = 0) (hb : chkB b ≠ 111) : chkP (ofStep l b) = 0 := by
  unfold ofStep
  split
  · rename_i h; exact put_chk h
  · split
    · rename_i h1 h2
      obtain ⟨c2, hp, hs, hc⟩ := look_seq (put_seq h2) hl hb
      split
      · rename_i h3
        have hpr := (chk_zero.1 hl).2
        obtain ⟨s1, s2, s3, s4⟩ := state_ok hpr hs
        have hf := chkB_form c2
        exact chk_put hl hp h3.2 s1 (prodOk_iff.2 ⟨by dsimp only; rw [s1]; exact form_pid hf (by omega), by dsimp only; rw [s2]; exact hf.gen, by simp, dids_one (didB_ok hf)⟩)
      · exact hl
    · exact hl
theorem of_chk {bs : List Batch} (hb : ∀ b ∈ bs, chkB b ≠ 111) : chkP (ofR bs) = 0 := by
  have : ∀ (bs : List Batch) (l : List ProdT), (∀ b ∈ bs, chkB b ≠ 111) → chkP l = 0 → chkP (bs.foldl ofStep l) = 0 := by
    intro bs
    induction bs with
    | nil => intro l _ h; exact h
    | cons b bs ih => intro l hb h; exact ih _ (fun x hx => hb x (by simp [hx])) (ofStep_chk h (hb b (by simp)))
  exact this bs [] hb (chk_zero.2 ⟨by simp, fun i hi => absurd hi (by simp)⟩)
theorem dids_mem {l : List Did} (h : DidsP l) : ∀ d ∈ l, didOk d = true := fun d hd => by
  obtain ⟨i, hi, rfl⟩ := List.getElem_of_mem hd
  exact (h i hi).1
end Go.Wm
namespace Go.Wm
/-- A number, its greatest byte first. -/
def fromL (bs : List Nat) : Nat := bs.foldl (fun n x => n * 256 + x) 0
/-- What is read of a number of k bytes, and why not. -/
def getR (b : List Nat) (at' : Int) (k : Nat) : Nat × Int :=
  if at' < 0 then (0, 1) else if b.length < at'.toNat + k then (0, 10) else (fromL ((b.drop at'.toNat).take k), 0)
/-- Seven bits a byte: what is read, how many bytes, and why not. -/
def varR : Nat → Nat → List Nat → (Nat × Nat) × Int
  | _, _, [] => ((0, 0), 10)
  | i, z, x :: r => if (i = 9 ∧ 1 < x) ∨ (0 < i ∧ x = 0) then ((0, 0), 11) else if x < 128 then ((z + x * 128 ^ i, i + 1), 0) else varR (i + 1) (z + (x - 128) * 128 ^ i) r
def unzig (z : Nat) : Int := if z % 2 = 1 then -((z / 2 : Nat) : Int) - 1 else ((z / 2 : Nat) : Int)
def getVarR (b : List Nat) (at' : Int) : Int × Int × Int :=
  if at' < 0 then (0, 0, 1) else if (varR 0 0 (b.drop at'.toNat)).2 = 0 then (unzig (varR 0 0 (b.drop at'.toNat)).1.1, at' + ((varR 0 0 (b.drop at'.toNat)).1.2 : Nat), 0) else (0, 0, (varR 0 0 (b.drop at'.toNat)).2)
def strOf (bs : List Nat) : ByteArray := ⟨(bs.map (·.toUInt8)).toArray⟩
/-- A text behind its length (n, where it begins, why not). -/
def textQ (b : List Nat) (most : Int) (q : Int × Int × Int) : ByteArray × Int × Int :=
  if q.2.2 ≠ 0 then (⟨#[]⟩, 0, q.2.2) else if q.1 < 0 then (⟨#[]⟩, 0, 11) else if most < q.1 then (⟨#[]⟩, 0, 2)
  else if (b.length : Int) - q.2.1 < q.1 then (⟨#[]⟩, 0, 10)
  else (strOf ((b.drop q.2.1.toNat).take q.1.toNat), q.2.1 + q.1, 0)
def getTextR (b : List Nat) (at' most : Int) : ByteArray × Int × Int := textQ b most (getVarR b at')

theorem foldl_256 (xs : List Nat) : ∀ a, xs.foldl (fun n x => n * 256 + x) a = a * 256 ^ xs.length + fromL xs := by
  induction xs with
  | nil => intro a; simp [fromL]
  | cons x xs ih =>
    intro a
    have h := ih (0 * 256 + x)
    have e : fromL (x :: xs) = (0 * 256 + x) * 256 ^ xs.length + fromL xs := h
    rw [e, List.foldl_cons, ih, List.length_cons, Nat.pow_succ, Nat.add_mul, Nat.zero_mul, Nat.zero_add, Nat.mul_assoc, Nat.mul_comm 256, Nat.add_assoc]
theorem fromL_snoc (xs : List Nat) (x : Nat) : fromL (xs ++ [x]) = fromL xs * 256 + x := by simp [fromL]
theorem fromL_append (xs ys : List Nat) : fromL (xs ++ ys) = fromL xs * 256 ^ ys.length + fromL ys := by
  unfold fromL; rw [List.foldl_append]; exact foldl_256 ys _
theorem fromL_lt : ∀ (xs : List Nat), (∀ x ∈ xs, x < 256) → fromL xs < 256 ^ xs.length := by
  intro xs
  induction xs with
  | nil => intro _; simp [fromL]
  | cons x xs ih =>
    intro h
    have h1 := ih fun y hy => h y (by simp [hy])
    have h2 := h x (by simp)
    have e : fromL (x :: xs) = x * 256 ^ xs.length + fromL xs := by
      have := fromL_append [x] xs
      simpa [fromL] using this
    rw [e, List.length_cons, Nat.pow_succ]
    have : (x + 1) * 256 ^ xs.length ≤ 256 * 256 ^ xs.length := Nat.mul_le_mul_right _ h2
    rw [Nat.add_mul] at this; omega
/-! ### seven bits a byte -/
theorem varR_le : ∀ (l : List Nat) (i z : Nat), (varR i z l).2 = 0 → i < (varR i z l).1.2 ∧ (varR i z l).1.2 ≤ i + l.length := by
  intro l
  induction l with
  | nil => intro i z h; simp [varR] at h
  | cons x r ih =>
    intro i z h
    unfold varR at h ⊢
    split at h
    · simp at h
    · rename_i h1
      rw [if_neg h1]
      split at h
      · rename_i h2; rw [if_pos h2]; simp
      · rename_i h2; rw [if_neg h2]
        have := ih _ _ h
        simp only [List.length_cons]; omega
theorem unzig_zig {n : Int} : unzig (if n < 0 then (2 * (-(n + 1)) + 1).toNat else (2 * n).toNat) = n := by
  unfold unzig
  by_cases h : n < 0
  · rw [if_pos h, if_pos (by omega)]; omega
  · rw [if_neg h, if_neg (by omega)]; omega
theorem getVarR_le {b : List Nat} {at' : Int} (h : (getVarR b at').2.2 = 0) : 0 ≤ at' ∧ at' < (getVarR b at').2.1 ∧ (getVarR b at').2.1 ≤ b.length := by
  unfold getVarR at h ⊢
  split at h
  · simp at h
  · rename_i h1
    rw [if_neg h1]
    split at h
    · rename_i h2
      rw [if_pos h2]
      have h3 := varR_le _ _ _ h2
      simp only [List.length_drop] at h3
      have hl : at'.toNat ≤ b.length := by
        apply Decidable.byContradiction; intro hc
        rw [List.drop_eq_nil_of_le (by omega)] at h2
        simp [varR] at h2
      refine ⟨by omega, by simp only; omega, by simp only; omega⟩
    · rename_i h2; exact absurd h h2
theorem pow128 (i : Nat) : (128 : Nat) ^ (i + 1) = 128 * 128 ^ i := by rw [Nat.pow_succ, Nat.mul_comm]
/-- What was written is read. -/
theorem varR_varL (z : Nat) : ∀ (i acc : Nat) (r : List Nat), z * 128 ^ i < 18446744073709551616 → i ≤ 9 → (0 < i → 0 < z) → varR i acc (varL z ++ r) = ((acc + z * 128 ^ i, i + (varL z).length), 0) := by
  induction z using Nat.strongRecOn with
  | _ z ih =>
    intro i acc r hz hi hp
    by_cases h : z < 128
    · rw [varL_lt h]
      simp only [List.cons_append, List.nil_append, varR, List.length_cons, List.length_nil]
      rw [if_neg ?_, if_pos h]
      rintro (⟨rfl, h1⟩ | ⟨h1, rfl⟩)
      · have : 2 * 128 ^ 9 ≤ z * 128 ^ 9 := Nat.mul_le_mul_right _ h1
        omega
      · exact absurd (hp h1) (by decide)
    · rw [varL_ge h]
      have hq : z / 128 * 128 ^ (i + 1) ≤ z * 128 ^ i := by
        rw [pow128, ← Nat.mul_assoc]
        exact Nat.mul_le_mul_right _ (by omega)
      have hi8 : i < 9 := by
        apply Decidable.byContradiction; intro hc
        have : i = 9 := by omega
        subst this
        have : 128 * 128 ^ 9 ≤ z * 128 ^ 9 := Nat.mul_le_mul_right _ (by omega)
        omega
      simp only [List.cons_append, varR]
      rw [if_neg (by omega), if_neg (by omega), ih (z / 128) (by omega) (i + 1) _ r (by omega) (by omega) (by omega), List.length_cons]
      have e : acc + (128 + z % 128 - 128) * 128 ^ i + z / 128 * 128 ^ (i + 1) = acc + z * 128 ^ i := by
        rw [pow128, ← Nat.mul_assoc, Nat.add_assoc, ← Nat.add_mul]
        congr 2; omega
      rw [e]
      congr 2
      omega
theorem getVarR_at {p r : List Nat} {n : Int} (hn : I64 n) : getVarR (p ++ (varL (zigN n) ++ r)) (p.length : Int) = (n, ((p.length + (varL (zigN n)).length : Nat) : Int), 0) := by
  unfold getVarR
  have h := varR_varL (zigN n) 0 0 r (by have := zigN_lt hn; omega) (by omega) (by omega)
  rw [if_neg (by omega), show ((p.length : Int)).toNat = p.length from rfl, List.drop_left' rfl, h]
  simp only [if_true]
  have hu : unzig (0 + zigN n * 128 ^ 0) = n := by
    rw [Nat.zero_add, Nat.pow_zero, Nat.mul_one]; exact unzig_zig
  rw [hu]
  simp
theorem fromL_bigL : ∀ (k n : Nat), fromL (bigL n k k) = n % 256 ^ k := by
  have key : ∀ (i k n : Nat), i ≤ k → fromL (bigL n k i) = n / 256 ^ (k - i) % 256 ^ i := by
    intro i
    induction i with
    | zero => intro k n _; simp [bigL, fromL, Nat.mod_one]
    | succ i ih =>
      intro k n hik
      have hb : bigL n k (i + 1) = bigL n k i ++ [n / 256 ^ (k - 1 - i) % 256] := by simp [bigL, List.range_succ]
      rw [hb, fromL_snoc, ih k n (by omega)]
      have e1 : k - i = (k - (i + 1)) + 1 := by omega
      have e2 : k - 1 - i = k - (i + 1) := by omega
      rw [e1, e2, Nat.pow_succ, ← Nat.div_div_eq_div_mul, Nat.pow_succ, Nat.mul_comm (256 ^ i), Nat.mod_mul]
      omega
  intro k n
  have := key k k n (Nat.le_refl _)
  simpa using this
/-! ### sums tell what was changed -/
/-! ### what is sealed -/
/-- Whether what was sealed is still so. -/
def openedP (b : List Nat) : Bool := decide (fromL (b.drop (b.length - 4)) = sumL (b.take (b.length - 4)))
/-- What is opened, and why not. -/
def openR (b : List Nat) : List Nat × Int := if b.length < 4 then ([], 10) else if openedP b = true then (b.take (b.length - 4), 0) else ([], 20)
theorem openR_seal {bs : List Nat} (hb : Bytes bs) : openR (sealL bs) = (bs, 0) := by
  unfold openR openedP
  rw [if_neg (by rw [sealL_len]; omega)]
  have e : (sealL bs).length - 4 = bs.length := by rw [sealL_len]; omega
  rw [e, if_pos]
  · rw [sealL, List.take_left' rfl]
  · rw [sealL, List.take_left' rfl, List.drop_left' rfl, fromL_bigL, Nat.mod_eq_of_lt (by have := sumL_lt hb; omega)]
    simp
end Go.Wm
namespace Go.Wm
/-! ### producers as bytes -/
def didL (d : Did) : List Nat := varL (zigN d.seq) ++ varL (zigN d.last) ++ varL (zigN d.base)
def prodHead (p : ProdT) : List Nat := varL (zigN p.pid) ++ varL (zigN p.gen) ++ varL (zigN (p.did.length : Int))
def prodL (p : ProdT) : List Nat := prodHead p ++ p.did.flatMap didL
def prodsL (l : List ProdT) : List Nat := varL (zigN (l.length : Int)) ++ l.flatMap prodL
def saveP (l : List ProdT) : List Nat × Int := if chkP l = 0 then (sealL (prodsL l), 0) else ([], chkP l)
def numR (b : List Nat) (at' : Int) : Option (Int × Int) := if (getVarR b at').2.2 = 0 then some ((getVarR b at').1, (getVarR b at').2.1) else none
def didR (b : List Nat) (at' : Int) : Option (Did × Int) :=
  (numR b at').bind fun x => (numR b x.2).bind fun y => (numR b y.2).bind fun z => some (⟨x.1, y.1, z.1⟩, z.2)
def didsR (b : List Nat) (m : Int) : Nat → List Did → Int → Option (List Did × Int)
  | 0, acc, at' => some (acc, at')
  | f + 1, acc, at' => if (acc.length : Int) < m then (didR b at').bind fun q => didsR b m f (acc ++ [q.1]) q.2 else some (acc, at')
def prodR (b : List Nat) (at' : Int) : Option (ProdT × Int) :=
  (numR b at').bind fun x => (numR b x.2).bind fun y => (numR b y.2).bind fun z => (didsR b z.1 6 [] z.2).bind fun q => some (⟨x.1, y.1, q.1⟩, q.2)
def prodsR (b : List Nat) (n : Int) : Nat → List ProdT → Int → Option (List ProdT)
  | 0, acc, _ => some acc
  | f + 1, acc, at' => if (acc.length : Int) < n then (prodR b at').bind fun q => prodsR b n f (acc ++ [q.1]) q.2 else some acc
def readP (b : List Nat) : Option (List ProdT) := (numR b 0).bind fun q => prodsR b q.1 1025 [] q.2
def loadP (b : List Nat) : List ProdT × Int := if (openR b).2 ≠ 0 then ([], (openR b).2) else match readP (openR b).1 with
  | none => ([], 11)
  | some l => if chkP l = 0 ∧ sealL (prodsL l) = b then (l, 0) else ([], 11)
theorem numR_at {p r : List Nat} {n : Int} (hn : I64 n) : numR (p ++ (varL (zigN n) ++ r)) (p.length : Int) = some (n, ((p ++ varL (zigN n)).length : Int)) := by
  unfold numR; rw [getVarR_at hn, List.length_append]; rfl
theorem didR_at {p r : List Nat} {d : Did} (h : didOk d = true) : didR (p ++ (didL d ++ r)) (p.length : Int) = some (d, ((p ++ didL d).length : Int)) := by
  unfold didOk at h
  simp only [Bool.and_eq_true, inI_iff] at h
  obtain ⟨h1, h2, h3⟩ := h
  have e1 : numR (p ++ (didL d ++ r)) (p.length : Int) = some (d.seq, ((p ++ varL (zigN d.seq)).length : Int)) := by
    have := numR_at (p := p) (n := d.seq) (r := varL (zigN d.last) ++ varL (zigN d.base) ++ r) (by unfold I64; omega)
    unfold didL; simp only [List.append_assoc] at this ⊢; exact this
  have e2 : numR (p ++ (didL d ++ r)) ((p ++ varL (zigN d.seq)).length : Int) = some (d.last, ((p ++ varL (zigN d.seq) ++ varL (zigN d.last)).length : Int)) := by
    have := numR_at (p := p ++ varL (zigN d.seq)) (n := d.last) (r := varL (zigN d.base) ++ r) (by unfold I64; omega)
    unfold didL; simp only [List.append_assoc] at this ⊢; exact this
  have e3 : numR (p ++ (didL d ++ r)) ((p ++ varL (zigN d.seq) ++ varL (zigN d.last)).length : Int) = some (d.base, ((p ++ varL (zigN d.seq) ++ varL (zigN d.last) ++ varL (zigN d.base)).length : Int)) := by
    have := numR_at (p := p ++ varL (zigN d.seq) ++ varL (zigN d.last)) (n := d.base) (r := r) (by unfold I64; omega)
    unfold didL; simp only [List.append_assoc] at this ⊢; exact this
  unfold didR
  rw [e1]; simp only [Option.bind_some]
  rw [e2]; simp only [Option.bind_some]
  rw [e3]; simp only [Option.bind_some]
  unfold didL; simp only [List.append_assoc]
theorem didsR_at {m : Nat} : ∀ (ds acc : List Did) (f : Nat) (p r : List Nat), (∀ d ∈ ds, didOk d = true) → acc.length + ds.length = m → ds.length < f →
    didsR (p ++ (ds.flatMap didL ++ r)) (m : Int) f acc (p.length : Int) = some (acc ++ ds, ((p ++ ds.flatMap didL).length : Int)) := by
  intro ds
  induction ds with
  | nil =>
    intro acc f p r _ hm hf
    obtain ⟨f, rfl⟩ : ∃ g, f = g + 1 := ⟨f - 1, by simp at hf; omega⟩
    simp only [List.length_nil, Nat.add_zero] at hm
    unfold didsR; rw [if_neg (by omega)]; simp
  | cons d ds ih =>
    intro acc f p r hd hm hf
    obtain ⟨f, rfl⟩ : ∃ g, f = g + 1 := ⟨f - 1, by simp at hf; omega⟩
    simp only [List.length_cons] at hm hf
    unfold didsR; rw [if_pos (by omega)]
    have e1 : didR (p ++ ((d :: ds).flatMap didL ++ r)) (p.length : Int) = some (d, ((p ++ didL d).length : Int)) := by
      have := didR_at (p := p) (r := ds.flatMap didL ++ r) (hd d (by simp))
      simp only [List.flatMap_cons, List.append_assoc] at this ⊢; exact this
    rw [e1]; simp only [Option.bind_some]
    have := ih (acc ++ [d]) f (p ++ didL d) r (fun x hx => hd x (by simp [hx])) (by simp; omega) (by omega)
    have e2 : p ++ ((d :: ds).flatMap didL ++ r) = p ++ didL d ++ (ds.flatMap didL ++ r) := by simp
    rw [e2, this]
    simp only [List.flatMap_cons, List.append_assoc, List.cons_append, List.nil_append]
theorem prodR_at {p r : List Nat} {q : ProdT} (h : prodOk q = true) : prodR (p ++ (prodL q ++ r)) (p.length : Int) = some (q, ((p ++ prodL q).length : Int)) := by
  obtain ⟨h1, h2, h3, h4⟩ := prodOk_iff.1 h
  have e1 : numR (p ++ (prodL q ++ r)) (p.length : Int) = some (q.pid, ((p ++ varL (zigN q.pid)).length : Int)) := by
    have := numR_at (p := p) (n := q.pid) (r := varL (zigN q.gen) ++ varL (zigN (q.did.length : Int)) ++ q.did.flatMap didL ++ r) (by unfold I64; omega)
    unfold prodL prodHead; simp only [List.append_assoc] at this ⊢; exact this
  have e2 : numR (p ++ (prodL q ++ r)) ((p ++ varL (zigN q.pid)).length : Int) = some (q.gen, ((p ++ varL (zigN q.pid) ++ varL (zigN q.gen)).length : Int)) := by
    have := numR_at (p := p ++ varL (zigN q.pid)) (n := q.gen) (r := varL (zigN (q.did.length : Int)) ++ q.did.flatMap didL ++ r) (by unfold I64; omega)
    unfold prodL prodHead; simp only [List.append_assoc] at this ⊢; exact this
  have e3 : numR (p ++ (prodL q ++ r)) ((p ++ varL (zigN q.pid) ++ varL (zigN q.gen)).length : Int) = some ((q.did.length : Int), ((p ++ prodHead q).length : Int)) := by
    have := numR_at (p := p ++ varL (zigN q.pid) ++ varL (zigN q.gen)) (n := (q.did.length : Int)) (r := q.did.flatMap didL ++ r) (by unfold I64; omega)
    unfold prodL prodHead; simp only [List.append_assoc] at this ⊢; exact this
  have e4 := didsR_at (m := q.did.length) q.did [] 6 (p ++ prodHead q) r (dids_mem h4) (by simp) (by omega)
  have e5 : p ++ prodHead q ++ (q.did.flatMap didL ++ r) = p ++ (prodL q ++ r) := by unfold prodL; simp
  rw [e5] at e4
  unfold prodR
  rw [e1]; simp only [Option.bind_some]
  rw [e2]; simp only [Option.bind_some]
  rw [e3]; simp only [Option.bind_some]
  rw [e4]; simp only [Option.bind_some]
  unfold prodL; simp only [List.append_assoc, List.nil_append]
theorem prodsR_at {n : Nat} : ∀ (l acc : List ProdT) (f : Nat) (p r : List Nat), (∀ d ∈ l, prodOk d = true) → acc.length + l.length = n → l.length < f →
    prodsR (p ++ (l.flatMap prodL ++ r)) (n : Int) f acc (p.length : Int) = some (acc ++ l) := by
  intro l
  induction l with
  | nil =>
    intro acc f p r _ hm hf
    obtain ⟨f, rfl⟩ : ∃ g, f = g + 1 := ⟨f - 1, by simp at hf; omega⟩
    simp only [List.length_nil, Nat.add_zero] at hm
    unfold prodsR; rw [if_neg (by omega)]; simp
  | cons d l ih =>
    intro acc f p r hd hm hf
    obtain ⟨f, rfl⟩ : ∃ g, f = g + 1 := ⟨f - 1, by simp at hf; omega⟩
    simp only [List.length_cons] at hm hf
    unfold prodsR; rw [if_pos (by omega)]
    have e1 : prodR (p ++ ((d :: l).flatMap prodL ++ r)) (p.length : Int) = some (d, ((p ++ prodL d).length : Int)) := by
      have := prodR_at (p := p) (r := l.flatMap prodL ++ r) (hd d (by simp))
      simp only [List.flatMap_cons, List.append_assoc] at this ⊢; exact this
    rw [e1]; simp only [Option.bind_some]
    have := ih (acc ++ [d]) f (p ++ prodL d) r (fun x hx => hd x (by simp [hx])) (by simp; omega) (by omega)
    have e2 : p ++ ((d :: l).flatMap prodL ++ r) = p ++ prodL d ++ (l.flatMap prodL ++ r) := by simp
    rw [e2, this]
    simp
theorem readP_at {l : List ProdT} (h : chkP l = 0) : readP (prodsL l) = some l := by
  obtain ⟨h1, h2⟩ := chk_zero.1 h
  have e1 : numR (prodsL l) 0 = some ((l.length : Int), ((varL (zigN (l.length : Int))).length : Int)) := by
    have := numR_at (p := []) (n := (l.length : Int)) (r := l.flatMap prodL) (by unfold I64; omega)
    simpa [prodsL] using this
  have e2 := prodsR_at (n := l.length) l [] 1025 (varL (zigN (l.length : Int))) [] ((prods_iff l).1 h2).1 (by simp) (by omega)
  unfold readP
  rw [e1]; simp only [Option.bind_some]
  simpa [prodsL] using e2
theorem prodsL_bytes (l : List ProdT) : Bytes (prodsL l) := (varL_bytes _).append fun x hx => by
  obtain ⟨p, _, hp⟩ := List.mem_flatMap.1 hx
  refine ((((varL_bytes _).append (varL_bytes _)).append (varL_bytes _)).append fun y hy => ?_) x hp
  obtain ⟨d, _, hd⟩ := List.mem_flatMap.1 hy
  exact (((varL_bytes _).append (varL_bytes _)).append (varL_bytes _)) y hd
/-- What was saved is loaded. -/
theorem loadP_save {l : List ProdT} (h : chkP l = 0) : loadP (saveP l).1 = (l, 0) := by
  unfold saveP; rw [if_pos h]
  unfold loadP
  rw [openR_seal (prodsL_bytes l)]
  simp only [ne_eq, not_true_eq_false, if_false]
  rw [readP_at h]
  dsimp only
  rw [if_pos ⟨h, rfl⟩]
end Go.Wm
