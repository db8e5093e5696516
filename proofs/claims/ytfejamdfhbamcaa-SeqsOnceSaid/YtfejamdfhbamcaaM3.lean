/-
  Producers, in plain Lean: nothing is written twice. Conditions: none.
-/
import Derived.Test.YtfejamdfhbamcaaM4
set_option linter.all false
namespace Go.Wm
/-! ### all that was written -/
def isOf (pid gen : Int) (b : Batch) : Bool := decide (b.pid = pid) && decide (b.gen = gen)
def didsOf (log : List Batch) (pid gen : Int) : List Did := (log.filter (isOf pid gen)).map didB
def LogP (log : List Batch) : Prop := ∀ i, (h : i < log.length) → log[i].seq = nextD (didsOf (log.take i) log[i].pid log[i].gen) ∧ ∀ y ∈ log.take i, y.pid = log[i].pid → y.gen ≤ log[i].gen
theorem lastFive_snoc (l : List Did) (d : Did) : lastFive (lastFive l ++ [d]) = lastFive (l ++ [d]) := by
  unfold lastFive
  have e1 : (l ++ [d]).drop ((l ++ [d]).length - 5) = l.drop (l.length + 1 - 5) ++ [d] := by
    rw [List.drop_append_of_le_length (by simp)]; simp
  rw [e1, List.drop_append_of_le_length (by simp), List.drop_drop]
  congr 2
  simp; omega
theorem lastFive_last (l : List Did) : (lastFive l).getLast? = l.getLast? := by
  unfold lastFive
  rw [List.getLast?_drop]
  split
  · have : l.length = 0 := by omega
    rw [List.eq_nil_of_length_eq_zero this]; rfl
  · rfl
theorem nextD_five (l : List Did) : nextD (lastFive l) = nextD l := by unfold nextD; rw [lastFive_last]
structure LogInv (l : List ProdT) (log : List Batch) : Prop where
  chk : chkP l = 0
  of : ofR log = l
  dids : ∀ p ∈ l, p.did = lastFive (didsOf log p.pid p.gen) ∧ ∀ x ∈ log, x.pid = p.pid → x.gen ≤ p.gen
  all : ∀ x ∈ log, ∃ p ∈ l, p.pid = x.pid
  ordered : LogP log
  few : l.length ≤ log.length
theorem logInv_nil : LogInv [] [] := ⟨chk_zero.2 ⟨by simp, fun i hi => absurd hi (by simp)⟩, rfl, by simp, by simp, fun i hi => absurd hi (by simp), by simp⟩
theorem didsOf_snoc_same {log : List Batch} {x : Batch} : didsOf (log ++ [x]) x.pid x.gen = didsOf log x.pid x.gen ++ [didB x] := by
  unfold didsOf; rw [List.filter_append, List.map_append]; congr 1; simp [isOf]
theorem didsOf_snoc_other {log : List Batch} {x : Batch} {pid gen : Int} (h : x.pid ≠ pid) : didsOf (log ++ [x]) pid gen = didsOf log pid gen := by
  unfold didsOf; rw [List.filter_append, List.map_append]; simp [isOf, h]
/-- What the state of a batch's producer says of all that was written. -/
theorem LogInv.state {l : List ProdT} {log : List Batch} {b : Batch} (h : LogInv l log) (hs : (stateR l b).2 = false) : (stateR l b).1.did = lastFive (didsOf log b.pid b.gen) ∧ ∀ x ∈ log, x.pid = b.pid → x.gen ≤ b.gen := by
  have hpw := ((prods_iff l).1 (chk_zero.1 h.chk).2).2
  unfold stateR at hs ⊢
  cases hf : findP l b.pid with
  | some p =>
    rw [hf] at hs
    dsimp only at hs ⊢
    obtain ⟨hm, he⟩ := findP_some hf
    obtain ⟨d1, d2⟩ := h.dids p hm
    split at hs
    · rename_i h1
      rw [if_pos h1]
      have : ¬ b.gen < p.gen := by simpa using hs
      have hg : p.gen = b.gen := by omega
      rw [he, hg] at d1
      rw [he, hg] at d2
      exact ⟨d1, d2⟩
    · rename_i h1
      rw [if_neg h1]
      have key : ∀ x ∈ log, x.pid = b.pid → x.gen < b.gen := fun x hx hp => by have := d2 x hx (by omega); omega
      refine ⟨?_, fun x hx hp => by have := key x hx hp; omega⟩
      have : didsOf log b.pid b.gen = [] := by
        unfold didsOf
        rw [List.map_eq_nil_iff, List.filter_eq_nil_iff]
        intro x hx hc
        simp only [isOf, Bool.and_eq_true, decide_eq_true_eq] at hc
        have := key x hx hc.1; omega
      rw [this]; rfl
  | none =>
    dsimp only
    have key : ∀ x ∈ log, x.pid ≠ b.pid := fun x hx hp => by
      obtain ⟨p, hm, he⟩ := h.all x hx
      exact findP_none hf p hm (by omega)
    refine ⟨?_, fun x hx hp => absurd hp (key x hx)⟩
    have : didsOf log b.pid b.gen = [] := by
      unfold didsOf
      rw [List.map_eq_nil_iff, List.filter_eq_nil_iff]
      intro x hx hc
      simp only [isOf, Bool.and_eq_true, decide_eq_true_eq] at hc
      exact key x hx hc.1
    rw [this]; rfl
theorem LogInv.room {l : List ProdT} {log : List Batch} (h : LogInv l log) (hl : log.length < 1024) (b : Batch) : fullP l b = false := by
  have := h.few
  unfold fullP
  rw [show decide (1024 ≤ l.length) = false by simp; omega]
  simp
/-- What is written down may be written down just if it may be looked for. -/
theorem LogInv.same {l : List ProdT} {log : List Batch} (h : LogInv l log) (hl : log.length < 1024) (b : Batch) : (putR l b).2 = (lookR l b).2.2 := by
  unfold putR
  split
  · rfl
  · rename_i h1
    rw [h.room hl]
    simp only [Bool.false_eq_true, if_false]
    have : (lookR l b).2.2 = 0 := Decidable.not_not.1 h1
    rw [this]
    split <;> rfl
theorem look_there {l : List ProdT} {b : Batch} (h : (lookR l b).2.1 = true) : (stateR l b).2 = false ∧ 0 ≤ b.pid ∧ ∃ d, (stateR l b).1.did.find? (sameD b) = some d ∧ lookR l b = (d.base, true, 0) := by
  unfold lookR at h ⊢
  split at h
  · simp at h
  rename_i h1
  rw [if_neg h1]
  split at h
  · simp at h
  rename_i h2
  rw [if_neg h2]
  split at h
  · simp at h
  rename_i h3
  rw [if_neg h3]
  split at h
  · simp at h
  rename_i h4
  rw [if_neg h4]
  unfold stepLook at h ⊢
  split at h
  · rename_i d hd
    refine ⟨by simpa using h3, ?_, d, hd, ?_⟩
    · have : ¬ b.pid < 0 := fun hc => h2 (.inr hc)
      omega
    · first | rfl | rw [hd]
  · split at h <;> simp at h
/-- What is there was written. -/
theorem LogInv.found {l : List ProdT} {log : List Batch} {b : Batch} (h : LogInv l log) (ht : (lookR l b).2.1 = true) : ∃ x ∈ log, x.base = (lookR l b).1 ∧ x.pid = b.pid ∧ x.gen = b.gen ∧ x.seq = b.seq ∧ x.last - x.base = b.last - b.base := by
  obtain ⟨hs, _, d, hd, he⟩ := look_there ht
  obtain ⟨h1, _⟩ := h.state hs
  have hm := List.mem_of_find?_eq_some hd
  have hsd := List.find?_some hd
  rw [h1] at hm
  have hm := List.mem_of_mem_drop hm
  unfold didsOf at hm
  obtain ⟨x, hx, rfl⟩ := List.mem_map.1 hm
  obtain ⟨hx1, hx2⟩ := List.mem_filter.1 hx
  simp only [isOf, Bool.and_eq_true, decide_eq_true_eq] at hx2
  unfold sameD didB at hsd
  rw [Bool.and_eq_true] at hsd
  have q1 : b.seq = x.seq := of_decide_eq_true hsd.1
  have q2 : b.seq + b.last - b.base = x.seq + x.last - x.base := of_decide_eq_true hsd.2
  refine ⟨x, hx1, by rw [he]; rfl, hx2.1, hx2.2, q1.symm, by omega⟩
theorem LogInv.there {l : List ProdT} {log : List Batch} {b : Batch} (h : LogInv l log) (ht : (lookR l b).2.1 = true) (hp : (putR l b).2 = 0) : (putR l b).1 = l := by
  obtain ⟨hs, hpid, d, hd, he⟩ := look_there ht
  cases put_cases hp with
  | none _ e => rw [e]
  | there _ _ _ _ _ e => rw [e]
  | ctl _ _ _ _ _ e => rw [e] at he; simp at he
  | data _ _ _ _ _ _ _ e => rw [e] at he; simp at he
/-- A batch more. -/
theorem LogInv.step {l : List ProdT} {log : List Batch} {b : Batch} (h : LogInv l log) (hp0 : 0 ≤ b.pid) (hc : b.ctl = 0) (hp : (putR l b).2 = 0) (hn : (lookR l b).2.1 = false) : LogInv (putR l b).1 (log ++ [b]) := by
  have hpw := ((prods_iff l).1 (chk_zero.1 h.chk).2).2
  have hchk := put_chk hp
  have hof : ofR (log ++ [b]) = (putR l b).1 := by
    have : ofR (log ++ [b]) = ofStep (ofR log) b := by unfold ofR; simp
    rw [this, h.of]; unfold ofStep; rw [if_pos hp]
  cases put_cases hp with
  | none hneg => omega
  | there d _ _ _ _ _ e => rw [e] at hn; simp at hn
  | ctl _ _ _ hct => exact absurd hc hct
  | data _ hs hnf _ hf hseq e e' =>
    obtain ⟨s1, s2, _, _⟩ := state_ok (chk_zero.1 h.chk).2 hs
    obtain ⟨w1, w2⟩ := withB_pid (stateR l b).1 b
    obtain ⟨i1, i2⟩ := h.state hs
    have hwd : (withB (stateR l b).1 b).did = lastFive (didsOf (log ++ [b]) b.pid b.gen) := by
      rw [didsOf_snoc_same, ← lastFive_snoc, ← i1]
      unfold withB; rw [if_pos hc]
    rw [e] at hchk hof ⊢
    dsimp only at hchk hof ⊢
    refine ⟨hchk, hof, fun p hpm => ?_, fun x hx => ?_, fun i hi => ?_, ?_⟩
    · rcases putP_mem hpm with rfl | ⟨hm, hne⟩
      · refine ⟨by rw [w1, w2, s1, s2]; exact hwd, fun x hx hxp => ?_⟩
        rw [w1, s1] at hxp
        rw [w2, s2]
        rcases List.mem_append.1 hx with hx | hx
        · exact i2 x hx hxp
        · simp at hx; subst hx; omega
      · have hne := hne hpw
        rw [w1, s1] at hne
        obtain ⟨d1, d2⟩ := h.dids p hm
        refine ⟨by rw [didsOf_snoc_other (Ne.symm hne)]; exact d1, fun x hx hxp => ?_⟩
        rcases List.mem_append.1 hx with hx | hx
        · exact d2 x hx hxp
        · simp at hx; subst hx; exact absurd hxp (Ne.symm hne)
    · rcases List.mem_append.1 hx with hx | hx
      · obtain ⟨p, hm, he⟩ := h.all x hx
        by_cases hpe : p.pid = b.pid
        · exact ⟨_, putP_self _ _, by rw [w1, s1]; omega⟩
        · exact ⟨p, putP_other hm (by rw [w1, s1]; exact hpe), he⟩
      · simp at hx; subst hx
        exact ⟨_, putP_self _ _, by rw [w1, s1]⟩
    · by_cases hlt : i < log.length
      · rw [List.getElem_append_left hlt, List.take_append_of_le_length (by omega)]
        exact h.ordered i hlt
      · have : i = log.length := by simp at hi; omega
        subst this
        rw [List.getElem_append_right (Nat.le_refl _), List.take_left' rfl]
        simp only [Nat.sub_self, List.getElem_cons_zero]
        exact ⟨by rw [hseq, i1, nextD_five], i2⟩
    · have := putP_len l (withB (stateR l b).1 b)
      have := h.few
      simp; omega
end Go.Wm
