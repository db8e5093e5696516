/-
  Producers, in plain Lean: what is written is there, and so on. Conditions: none.
-/
import Derived.Test.YtfejamdfhbamcaaM1
set_option linter.all false
namespace Go.Wm
theorem chk_zero {l : List ProdT} : chkP l = 0 ↔ l.length ≤ 1024 ∧ ProdsP l := by
  unfold chkP
  split
  · simp; omega
  · split
    · rename_i h1 h2; simp; exact ⟨by omega, h2⟩
    · rename_i h1 h2; simp; intro _; exact h2
theorem form_pid {b : Batch} (h : FormP b) (hp : ¬ b.pid < 0) : 0 ≤ b.pid ∧ b.pid ≤ 1099511627776 := h.some (by omega)
theorem didB_ok {b : Batch} (h : FormP b) : didOk (didB b) = true := by
  have h1 := h.seq; have h2 := h.seqs; have h3 := h.base; have h4 := h.span
  unfold didOk didB; simp only [Bool.and_eq_true, inI_iff]
  refine ⟨⟨h1.1, by omega⟩, ⟨by omega, by omega⟩, h3⟩
/-- What is known of a batch's producer, where the batch is not kept out. -/
theorem state_ok {l : List ProdT} {b : Batch} (hl : ProdsP l) (hs : (stateR l b).2 = false) : (stateR l b).1.pid = b.pid ∧ (stateR l b).1.gen = b.gen ∧ DidsP (stateR l b).1.did ∧ (stateR l b).1.did.length ≤ 5 := by
  unfold stateR at hs ⊢
  split at hs
  · rename_i p hp
    obtain ⟨hm, he⟩ := findP_some hp
    have hok := prodOk_iff.1 (((prods_iff l).1 hl).1 p hm)
    try rw [hp]
    try dsimp only
    split at hs
    · rename_i h1
      rw [if_pos h1]
      have : ¬ b.gen < p.gen := by simpa using hs
      exact ⟨he, by dsimp only; omega, hok.2.2.2, hok.2.2.1⟩
    · rename_i h1
      rw [if_neg h1]
      exact ⟨rfl, rfl, dids_nil, by simp⟩
  · exact ⟨rfl, rfl, dids_nil, by simp⟩
theorem withB_pid (p : ProdT) (b : Batch) : (withB p b).pid = p.pid ∧ (withB p b).gen = p.gen := by unfold withB; split <;> exact ⟨rfl, rfl⟩
theorem next_last {l : List Did} {b : Batch} (h : b.seq = nextD l) : ∀ x, l.getLast? = some x → x.last + 1 = (didB b).seq := fun x hx => by
  unfold nextD at h; rw [hx] at h; exact h.symm
inductive PutC (l : List ProdT) (b : Batch) : Prop
  | none : b.pid < 0 → putR l b = (l, 0) → lookR l b = (0, false, 0) → PutC l b
  | there (d : Did) : 0 ≤ b.pid → (stateR l b).2 = false → b.ctl = 0 → (stateR l b).1.did.find? (sameD b) = some d → putR l b = (l, 0) → lookR l b = (d.base, true, 0) → PutC l b
  | ctl : 0 ≤ b.pid → (stateR l b).2 = false → fullP l b = false → b.ctl ≠ 0 → putR l b = (putP l (stateR l b).1, 0) → lookR l b = (0, false, 0) → PutC l b
  | data : 0 ≤ b.pid → (stateR l b).2 = false → fullP l b = false → b.ctl = 0 → (stateR l b).1.did.find? (sameD b) = .none → b.seq = nextD (stateR l b).1.did → putR l b = (putP l (withB (stateR l b).1 b), 0) → lookR l b = (0, false, 0) → PutC l b
theorem look_zero {l : List ProdT} {b : Batch} (h : (lookR l b).2.2 = 0) : chkP l = 0 ∧ chkB b = 0 := by
  unfold lookR at h
  split at h
  · rename_i h1; exact absurd h h1
  · rename_i h1
    refine ⟨Decidable.not_not.1 h1, ?_⟩
    split at h
    · exact h
    · rename_i h2
      exact Decidable.byContradiction fun h3 => h2 (.inl h3)
theorem put_zero {l : List ProdT} {b : Batch} (h : (putR l b).2 = 0) : (lookR l b).2.2 = 0 := by
  unfold putR at h
  split at h
  · exact h
  · rename_i h1; exact Decidable.not_not.1 h1
theorem put_cases {l : List ProdT} {b : Batch} (h : (putR l b).2 = 0) : PutC l b := by
  have hz := put_zero h
  obtain ⟨c1, c2⟩ := look_zero hz
  have hput : putR l b = if fullP l b = true then ([], 2) else if (lookR l b).2.1 = true ∨ b.pid < 0 then (l, 0) else (putP l (withB (stateR l b).1 b), 0) := by
    conv => lhs; unfold putR
    rw [if_neg (by simp [hz])]
  have hnf : fullP l b = false := by
    cases hf : fullP l b
    · rfl
    · rw [hput, hf] at h; simp at h
  rw [hnf] at hput
  simp only [Bool.false_eq_true, if_false] at hput
  by_cases hpid : b.pid < 0
  · refine .none hpid ?_ ?_
    · rw [hput, if_pos (.inr hpid)]
    · unfold lookR; rw [if_neg (by simp [c1]), if_pos (.inr hpid), c2]
  have hlk : lookR l b = if (stateR l b).2 = true then (0, false, 110) else if b.ctl ≠ 0 then (0, false, 0) else stepLook (stateR l b).1 b := by
    conv => lhs; unfold lookR
    rw [if_neg (by simp [c1]), if_neg (by simp [c2]; omega)]
  have hs : (stateR l b).2 = false := by
    cases hf : (stateR l b).2
    · rfl
    · rw [hlk, hf] at hz; simp at hz
  rw [hs] at hlk
  simp only [Bool.false_eq_true, if_false] at hlk
  by_cases hc : b.ctl = 0
  · rw [if_neg (by simp [hc])] at hlk
    unfold stepLook at hlk
    cases hf : (stateR l b).1.did.find? (sameD b) with
    | some d =>
      rw [hf] at hlk
      dsimp only at hlk
      refine .there d (by omega) hs hc hf ?_ hlk
      rw [hput, hlk]; simp
    | none =>
      rw [hf] at hlk
      dsimp only at hlk
      by_cases hn : b.seq = nextD (stateR l b).1.did
      · rw [if_pos hn] at hlk
        refine .data (by omega) hs hnf hc hf hn ?_ hlk
        rw [hput, hlk]; simp; omega
      · rw [if_neg hn] at hlk
        rw [hlk] at hz; simp at hz
  · rw [if_pos hc] at hlk
    refine .ctl (by omega) hs hnf hc ?_ hlk
    rw [hput, hlk]
    simp only [Bool.false_eq_true, false_or, if_neg hpid]
    unfold withB; rw [if_neg hc]
theorem full_len {l : List ProdT} {b : Batch} (hp : 0 ≤ b.pid) (h : fullP l b = false) : (∃ q, findP l b.pid = some q) ∨ l.length < 1024 := by
  unfold fullP at h
  cases hf : findP l b.pid with
  | some q => exact .inl ⟨q, rfl⟩
  | none =>
    rw [hf] at h
    simp at h
    exact .inr (h hp)
theorem chk_put {l : List ProdT} {b : Batch} {p : ProdT} (hl : chkP l = 0) (hp : 0 ≤ b.pid) (hf : fullP l b = false) (he : p.pid = b.pid) (hok : prodOk p = true) : chkP (putP l p) = 0 := by
  obtain ⟨h1, h2⟩ := chk_zero.1 hl
  obtain ⟨h3, h4⟩ := (prods_iff l).1 h2
  refine chk_zero.2 ⟨?_, (prods_iff _).2 ⟨fun q hq => ?_, putP_pair h4⟩⟩
  · rcases full_len hp hf with ⟨q, hq⟩ | h
    · rw [putP_len_same h4 (by rw [he]; exact hq)]; exact h1
    · have := putP_len l p; omega
  · rcases putP_mem hq with rfl | ⟨hq, _⟩
    · exact hok
    · exact h3 q hq
theorem state_prod {l : List ProdT} {b : Batch} (hb : FormP b) (hl : ProdsP l) (hp : 0 ≤ b.pid) (hs : (stateR l b).2 = false) : prodOk (stateR l b).1 = true := by
  obtain ⟨s1, s2, s3, s4⟩ := state_ok hl hs
  exact prodOk_iff.2 ⟨by rw [s1]; exact form_pid hb (by omega), by rw [s2]; exact hb.gen, s4, s3⟩
theorem with_prod {l : List ProdT} {b : Batch} (hb : FormP b) (hl : ProdsP l) (hp : 0 ≤ b.pid) (hs : (stateR l b).2 = false) (hn : b.seq = nextD (stateR l b).1.did) : prodOk (withB (stateR l b).1 b) = true := by
  obtain ⟨s1, s2, s3, s4⟩ := state_ok hl hs
  obtain ⟨w1, w2⟩ := withB_pid (stateR l b).1 b
  refine prodOk_iff.2 ⟨by rw [w1, s1]; exact form_pid hb (by omega), by rw [w2, s2]; exact hb.gen, ?_, ?_⟩
  · unfold withB; split
    · exact lastFive_le _
    · exact s4
  · unfold withB; split
    · exact dids_drop (dids_snoc s3 (didB_ok hb) (next_last hn)) _
    · exact s3
/-- What is written down may be. -/
theorem put_chk {l : List ProdT} {b : Batch} (h : (putR l b).2 = 0) : chkP (putR l b).1 = 0 := by
  obtain ⟨c1, c2⟩ := look_zero (put_zero h)
  have hb := chkB_form c2
  have hl := (chk_zero.1 c1).2
  cases put_cases h with
  | none _ e => rw [e]; exact c1
  | there d _ _ _ _ e => rw [e]; exact c1
  | ctl hp hs hf _ e => rw [e]; exact chk_put c1 hp hf (state_ok hl hs).1 (state_prod hb hl hp hs)
  | data hp hs hf _ _ hn e => rw [e]; exact chk_put c1 hp hf ((withB_pid _ _).1.trans (state_ok hl hs).1) (with_prod hb hl hp hs hn)
theorem look_seq {l : List ProdT} {b : Batch} (h : (lookR l b).2.2 = 111) : chkP l = 0 → chkB b ≠ 111 → chkB b = 0 ∧ 0 ≤ b.pid ∧ (stateR l b).2 = false ∧ b.ctl = 0 := by
  intro c1 c3
  unfold lookR at h
  rw [if_neg (by simp [c1])] at h
  split at h
  · exact absurd h c3
  rename_i h2
  have c2 : chkB b = 0 := Decidable.byContradiction fun h3 => h2 (.inl h3)
  have hp : ¬ b.pid < 0 := fun h3 => h2 (.inr h3)
  split at h
  · simp at h
  rename_i h4
  split at h
  · simp at h
  rename_i h5
  exact ⟨c2, by omega, by simpa using h4, Decidable.not_not.1 h5⟩
theorem put_seq {l : List ProdT} {b : Batch} (h : (putR l b).2 = 111) : (lookR l b).2.2 = 111 := by
  unfold putR at h
  split at h
  · exact h
  · split at h
    · simp at h
    · split at h <;> simp at h
theorem ofStep_chk {l : List ProdT} {b : Batch} (hl : chkP l = 0) (hb : chkB b ≠ 111) : chkP (ofStep l b) = 0 := by
  unfold ofStep
  split
  · rename_i h; exact put_chk h
  · split
    · rename_i h1 h2
      obtain ⟨c2, hp, hs, hc⟩ := look_seq (put_seq h2) hl hb
      split
      · rename_i h3
        have hpr := (chk_zero.1 hl).2
        obtain ⟨s1, s2, s3, s4⟩ := state_ok hpr hs
        have hf := chkB_form c2
        exact chk_put hl hp h3.2 s1 (prodOk_iff.2 ⟨by dsimp only; rw [s1]; exact form_pid hf (by omega), by dsimp only; rw [s2]; exact hf.gen, by simp, dids_one (didB_ok hf)⟩)
      · exact hl
    · exact hl
theorem of_chk {bs : List Batch} (hb : ∀ b ∈ bs, chkB b ≠ 111) : chkP (ofR bs) = 0 := by
  have : ∀ (bs : List Batch) (l : List ProdT), (∀ b ∈ bs, chkB b ≠ 111) → chkP l = 0 → chkP (bs.foldl ofStep l) = 0 := by
    intro bs
    induction bs with
    | nil => intro l _ h; exact h
    | cons b bs ih => intro l hb h; exact ih _ (fun x hx => hb x (by simp [hx])) (ofStep_chk h (hb b (by simp)))
  exact this bs [] hb (chk_zero.2 ⟨by simp, fun i hi => absurd hi (by simp)⟩)
/-- The producer of a batch that was written: where it stands, and its generation. -/
theorem put_find {l : List ProdT} {b : Batch} (h : (putR l b).2 = 0) (hp : 0 ≤ b.pid) : ∃ p, findP (putR l b).1 b.pid = some p ∧ p.gen = b.gen := by
  obtain ⟨c1, c2⟩ := look_zero (put_zero h)
  have hl := (chk_zero.1 c1).2
  have hpw := ((prods_iff l).1 hl).2
  cases put_cases h with
  | none hn => omega
  | there d _ hs _ hf e =>
    rw [e]
    unfold stateR at hs hf
    split at hs
    · rename_i p hfp
      rw [hfp] at hf
      dsimp only at hf
      refine ⟨p, hfp, ?_⟩
      split at hs
      · rename_i h1
        have : ¬ b.gen < p.gen := by simpa using hs
        omega
      · rename_i h1
        rw [if_neg h1] at hf
        simp at hf
    · rename_i hfp
      rw [hfp] at hf
      simp at hf
  | ctl _ hs _ _ e =>
    obtain ⟨s1, s2, _⟩ := state_ok hl hs
    rw [e]; exact ⟨_, by rw [← s1]; exact putP_find hpw, s2⟩
  | data _ hs _ _ _ _ e =>
    obtain ⟨s1, s2, _⟩ := state_ok hl hs
    obtain ⟨w1, w2⟩ := withB_pid (stateR l b).1 b
    rw [e]; exact ⟨_, by rw [← s1, ← w1]; exact putP_find hpw, w2.trans s2⟩
/-- An elder generation is kept out. -/
theorem look_elder {l : List ProdT} {b old : Batch} (h : (putR l b).2 = 0) (hp : 0 ≤ b.pid) (ho : chkB old = 0) (hpid : old.pid = b.pid) (hg : old.gen < b.gen) : lookR (putR l b).1 old = (0, false, 110) ∧ putR (putR l b).1 old = ([], 110) := by
  obtain ⟨p, hf, hgen⟩ := put_find h hp
  have hc := put_chk h
  have hlk : lookR (putR l b).1 old = (0, false, 110) := by
    unfold lookR
    rw [if_neg (by simp [hc]), if_neg (by rw [hpid]; simp [ho]; omega)]
    have : (stateR (putR l b).1 old).2 = true := by
      unfold stateR; rw [hpid, hf]; dsimp only; rw [if_pos (by omega)]; simp; omega
    rw [this]; simp
  refine ⟨hlk, ?_⟩
  generalize (putR l b).1 = m at hlk
  unfold putR
  rw [hlk]
  simp
/-- What was written is there; written again it changes nothing. -/
theorem look_twice {l : List ProdT} {b : Batch} (h : (putR l b).2 = 0) : (lookR (putR l b).1 b).2.2 = 0 ∧ putR (putR l b).1 b = ((putR l b).1, 0) ∧
    (if b.pid < 0 ∨ b.ctl ≠ 0 then (lookR (putR l b).1 b).2.1 = false else (lookR (putR l b).1 b).2.1 = true ∧ ((lookR l b).2.1 = true ∨ (lookR (putR l b).1 b).1 = b.base)) := by
  have hc := put_chk h
  obtain ⟨c1, c2⟩ := look_zero (put_zero h)
  have hl := (chk_zero.1 c1).2
  have hpw := ((prods_iff l).1 hl).2
  cases put_cases h with
  | none hn e e' =>
    rw [e]; dsimp only
    rw [e']; exact ⟨rfl, e, by rw [if_pos (.inl hn)]⟩
  | there d hp hs hct hf e e' =>
    rw [e]; dsimp only
    rw [e']; exact ⟨rfl, e, by rw [if_neg (by simp [hct]; omega)]; exact ⟨rfl, .inl rfl⟩⟩
  | ctl hp hs hnf hct e e' =>
    obtain ⟨s1, s2, s3, s4⟩ := state_ok hl hs
    rw [e] at hc ⊢; dsimp only at hc ⊢
    generalize hst : (stateR l b).1 = st at *
    have hfd : findP (putP l st) b.pid = some st := by rw [← s1]; exact putP_find hpw
    have hstate : stateR (putP l st) b = (st, false) := by
      unfold stateR; rw [hfd]; dsimp only; rw [if_pos (by omega)]; simp; omega
    have hlk : lookR (putP l st) b = (0, false, 0) := by
      unfold lookR; rw [if_neg (by simp [hc]), if_neg (by simp [c2]; omega), hstate]; simp [hct]
    refine ⟨by rw [hlk], ?_, by rw [if_pos (.inr hct), hlk]⟩
    unfold putR
    rw [hlk, hstate]
    have : fullP (putP l st) b = false := by unfold fullP; rw [hfd]; simp
    rw [this]
    simp only [ne_eq, not_true_eq_false, if_false, Bool.false_eq_true, false_or]
    rw [if_neg (by omega)]
    unfold withB; rw [if_neg hct, putP_twice hpw]
  | data hp hs hnf hct hf hn e e' =>
    obtain ⟨s1, s2, s3, s4⟩ := state_ok hl hs
    obtain ⟨w1, w2⟩ := withB_pid (stateR l b).1 b
    rw [e] at hc ⊢; dsimp only at hc ⊢
    generalize hst : (stateR l b).1 = st at *
    have hfd : findP (putP l (withB st b)) b.pid = some (withB st b) := by rw [← s1, ← w1]; exact putP_find hpw
    have hstate : stateR (putP l (withB st b)) b = (withB st b, false) := by
      unfold stateR; rw [hfd]; dsimp only; rw [if_pos (by omega)]; simp; omega
    have hsome : (withB st b).did.find? (sameD b) = some (didB b) := by
      unfold withB; rw [if_pos hct]
      dsimp only
      unfold lastFive
      rw [List.drop_append_of_le_length (by simp), List.find?_append]
      have h1 : (st.did.drop ((st.did ++ [didB b]).length - 5)).find? (sameD b) = .none := by
        rw [List.find?_eq_none] at hf ⊢
        intro x hx
        exact hf x (List.mem_of_mem_drop hx)
      rw [h1]
      simp [sameD, didB]
    have hlk : lookR (putP l (withB st b)) b = (b.base, true, 0) := by
      unfold lookR; rw [if_neg (by simp [hc]), if_neg (by simp [c2]; omega), hstate]
      simp only [Bool.false_eq_true, if_false]
      rw [if_neg (by simp [hct])]
      unfold stepLook; rw [hsome]; rfl
    refine ⟨by rw [hlk], ?_, by rw [if_neg (by simp [hct]; omega), hlk]; exact ⟨rfl, .inr rfl⟩⟩
    unfold putR
    rw [hlk]
    have : fullP (putP l (withB st b)) b = false := by unfold fullP; rw [hfd]; simp
    rw [this]
    simp
/-- No other producer changes. -/
theorem put_others {l : List ProdT} {b : Batch} (h : (putR l b).2 = 0) : (putR l b).1.filter (fun q => !decide (q.pid = b.pid)) = l.filter (fun q => !decide (q.pid = b.pid)) := by
  obtain ⟨c1, c2⟩ := look_zero (put_zero h)
  have hl := (chk_zero.1 c1).2
  have hpw := ((prods_iff l).1 hl).2
  cases put_cases h with
  | none _ e => rw [e]
  | there d _ _ _ _ e => rw [e]
  | ctl hp hs hf _ e =>
    have := putP_filter (l := l) (p := (stateR l b).1) hpw
    rw [(state_ok hl hs).1] at this
    rw [e]; exact this
  | data hp hs hf _ _ hn e =>
    have := putP_filter (l := l) (p := withB (stateR l b).1 b) hpw
    rw [(withB_pid _ _).1, (state_ok hl hs).1] at this
    rw [e]; exact this
theorem one_of {l : List ProdT} (hp : l.Pairwise fun a b => a.pid < b.pid) {p : ProdT} (h : findP l p.pid = some p) : l.filter (fun q => decide (q.pid = p.pid)) = [p] := by
  induction l with
  | nil => simp [findP] at h
  | cons r l ih =>
    obtain ⟨h1, h2⟩ := List.pairwise_cons.1 hp
    unfold findP at h
    by_cases hr : r.pid = p.pid
    · rw [List.find?_cons_of_pos (by simp [hr])] at h
      cases h
      rw [List.filter_cons_of_pos (by simp)]
      congr 1
      rw [List.filter_eq_nil_iff]
      intro q hq
      have := h1 q hq
      simp; omega
    · rw [List.find?_cons_of_neg (by simp [hr])] at h
      rw [List.filter_cons_of_neg (by simp [hr])]
      exact ih h2 h
theorem dids_mem {l : List Did} (h : DidsP l) : ∀ d ∈ l, didOk d = true := fun d hd => by
  obtain ⟨i, hi, rfl⟩ := List.getElem_of_mem hd
  exact (h i hi).1
end Go.Wm
