/-
  Who reads what is shown is right in all, in plain Lean. Conditions: none.
-/
import Derived.Test.YtjonlpdnhbnmmaaGreatE3
set_option linter.all false
namespace Go.Wm
open Go.RowKit Go.Proofs
def endP (p : Int) (c : Batch) : Bool := decide (c.pid = p) && !decide (c.ctl = 0)
/-- A committed one is written down with its first offset and where it ended. -/
def Inv2 (l : List Batch) (t : Tx) : Prop := ∀ i, (h : i < l.length) → l[i].ctl = 0 → l[i].txn = true → ∀ e, (l.drop (i + 1)).find? (endP l[i].pid) = some e → e.ctl = 1 → ∃ g ∈ t.done, g.pid = l[i].pid ∧ g.first ≤ l[i].base ∧ g.last = e.base
theorem done_put {t : Tx} {b : Batch} {g : Gone} (h : g ∈ t.done) : g ∈ (putT t b).done := by
  rcases put_cases (t := t) (b := b) with ⟨_, _, _, e⟩ | ⟨_, _, e⟩ | ⟨_, _, e⟩ | ⟨_, _, e⟩ | ⟨_, _, _, e⟩ <;> rw [e]
  · exact h
  · exact h
  · exact h
  · exact h
  · exact List.mem_append_left _ h
theorem nextE_find {l : List Batch} {p : Int} : nextE l p = match l.find? (endP p) with | some c => c.ctl | none => 0 := rfl
theorem inv2_all : ∀ (n : Nat) (l : List Batch), l.length = n → Rising l → Inv2 l (ofT l) := by
  intro n
  induction n with
  | zero =>
    intro l hl _
    obtain rfl := List.length_eq_zero_iff.1 hl
    exact fun i h => absurd h (by simp)
  | succ n ih =>
    intro l hl hr
    rcases List.eq_nil_or_concat l with rfl | ⟨l, b, rfl⟩
    · simp at hl
    rw [List.concat_eq_append] at *
    obtain ⟨h1, h2, h3⟩ := rising_snoc hr
    have i1 := ih l (by simpa using hl) h1
    have i0 := rising_inv h1
    have he : putErr (ofT l) b = 0 := putErr_iff.2 ⟨of_ok l, h2, rising_bnd h1 _ h3⟩
    have e : ofT (l ++ [b]) = putT (ofT l) b := by rw [of_snoc, stepT, if_pos he]
    rw [e]
    intro i hi hc ht x hx hx1
    by_cases hil : i < l.length
    · simp only [List.getElem_append_left hil] at hc ht hx ⊢
      have e2 : (l ++ [b]).drop (i + 1) = l.drop (i + 1) ++ [b] := List.drop_append_of_le_length (by omega)
      rw [e2, List.find?_append] at hx
      cases hf : (l.drop (i + 1)).find? (endP l[i].pid) with
      | some c =>
        rw [hf] at hx
        simp only [Option.some_or, Option.some.injEq] at hx
        subst hx
        obtain ⟨g, hg, hg2⟩ := i1 i hil hc ht c hf hx1
        exact ⟨g, done_put hg, hg2⟩
      | none =>
        rw [hf] at hx
        simp only [Option.none_or] at hx
        have hxb : x = b := by
          have := List.mem_of_find?_eq_some hx
          simpa using this
        subst hxb
        have hP := List.find?_some hx
        simp only [endP, Bool.and_eq_true, decide_eq_true_eq, Bool.not_eq_true', decide_eq_false_iff_not] at hP
        have hn0 : nextE (l.drop (i + 1)) l[i].pid = 0 := by rw [nextE_find, hf]
        obtain ⟨⟨o, ho, ho1, ho2⟩, _⟩ := (i0 i hil hc ht).opn hn0
        obtain ⟨g1, g2⟩ := opens_iff.1 (txP_iff.1 (of_ok l)).1
        obtain ⟨hp, ep⟩ := there_mem g2 ho (pid := x.pid) (by rw [ho1, hP.1])
        have hth : thereO (ofT l).openV x.pid = true := there_iff.2 ⟨hp, by rw [ep, ho1, hP.1]⟩
        have hgf := gone_first (t := ofT l) (b := x) hp
        rw [ep] at hgf
        have hput : putT (ofT l) x = ⟨lessT (ofT l) x, (ofT l).gone, (ofT l).done ++ [goneOf (ofT l) x]⟩ := by
          unfold putT
          rw [if_neg hP.2, if_pos hth, if_neg (by omega)]
        rw [hput]
        exact ⟨goneOf (ofT l) x, by simp, by show x.pid = _; exact hP.1, by rw [hgf]; exact ho2, rfl⟩
    · have e3 : i = l.length := by simp at hi; omega
      subst e3
      have e4 : (l ++ [b]).drop (l.length + 1) = [] := List.drop_eq_nil_of_le (by simp)
      rw [e4] at hx
      simp at hx
theorem rising_inv2 {l : List Batch} (h : Rising l) : Inv2 l (ofT l) := inv2_all _ l rfl h
theorem stab_eq {t : Tx} {high to : Int} (h : to ≤ stabP t high) : stabP t to = to :=
  Int.le_antisymm (stab_le t to).1 (le_stab (Int.le_refl _) fun o ho => Int.le_trans h ((stab_le t high).2 o ho))
theorem find_skip {P : Batch → Bool} {l : List Batch} {i : Nat} (h : i < l.length) (hp : P l[i] = false) : (l.drop i).find? P = (l.drop (i + 1)).find? P := by
  rw [List.drop_eq_getElem_cons h, List.find?_cons, hp]
/-- With as many ends ahead of them, two of a producer's are of one transaction. -/
theorem find_mid {l : List Batch} {p : Int} {i j : Nat} (hij : i ≤ j) (hj : j ≤ l.length) (h : endsN (l.take i) p = endsN (l.take j) p) : (l.drop i).find? (endP p) = (l.drop j).find? (endP p) := by
  have e1 : l.take j = l.take i ++ (l.take j).drop i := by
    have h0 := (List.take_append_drop i (l.take j)).symm
    rw [List.take_take, Nat.min_eq_left hij] at h0
    exact h0
  have e2 : l.drop i = (l.take j).drop i ++ l.drop j := by
    have h0 : l = l.take j ++ l.drop j := (List.take_append_drop j l).symm
    have h1 : l.drop i = (l.take j ++ l.drop j).drop i := by rw [← h0]
    rw [h1, List.drop_append_of_le_length (by rw [List.length_take]; omega)]
  have e3 : ((l.take j).drop i).filter (endP p) = [] := by
    have h2 : endsN (l.take j) p = endsN (l.take i) p + (((l.take j).drop i).filter (endP p)).length := by
      have : endsN (l.take i ++ (l.take j).drop i) p = endsN (l.take i) p + (((l.take j).drop i).filter (endP p)).length := by
        unfold endsN
        rw [List.filter_append, List.length_append]; rfl
      rw [← e1] at this
      exact this
    exact List.length_eq_zero_iff.1 (by omega)
  have e4 : ((l.take j).drop i).find? (endP p) = none := by
    rw [List.find?_eq_none]
    intro x hx hp
    have : x ∈ ((l.take j).drop i).filter (endP p) := List.mem_filter.2 ⟨hx, hp⟩
    rw [e3] at this
    cases this
  rw [e2, List.find?_append, e4, Option.none_or]
theorem find_same {l : List Batch} {p : Int} {i j : Nat} (hi : i < l.length) (hj : j < l.length) (ci : l[i].ctl = 0) (cj : l[j].ctl = 0) (h : endsN (l.take i) p = endsN (l.take j) p) : (l.drop (i + 1)).find? (endP p) = (l.drop (j + 1)).find? (endP p) := by
  rw [← find_skip hi (by simp [endP, ci]), ← find_skip hj (by simp [endP, cj])]
  rcases Nat.le_total i j with hij | hij
  · exact find_mid hij (by omega) h
  · exact (find_mid hij (by omega) h.symm).symm
structure CutF (bs : List Batch) (to : Int) : Prop where
  stab : stabP (ofT bs) to = to
  whole : ∀ g ∈ (ofT bs).done, to ≤ g.last → to ≤ g.first
theorem shown_end {bs : List Batch} {to : Int} (hR : Rising bs) (hC : CutF bs to) {i : Nat} (hi : i < bs.length) (ht : bs[i].txn = true) (hs : showB (ofT bs).gone to bs[i] = true) :
    bs[i].ctl = 0 ∧ bs[i].last < to ∧ ∃ e, (bs.drop (i + 1)).find? (endP bs[i].pid) = some e ∧ e.ctl = 1 ∧ ∃ g ∈ (ofT bs).done, g.pid = bs[i].pid ∧ g.first ≤ bs[i].base ∧ g.last = e.base := by
  have hw := want_show (high := to) hR hi
  rw [hC.stab, hs] at hw
  simp only [wantB, ht, Bool.not_true, Bool.false_or, Bool.and_eq_true, decide_eq_true_eq] at hw
  obtain ⟨⟨h1, h2⟩, h3⟩ := hw
  rw [nextE_find] at h3
  cases hf : (bs.drop (i + 1)).find? (endP bs[i].pid) with
  | none => rw [hf] at h3; simp at h3
  | some e =>
    rw [hf] at h3
    exact ⟨h1, h2, e, rfl, h3, rising_inv2 hR i hi h1 ht e hf h3⟩
theorem find_behind {bs : List Batch} (hR : Rising bs) {i : Nat} (hi : i < bs.length) {e : Batch} {P : Batch → Bool} (h : (bs.drop (i + 1)).find? P = some e) : bs[i].last < e.base := by
  have hm := List.mem_of_find?_eq_some h
  obtain ⟨j, hj, rfl⟩ := List.getElem_of_mem hm
  rw [List.length_drop] at hj
  rw [List.getElem_drop]
  exact rising_lt hR hi (by omega) (by omega)
theorem shown_done {bs : List Batch} {to : Int} (hR : Rising bs) (hC : CutF bs to) {i : Nat} (hi : i < bs.length) (ht : bs[i].txn = true) (hs : showB (ofT bs).gone to bs[i] = true) : (ofT bs).done.any (isP bs[i]) = true := by
  obtain ⟨h1, h2, e, he, _, g, hg, g1, g2, g3⟩ := shown_end hR hC hi ht hs
  have := find_behind hR hi he
  have hsp := (chk_form (hR i hi).1).span.1
  refine List.any_eq_true.2 ⟨g, hg, ?_⟩
  simp only [isP, h1, ht, decide_true, Bool.true_and, Bool.and_eq_true, decide_eq_true_eq]
  exact ⟨⟨g1.symm, g2⟩, by omega⟩
theorem shown_mate {bs : List Batch} {to : Int} (hR : Rising bs) (hC : CutF bs to) {i j : Nat} (hi : i < bs.length) (hj : j < bs.length) (ti : bs[i].txn = true) (tj : bs[j].txn = true) (cj : bs[j].ctl = 0) (hp : bs[j].pid = bs[i].pid) (hn : endsN (bs.take j) bs[j].pid = endsN (bs.take i) bs[i].pid)
    (hs : showB (ofT bs).gone to bs[i] = true) : showB (ofT bs).gone to bs[j] = true := by
  obtain ⟨ci, li, e, he, he1, g, hg, g1, g2, g3⟩ := shown_end hR hC hi ti hs
  rw [hp] at hn
  have hsame := find_same (p := bs[i].pid) hi hj ci cj hn.symm
  rw [he] at hsame
  have hbj := find_behind hR hj hsame.symm
  have hlj : bs[j].last < to := by
    by_cases h : bs[j].last < to
    · exact h
    · have := hC.whole g hg (by omega)
      have := (chk_form (hR i hi).1).span.1
      omega
  have hw := want_show (high := to) hR hj
  rw [hC.stab] at hw
  rw [← hw]
  have hnx : nextE (bs.drop (j + 1)) bs[j].pid = 1 := by rw [nextE_find, hp, ← hsame]; exact he1
  simp [wantB, cj, hlj, tj, hnx]
/-! ### what was told of what is shown -/
theorem rising_pair {bs : List Batch} (hR : Rising bs) : bs.Pairwise fun a b => a.last < b.base := by
  rw [List.pairwise_iff_getElem]
  exact fun i j hi hj hij => rising_lt hR hi hj hij
theorem rising_chk {bs : List Batch} (hR : Rising bs) : ∀ b ∈ bs, chkB b = 0 := fun b hb => by
  obtain ⟨i, hi, rfl⟩ := List.getElem_of_mem hb
  exact (hR i hi).1
theorem heard_rise {tp : Tp} : ∀ {S : List Batch}, (∀ b ∈ S, chkB b = 0) → (S.Pairwise fun a b => a.last < b.base) → (heardL S tp).Pairwise fun a b => a.off < b.off
  | [], _, _ => List.Pairwise.nil
  | b :: S, hc, hp => by
    obtain ⟨h1, h2⟩ := List.pairwise_cons.1 hp
    have ih := heard_rise (tp := tp) (S := S) (fun x hx => hc x (by simp [hx])) h2
    have e : heardL (b :: S) tp = b.recs.map (toldB tp b) ++ heardL S tp := rfl
    rw [e]
    refine List.pairwise_append.2 ⟨?_, ih, fun x hx y hy => ?_⟩
    · rw [List.pairwise_map]
      exact recs_rise (chk_recs (hc b (by simp)))
    · obtain ⟨r, hr, rfl⟩ := List.mem_map.1 hx
      obtain ⟨c, hcS, hy⟩ := List.mem_flatMap.1 hy
      obtain ⟨r2, hr2, rfl⟩ := List.mem_map.1 hy
      have := recs_in (chk_recs (hc b (by simp))) r hr
      have := recs_in (chk_recs (hc c (by simp [hcS]))) r2 hr2
      have := h1 c hcS
      show r.off < r2.off
      omega
theorem heard_mem {tp : Tp} {S : List Batch} {s : Told} : s ∈ heardL S tp ↔ ∃ b ∈ S, ∃ r ∈ b.recs, s = toldB tp b r := by
  unfold heardL
  rw [List.mem_flatMap]
  constructor
  · rintro ⟨b, hb, h⟩
    obtain ⟨r, hr, rfl⟩ := List.mem_map.1 h
    exact ⟨b, hb, r, hr, rfl⟩
  · rintro ⟨b, hb, r, hr, rfl⟩
    exact ⟨b, hb, List.mem_map.2 ⟨r, hr, rfl⟩⟩
theorem take_less {l : List Told} (h : l.Pairwise fun a b => a.off < b.off) {i : Nat} (hi : i < l.length) : ∀ s ∈ l.take i, s.off < l[i].off := fun s hs => by
  obtain ⟨j, hj, rfl⟩ := List.getElem_of_mem hs
  rw [List.length_take] at hj
  rw [List.getElem_take]
  exact List.pairwise_iff_getElem.1 h j i (by omega) hi (by omega)
theorem heard_order {l : List Told} (h : l.Pairwise fun a b => a.off < b.off) : Scan ordOk l := fun i hi => by
  have hl := take_less h hi
  have : aboveP (l.take i) l[i].tp l[i].off = false := by
    unfold aboveP
    rw [List.any_eq_false]
    intro s hs
    have := hl s hs
    simp; omega
  simp [ordOk, this]
theorem heard_once {l : List Told} {tp : Tp} (h : l.Pairwise fun a b => a.off < b.off) (htp : ∀ s ∈ l, s.tp = tp) (h0 : ∀ s ∈ l, 0 ≤ s.off) : Scan (onceOk [⟨tp, 0⟩]) l := fun i hi => by
  have hl := take_less h hi
  have hm := List.getElem_mem hi
  have e : markP [⟨tp, 0⟩] l[i].tp = some 0 := by simp [markP, htp _ hm]
  rw [onceOk_some e]
  have h1 : atP (l.take i) l[i].tp l[i].off = false := by
    unfold atP
    rw [List.any_eq_false]
    intro s hs
    have := hl s hs
    simp; omega
  have h2 := h0 _ hm
  rw [h1]
  simp
  intro s hs _ _
  omega
theorem nd_memR {l : List Rec} {n : Nat} {r : Rec} (h : r ∈ nd l n) : r ∈ l := by
  unfold nd at h
  obtain ⟨j, _, hj⟩ := List.mem_filterMap.1 h
  unfold ndF at hj
  cases e : l[j]? with
  | none => rw [e] at hj; simp at hj
  | some x =>
    rw [e] at hj
    simp only at hj
    split at hj
    · simp only [Option.some.injEq] at hj
      subst hj
      exact List.mem_of_getElem? e
    · cases hj
theorem heard_at {tp : Tp} {S : List Batch} {off : Int} : atP (heardL S tp) tp off = true ↔ ∃ b ∈ S, ∃ r ∈ b.recs, r.off = off := by
  unfold atP
  rw [List.any_eq_true]
  constructor
  · rintro ⟨s, hs, h⟩
    obtain ⟨b, hb, r, hr, rfl⟩ := heard_mem.1 hs
    simp only [Bool.and_eq_true, decide_eq_true_eq] at h
    exact ⟨b, hb, r, hr, h.2⟩
  · rintro ⟨b, hb, r, hr, e⟩
    exact ⟨toldB tp b r, heard_mem.2 ⟨b, hb, r, hr, rfl⟩, by simp [toldB, e]⟩
theorem heard_whole {bs : List Batch} {to : Int} {tp : Tp} (hR : Rising bs) (hC : CutF bs to) : WholeR (heardL (bs.filter (showB (ofT bs).gone to)) tp) (factsN tp (ofT bs) bs bs.length) := by
  intro n hn
  unfold WholeAt
  by_cases hsk : skipF (heardL (bs.filter (showB (ofT bs).gone to)) tp) (factsN tp (ofT bs) bs bs.length)[n] = true
  · exact .inl hsk
  refine .inr fun k hk => ?_
  obtain ⟨i, hi, _, r, hr, ef⟩ := facts_mem _ (List.getElem_mem hn)
  obtain ⟨j, hj, _, r2, hr2, eg⟩ := facts_mem _ (List.getElem_mem hk)
  cases hbad : badF (heardL (bs.filter (showB (ofT bs).gone to)) tp) n (factsN tp (ofT bs) bs bs.length)[n] k (factsN tp (ofT bs) bs bs.length)[k] with
  | false => rfl
  | true =>
    exfalso
    have hfk : k = n → factB tp (ofT bs) bs j bs[j] r2 = factB tp (ofT bs) bs i bs[i] r := fun e => by subst e; rw [← ef, ← eg]
    rw [ef] at hsk hbad
    rw [eg] at hbad
    simp only [skipF, Bool.not_eq_true, Bool.or_eq_false_iff, decide_eq_false_iff_not, Bool.not_eq_false'] at hsk
    obtain ⟨⟨s1, s2⟩, s3⟩ := hsk
    have ti : bs[i].txn = true := by
      cases e : bs[i].txn
      · exfalso; apply s2; simp [factB, e]
      · rfl
    obtain ⟨b', hb', r', hr', eo⟩ := heard_at.1 s3
    obtain ⟨hbm, hbs⟩ := List.mem_filter.1 hb'
    obtain ⟨i', hi', rfl⟩ := List.getElem_of_mem hbm
    have q1 := recs_in (chk_recs (hR i hi).1) r hr
    have q2 := recs_in (chk_recs (hR i' hi').1) r' hr'
    change r'.off = r.off at eo
    have hii : i' = i := by
      rcases Nat.lt_trichotomy i' i with h | h | h
      · have := rising_lt hR hi' hi h; omega
      · exact h
      · have := rising_lt hR hi hi' h; omega
    subst hii
    simp only [badF, Bool.and_eq_true, decide_eq_true_eq, Bool.or_eq_true, Bool.not_eq_true'] at hbad
    obtain ⟨⟨g1, g2⟩, g3⟩ := hbad
    change bs[j].pid = bs[i'].pid at g1
    have tj : bs[j].txn = true := by
      cases e : bs[j].txn
      · exfalso
        simp only [factB, e, ti, if_true] at g2
        simp at g2
      · rfl
    have g2' : endsN (bs.take j) bs[j].pid = endsN (bs.take i') bs[i'].pid := by
      simp only [factB, ti, tj, if_true] at g2
      exact_mod_cast g2
    have cj : bs[j].ctl = 0 := by
      by_cases e : bs[j].ctl = 0
      · exact e
      · have := ((chk_form (hR j hj).1).ctl e).2.2.1
        rw [List.length_eq_zero_iff.1 this] at hr2
        cases hr2
    have hshow := shown_mate hR hC hi' hj ti tj cj g1 g2' hbs
    rcases g3 with ⟨e, hd⟩ | hat
    · have hdn : (factB tp (ofT bs) bs j bs[j] r2).done = true := by
        have := shown_done hR hC hj tj hshow
        simp [factB, tj, this]
      rw [hdn] at hd; cases hd
    · have : atP (heardL (bs.filter (showB (ofT bs).gone to)) tp) tp r2.off = true := heard_at.2 ⟨bs[j], List.mem_filter.2 ⟨List.getElem_mem hj, hshow⟩, r2, hr2, rfl⟩
      change atP _ tp r2.off = false at hat
      rw [this] at hat; cases hat
end Go.Wm
