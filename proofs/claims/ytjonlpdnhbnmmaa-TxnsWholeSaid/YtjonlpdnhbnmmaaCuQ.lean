/-
  Cuts in plain Lean: the program's way, by places of transactions. Conditions: none.
-/
import Derived.Test.YtjonlpdnhbnmmaaR8
import Derived.Lib.Bytealg
set_option linter.all false
namespace Go.Wm
open Go.RowKit Go.Proofs
section
variable {P : Program} {o : Oper} {e : Env} {k : PH}
end

attribute [local irreducible] RG CG EG WA Loc Det Alc CT Exit.then Exit.inBlock Code.wp bodyPost

theorem sl_flat {α : Type} {T : Ty α} {f : α → List Value} {k : PH} {b : Nat} {c : Array Value} {et : TypeId} {fr : Nat × Nat} {xs : List α} (h : k b = some (.cells c et fr)) (hc : c.toList = xs.flatMap f) (hr : ∀ x ∈ xs, T.rep k (f x) x) (hm : xs.length ≤ maxLen) : Sl T k (some ⟨b, 0, none⟩) xs.length xs :=
  sl_rows (css := xs.map f) h (by rw [hc]; simp [List.flatMap]) (by simp) (fun i cs x h1 h2 => by
    rw [List.getElem?_map, h2] at h1
    cases h1
    exact hr x (List.mem_of_getElem? h2)) hm
theorem sl_none {α : Type} (T : Ty α) (k : PH) : Sl T k none 0 [] := ⟨by simp, by simp [maxLen], fun _ => rfl, by simp, by simp⟩

def cmpInt (a b : Int) : Int := if a < b then -1 else if a > b then 1 else 0
def cmpStr (a b : ByteArray) : Int := Lib.compareBytes a.data.toList b.data.toList
def orL (l : List Int) : Int := (l.find? fun n => n != 0).getD 0
def ordTp (a b : Tp) : Int := orL [cmpStr a.topic b.topic, cmpInt a.part b.part, cmpInt a.home b.home]

theorem cmpInt_cases (a b : Int) : (cmpInt a b = -1 ∧ a < b) ∨ (cmpInt a b = 0 ∧ a = b) ∨ (cmpInt a b = 1 ∧ b < a) := by
  unfold cmpInt
  by_cases h : a < b
  · exact .inl ⟨by simp [h], h⟩
  · by_cases h2 : b < a
    · exact .inr (.inr ⟨by simp [h, h2], h2⟩)
    · exact .inr (.inl ⟨by simp [h, h2], by omega⟩)
theorem isNaN_ct {k : PH} (a : Int) : CT Try.prog 129 #[.int .i64 a] k (fun _ v => v = .bool false) := by
  refine ct_of_body (l := [_]) Try.func129 rfl Try.ntmps129 (by simp) (fun _ _ _ _ h => h) fun F hF0 hFm => ?_
  repeat (first | refine cg_seq ?_ | refine cg_region ?_ | refine rg_nil ?_ | refine eg_then ?_ | refine qsp ?_ | refine qsn ?_ | refine qsa ?_ | refine qss ?_ | refine qsi ?_ | refine qsz ?_ | refine qsl ?_ | refine qsg ?_ | refine qsf ?_ | refine qsd ?_ | refine qsE ?_ | refine qsX ?_ | refine qse ?_ | refine qsx ?_ | refine qso ?_ | refine cg_cond_true rfl ?_ | refine cg_cond_false rfl ?_ | refine cg_skip ?_ | refine cg_block ?_ | refine eg_in_normal ?_ | refine cg_ret ?_ | refine eg_then_ret ?_ | refine eg_in_ret ?_ | refine cg_exit ?_ | refine eg_then_exit ?_ | refine eg_in_exit ?_ | refine eg_in_other rfl ?_)
  refine eg_return rfl rfl ?_
  simp
set_option maxHeartbeats 400000 in
theorem cmpInt_ct {k : PH} (a b : Int) : CT Try.prog 111 #[.int .i64 a, .int .i64 b] k (fun _ v => v = .int .i64 (cmpInt a b)) := by
  refine ct_of_body (l := [_, _]) Try.func111 rfl Try.ntmps111 (by simp) (fun _ _ _ _ h => h) fun F hF0 hFm => ?_
  repeat (first | refine cg_seq ?_ | refine cg_region ?_ | refine rg_nil ?_ | refine eg_then ?_ | refine qsp ?_ | refine qsn ?_ | refine qsa ?_ | refine qss ?_ | refine qsi ?_ | refine qsz ?_ | refine qsl ?_ | refine qsg ?_ | refine qsf ?_ | refine qsd ?_ | refine qsE ?_ | refine qsX ?_ | refine qse ?_ | refine qsx ?_ | refine qso ?_ | refine cg_cond_true rfl ?_ | refine cg_cond_false rfl ?_ | refine cg_skip ?_ | refine cg_block ?_ | refine eg_in_normal ?_ | refine cg_ret ?_ | refine eg_then_ret ?_ | refine eg_in_ret ?_ | refine cg_exit ?_ | refine eg_then_exit ?_ | refine eg_in_exit ?_ | refine eg_in_other rfl ?_)
  refine rs rfl rfl (loc_call_is rfl rfl rfl rfl (isNaN_ct a)) ?_
  repeat (first | refine cg_seq ?_ | refine cg_region ?_ | refine rg_nil ?_ | refine eg_then ?_ | refine qsp ?_ | refine qsn ?_ | refine qsa ?_ | refine qss ?_ | refine qsi ?_ | refine qsz ?_ | refine qsl ?_ | refine qsg ?_ | refine qsf ?_ | refine qsd ?_ | refine qsE ?_ | refine qsX ?_ | refine qse ?_ | refine qsx ?_ | refine qso ?_ | refine cg_cond_true rfl ?_ | refine cg_cond_false rfl ?_ | refine cg_skip ?_ | refine cg_block ?_ | refine eg_in_normal ?_ | refine cg_ret ?_ | refine eg_then_ret ?_ | refine eg_in_ret ?_ | refine cg_exit ?_ | refine eg_then_exit ?_ | refine eg_in_exit ?_ | refine eg_in_other rfl ?_)
  refine rs rfl rfl (loc_call_is rfl rfl rfl rfl (isNaN_ct b)) ?_
  repeat (first | refine cg_seq ?_ | refine cg_region ?_ | refine rg_nil ?_ | refine eg_then ?_ | refine qsp ?_ | refine qsn ?_ | refine qsa ?_ | refine qss ?_ | refine qsi ?_ | refine qsz ?_ | refine qsl ?_ | refine qsg ?_ | refine qsf ?_ | refine qsd ?_ | refine qsE ?_ | refine qsX ?_ | refine qse ?_ | refine qsx ?_ | refine qso ?_ | refine cg_cond_true rfl ?_ | refine cg_cond_false rfl ?_ | refine cg_skip ?_ | refine cg_block ?_ | refine eg_in_normal ?_ | refine cg_ret ?_ | refine eg_then_ret ?_ | refine eg_in_ret ?_ | refine cg_exit ?_ | refine eg_then_exit ?_ | refine eg_in_exit ?_ | refine eg_in_other rfl ?_)
  refine cg_cond rfl (fun h => ?_) (fun h => ?_)
  · repeat (first | refine cg_seq ?_ | refine cg_region ?_ | refine rg_nil ?_ | refine eg_then ?_ | refine qsp ?_ | refine qsn ?_ | refine qsa ?_ | refine qss ?_ | refine qsi ?_ | refine qsz ?_ | refine qsl ?_ | refine qsg ?_ | refine qsf ?_ | refine qsd ?_ | refine qsE ?_ | refine qsX ?_ | refine qse ?_ | refine qsx ?_ | refine qso ?_ | refine cg_cond_true rfl ?_ | refine cg_cond_false rfl ?_ | refine cg_skip ?_ | refine cg_block ?_ | refine eg_in_normal ?_ | refine cg_ret ?_ | refine eg_then_ret ?_ | refine eg_in_ret ?_ | refine cg_exit ?_ | refine eg_then_exit ?_ | refine eg_in_exit ?_ | refine eg_in_other rfl ?_)
    refine eg_return rfl rfl ?_
    have h : a < b := by simpa using h
    simp [cmpInt, h]
  · repeat (first | refine cg_seq ?_ | refine cg_region ?_ | refine rg_nil ?_ | refine eg_then ?_ | refine qsp ?_ | refine qsn ?_ | refine qsa ?_ | refine qss ?_ | refine qsi ?_ | refine qsz ?_ | refine qsl ?_ | refine qsg ?_ | refine qsf ?_ | refine qsd ?_ | refine qsE ?_ | refine qsX ?_ | refine qse ?_ | refine qsx ?_ | refine qso ?_ | refine cg_cond_true rfl ?_ | refine cg_cond_false rfl ?_ | refine cg_skip ?_ | refine cg_block ?_ | refine eg_in_normal ?_ | refine cg_ret ?_ | refine eg_then_ret ?_ | refine eg_in_ret ?_ | refine cg_exit ?_ | refine eg_then_exit ?_ | refine eg_in_exit ?_ | refine eg_in_other rfl ?_)
    have h : ¬ a < b := by simp at h; omega
    refine cg_cond rfl (fun h2 => ?_) (fun h2 => ?_)
    · repeat (first | refine cg_seq ?_ | refine cg_region ?_ | refine rg_nil ?_ | refine eg_then ?_ | refine qsp ?_ | refine qsn ?_ | refine qsa ?_ | refine qss ?_ | refine qsi ?_ | refine qsz ?_ | refine qsl ?_ | refine qsg ?_ | refine qsf ?_ | refine qsd ?_ | refine qsE ?_ | refine qsX ?_ | refine qse ?_ | refine qsx ?_ | refine qso ?_ | refine cg_cond_true rfl ?_ | refine cg_cond_false rfl ?_ | refine cg_skip ?_ | refine cg_block ?_ | refine eg_in_normal ?_ | refine cg_ret ?_ | refine eg_then_ret ?_ | refine eg_in_ret ?_ | refine cg_exit ?_ | refine eg_then_exit ?_ | refine eg_in_exit ?_ | refine eg_in_other rfl ?_)
      refine eg_return rfl rfl ?_
      have h2 : b < a := by simp at h2; omega
      simp [cmpInt, h, h2]
    · repeat (first | refine cg_seq ?_ | refine cg_region ?_ | refine rg_nil ?_ | refine eg_then ?_ | refine qsp ?_ | refine qsn ?_ | refine qsa ?_ | refine qss ?_ | refine qsi ?_ | refine qsz ?_ | refine qsl ?_ | refine qsg ?_ | refine qsf ?_ | refine qsd ?_ | refine qsE ?_ | refine qsX ?_ | refine qse ?_ | refine qsx ?_ | refine qso ?_ | refine cg_cond_true rfl ?_ | refine cg_cond_false rfl ?_ | refine cg_skip ?_ | refine cg_block ?_ | refine eg_in_normal ?_ | refine cg_ret ?_ | refine eg_then_ret ?_ | refine eg_in_ret ?_ | refine cg_exit ?_ | refine eg_then_exit ?_ | refine eg_in_exit ?_ | refine eg_in_other rfl ?_)
      refine eg_return rfl rfl ?_
      have h2 : ¬ b < a := by simp at h2; omega
      simp [cmpInt, h, h2]
end Go.Wm
namespace Go.Wm
open Go.RowKit Go.Proofs
attribute [local irreducible] RG CG EG WA Loc Det Alc CT Exit.then Exit.inBlock Code.wp bodyPost

def okR (r : Int) : Bool := !(decide (r < 33) || decide (r > 126))
def allOk (s : ByteArray) : Bool := decide (∀ i, (h : i < s.size) → okB s[i] = true)
end Go.Wm
namespace Go.Wm

def markAt (m : List Int) (p : Pl) : Int := m.getD p.view.toNat 0
/-- Is a transaction not below marks everywhere? -/
def heldP (m : List Int) (ps : List Pl) : Bool := ps.any fun p => decide (markAt m p ≤ p.last)
def goodP (m : List Int) (ps : List Pl) : Bool := !heldP m ps || ps.all fun p => decide (markAt m p ≤ p.first)
/-- Where a committed transaction stands. -/
def donePl (l : List View) (pid no : Int) : List Pl := l.zipIdx.flatMap fun q => (q.1.tx.done.filter fun g => decide (g.pid = pid) && decide (g.no = no)).map fun g => ⟨(q.2 : Int), g.first, g.last⟩
theorem donePl_mem {l : List View} {pid no : Int} {p : Pl} : p ∈ donePl l pid no ↔ ∃ i, ∃ hi : i < l.length, ∃ g ∈ l[i].tx.done, g.pid = pid ∧ g.no = no ∧ p = ⟨(i : Int), g.first, g.last⟩ := by
  unfold donePl
  simp only [List.mem_flatMap, List.mem_map, List.mem_filter, Bool.and_eq_true, decide_eq_true_eq]
  constructor
  · rintro ⟨⟨v, i⟩, hq, g, ⟨hg, h1, h2⟩, rfl⟩
    rw [List.mk_mem_zipIdx_iff_getElem?] at hq
    obtain ⟨hi, rfl⟩ := List.getElem?_eq_some_iff.1 hq
    exact ⟨i, hi, g, hg, h1, h2, rfl⟩
  · rintro ⟨i, hi, g, hg, h1, h2, rfl⟩
    exact ⟨(l[i], i), List.mk_mem_zipIdx_iff_getElem?.2 (List.getElem?_eq_getElem hi), g, ⟨hg, h1, h2⟩, rfl⟩
/-- The lists of places, of all transactions. -/
structure Places (l : List View) (T : List (List Pl)) : Prop where
  of : ∀ ps ∈ T, (∃ pid no, ps = donePl l pid no) ∨ ∃ i, ∃ hi : i < l.length, ∃ g ∈ l[i].tx.gone, ps = [⟨(i : Int), g.first, g.last⟩]
  done : ∀ i, (hi : i < l.length) → ∀ g ∈ l[i].tx.done, donePl l g.pid g.no ∈ T
  gone : ∀ i, (hi : i < l.length) → ∀ g ∈ l[i].tx.gone, ([⟨(i : Int), g.first, g.last⟩] : List Pl) ∈ T
theorem markAt_nat {m : List Int} {i : Nat} (h : i < m.length) (a b : Int) : markAt m ⟨(i : Int), a, b⟩ = m[i] := by
  simp [markAt, h]
theorem Places.range {l : List View} {T : List (List Pl)} (h : Places l T) : ∀ ps ∈ T, ∀ p ∈ ps, ∃ i, i < l.length ∧ p.view = (i : Int) := fun ps hps p hp => by
  rcases h.of ps hps with ⟨pid, no, rfl⟩ | ⟨i, hi, g, _, rfl⟩
  · obtain ⟨i, hi, g, _, _, _, rfl⟩ := donePl_mem.1 hp
    exact ⟨i, hi, rfl⟩
  · simp at hp
    subst hp
    exact ⟨i, hi, rfl⟩
theorem held_done {l : List View} {m : List Int} (hm : m.length = l.length) (pid no : Int) : heldP m (donePl l pid no) = !belowP l m pid no := by
  rw [Bool.eq_iff_iff, Bool.not_eq_true', belowP_false]
  unfold heldP
  rw [List.any_eq_true]
  constructor
  · rintro ⟨p, hp, h⟩
    obtain ⟨i, hi, g, hg, h1, h2, rfl⟩ := donePl_mem.1 hp
    rw [markAt_nat (by omega)] at h
    exact ⟨i, hi, by omega, g, hg, h1, h2, by simpa using h⟩
  · rintro ⟨i, hi, him, g, hg, h1, h2, h3⟩
    exact ⟨_, donePl_mem.2 ⟨i, hi, g, hg, h1, h2, rfl⟩, by rw [markAt_nat him]; simpa using h3⟩
theorem places_whole {l : List View} {T : List (List Pl)} {c : List Int} (h : Places l T) (hc : c.length = l.length) : WholeM l c ↔ ∀ ps ∈ T, goodP c ps = true := by
  constructor
  · rintro ⟨h1, h2⟩ ps hps
    unfold goodP
    rcases h.of ps hps with ⟨pid, no, rfl⟩ | ⟨i, hi, g, hg, rfl⟩
    · rw [held_done hc, Bool.not_not]
      cases hb : belowP l c pid no
      · simp only [Bool.false_or, List.all_eq_true]
        intro p hp
        obtain ⟨i, hi, g, hg, e1, e2, rfl⟩ := donePl_mem.1 hp
        rw [markAt_nat (by omega)]
        have := h1 i hi (by omega) g hg (by rw [e1, e2]; exact hb)
        simpa using this
      · rfl
    · have := h2 i hi (by omega) g hg
      simp only [heldP, List.any_cons, List.any_nil, Bool.or_false, List.all_cons, List.all_nil, Bool.and_true]
      rw [markAt_nat (by omega)]
      by_cases hl : c[i] ≤ g.last
      · simp [hl, this hl]
      · simp [hl]
  · intro hall
    refine ⟨fun i hi him g hg hb => ?_, fun i hi him g hg hl => ?_⟩
    · have := hall _ (h.done i hi g hg)
      unfold goodP at this
      rw [held_done hc, hb] at this
      simp only [Bool.not_false, Bool.not_true, Bool.false_or, List.all_eq_true] at this
      have := this _ (donePl_mem.2 ⟨i, hi, g, hg, rfl, rfl, rfl⟩)
      rw [markAt_nat him] at this
      simpa using this
    · have := hall _ (h.gone i hi g hg)
      simp only [goodP, heldP, List.any_cons, List.any_nil, Bool.or_false, List.all_cons, List.all_nil, Bool.and_true] at this
      rw [markAt_nat him] at this
      simpa [hl] using this

/-- Marks lowered by the places of one transaction. -/
def lowPl (m : List Int) (p : Pl) : List Int := m.set p.view.toNat (minI (markAt m p) p.first)
def lowPs (m : List Int) (ps : List Pl) : List Int := ps.foldl lowPl m
theorem lowPl_len (m : List Int) (p : Pl) : (lowPl m p).length = m.length := by simp [lowPl]
theorem lowPl_le (m : List Int) (p : Pl) : PW (lowPl m p) m := by
  refine ⟨lowPl_len m p, fun i hi hi' => ?_⟩
  simp only [lowPl, List.getElem_set]
  split
  · rename_i h
    subst h
    have : markAt m p = m[p.view.toNat] := by simp [markAt, hi']
    rw [this]
    exact minI_left _ _
  · exact Int.le_refl _
theorem lowPs_le : ∀ (ps : List Pl) (m : List Int), PW (lowPs m ps) m
  | [], m => PW.refl m
  | p :: ps, m => (lowPs_le ps (lowPl m p)).trans (lowPl_le m p)
theorem markAt_mono {a b : List Int} (h : PW a b) (p : Pl) : markAt a p ≤ markAt b p := by
  unfold markAt
  by_cases hi : p.view.toNat < a.length
  · have hb : p.view.toNat < b.length := by rw [← h.1]; exact hi
    have := h.2 _ hi hb
    simpa [List.getD_eq_getElem?_getD, hi, hb] using this
  · have hb : ¬ p.view.toNat < b.length := by rw [← h.1]; exact hi
    rw [List.getD_eq_getElem?_getD, List.getD_eq_getElem?_getD, List.getElem?_eq_none (by omega), List.getElem?_eq_none (by omega)]
    exact Int.le_refl _
theorem lowPl_at {m : List Int} {p : Pl} (h : p.view.toNat < m.length) : markAt (lowPl m p) p ≤ p.first := by
  have : markAt (lowPl m p) p = minI (markAt m p) p.first := by
    have e : markAt m p = m[p.view.toNat] := by simp [markAt, h]
    unfold lowPl
    rw [e]
    simp [markAt, h]
  rw [this]
  exact minI_right _ _
theorem lowPs_at : ∀ (ps : List Pl) (m : List Int), (∀ p ∈ ps, p.view.toNat < m.length) → ∀ p ∈ ps, markAt (lowPs m ps) p ≤ p.first
  | q :: ps, m, hr, p, hp => by
    show markAt (lowPs (lowPl m q) ps) p ≤ _
    rcases List.mem_cons.1 hp with rfl | hp
    · exact Int.le_trans (markAt_mono (lowPs_le ps _) _) (lowPl_at (hr _ (by simp)))
    · exact lowPs_at ps _ (fun x hx => by rw [lowPl_len]; exact hr x (by simp [hx])) p hp
theorem le_lowPl {c m : List Int} {p : Pl} (h : PW c m) (hc : markAt c p ≤ p.first) : PW c (lowPl m p) := by
  refine ⟨by rw [lowPl_len]; exact h.1, fun i hi hi' => ?_⟩
  simp only [lowPl, List.getElem_set]
  split
  · rename_i he
    subst he
    have h1 := markAt_mono h p
    have e : markAt c p = c[p.view.toNat] := by simp [markAt, hi]
    rw [e] at h1 hc
    exact le_minI h1 hc
  · exact h.2 i hi _
theorem le_lowPs : ∀ (ps : List Pl) {c m : List Int}, PW c m → (∀ p ∈ ps, markAt c p ≤ p.first) → PW c (lowPs m ps)
  | [], c, m, h, _ => h
  | p :: ps, c, m, h, hc => le_lowPs ps (le_lowPl h (hc p (by simp))) fun q hq => hc q (by simp [hq])

/-- What holds while the marks are lowered: R is still to be looked at. -/
structure Low (l : List View) (s : List Int) (T R : List (List Pl)) (m : List Int) : Prop where
  safe : PW m s
  top : ∀ c, WholeM l c → PW c s → PW c m
  out : ∀ ps ∈ T, ps ∈ R ∨ ∀ p ∈ ps, markAt m p ≤ p.first
  sub : ∀ ps ∈ R, ps ∈ T
theorem Low.start {l : List View} {s : List Int} {T : List (List Pl)} : Low l s T T s := ⟨PW.refl s, fun c _ h => h, fun ps h => .inl h, fun ps h => h⟩
theorem Low.step {l : List View} {s m : List Int} {T R R' : List (List Pl)} {ps : List Pl} (hT : Places l T) (hs : s.length = l.length) (h : Low l s T R m) (hps : ps ∈ R) (hh : heldP m ps = true) (hR : ∀ x ∈ R, x = ps ∨ x ∈ R') (hR' : ∀ x ∈ R', x ∈ R) : Low l s T R' (lowPs m ps) := by
  have hml : m.length = l.length := by rw [h.safe.1, hs]
  have hrng : ∀ p ∈ ps, p.view.toNat < m.length := fun p hp => by
    obtain ⟨i, hi, e⟩ := hT.range ps (h.sub ps hps) p hp
    rw [e]; simp; omega
  have hle := lowPs_le ps m
  refine ⟨hle.trans h.safe, fun c hw hcs => ?_, fun x hx => ?_, fun x hx => h.sub x (hR' x hx)⟩
  · have hcm := h.top c hw hcs
    refine le_lowPs ps hcm ?_
    have hcl : c.length = l.length := by rw [hcm.1, hml]
    have hg := (places_whole hT hcl).1 hw ps (h.sub ps hps)
    have hhc : heldP c ps = true := by
      unfold heldP at hh ⊢
      rw [List.any_eq_true] at hh ⊢
      obtain ⟨p, hp, hd⟩ := hh
      have := markAt_mono hcm p
      simp at hd
      exact ⟨p, hp, by simp; omega⟩
    unfold goodP at hg
    rw [hhc] at hg
    simp only [Bool.not_true, Bool.false_or, List.all_eq_true] at hg
    exact fun p hp => by simpa using hg p hp
  · rcases h.out x hx with hx | hx
    · rcases hR x hx with rfl | hx
      · exact .inr (lowPs_at _ m hrng)
      · exact .inl hx
    · exact .inr fun p hp => Int.le_trans (markAt_mono hle p) (hx p hp)
theorem Low.fin {l : List View} {s m : List Int} {T R : List (List Pl)} (hT : Places l T) (hs : s.length = l.length) (h : Low l s T R m) (hR : ∀ ps ∈ R, heldP m ps = false) : IsCut l s m := by
  have hml : m.length = l.length := by rw [h.safe.1, hs]
  refine ⟨hml, (places_whole hT hml).2 fun ps hps => ?_, h.safe, h.top⟩
  unfold goodP
  rcases h.out ps hps with hx | hx
  · rw [hR ps hx]; rfl
  · rw [Bool.or_eq_true, List.all_eq_true]
    exact .inr fun p hp => by simpa using hx p hp
end Go.Wm
