/-
  Owners. Conditions: that what is handed in reads as data.
-/
import Derived.Test.YtbhgbfhgdccghaaGreatP4
import Derived.Test.YtbhgbfhgdccghaaGreatCoB
set_option linter.all false
namespace Go.Wm
open Go.RowKit Go.Proofs
attribute [local irreducible] RG CG EG WA Loc Det Alc CT Exit.then Exit.inBlock Code.wp bodyPost
abbrev keyT : Tp → Value := fun x => .agg x.vs.toArray
abbrev keyI : Int → Value := fun x => .int .i64 x
theorem Turn1.le {h k k' : PH} {b : Nat} (ht : Turn1 k k' b) (hl : Le h k) (hb : h b = none) : Le h k' := ht h hl hb
/-- Owners as memory has them. -/
structure OwnAt (N : Nat) (h k : PH) (r : Nat) (D : List (Tp × Nat × List Int)) : Prop where
  le : Le h k
  hr : h r = none
  N_le : N ≤ r
  out : MapAt keyT k r (D.map fun d => (d.1, Value.map (some d.2.1)))
  inn : ∀ d ∈ D, MapAt keyI k d.2.1 (d.2.2.map fun i => (i, Value.bool true)) ∧ h d.2.1 = none ∧ N ≤ d.2.1 ∧ d.2.1 ≠ r
  apart : (D.map (·.2.1)).Nodup
  keys : (D.map (·.1)).Nodup
/-- What they say. -/
def Sets (D : List (Tp × Nat × List Int)) (R : Int → Tp → Prop) : Prop := (∀ t x, (∃ d ∈ D, d.1 = t ∧ x ∈ d.2.2) ↔ R x t) ∧ ∀ d ∈ D, d.2.2 ≠ []
def addI (x : Int) (S : List Int) : List Int := if x ∈ S then S else S ++ [x]
theorem mem_addI {x y : Int} {S : List Int} : y ∈ addI x S ↔ y ∈ S ∨ y = x := by
  unfold addI
  split
  · rename_i h
    exact ⟨.inl, fun h2 => h2.elim id fun e => e ▸ h⟩
  · simp
theorem kget_map {α β : Type} [DecidableEq α] (f : β → α) (g : β → Value) (x : α) : ∀ l : List β, kget x (l.map fun b => (f b, g b)) = (l.find? fun b => decide (x = f b)).map g
  | [] => rfl
  | b :: l => by
    simp only [List.map_cons, kget, List.find?_cons]
    by_cases h : x = f b
    · simp [h]
    · simp only [h, if_false, decide_false]
      exact kget_map f g x l
theorem kput_addI (x : Int) : ∀ S : List Int, kput x (.bool true) (S.map fun i => (i, Value.bool true)) = (addI x S).map fun i => (i, Value.bool true)
  | [] => rfl
  | y :: S => by
    simp only [List.map_cons, kput]
    by_cases h : x = y
    · subst h
      simp [addI]
    · rw [if_neg h, kput_addI x S]
      unfold addI
      by_cases h2 : x ∈ S <;> simp [h, h2]
theorem find_key {D : List (Tp × Nat × List Int)} (hk : (D.map (·.1)).Nodup) {d : Tp × Nat × List Int} (hd : d ∈ D) : D.find? (fun b => decide (d.1 = b.1)) = some d := by
  induction D with
  | nil => cases hd
  | cons b D ih =>
    rw [List.find?_cons]
    rw [List.map_cons, List.nodup_cons] at hk
    rcases List.mem_cons.1 hd with rfl | hd
    · simp
    · have : ¬ d.1 = b.1 := fun e => hk.1 (e ▸ List.mem_map.2 ⟨d, hd, rfl⟩)
      simp only [this, decide_false]
      exact ih hk.2 hd
theorem find_nokey {D : List (Tp × Nat × List Int)} {t : Tp} (h : t ∉ D.map (·.1)) : D.find? (fun b => decide (t = b.1)) = none := by
  rw [List.find?_eq_none]
  intro d hd
  simp only [decide_eq_true_eq]
  exact fun e => h (e ▸ List.mem_map.2 ⟨d, hd, rfl⟩)
theorem kput_new {α : Type} [DecidableEq α] {x : α} {v : Value} : ∀ {l : List (α × Value)}, x ∉ l.map (·.1) → kput x v l = l ++ [(x, v)]
  | [], _ => rfl
  | p :: r, h => by
    simp only [List.map_cons, List.mem_cons, not_or] at h
    simp only [kput, h.1, if_false, kput_new h.2, List.cons_append]
theorem OwnAt.up {N : Nat} {h k k' : PH} {r : Nat} {D : List (Tp × Nat × List Int)} (H : OwnAt N h k r D) (hl : Le k k') : OwnAt N h k' r D :=
  ⟨H.le.trans hl, H.hr, H.N_le, H.out.le hl, fun d hd => ⟨(H.inn d hd).1.le hl, (H.inn d hd).2⟩, H.apart, H.keys⟩
/-- A key more. -/
theorem OwnAt.more {N : Nat} {h k k1 k2 : PH} {r rt : Nat} {D : List (Tp × Nat × List Int)} {tp : Tp} (H : OwnAt N h k r D) (hn : tp ∉ D.map (·.1)) (hrt : k rt = none) (hN : N ≤ rt) (hl : Le k k1) (hk : k1 rt = some (.map #[] 0))
    (ht : Turn1 k1 k2 r) (hm : MapAt keyT k2 r (kput tp (.map (some rt)) (D.map fun d => (d.1, Value.map (some d.2.1))))) : OwnAt N h k2 r (D ++ [(tp, rt, [])]) := by
  have hrr : rt ≠ r := by
    rintro rfl
    obtain ⟨es, cl, h1, _⟩ := H.out
    rw [hrt] at h1; cases h1
  have hne : ∀ d ∈ D, d.2.1 ≠ rt := fun d hd => by
    rintro rfl
    obtain ⟨es, cl, h1, _⟩ := (H.inn d hd).1
    rw [hrt] at h1; cases h1
  have hhrt : h rt = none := by
    cases e : h rt with
    | none => rfl
    | some ob => rw [H.le _ _ e] at hrt; cases hrt
  refine ⟨ht h (H.le.trans hl) H.hr, H.hr, H.N_le, ?_, fun d hd => ?_, ?_, ?_⟩
  · rw [kput_new (by simpa [List.map_map, Function.comp_def] using hn)] at hm
    simpa using hm
  · rcases List.mem_append.1 hd with hd | hd
    · obtain ⟨g1, g2, g3, g4⟩ := H.inn d hd
      exact ⟨(g1.le hl).turn1 ht g4, g2, g3, g4⟩
    · simp at hd
      subst hd
      exact ⟨(MapAt.new keyI hk).turn1 ht hrr, hhrt, hN, hrr⟩
  · rw [List.map_append, List.nodup_append]
    refine ⟨H.apart, by simp, fun a ha b hb => ?_⟩
    obtain ⟨d, hd, rfl⟩ := List.mem_map.1 ha
    simp at hb
    rw [hb]
    exact hne d hd
  · rw [List.map_append, List.nodup_append]
    refine ⟨H.keys, by simp, fun a ha b hb => ?_⟩
    simp at hb
    rw [hb]
    rintro rfl
    exact hn ha
def putD (tp : Tp) (x : Int) (D : List (Tp × Nat × List Int)) : List (Tp × Nat × List Int) := D.map fun d => if d.1 = tp then (d.1, d.2.1, addI x d.2.2) else d
/-- A member more. -/
theorem OwnAt.put {N : Nat} {h k k2 : PH} {r : Nat} {D : List (Tp × Nat × List Int)} {d : Tp × Nat × List Int} {x : Int} (H : OwnAt N h k r D) (hd : d ∈ D) (ht : Turn1 k k2 d.2.1) (hm : MapAt keyI k2 d.2.1 (kput x (.bool true) (d.2.2.map fun i => (i, Value.bool true)))) : OwnAt N h k2 r (putD d.1 x D) := by
  obtain ⟨f1, f2, f3, f4⟩ := H.inn d hd
  have e1 : (putD d.1 x D).map (·.1) = D.map (·.1) := by
    unfold putD
    rw [List.map_map]
    apply List.map_congr_left
    intro a _
    simp only [Function.comp]
    split <;> rfl
  have e2 : (putD d.1 x D).map (·.2.1) = D.map (·.2.1) := by
    unfold putD
    rw [List.map_map]
    apply List.map_congr_left
    intro a _
    simp only [Function.comp]
    split <;> rfl
  have e3 : (putD d.1 x D).map (fun d => (d.1, Value.map (some d.2.1))) = D.map fun d => (d.1, Value.map (some d.2.1)) := by
    unfold putD
    rw [List.map_map]
    apply List.map_congr_left
    intro a _
    simp only [Function.comp]
    split <;> rfl
  have hsame : ∀ a ∈ D, a.1 = d.1 → a = d := fun a ha e => by
    have h1 := find_key H.keys ha
    have h2 := find_key H.keys hd
    rw [e, h2] at h1
    cases h1
    rfl
  refine ⟨ht h H.le f2, H.hr, H.N_le, by rw [e3]; exact H.out.turn1 ht (Ne.symm f4), fun b hb => ?_, by rw [e2]; exact H.apart, by rw [e1]; exact H.keys⟩
  unfold putD at hb
  obtain ⟨a, ha, rfl⟩ := List.mem_map.1 hb
  by_cases e : a.1 = d.1
  · have := hsame a ha e
    subst this
    rw [if_pos rfl]
    rw [kput_addI] at hm
    exact ⟨hm, f2, f3, f4⟩
  · rw [if_neg e]
    obtain ⟨g1, g2, g3, g4⟩ := H.inn a ha
    refine ⟨g1.turn1 ht fun e5 => e ?_, g2, g3, g4⟩
    have hp := List.pairwise_iff_getElem.1 H.apart
    obtain ⟨i, hi, ei⟩ := List.mem_iff_getElem.1 ha
    obtain ⟨j, hj, ej⟩ := List.mem_iff_getElem.1 hd
    rcases Nat.lt_trichotomy i j with h4 | h4 | h4
    · exact (hp i j (by simpa using hi) (by simpa using hj) h4 (by simp [ei, ej, e5])).elim
    · subst h4; rw [← ei, ← ej]
    · exact (hp j i (by simpa using hj) (by simpa using hi) h4 (by simp [ei, ej, e5])).elim
theorem mem_putD {tp : Tp} {x : Int} {D : List (Tp × Nat × List Int)} {R : Int → Tp → Prop} (hs : ∀ t y, (∃ d ∈ D, d.1 = t ∧ y ∈ d.2.2) ↔ R y t) (hk : tp ∈ D.map (·.1)) (hne : ∀ d ∈ D, d.1 ≠ tp → d.2.2 ≠ []) : Sets (putD tp x D) (fun y t => R y t ∨ (y = x ∧ t = tp)) := by
  refine ⟨fun t y => ⟨?_, ?_⟩, fun d hd => ?_⟩
  · rintro ⟨d, hd, rfl, hy⟩
    obtain ⟨a, ha, rfl⟩ := List.mem_map.1 hd
    by_cases e : a.1 = tp
    · rw [if_pos e] at hy ⊢
      rcases mem_addI.1 hy with h | h
      · exact .inl ((hs _ _).1 ⟨a, ha, rfl, h⟩)
      · exact .inr ⟨h, e⟩
    · rw [if_neg e] at hy ⊢
      exact .inl ((hs _ _).1 ⟨a, ha, rfl, hy⟩)
  · rintro (h | ⟨rfl, rfl⟩)
    · obtain ⟨a, ha, rfl, hy⟩ := (hs _ _).2 h
      refine ⟨_, List.mem_map.2 ⟨a, ha, rfl⟩, ?_, ?_⟩
      · split <;> rfl
      · split
        · exact mem_addI.2 (.inl hy)
        · exact hy
    · obtain ⟨a, ha, e⟩ := List.mem_map.1 hk
      refine ⟨_, List.mem_map.2 ⟨a, ha, rfl⟩, ?_, ?_⟩
      · rw [if_pos e]; exact e
      · rw [if_pos e]; exact mem_addI.2 (.inr rfl)
  · obtain ⟨a, ha, rfl⟩ := List.mem_map.1 hd
    by_cases e : a.1 = tp
    · rw [if_pos e]
      intro h
      have : x ∈ addI x a.2.2 := mem_addI.2 (.inr rfl)
      rw [show addI x a.2.2 = [] from h] at this
      cases this
    · rw [if_neg e]
      exact hne a ha e
/-- Who has what. -/
def HasR (l : List Member) (i : Nat) (x : Int) (t : Tp) : Prop := ∃ j : Nat, x = (j : Int) ∧ j < i ∧ ∃ h : j < l.length, t ∈ l[j].own
def HasP (l : List Member) (i : Nat) (os : List Tp) (x : Int) (t : Tp) : Prop := HasR l i x t ∨ (x = (i : Int) ∧ t ∈ os)
theorem hasP_zero (l : List Member) (i : Nat) (x : Int) (t : Tp) : HasP l i [] x t ↔ HasR l i x t := by simp [HasP]
theorem hasP_all {l : List Member} {i : Nat} (h : i < l.length) (x : Int) (t : Tp) : HasP l i l[i].own x t ↔ HasR l (i + 1) x t := by
  unfold HasP HasR
  constructor
  · rintro (⟨j, h1, h2, h3⟩ | ⟨h1, h2⟩)
    · exact ⟨j, h1, by omega, h3⟩
    · exact ⟨i, h1, by omega, h, h2⟩
  · rintro ⟨j, h1, h2, h3, h4⟩
    by_cases hj : j = i
    · subst hj; exact .inr ⟨h1, h4⟩
    · exact .inl ⟨j, h1, by omega, h3, h4⟩
theorem hasP_succ {l : List Member} {i p : Nat} {os : List Tp} (h : p < os.length) (x : Int) (t : Tp) : HasP l i (os.take (p + 1)) x t ↔ (HasP l i (os.take p) x t ∨ (x = (i : Int) ∧ t = os[p])) := by
  unfold HasP
  rw [mem_take_succ h]
  constructor
  · rintro (h1 | ⟨h1, h2 | h2⟩)
    · exact .inl (.inl h1)
    · exact .inl (.inr ⟨h1, h2⟩)
    · exact .inr ⟨h1, h2⟩
  · rintro ((h1 | ⟨h1, h2⟩) | ⟨h1, h2⟩)
    · exact .inl h1
    · exact .inr ⟨h1, .inl h2⟩
    · exact .inr ⟨h1, .inr h2⟩
theorem Sets.congr {D : List (Tp × Nat × List Int)} {R R' : Int → Tp → Prop} (h : Sets D R) (e : ∀ x t, R x t ↔ R' x t) : Sets D R' := ⟨fun t x => (h.1 t x).trans (e x t), h.2⟩
/-- What a caller knows of owners. -/
structure OwnSt (k : PH) (r : Nat) (D : List (Tp × Nat × List Int)) : Prop where
  out : MapAt keyT k r (D.map fun d => (d.1, Value.map (some d.2.1)))
  inn : ∀ d ∈ D, MapAt keyI k d.2.1 (d.2.2.map fun i => (i, Value.bool true))
  keys : (D.map (·.1)).Nodup
theorem OwnSt.le {k k' : PH} {r : Nat} {D : List (Tp × Nat × List Int)} (h : OwnSt k r D) (hl : Le k k') : OwnSt k' r D := ⟨h.out.le hl, fun d hd => (h.inn d hd).le hl, h.keys⟩
/-- A look at owners. -/
theorem own_look {k : PH} {r : Nat} {D : List (Tp × Nat × List Int)} {R : Int → Tp → Prop} (h : OwnSt k r D) (hs : Sets D R) (tp : Tp) :
    (kget tp (D.map fun d => (d.1, Value.map (some d.2.1))) = none ∧ ∀ x, ¬ R x tp) ∨
    ∃ rt S, kget tp (D.map fun d => (d.1, Value.map (some d.2.1))) = some (.map (some rt)) ∧ MapAt keyI k rt (S.map fun i => (i, Value.bool true)) ∧ S ≠ [] ∧ ∀ x, x ∈ S ↔ R x tp := by
  rw [kget_map (fun d : Tp × Nat × List Int => d.1) (fun d => Value.map (some d.2.1))]
  by_cases hk : tp ∈ D.map (·.1)
  · obtain ⟨d, hd, rfl⟩ := List.mem_map.1 hk
    rw [find_key h.keys hd]
    refine .inr ⟨d.2.1, d.2.2, rfl, h.inn d hd, hs.2 d hd, fun x => ⟨fun hx => (hs.1 _ _).1 ⟨d, hd, rfl, hx⟩, fun hx => ?_⟩⟩
    obtain ⟨d', hd', e, hx'⟩ := (hs.1 _ _).2 hx
    have h1 := find_key h.keys hd'
    rw [e, find_key h.keys hd] at h1
    cases h1
    exact hx'
  · rw [find_nokey hk]
    refine .inl ⟨rfl, fun x hx => ?_⟩
    obtain ⟨d, hd, e, _⟩ := (hs.1 _ _).2 hx
    exact hk (e ▸ List.mem_map.2 ⟨d, hd, rfl⟩)
theorem kget_true (x : Int) : ∀ S : List Int, (kget x (S.map fun i => (i, Value.bool true))).getD (.bool false) = .bool (decide (x ∈ S))
  | [] => rfl
  | y :: S => by
    simp only [List.map_cons, kget]
    by_cases h : x = y
    · simp [h]
    · rw [if_neg h, kget_true x S]
      simp [h]
theorem look_ro (D : List (Tp × Nat × List Int)) (tp : Tp) : (kget tp (D.map fun d => (d.1, Value.map (some d.2.1)))).getD (.map none) = .map ((D.find? fun d => decide (tp = d.1)).map (·.2.1)) := by
  rw [kget_map (fun d : Tp × Nat × List Int => d.1) (fun d => Value.map (some d.2.1))]
  cases D.find? fun d => decide (tp = d.1) <;> rfl
set_option maxHeartbeats 2000000 in
theorem owners_ct {k : PH} {a : Option Addr} {c : Nat} {l : List Member} (hl : Sl tMember k a c l) : CT Tryz.prog 76 #[.slice a l.length c] k (fun k' v => ∃ r D, v = .map (some r) ∧ OwnSt k' r D ∧ Sets D (HasR l l.length)) := by
  refine ct_of_body (l := [_]) Tryz.func76 rfl Tryz.ntmps76 (by simp) (fun k k' v hle ⟨r, D, h1, h2, h3⟩ => ⟨r, D, h1, h2.le hle, h3⟩) fun F hF0 hFm => ?_
  have b1 := hl.cap; have b2 := hl.max; unfold maxLen at b2
  repeat (first | refine cg_seq ?_ | refine cg_region ?_ | refine rg_nil ?_ | refine eg_then ?_ | refine qsp ?_)
  refine rb rfl rfl rfl rfl (a_makeMap rfl) ?_; intro r k0 hr hNr hler hkr
  repeat (first | refine cg_seq ?_ | refine cg_region ?_ | refine rg_nil ?_ | refine eg_then ?_ | refine qsp ?_ | refine qsn ?_ | refine cg_block ?_)
  refine cg_loop (fun (i : Nat) e k' => ∃ D, OwnAt F.w0.heap.size k k' r D ∧ Sets D (HasR l i) ∧ i ≤ l.length ∧ e = [(3, .is (.map (some r))), (9, .is (.slice a l.length c)), (10, .is (.int .i64 (l.length : Int))), (11, .is (.int .i64 (i : Int)))])
    (fun i => l.length - i) 0 ⟨[], ⟨hler, hr, hNr, MapAt.new _ hkr, by simp, by simp, by simp⟩, ⟨fun t x => by simp [HasR], by simp⟩, Nat.zero_le _, rfl⟩ ⟨rfl, rfl, rfl, rfl, trivial⟩ ?_
  rintro i e k1 ⟨D, hD, hS, hi, rfl⟩
  repeat (first | refine cg_seq ?_ | refine cg_region ?_ | refine rg_nil ?_ | refine eg_then ?_ | refine qsp ?_)
  refine cg_cond rfl (fun h => ?_) (fun h => ?_)
  · have hlt : i < l.length := by simpa using h
    obtain ⟨bx, ox, cx, rfl, ⟨sa, sc, oa, oc, rfl, ⟨_, hown⟩, _⟩, hcx⟩ := (hl.le hD.le).el i l[i] (List.getElem?_eq_getElem hlt)
    have hownk : Sl tTp k oa oc l[i].own := by
      obtain ⟨_, _, _, ey, ⟨sa2, sc2, oa2, oc2, rfl, ⟨_, hown2⟩, _⟩, hcy⟩ := hl.el i l[i] (List.getElem?_eq_getElem hlt)
      cases ey
      obtain ⟨c1', et1, fr1, g1, g2⟩ := hcy.le hD.le
      obtain ⟨c2', et2, fr2, g3, g4⟩ := hcx
      rw [g1] at g3
      cases g3
      have f3 := (g2 3 _ rfl).symm.trans (g4 3 _ rfl)
      simp at f3
      obtain ⟨rfl, rfl⟩ := f3
      exact hown2
    have b3 := hownk.cap; have b4 := hownk.max; unfold maxLen at b4
    repeat (first | refine cg_seq ?_ | refine cg_region ?_ | refine eg_then ?_ | refine qsp ?_ | refine qsi ?_ | refine qsg ?_ | refine cg_skip ?_ | refine cg_block ?_)
    refine rb rfl rfl rfl rfl (a_alloc rfl) ?_; intro b5 k5 hb5 hN5 hle5 hk5
    repeat (first | refine qsp ?_)
    refine rw1 rfl rfl rfl rfl rfl rfl rfl hk5 rfl (.inl hN5) ?_ ?_; (simp [Tp.vs, Member.cs, Group.cs, Value.oneCell']); intro k6 ht6 hk6
    have c3 := (cells_at (vs := Member.cs l[i] sa sc oa oc) hk6 rfl).one (i := 3) rfl
    have hD6 := hD.up (ht6 k1 hle5 hb5)
    have hS6 : Sets D (HasP l i (l[i].own.take 0)) := hS.congr fun x t => (hasP_zero l i x t).symm
    repeat (first | refine cg_seq ?_ | refine cg_region ?_ | refine rg_nil ?_ | refine eg_then ?_ | refine qsp ?_ | refine qsn ?_ | refine qsl ?_ | refine qsf ?_ | refine cg_block ?_)
    refine cg_loop (fun (p : Nat) e k' => ∃ D, OwnAt F.w0.heap.size k k' r D ∧ Sets D (HasP l i (l[i].own.take p)) ∧ p ≤ l[i].own.length ∧ e = [(3, .is (.map (some r))), (4, .is (.int .i64 (i : Int))), (9, .is (.slice (some ⟨bx, ox, none⟩) l.length c)), (10, .is (.int .i64 (l.length : Int))), (11, .is (.int .i64 (i : Int))), (17, .is (.slice oa l[i].own.length oc)), (18, .is (.int .i64 (l[i].own.length : Int))), (19, .is (.int .i64 (p : Int)))])
      (fun p => l[i].own.length - p) 0 (e0 := [(3, .is (.map (some r))), (4, .is (.int .i64 (i : Int))), (9, .is (.slice (some ⟨bx, ox, none⟩) l.length c)), (10, .is (.int .i64 (l.length : Int))), (11, .is (.int .i64 (i : Int))), (17, .is (.slice oa l[i].own.length oc)), (18, .is (.int .i64 (l[i].own.length : Int))), (19, .is (.int .i64 ((0 : Nat) : Int)))]) ⟨D, hD6, hS6, Nat.zero_le _, rfl⟩ ⟨rfl, rfl, rfl, rfl, rfl, rfl, rfl, rfl, trivial⟩ ?_
    clear hS hS6 hD hD6 c3
    rintro p e k7 ⟨D, hD, hS, hp, rfl⟩
    repeat (first | refine cg_seq ?_ | refine cg_region ?_ | refine rg_nil ?_ | refine eg_then ?_ | refine qsp ?_)
    refine cg_cond rfl (fun h1 => ?_) (fun h1 => ?_)
    · have hpt : p < l[i].own.length := by simpa using h1
      have hsc := hasP_succ (l := l) (i := i) hpt
      generalize htp : l[i].own[p] = tp at hsc
      obtain ⟨by', oy, cy, rfl, ⟨rfl, _⟩, hcy⟩ := (hownk.le hD.le).el p tp (by rw [← htp]; exact List.getElem?_eq_getElem hpt)
      repeat (first | refine cg_seq ?_ | refine cg_region ?_ | refine eg_then ?_ | refine qsi ?_ | refine qsg ?_ | refine cg_skip ?_ | refine cg_block ?_)
      refine rb rfl rfl rfl rfl (a_alloc rfl) ?_; intro b8 k8 hb8 hN8 hle8 hk8
      refine rw1 rfl rfl rfl rfl rfl rfl rfl hk8 rfl (.inl hN8) ?_ ?_; (simp [Tp.vs, Member.cs, Group.cs, Value.oneCell']); intro k9 ht9 hk9
      have hle9 := ht9 k7 hle8 hb8
      have hD9 := hD.up hle9
      have c8 := cells_at (vs := tp.vs) hk9 rfl
      have hb8r : b8 ≠ r := by
        rintro rfl
        obtain ⟨es, cl, g1, _⟩ := hD.out
        rw [hb8] at g1; cases g1
      repeat (first | refine cg_seq ?_ | refine cg_region ?_ | refine rg_nil ?_ | refine eg_then ?_ | refine qsp ?_ | refine qsg ?_)
      refine rs rfl rfl (loc_det rfl (d_look (enc := keyT) (x := tp) hD9.out rfl rfl rfl)) ?_
      rw [look_ro]
      skip
      refine rs rfl rfl (loc_det rfl (d_eqmap rfl rfl)) ?_
      repeat (first | refine rg_nil ?_ | refine eg_then ?_)
      refine cg_join (fun e' k' => ∃ D' d, OwnAt F.w0.heap.size k k' r D' ∧ d ∈ D' ∧ d.1 = tp ∧ (∀ t x, (∃ d ∈ D', d.1 = t ∧ x ∈ d.2.2) ↔ HasP l i (l[i].own.take p) x t) ∧ (∀ d ∈ D', d.1 ≠ tp → d.2.2 ≠ []) ∧ Cells k' b8 0 tp.vs ∧
        e' = [(3, .is (.map (some r))), (4, .is (.int .i64 (i : Int))), (7, .is (.pointer (some ⟨b8, 0, none⟩))), (9, .is (.slice (some ⟨bx, ox, none⟩) l.length c)), (10, .is (.int .i64 (l.length : Int))), (11, .is (.int .i64 (i : Int))), (17, .is (.slice (some ⟨by', oy, none⟩) l[i].own.length oc)), (18, .is (.int .i64 (l[i].own.length : Int))), (19, .is (.int .i64 (p : Int)))]) ?_ ?_
      · refine cg_cond rfl (fun h2 => ?_) (fun h2 => ?_)
        · have hno : tp ∉ D.map (·.1) := fun hmem => by
            obtain ⟨d, hd, e⟩ := List.mem_map.1 hmem
            rw [← e, find_key hD.keys hd] at h2
            cases h2
          repeat (first | refine cg_region ?_ | refine qsp ?_ | refine qsg ?_)
          refine rb rfl rfl rfl rfl (a_makeMap rfl) ?_; intro rt k10 hrt hNrt hle10 hk10
          refine r_put (enc := keyT) (x := tp) (hD9.out.le hle10) hNr rfl rfl rfl rfl rfl rfl rfl ?_
          intro k11 ht11 hm11
          have hD11 := hD9.more hno hrt hNrt hle10 hk10 ht11 hm11
          repeat (first | refine rg_nil ?_)
          refine eg_join _ ⟨_, (tp, rt, []), hD11, by simp, rfl, fun t x => ?_, fun d hd hne => ?_, ?_, rfl⟩ ⟨rfl, rfl, rfl, rfl, rfl, rfl, rfl, rfl, rfl, trivial⟩
          · rw [← hS.1 t x]
            constructor
            · rintro ⟨d, hd, e1, e2⟩
              rcases List.mem_append.1 hd with hd | hd
              · exact ⟨d, hd, e1, e2⟩
              · simp at hd
                rw [hd] at e2
                cases e2
            · rintro ⟨d, hd, e1, e2⟩
              exact ⟨d, by simp [hd], e1, e2⟩
          · rcases List.mem_append.1 hd with hd | hd
            · exact hS.2 d hd
            · simp at hd
              rw [hd] at hne
              exact absurd rfl hne
          · obtain ⟨c', et, fr, g1, g2⟩ := c8.le hle10
            exact ⟨c', et, fr, turn1_get ht11 hb8r g1, g2⟩
        · have hyes : tp ∈ D.map (·.1) := by
            by_cases hmem : tp ∈ D.map (·.1)
            · exact hmem
            · rw [find_nokey hmem] at h2
              cases h2
          obtain ⟨d, hd, e⟩ := List.mem_map.1 hyes
          repeat (first | refine cg_skip ?_)
          exact eg_join _ ⟨D, d, hD9, hd, e, hS.1, fun d hd _ => hS.2 d hd, c8, rfl⟩ ⟨rfl, rfl, rfl, rfl, rfl, rfl, rfl, rfl, rfl, trivial⟩
      · rintro e' k12 ⟨D', d, hD', hd, e0, hset, hne, c12, rfl⟩
        obtain ⟨g1, g2, g3, g4⟩ := hD'.inn d hd
        repeat (first | refine cg_region ?_ | refine eg_then ?_ | refine qsp ?_ | refine qsg ?_)
        refine rs rfl rfl (loc_det rfl (d_look (enc := keyT) (x := tp) hD'.out rfl rfl rfl)) ?_
        rw [look_ro, ← e0, find_key hD'.keys hd]
        repeat (first | refine qsp ?_)
        refine r_put (enc := keyI) (x := (i : Int)) g1 g3 rfl rfl rfl rfl rfl rfl rfl ?_
        intro k13 ht13 hm13
        have hD13 := hD'.put hd ht13 hm13
        repeat (first | refine cg_region ?_ | refine rg_nil ?_ | refine eg_then ?_ | refine qsp ?_ | refine qsa ?_ | refine eg_in_normal ?_)
        refine eg_again (p + 1) _ ⟨_, hD13, ?_, hpt, rfl⟩ (by omega) ⟨rfl, rfl, rfl, rfl, rfl, rfl, rfl, rfl, trivial⟩
        rw [e0]
        exact (mem_putD (x := (i : Int)) hset (List.mem_map.2 ⟨d, hd, e0⟩) hne).congr fun x t => (hsc x t).symm
    · have hpl : p = l[i].own.length := by simp at h1; omega
      rw [hpl, List.take_length] at hS
      repeat (first | refine cg_region ?_ | refine rg_nil ?_ | refine eg_then ?_ | refine qsp ?_ | refine qsa ?_ | refine eg_in_normal ?_ | refine cg_exit ?_ | refine eg_then_exit ?_ | refine eg_in_exit ?_)
      exact eg_again (i + 1) _ ⟨D, hD, hS.congr fun x t => hasP_all hlt x t, hlt, rfl⟩ (by omega) ⟨rfl, rfl, rfl, rfl, trivial⟩
  · have hil : i = l.length := by simp at h; omega
    subst hil
    repeat (first | refine cg_seq ?_ | refine cg_region ?_ | refine rg_nil ?_ | refine eg_then ?_ | refine qsp ?_ | refine cg_ret ?_ | refine cg_exit ?_ | refine eg_then_exit ?_ | refine eg_in_exit ?_)
    exact eg_return rfl rfl ⟨r, D, rfl, ⟨hD.out, fun d hd => (hD.inn d hd).1, hD.keys⟩, hS⟩
end Go.Wm
