/-
  Places of transactions as memory has them: a map of rows. Conditions: none.
-/
import Derived.Test.YtjonlpdnhbnmmaaGreatEnt
set_option linter.all false
namespace Go.Wm
open Go.RowKit Go.Proofs

abbrev keyW : Who → Value := fun x => .agg x.vs.toArray
abbrev plRow (N : Nat) (k : PH) (v : Value) (ps : List Pl) : Prop := Row N k 141 3 v ps.length (ps.flatMap Pl.vs)
abbrev PD := Who × Value × List Pl
def dput (w : Who) (v : Value) (ps : List Pl) : List PD → List PD
  | [] => [(w, v, ps)]
  | d :: D => if w = d.1 then (d.1, v, ps) :: D else d :: dput w v ps D
theorem dput_kv (w : Who) (v : Value) (ps : List Pl) : ∀ D : List PD, (dput w v ps D).map (fun d => (d.1, d.2.1)) = kput w v (D.map fun d => (d.1, d.2.1))
  | [] => rfl
  | d :: D => by
    simp only [dput, List.map_cons, kput]
    by_cases h : w = d.1
    · simp [h]
    · simp only [h, if_false, List.map_cons, dput_kv w v ps D]
theorem dput_mem {w : Who} {v : Value} {ps : List Pl} : ∀ {D : List PD} {d : PD}, d ∈ dput w v ps D → d = (w, v, ps) ∨ d ∈ D
  | [], d, h => .inl (by simpa [dput] using h)
  | x :: D, d, h => by
    simp only [dput] at h
    split at h
    · rename_i e
      rcases List.mem_cons.1 h with h | h
      · exact .inl (by rw [h, e])
      · exact .inr (List.mem_cons_of_mem _ h)
    · rcases List.mem_cons.1 h with h | h
      · exact .inr (by rw [h]; exact List.mem_cons_self ..)
      · rcases dput_mem h with h | h
        · exact .inl h
        · exact .inr (List.mem_cons_of_mem _ h)
/-- With keys that are unlike, those that stay have other keys. -/
theorem dput_stay {w : Who} {v : Value} {ps : List Pl} : ∀ {D : List PD} {d : PD}, (D.map (·.1)).Nodup → d ∈ dput w v ps D → d = (w, v, ps) ∨ (d ∈ D ∧ d.1 ≠ w)
  | [], d, _, h => .inl (by simpa [dput] using h)
  | x :: D, d, hn, h => by
    simp only [List.map_cons, List.nodup_cons] at hn
    simp only [dput] at h
    split at h
    · rename_i e
      rcases List.mem_cons.1 h with h | h
      · exact .inl (by rw [h, e])
      · refine .inr ⟨List.mem_cons_of_mem _ h, fun e2 => hn.1 ?_⟩
        rw [← e, ← e2]
        exact List.mem_map.2 ⟨d, h, rfl⟩
    · rename_i e
      rcases List.mem_cons.1 h with h | h
      · exact .inr ⟨by rw [h]; exact List.mem_cons_self .., by rw [h]; exact Ne.symm e⟩
      · rcases dput_stay hn.2 h with h | h
        · exact .inl h
        · exact .inr ⟨List.mem_cons_of_mem _ h.1, h.2⟩
def toPls (D : List PD) : List (Who × List Pl) := D.map fun d => (d.1, d.2.2)
theorem toPls_keys (D : List PD) : (toPls D).map (·.1) = D.map (·.1) := by simp [toPls]
theorem dput_new {w : Who} {v : Value} {ps : List Pl} : ∀ {D : List PD}, w ∉ D.map (·.1) → dput w v ps D = D ++ [(w, v, ps)]
  | [], _ => rfl
  | d :: D, h => by
    simp only [List.map_cons, List.mem_cons, not_or] at h
    simp only [dput, h.1, if_false, dput_new h.2, List.cons_append]
theorem dput_add {w : Who} {v u : Value} {ps : List Pl} {p : Pl} : ∀ {D : List PD}, (D.map (·.1)).Nodup → (w, u, ps) ∈ D → toPls (dput w v (ps ++ [p]) D) = addAt w p (toPls D)
  | d :: D, hn, h => by
    simp only [List.map_cons, List.nodup_cons] at hn
    simp only [dput]
    by_cases e : w = d.1
    · rw [if_pos e]
      have hd : d = (w, u, ps) := by
        rcases List.mem_cons.1 h with h | h
        · exact h.symm
        · exact absurd (List.mem_map.2 ⟨_, h, e⟩) hn.1
      subst hd
      simp only [toPls, addAt, List.map_cons, if_true]
      congr 1
      rw [List.map_map]
      apply List.map_congr_left
      intro a ha
      have : a.1 ≠ w := fun e => hn.1 (e ▸ List.mem_map.2 ⟨a, ha, rfl⟩)
      simp [this]
    · rw [if_neg e]
      have h' : (w, u, ps) ∈ D := by
        rcases List.mem_cons.1 h with h | h
        · rw [← h] at e; exact absurd rfl e
        · exact h
      have ih := dput_add (v := v) (p := p) hn.2 h'
      have e' : ¬ d.1 = w := Ne.symm e
      simp only [toPls, addAt, List.map_cons, e', if_false] at ih ⊢
      rw [ih]

/-- The map of places, in memory. -/
structure PlsAt (N : Nat) (h k : PH) (r : Nat) (D : List PD) : Prop where
  le : Le h k
  hr : h r = none
  N_le : N ≤ r
  out : MapAt keyW k r (D.map fun d => (d.1, d.2.1))
  row : ∀ d ∈ D, plRow N k d.2.1 d.2.2 ∧ Apart h d.2.1 ∧ d.2.1.ownBlock ≠ some r
  apart : D.Pairwise fun a b => Disj a.2.1 b.2.1
  keys : (D.map (·.1)).Nodup
theorem PlsAt.up {N : Nat} {h k k' : PH} {r : Nat} {D : List PD} (H : PlsAt N h k r D) (hl : Le k k') : PlsAt N h k' r D :=
  ⟨H.le.trans hl, H.hr, H.N_le, H.out.le hl, fun d hd => ⟨(H.row d hd).1.le hl, (H.row d hd).2⟩, H.apart, H.keys⟩
theorem PlsAt.rebase {N : Nat} {h k k' : PH} {r b : Nat} {D : List PD} (H : PlsAt N h k r D) (hl : Le k k') (hb : k b = none) : PlsAt N (fun x => if x = b then k' x else h x) k' r D := by
  have hbr : r ≠ b := by
    rintro rfl
    obtain ⟨es, cl, h1, _⟩ := H.out
    rw [hb] at h1; cases h1
  refine ⟨fun x o e => ?_, by simp [hbr, H.hr], H.N_le, H.out.le hl, fun d hd => ⟨(H.row d hd).1.le hl, fun g hg => ?_, (H.row d hd).2.2⟩, H.apart, H.keys⟩
  · by_cases hx : x = b
    · simpa [hx] using e
    · simp only [hx, if_false] at e
      exact hl _ _ (H.le _ _ e)
  · have hgb : g ≠ b := by
      rintro rfl
      obtain ⟨_, ob, e⟩ := (H.row d hd).1.block hg
      rw [hb] at e; cases e
    simp only [hgb, if_false]
    exact (H.row d hd).2.1 g hg
theorem PlsAt.weak {N : Nat} {h h' k : PH} {r : Nat} {D : List PD} (H : PlsAt N h' k r D) (hl : Le h h') : PlsAt N h k r D :=
  ⟨hl.trans H.le, hl.none H.hr, H.N_le, H.out, fun d hd => ⟨(H.row d hd).1, fun g hg => hl.none ((H.row d hd).2.1 g hg), (H.row d hd).2.2⟩, H.apart, H.keys⟩
theorem le_rebase {h k' : PH} {b : Nat} (hb : h b = none) : Le h (fun x => if x = b then k' x else h x) := fun x o e => by
  have : x ≠ b := by rintro rfl; rw [hb] at e; cases e
  simp only [this, if_false]
  exact e
theorem dput_pair {w : Who} {v : Value} {ps : List Pl} : ∀ {D : List PD}, (D.map (·.1)).Nodup → D.Pairwise (fun a b => Disj a.2.1 b.2.1) → (∀ d ∈ D, d.1 ≠ w → Disj v d.2.1) → (dput w v ps D).Pairwise fun a b => Disj a.2.1 b.2.1
  | [], _, _, _ => by simp [dput]
  | d :: D, hn, hp, hd => by
    simp only [List.map_cons, List.nodup_cons] at hn
    rw [List.pairwise_cons] at hp
    simp only [dput]
    by_cases e : w = d.1
    · rw [if_pos e, List.pairwise_cons]
      refine ⟨fun b hb => hd b (List.mem_cons_of_mem _ hb) fun e2 => hn.1 ?_, hp.2⟩
      rw [← e, ← e2]
      exact List.mem_map.2 ⟨b, hb, rfl⟩
    · rw [if_neg e, List.pairwise_cons]
      refine ⟨fun b hb => ?_, dput_pair hn.2 hp.2 fun b hb => hd b (List.mem_cons_of_mem _ hb)⟩
      rcases dput_mem hb with hb | hb
      · rw [hb]
        exact (hd d (List.mem_cons_self ..) (Ne.symm e)).symm
      · exact hp.1 b hb
theorem PlsAt.put {N : Nat} {h k k3 : PH} {r : Nat} {D : List PD} {w : Who} {v' : Value} {ps : List Pl} (H : PlsAt N h k r D) (hle : Le h k3) (hm : MapAt keyW k3 r (kput w v' (D.map fun d => (d.1, d.2.1)))) (hrow : plRow N k3 v' ps) (hap : Apart h v') (hr : v'.ownBlock ≠ some r)
    (hoth : ∀ d ∈ D, d.1 ≠ w → plRow N k3 d.2.1 d.2.2 ∧ Disj v' d.2.1) : PlsAt N h k3 r (dput w v' ps D) := by
  refine ⟨hle, H.hr, H.N_le, by rw [dput_kv]; exact hm, fun d hd => ?_, dput_pair H.keys H.apart fun d hd hw => (hoth d hd hw).2, ?_⟩
  · rcases dput_stay H.keys hd with rfl | ⟨hd, hw⟩
    · exact ⟨hrow, hap, hr⟩
    · exact ⟨(hoth d hd hw).1, (H.row d hd).2⟩
  · have := kput_nodup (x := w) (v := v') (l := D.map fun d => (d.1, d.2.1)) (by rw [List.map_map]; exact H.keys)
    rw [← dput_kv w v' ps D, List.map_map] at this
    exact this
theorem Row.updr {N : Nat} {k : PH} {et sz : Nat} {u : Value} {m r : Nat} {xs : List Value} {o : Obj} (h : Row N k et sz u m xs) (hr : u.ownBlock ≠ some r) : Row N (upd k r o) et sz u m xs :=
  h.at fun g hg => upd_other (by rintro rfl; exact hr hg)
theorem turn_keep {k k' : PH} {v v' : Value} {r : Nat} {o : Obj} (ht : Turn k k' v v') (hk : k r = some o) (hv : v.ownBlock ≠ some r) : k' r = some o ∧ v'.ownBlock ≠ some r := by
  have h1 := ht (fun b => if b = r then some o else none) (fun b ob e => by
    by_cases hb : b = r
    · subst hb; simp at e; rw [hk, e]
    · simp [hb] at e) (fun g hg => by
    have : g ≠ r := by rintro rfl; exact hv hg
    simp [this])
  refine ⟨h1.1 r o (by simp), fun e => ?_⟩
  have := h1.2 r e
  simp at this
/-- A row of the map grows. -/
theorem PlsAt.grow {N : Nat} {h k k2 k3 : PH} {r : Nat} {D : List PD} {w : Who} {v v' : Value} {ps : List Pl} {p : Pl} {o1 o4 : Obj} (H : PlsAt N h k r D) (hle2 : Le (upd k r o1) k2) (ht : Turn k2 k3 v v')
    (hv : (w, v, ps) ∈ D ∨ (v = .slice none 0 0 ∧ ps = [] ∧ w ∉ D.map (·.1))) (hrow : plRow N k3 v' (ps ++ [p])) (hm : MapAt keyW (upd k3 r o4) r (kput w v' (D.map fun d => (d.1, d.2.1)))) : PlsAt N h (upd k3 r o4) r (dput w v' (ps ++ [p]) D) := by
  have hvr : v.ownBlock ≠ some r := by
    rcases hv with hv | hv
    · exact (H.row _ hv).2.2
    · rw [hv.1]; intro e; cases e
  have hva : Apart h v := by
    rcases hv with hv | hv
    · exact (H.row _ hv).2.1
    · rw [hv.1]; intro g e; cases e
  have h2 : k2 r = some o1 := hle2 _ _ (upd_same _ _ _)
  obtain ⟨h3, hvr'⟩ := turn_keep ht h2 hvr
  have hl2 : Le h k2 := (H.le.upd H.hr).trans hle2
  obtain ⟨hl3, ha3⟩ := ht h hl2 hva
  refine H.put (hl3.upd H.hr) hm (hrow.updr hvr') ha3 hvr' fun d hd hw => ?_
  obtain ⟨g1, g2, g3⟩ := H.row d hd
  have hdj : Disj v d.2.1 := by
    rcases hv with hv | hv
    · obtain ⟨i, hi, e1⟩ := List.getElem_of_mem hv
      obtain ⟨j, hj, e2⟩ := List.getElem_of_mem hd
      have hp := List.pairwise_iff_getElem.1 H.apart
      rcases Nat.lt_trichotomy i j with hij | hij | hij
      · have := hp i j hi hj hij
        rw [e1, e2] at this
        exact this
      · subst hij
        rw [e1] at e2
        rw [← e2] at hw
        exact absurd rfl hw
      · have := hp j i hj hi hij
        rw [e1, e2] at this
        exact this.symm
    · rw [hv.1]; exact disj_nil _ _ _
  obtain ⟨q1, q2, _, _⟩ := two_rows ht ((g1.updr (o := o1) g3).le hle2) hdj hl2 hva
  exact ⟨q1.updr g3, q2⟩
/-- A key that stands there not yet gets a row of its own. -/
theorem PlsAt.fresh {N : Nat} {h k k2 k3 : PH} {r b : Nat} {D : List PD} {w : Who} {p : Pl} (H : PlsAt N h k r D) (hb : k b = none) (hN : N ≤ b) (hle : Le k k2) (hk : k2 b = some (.cells p.vs.toArray 141 (0, 0))) (ht : Turn1 k2 k3 r)
    (hm : MapAt keyW k3 r (kput w (.slice (some ⟨b, 0, none⟩) 1 1) (D.map fun d => (d.1, d.2.1)))) : PlsAt N h k3 r (dput w (.slice (some ⟨b, 0, none⟩) 1 1) [p] D) := by
  have hbr : b ≠ r := by
    rintro rfl
    obtain ⟨es, cl, h1, _⟩ := H.out
    rw [hb] at h1; cases h1
  have hk3 := turn1_get ht hbr hk
  refine H.put (ht h (H.le.trans hle) H.hr) hm ⟨by simp [Pl.vs], .inr ⟨b, 1, _, rfl, hN, hk3, Nat.le_refl _, by unfold maxLen; omega, rfl, by simp [Pl.vs]⟩⟩ (fun g hg => ?_) (fun e => ?_) fun d hd hw => ?_
  · cases hg
    exact H.le.none hb
  · cases e; exact hbr rfl
  · obtain ⟨g1, g2, g3⟩ := H.row d hd
    refine ⟨(g1.le hle).at fun g hg => ?_, fun g hg hd2 => ?_⟩
    · obtain ⟨_, ob, e⟩ := (g1.le hle).block hg
      rw [e]
      exact turn1_get ht (by rintro rfl; exact g3 hg) e
    · cases hg
      obtain ⟨_, ob, e⟩ := g1.block hd2
      rw [hb] at e; cases e
theorem pls_look {N : Nat} {h k : PH} {r : Nat} {D : List PD} (H : PlsAt N h k r D) (w : Who) : (w, (kget w (D.map fun d => (d.1, d.2.1))).getD (.slice none 0 0), ((toPls D).find? fun e => decide (w = e.1)).elim [] (·.2)) ∈ D ∨
    ((kget w (D.map fun d => (d.1, d.2.1))).getD (.slice none 0 0) = .slice none 0 0 ∧ ((toPls D).find? fun e => decide (w = e.1)).elim [] (·.2) = [] ∧ w ∉ D.map (·.1)) := by
  have key : ∀ D : List PD, (w, (kget w (D.map fun d => (d.1, d.2.1))).getD (.slice none 0 0), ((toPls D).find? fun e => decide (w = e.1)).elim [] (·.2)) ∈ D ∨
    ((kget w (D.map fun d => (d.1, d.2.1))).getD (.slice none 0 0) = .slice none 0 0 ∧ ((toPls D).find? fun e => decide (w = e.1)).elim [] (·.2) = [] ∧ w ∉ D.map (·.1)) := by
    intro D
    induction D with
    | nil => exact .inr ⟨rfl, rfl, by simp⟩
    | cons d D ih =>
      simp only [toPls, List.map_cons, kget, List.find?_cons] at ih ⊢
      by_cases e : w = d.1
      · subst e
        exact .inl (List.mem_cons.2 (.inl (by simp)))
      · simp only [e, if_false, decide_false, List.mem_cons]
        rcases ih with ih | ih
        · exact .inl (.inr ih)
        · exact .inr ⟨ih.1, ih.2.1, by simpa using ih.2.2⟩
  exact key D
/-- What a caller knows of places. -/
theorem PlsAt.sl {N : Nat} {h k : PH} {r : Nat} {D : List PD} (H : PlsAt N h k r D) (hok : ∀ d ∈ D, ∀ p ∈ d.2.2, p.ok) : ∀ d ∈ D, ∃ a c, d.2.1 = .slice a d.2.2.length c ∧ Sl tPl k a c d.2.2 := fun d hd =>
  Row.sl (T := tPl) (H.row d hd).1 fun p hp => ⟨rfl, hok d hd p hp⟩
end Go.Wm
