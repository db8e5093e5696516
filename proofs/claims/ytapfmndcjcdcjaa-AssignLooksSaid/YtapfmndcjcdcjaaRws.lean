/-
  Rows of the call's own that lie side by side in a slice of the call's own (a list of lists that grow), and how a row reads as a slice. Conditions: none.
-/
import Derived.Test.YtapfmndcjcdcjaaApp
set_option linter.all false
namespace Go.Wm
open Go.RowKit

/-- A row of the call's own reads as a slice. -/
theorem Row.sl {α : Type} {T : Ty α} {N : Nat} {k : PH} {et : Nat} {v : Value} {xs : List α} {f : α → List Value} (h : Row N k et T.sz v xs.length (xs.flatMap f)) (hf : ∀ x ∈ xs, T.rep k (f x) x) : ∃ a c, v = .slice a xs.length c ∧ Sl T k a c xs := by
  obtain ⟨h1, h2⟩ := h
  rcases h2 with ⟨rfl, h2⟩ | ⟨g, cap, cur, rfl, _, hg, hc, hm, hs, ht⟩
  · have : xs = [] := by simpa using h2
    subst this
    exact ⟨none, 0, rfl, by simp, by simp [maxLen], fun _ => rfl, by simp, by simp⟩
  · refine ⟨_, _, rfl, hc, hm, by simp, by simp, fun i x hx => ?_⟩
    have hlt : i < xs.length := (List.getElem?_eq_some_iff.1 hx).1
    refine ⟨g, 0, f x, rfl, hf x (List.mem_of_getElem? hx), cur, et, (0, 0), hg, fun j u hu => ?_⟩
    have hlen : (f x).length = T.sz := T.len (hf x (List.mem_of_getElem? hx))
    have hj : j < T.sz := by rw [← hlen]; exact (List.getElem?_eq_some_iff.1 hu).1
    have key : ∀ (xs : List α) (i : Nat) (x : α), (∀ y ∈ xs, (f y).length = T.sz) → xs[i]? = some x → (xs.flatMap f)[i * T.sz + j]? = (f x)[j]? := by
      intro xs
      induction xs with
      | nil => intro i x _ hx; simp at hx
      | cons y ys ih =>
        intro i x hl hx
        have hy := hl y (by simp)
        cases i with
        | zero =>
          simp at hx
          subst hx
          simp only [List.flatMap_cons, Nat.zero_mul, Nat.zero_add]
          rw [List.getElem?_append_left (by omega)]
        | succ i =>
          simp only [List.flatMap_cons]
          rw [List.getElem?_append_right (by rw [hy, Nat.succ_mul]; omega)]
          rw [show (i + 1) * T.sz + j - (f y).length = i * T.sz + j by rw [hy, Nat.succ_mul]; omega]
          exact ih i x (fun z hz => hl z (by simp [hz])) (by simpa using hx)
    have h3 := key xs i x (fun y hy => T.len (hf y hy)) hx
    rw [← ht, List.getElem?_take] at h3
    split at h3
    · rw [hu] at h3
      simpa using h3
    · rw [hu] at h3
      cases h3

theorem turn1_get {k k' : PH} {b c : Nat} {o : Obj} (h : Turn1 k k' b) (hne : c ≠ b) (hc : k c = some o) : k' c = some o := by
  refine h (fun i => if i = c then some o else none) (fun i ob hi => ?_) (by simp [Ne.symm hne]) c o (by simp)
  simp only at hi
  split at hi
  · rename_i e; subst e; cases hi; exact hc
  · cases hi

/-- A block whose cells are rows of the same width reads as a list. -/
theorem sl_rows {α : Type} {T : Ty α} {k : PH} {b : Nat} {c : Array Value} {et : TypeId} {fr : Nat × Nat} {css : List (List Value)} {xs : List α} (h : k b = some (.cells c et fr)) (hc : c.toList = css.flatten) (hl : css.length = xs.length)
    (hr : ∀ (i : Nat) (cs : List Value) (x : α), css[i]? = some cs → xs[i]? = some x → T.rep k cs x) (hm : xs.length ≤ maxLen) : Sl T k (some ⟨b, 0, none⟩) xs.length xs := by
  refine ⟨Nat.le_refl _, hm, by simp, by simp, fun i x hx => ?_⟩
  have hlt : i < xs.length := (List.getElem?_eq_some_iff.1 hx).1
  have hcs : css[i]? = some (css[i]'(by omega)) := List.getElem?_eq_getElem (by omega)
  generalize css[i]'(by omega) = cs at hcs
  have hrep := hr i cs x hcs hx
  refine ⟨b, 0, cs, rfl, hrep, c, et, fr, h, fun j u hu => ?_⟩
  have hj : j < T.sz := by rw [← T.len hrep]; exact (List.getElem?_eq_some_iff.1 hu).1
  have key : ∀ (css : List (List Value)) (i : Nat) (cs : List Value), (∀ y ∈ css, y.length = T.sz) → css[i]? = some cs → css.flatten[i * T.sz + j]? = cs[j]? := by
    intro css
    induction css with
    | nil => intro i x _ hx; simp at hx
    | cons y ys ih =>
      intro i x hl hx
      have hy := hl y (by simp)
      cases i with
      | zero =>
        simp at hx
        subst hx
        simp only [List.flatten_cons, Nat.zero_mul, Nat.zero_add]
        rw [List.getElem?_append_left (by omega)]
      | succ i =>
        simp only [List.flatten_cons]
        rw [List.getElem?_append_right (by rw [hy, Nat.succ_mul]; omega)]
        rw [show (i + 1) * T.sz + j - y.length = i * T.sz + j by rw [hy, Nat.succ_mul]; omega]
        exact ih i x (fun z hz => hl z (by simp [hz])) (by simpa using hx)
  have hall : ∀ y ∈ css, y.length = T.sz := by
    intro y hy
    obtain ⟨q, hq⟩ := List.getElem?_of_mem hy
    have hql : q < xs.length := by rw [← hl]; exact (List.getElem?_eq_some_iff.1 hq).1
    exact T.len (hr q y xs[q] hq (List.getElem?_eq_getElem hql))
  have h3 := key css i cs hall hcs
  rw [Nat.zero_add, ← Array.getElem?_toList, hc, h3]
  exact hu

/-- Rows side by side: the block bo has the slices vs, each of which is a row that reads as its list; no two rows share a block, and h knows none of them. -/
structure RowsOf {α : Type} (f : α → List Value) (N : Nat) (et sz bet bo : Nat) (h k : PH) (vs : List Value) (rs : List (List α)) : Prop where
  len : vs.length = rs.length
  le : Le h k
  hbo : h bo = none
  N_le : N ≤ bo
  at' : k bo = some (.cells vs.toArray bet (0, 0))
  row : ∀ (i : Nat) (v : Value) (r : List α), vs[i]? = some v → rs[i]? = some r → Row N k et sz v r.length (r.flatMap f) ∧ Apart h v ∧ v.ownBlock ≠ some bo
  apart : ∀ (i j : Nat) (v v' : Value), i ≠ j → vs[i]? = some v → vs[j]? = some v' → ∀ g, v.ownBlock = some g → v'.ownBlock ≠ some g

theorem RowsOf.turn {α : Type} {f : α → List Value} {N et sz bet bo : Nat} {h k k' : PH} {vs : List Value} {rs : List (List α)} (H : RowsOf f N et sz bet bo h k vs rs) {i : Nat} {v v' : Value} {r : List α} (hv : vs[i]? = some v) (hr : rs[i]? = some r) (x : α)
    (hrow : Row N k' et sz v' (r.length + 1) (r.flatMap f ++ f x)) (ht : Turn k k' v v') :
    k' bo = some (.cells vs.toArray bet (0, 0)) ∧ ∀ k'', Turn1 k' k'' bo → k'' bo = some (.cells (vs.toArray.setIfInBounds i v') bet (0, 0)) → RowsOf f N et sz bet bo h k'' (vs.set i v') (rs.set i (r ++ [x])) := by
  obtain ⟨hrv, hapv, hbv⟩ := H.row i v r hv hr
  obtain ⟨d1, d2⟩ := ht (delV k v) (delV_le k v) (fun g hg => delV_own hg)
  obtain ⟨e1, e2⟩ := ht h H.le hapv
  have hk1 : k' bo = some (.cells vs.toArray bet (0, 0)) := d1 bo _ (by rw [delV_of hbv]; exact H.at')
  have hbo' : v'.ownBlock ≠ some bo := fun hg => by
    have := d2 bo hg
    rw [delV_of hbv, H.at'] at this
    cases this
  refine ⟨hk1, fun k'' ht1 hk2 => ⟨by simp [H.len], ht1 h e1 H.hbo, H.hbo, H.N_le, by rw [hk2, List.setIfInBounds_toArray], fun j u s hu hs => ?_, fun j j' u u' hne hu hu' g hg => ?_⟩⟩
  · rw [List.getElem?_set] at hu hs
    by_cases hij : i = j
    · subst hij
      have hil : i < vs.length := (List.getElem?_eq_some_iff.1 hv).1
      have hil' : i < rs.length := (List.getElem?_eq_some_iff.1 hr).1
      simp only [if_true, hil, hil'] at hu hs
      cases hu; cases hs
      refine ⟨?_, e2, hbo'⟩
      rw [List.length_append, List.flatMap_append]
      simp only [List.length_singleton, List.flatMap_cons, List.flatMap_nil, List.append_nil]
      refine hrow.at fun g hg => ?_
      obtain ⟨_, ob, ho⟩ := hrow.block hg
      rw [ho]
      exact turn1_get ht1 (fun e => hbo' (e ▸ hg)) ho
    · simp only [hij, if_false] at hu hs
      obtain ⟨g1, g2, g3⟩ := H.row j u s hu hs
      refine ⟨g1.at fun g hg => ?_, g2, g3⟩
      obtain ⟨_, ob, ho⟩ := g1.block hg
      have h1 : k' g = some ob := d1 g ob (by rw [delV_of (fun e => H.apart i j v u hij hv hu g e hg)]; exact ho)
      rw [ho]
      exact turn1_get ht1 (fun e => g3 (e ▸ hg)) h1
  · rw [List.getElem?_set] at hu hu'
    have hil : i < vs.length := (List.getElem?_eq_some_iff.1 hv).1
    have key : ∀ (m : Nat) (y : Value), i ≠ m → vs[m]? = some y → ∀ g, v'.ownBlock = some g → y.ownBlock ≠ some g := by
      intro m y hm hy g hg hg'
      have hml : m < rs.length := by rw [← H.len]; exact (List.getElem?_eq_some_iff.1 hy).1
      obtain ⟨g1, _, _⟩ := H.row m y rs[m] hy (List.getElem?_eq_getElem hml)
      obtain ⟨_, ob, ho⟩ := g1.block hg'
      have := d2 g hg
      rw [delV_of (fun e => H.apart i m v y hm hv hy g e hg'), ho] at this
      cases this
    by_cases hij : i = j
    · subst hij
      simp only [if_true, hil] at hu
      cases hu
      rw [if_neg hne] at hu'
      exact key j' u' hne hu' g hg
    · rw [if_neg hij] at hu
      by_cases hij' : i = j'
      · subst hij'
        simp only [if_true, hil] at hu'
        cases hu'
        exact fun hg' => key j u hij hu g hg' hg
      · rw [if_neg hij'] at hu'
        exact H.apart j j' u u' hne hu hu' g hg

theorem RowsOf.up {α : Type} {f : α → List Value} {N et sz bet bo : Nat} {h k k' : PH} {vs : List Value} {rs : List (List α)} (H : RowsOf f N et sz bet bo h k vs rs) (hl : Le k k') : RowsOf f N et sz bet bo h k' vs rs :=
  ⟨H.len, H.le.trans hl, H.hbo, H.N_le, hl _ _ H.at', fun i v r hv hr => ⟨(H.row i v r hv hr).1.le hl, (H.row i v r hv hr).2⟩, H.apart⟩
theorem rows_nil {α : Type} (f : α → List Value) {N et sz bet bo : Nat} {h k : PH} (n : Nat) (hle : Le h k) (hbo : h bo = none) (hN : N ≤ bo) (hat : k bo = some (.cells (List.replicate n (Value.slice none 0 0)).toArray bet (0, 0))) :
    RowsOf f N et sz bet bo h k (List.replicate n (.slice none 0 0)) (List.replicate n []) := by
  refine ⟨by simp, hle, hbo, hN, hat, fun i v r hv hr => ?_, fun i j v v' _ hv _ g hg => ?_⟩
  · obtain rfl := (List.mem_replicate.1 (List.mem_of_getElem? hv)).2
    obtain rfl := (List.mem_replicate.1 (List.mem_of_getElem? hr)).2
    exact ⟨row_nil _ _ _ _, apart_nil _ _ _, by simp [Value.ownBlock]⟩
  · obtain rfl := (List.mem_replicate.1 (List.mem_of_getElem? hv)).2
    simp [Value.ownBlock] at hg

theorem RowsOf.sl {α : Type} {T : Ty α} {f : α → List Value} {N et bet bo : Nat} {h k : PH} {vs : List Value} {rs : List (List α)} (H : RowsOf f N et T.sz bet bo h k vs rs) (hmax : rs.length ≤ maxLen) (hf : ∀ r ∈ rs, ∀ x ∈ r, T.rep k (f x) x) : Sl (tSl T) k (some ⟨bo, 0, none⟩) rs.length rs := by
  refine ⟨Nat.le_refl _, hmax, by simp, by simp, fun i r hr => ?_⟩
  have hlt : i < rs.length := (List.getElem?_eq_some_iff.1 hr).1
  have hvl : i < vs.length := by rw [H.len]; exact hlt
  have hv : vs[i]? = some vs[i] := List.getElem?_eq_getElem hvl
  obtain ⟨hrow, _, _⟩ := H.row i _ r hv hr
  obtain ⟨a, c, hac, hsl⟩ := hrow.sl (hf r (List.mem_of_getElem? hr))
  refine ⟨bo, 0, [vs[i]], rfl, ⟨a, c, by rw [hac], hsl⟩, vs.toArray, bet, (0, 0), H.at', fun j u hu => ?_⟩
  have hj : j = 0 := by
    have := (List.getElem?_eq_some_iff.1 hu).1
    simp at this
    exact this
  subst hj
  simp at hu
  subst hu
  show vs.toArray[0 + i * 1 + 0]? = _
  simp [hv]
end Go.Wm
