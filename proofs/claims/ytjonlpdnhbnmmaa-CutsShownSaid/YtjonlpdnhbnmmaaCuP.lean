/-
  Cuts in plain Lean: marks lowered by transactions that are not whole; the greatest cut. Conditions: none.
-/
import Derived.Test.YtjonlpdnhbnmmaaDat
set_option linter.all false
namespace Go.Wm

def minI (a b : Int) : Int := if b < a then b else a
theorem minI_left (a b : Int) : minI a b ≤ a := by unfold minI; split <;> omega
theorem minI_right (a b : Int) : minI a b ≤ b := by unfold minI; split <;> omega
theorem le_minI {a b c : Int} (h1 : c ≤ a) (h2 : c ≤ b) : c ≤ minI a b := by unfold minI; split <;> omega
/-- The least of a number and of those of a list that are so. -/
def foldMin {γ : Type} (c : γ → Bool) (f : γ → Int) (a : Int) (l : List γ) : Int := l.foldl (fun a g => if c g then minI a (f g) else a) a
section
variable {γ : Type} {c : γ → Bool} {f : γ → Int}
theorem foldMin_cons (a : Int) (g : γ) (l : List γ) : foldMin c f a (g :: l) = foldMin c f (if c g then minI a (f g) else a) l := rfl
theorem foldMin_le : ∀ (l : List γ) (a : Int), foldMin c f a l ≤ a
  | [], a => Int.le_refl _
  | g :: l, a => by
    rw [foldMin_cons]
    refine Int.le_trans (foldMin_le l _) ?_
    split
    · exact minI_left _ _
    · exact Int.le_refl _
theorem foldMin_at : ∀ (l : List γ) (a : Int) (g : γ), g ∈ l → c g = true → foldMin c f a l ≤ f g
  | x :: l, a, g, hm, hc => by
    rw [foldMin_cons]
    rcases List.mem_cons.1 hm with rfl | hm
    · rw [if_pos hc]
      exact Int.le_trans (foldMin_le l _) (minI_right _ _)
    · exact foldMin_at l _ g hm hc
theorem le_foldMin : ∀ (l : List γ) (a x : Int), x ≤ a → (∀ g ∈ l, c g = true → x ≤ f g) → x ≤ foldMin c f a l
  | [], a, x, h, _ => h
  | g :: l, a, x, h, hl => by
    rw [foldMin_cons]
    refine le_foldMin l _ x ?_ fun g' hg' => hl g' (by simp [hg'])
    split
    · rename_i hc
      exact le_minI h (hl g (by simp) hc)
    · exact h
theorem foldMin_eq (l : List γ) (a : Int) : foldMin c f a l = a ↔ ∀ g ∈ l, c g = true → a ≤ f g := by
  constructor
  · intro h g hg hc
    rw [← h]
    exact foldMin_at l a g hg hc
  · intro h
    have h1 := foldMin_le (c := c) (f := f) l a
    have h2 := le_foldMin (c := c) (f := f) l a a (Int.le_refl _) h
    omega
end

/-- Up to where all is decided. -/
def stabP (t : Tx) (high : Int) : Int := foldMin (fun _ => true) (fun o : OpenT => o.first) high t.openV
/-- Is a transaction below the marks wherever it stands? -/
def belowP (l : List View) (m : List Int) (pid no : Int) : Bool := (l.zip m).all fun p => p.1.tx.done.all fun g => !((decide (g.pid = pid) && decide (g.no = no)) && decide (p.2 ≤ g.last))
def lowV (l : List View) (m : List Int) (p : View × Int) : Int :=
  foldMin (fun g : Gone => decide (p.2 ≤ g.last)) (fun g => g.first) (foldMin (fun g : Gone => !belowP l m g.pid g.no) (fun g => g.first) p.2 p.1.tx.done) p.1.tx.gone
/-- Marks that are lowered once. -/
def lowP (l : List View) (m : List Int) : List Int := (l.zip m).map (lowV l m)
theorem lowP_len {l : List View} {m : List Int} (h : m.length = l.length) : (lowP l m).length = l.length := by simp [lowP, h]
theorem lowP_get {l : List View} {m : List Int} {i : Nat} (hi : i < l.length) (hm : i < m.length) (h : i < (lowP l m).length) : (lowP l m)[i] = lowV l m (l[i], m[i]) := by
  simp [lowP]
theorem belowP_false {l : List View} {m : List Int} {pid no : Int} : belowP l m pid no = false ↔ ∃ i, ∃ (hi : i < l.length) (hm : i < m.length), ∃ g ∈ l[i].tx.done, g.pid = pid ∧ g.no = no ∧ m[i] ≤ g.last := by
  unfold belowP
  rw [List.all_eq_false]
  constructor
  · rintro ⟨p, hp, h⟩
    obtain ⟨i, hi, rfl⟩ := List.getElem_of_mem hp
    simp only [List.length_zip] at hi
    simp only [List.getElem_zip, Bool.not_eq_true, List.all_eq_false] at h
    obtain ⟨g, hg, h⟩ := h
    simp at h
    exact ⟨i, by omega, by omega, g, hg, h.1.1, h.1.2, h.2⟩
  · rintro ⟨i, hi, hm, g, hg, h1, h2, h3⟩
    refine ⟨(l[i], m[i]), ?_, ?_⟩
    · have : i < (l.zip m).length := by simp; omega
      have e := List.getElem_zip (l := l) (l' := m) (i := i) (h := this)
      rw [← e]
      exact List.getElem_mem this
    · simp only [Bool.not_eq_true, List.all_eq_false]
      exact ⟨g, hg, by simp [h1, h2, h3]⟩

/-- Each is at most the other's. -/
def PW (c m : List Int) : Prop := c.length = m.length ∧ ∀ i, (h : i < c.length) → (h' : i < m.length) → c[i] ≤ m[i]
theorem PW.refl (m : List Int) : PW m m := ⟨rfl, fun _ _ _ => Int.le_refl _⟩
theorem PW.trans {a b c : List Int} (h : PW a b) (h' : PW b c) : PW a c := ⟨h.1.trans h'.1, fun i hi hi' => Int.le_trans (h.2 i hi (by rw [← h.1]; exact hi)) (h'.2 i (by rw [← h.1]; exact hi) hi')⟩
theorem PW.antisymm {a b : List Int} (h : PW a b) (h' : PW b a) : a = b := List.ext_getElem h.1 fun i h1 h2 => Int.le_antisymm (h.2 i h1 h2) (h'.2 i h2 h1)
theorem low_le {l : List View} {m : List Int} (h : m.length = l.length) : PW (lowP l m) m := by
  refine ⟨by rw [lowP_len h, h], fun i hi hi' => ?_⟩
  rw [lowP_get (by rw [← h]; exact hi') hi']
  exact Int.le_trans (foldMin_le _ _) (foldMin_le _ _)
/-- A whole cut: nothing is lowered. -/
def WholeM (l : List View) (m : List Int) : Prop :=
  (∀ i, (hi : i < l.length) → (hm : i < m.length) → ∀ g ∈ l[i].tx.done, belowP l m g.pid g.no = false → m[i] ≤ g.first) ∧
  (∀ i, (hi : i < l.length) → (hm : i < m.length) → ∀ g ∈ l[i].tx.gone, m[i] ≤ g.last → m[i] ≤ g.first)
theorem whole_iff {l : List View} {m : List Int} (h : m.length = l.length) : lowP l m = m ↔ WholeM l m := by
  constructor
  · intro he
    have key : ∀ i, (hi : i < l.length) → (hm : i < m.length) → lowV l m (l[i], m[i]) = m[i] := fun i hi hm => by
      rw [← lowP_get hi hm (by rw [lowP_len h]; exact hi)]
      simp [he]
    refine ⟨fun i hi hm g hg hb => ?_, fun i hi hm g hg hb => ?_⟩
    · rw [← key i hi hm]
      unfold lowV
      exact Int.le_trans (foldMin_le _ _) (foldMin_at _ _ g hg (by simp [hb]))
    · have := key i hi hm
      unfold lowV at this
      rw [← this]
      exact foldMin_at _ _ g hg (by simpa using hb)
  · rintro ⟨h1, h2⟩
    refine List.ext_getElem (by rw [lowP_len h, h]) fun i hi hm => ?_
    have hil : i < l.length := by rw [← h]; exact hm
    rw [lowP_get hil hm]
    unfold lowV
    have e1 : foldMin (fun g : Gone => !belowP l m g.pid g.no) (fun g => g.first) m[i] l[i].tx.done = m[i] := (foldMin_eq _ _).2 fun g hg hc => h1 i hil hm g hg (by simpa using hc)
    simp only [e1]
    exact (foldMin_eq _ _).2 fun g hg hc => h2 i hil hm g hg (by simpa using hc)
/-- A whole cut below marks is below those that are lowered. -/
theorem low_mono {l : List View} {c m : List Int} (hm : m.length = l.length) (hw : WholeM l c) (h : PW c m) : PW c (lowP l m) := by
  refine ⟨by rw [lowP_len hm, h.1, hm], fun i hi hi' => ?_⟩
  have hil : i < l.length := by rw [← hm, ← h.1]; exact hi
  have him : i < m.length := by omega
  rw [lowP_get hil him]
  have hci := h.2 i hi him
  unfold lowV
  refine le_foldMin _ _ _ (le_foldMin _ _ _ hci fun g hg hb => ?_) fun g hg hb => ?_
  · have hb' : belowP l m g.pid g.no = false := by simpa using hb
    rw [belowP_false] at hb'
    obtain ⟨j, hj, hjm, x, hx, h1, h2, h3⟩ := hb'
    refine hw.1 i hil hi g hg ?_
    rw [belowP_false]
    have hjc : j < c.length := by rw [h.1]; exact hjm
    have := h.2 j hjc hjm
    exact ⟨j, hj, hjc, x, hx, h1, h2, by omega⟩
  · have : m[i] ≤ g.last := by simpa using hb
    exact hw.2 i hil hi g hg (by omega)

/-- The greatest cut that is whole, below what is stable. -/
structure IsCut (l : List View) (s m : List Int) : Prop where
  len : m.length = l.length
  whole : WholeM l m
  safe : PW m s
  top : ∀ c, WholeM l c → PW c s → PW c m
theorem IsCut.same {l : List View} {s m m' : List Int} (h : IsCut l s m) (h' : IsCut l s m') : m = m' := (h'.top m h.whole h.safe).antisymm (h.top m' h'.whole h'.safe)
end Go.Wm
