/-
  What is shown, in plain Lean: of the same, of more, of what is hidden between two offsets. Conditions: those of each law.
-/
import Derived.Test.YtjonlpdnhbnmmaaY3
set_option linter.all false
namespace Go.Wm
open Go.RowKit Go.Proofs

theorem putErr_iff {t : Tx} {b : Batch} : putErr t b = 0 ↔ txP t = true ∧ chkB b = 0 ∧ behindB t b.base = true := by
  unfold putErr
  by_cases h1 : txP t = true
  · by_cases h2 : chkB b = 0
    · by_cases h3 : behindB t b.base = true <;> simp [h1, h2, h3]
    · simp [h1, h2]
  · simp [h1]
theorem len_less {t : Tx} {b : Batch} (ht : thereO t.openV b.pid = true) : (lessT t b).length + 1 = t.openV.length := by
  have := thereO_lt ht
  simp [lessT]; omega
theorem len_opens (t : Tx) (b : Batch) : (opensT t b).openV.length = t.openV.length + 1 := by
  have := placeO_le t.openV b.pid
  simp [opensT]; omega
/-- How many are known: as many, or one more. -/
theorem put_len (t : Tx) (b : Batch) : (putT t b = t ∧ True) ∨ (b.ctl = 0 ∧ b.txn = true ∧ thereO t.openV b.pid = false ∧ putT t b = opensT t b) ∨ (b.ctl ≠ 0 ∧ thereO t.openV b.pid = true ∧ (putT t b = ⟨lessT t b, t.gone ++ [goneOf t b], t.done⟩ ∨ putT t b = ⟨lessT t b, t.gone, t.done ++ [goneOf t b]⟩)) := by
  unfold putT
  split
  · split
    · rename_i hc ht
      simp only [Bool.and_eq_true, Bool.not_eq_true'] at ht
      exact .inr (.inl ⟨hc, ht.1, ht.2, rfl⟩)
    · exact .inl ⟨rfl, trivial⟩
  · rename_i hc
    split
    · rename_i ht
      split
      · exact .inr (.inr ⟨hc, ht, .inl rfl⟩)
      · exact .inr (.inr ⟨hc, ht, .inr rfl⟩)
    · exact .inl ⟨rfl, trivial⟩
def sizeT (t : Tx) : Nat := t.openV.length + t.gone.length + t.done.length
theorem putT_size (t : Tx) (b : Batch) : sizeT (putT t b) ≤ sizeT t + 1 := by
  unfold sizeT
  rcases put_len t b with ⟨h, _⟩ | ⟨_, _, _, h⟩ | ⟨_, ht, h | h⟩
  · rw [h]; omega
  · rw [h, len_opens]
    show _ + t.gone.length + t.done.length ≤ _
    omega
  · have := len_less ht
    rw [h]; simp only [List.length_append, List.length_singleton]; omega
  · have := len_less ht
    rw [h]; simp only [List.length_append, List.length_singleton]; omega
/-- One step of all: a batch that may not be put is passed. -/
def stepT (t : Tx) (b : Batch) : Tx := if putErr t b = 0 then putT t b else t
def ofT (bs : List Batch) : Tx := bs.foldl stepT noTx
theorem of_snoc (bs : List Batch) (b : Batch) : ofT (bs ++ [b]) = stepT (ofT bs) b := by simp [ofT]
theorem step_size (t : Tx) (b : Batch) : sizeT (stepT t b) ≤ sizeT t + 1 := by
  unfold stepT
  split
  · exact putT_size t b
  · omega
theorem of_size (bs : List Batch) : sizeT (ofT bs) ≤ bs.length := by
  have : ∀ (l : List Batch) (t : Tx), sizeT (l.foldl stepT t) ≤ sizeT t + l.length := by
    intro l
    induction l with
    | nil => intro t; simp
    | cons b l ih => intro t; have := ih (stepT t b); have := step_size t b; simp only [List.foldl_cons, List.length_cons]; omega
  have h := this bs noTx
  have e : sizeT noTx = 0 := rfl
  unfold ofT
  omega
end Go.Wm
namespace Go.Wm
open Go.RowKit Go.Proofs

/-- How the next batch of a producer that ends a transaction ends it; 0: there is none. -/
def nextE (rest : List Batch) (p : Int) : Int := match rest.find? (fun c => decide (c.pid = p) && !decide (c.ctl = 0)) with
  | some c => c.ctl
  | none => 0
/-- What is known of a batch of a transaction, by how the next of its producer that ends one does. -/
structure J (c : Batch) (nx : Int) (t : Tx) : Prop where
  opn : nx = 0 → (∃ o ∈ t.openV, o.pid = c.pid ∧ o.first ≤ c.base) ∧ ∀ g ∈ t.gone, g.pid = c.pid → g.last ≤ c.base
  shut : nx ≠ 0 → ∀ o ∈ t.openV, o.pid = c.pid → c.base < o.first
  done : nx = 1 → ∀ g ∈ t.gone, ¬ (g.pid = c.pid ∧ g.first ≤ c.base ∧ c.base < g.last)
  gone : nx = 2 → ∃ g ∈ t.gone, g.pid = c.pid ∧ g.first ≤ c.base ∧ c.base < g.last
/-- All that is known lies behind whatever lies behind all batches. -/
def Bnd (l : List Batch) (t : Tx) : Prop := ∀ m, (∀ c ∈ l, c.last < m) → behindB t m = true
def Inv (l : List Batch) (t : Tx) : Prop := ∀ i, (h : i < l.length) → l[i].ctl = 0 → l[i].txn = true → J l[i] (nextE (l.drop (i + 1)) l[i].pid) t
/-- What is shown of batches that rise, below what is stable: what is committed. -/
def wantB (l : List Batch) (i : Nat) (b : Batch) (to : Int) : Bool := (decide (b.ctl = 0) && decide (b.last < to)) && (!b.txn || decide (nextE (l.drop (i + 1)) b.pid = 1))
def wantN (l : List Batch) (to : Int) : Nat → List Batch
  | 0 => []
  | i + 1 => wantN l to i ++ (if h : i < l.length then (if wantB l i l[i] to = true then [l[i]] else []) else [])
end Go.Wm
namespace Go.Wm
open Go.RowKit Go.Proofs

theorem filter_len {α : Type} {p q : α → Bool} (h : ∀ x, p x = true → q x = true) : ∀ l : List α, (l.filter p).length ≤ (l.filter q).length
  | [] => Nat.le_refl _
  | x :: l => by
    have ih := filter_len h l
    by_cases hp : p x = true
    · rw [List.filter_cons_of_pos hp, List.filter_cons_of_pos (h x hp)]
      simp only [List.length_cons]; omega
    · rw [List.filter_cons_of_neg hp]
      by_cases hq : q x = true
      · rw [List.filter_cons_of_pos hq]; simp only [List.length_cons]; omega
      · rw [List.filter_cons_of_neg hq]; exact ih
theorem show_less {g1 g2 : List Gone} {to : Int} {b : Batch} (h : ∀ g ∈ g2, g ∈ g1) (hs : showB g1 to b = true) : showB g2 to b = true := by
  simp only [showB, Bool.and_eq_true, Bool.not_eq_true'] at hs ⊢
  refine ⟨hs.1, ?_⟩
  rw [List.any_eq_false] at hs ⊢
  exact fun g hg => hs.2 g (h g hg)
theorem show_twice (gone : List Gone) (to : Int) (bs : List Batch) : (bs.filter (showB gone to)).filter (showB gone to) = bs.filter (showB gone to) := by
  rw [List.filter_filter]; simp
def liveB (to : Int) (b : Batch) : Bool := decide (b.ctl = 0) && decide (b.last < to)
theorem show_nil (to : Int) : showB [] to = liveB to := by
  funext b
  simp [showB, liveB]
def trimL (start : Int) (l : List Gone) : List Gone := l.filter fun g => !decide (g.last < start)
def ahead (fr : Int) (b : Batch) : Bool := decide (fr ≤ b.base) && decide (chkB b = 0)
end Go.Wm
