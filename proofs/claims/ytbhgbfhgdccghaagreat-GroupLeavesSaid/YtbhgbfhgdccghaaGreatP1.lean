/-
  Members and partitions: who has, who wants. Conditions: that what is handed in reads as data.
-/
import Derived.Test.YtbhgbfhgdccghaaGreatIns
import Derived.Test.YtbhgbfhgdccghaaGreatCoA
import Derived.Test.YtbhgbfhgdccghaaGreatDat
import Derived.Test.YtbhgbfhgdccghaaGreatCoB
set_option linter.all false
namespace Go.Wm
variable [Dfr]
open Go.RowKit
/-- The new block, of which nothing is known; then what lies in it. -/
def XS (N d0 sz : Nat) (kr : PH) (ty : TypeId) (φ : PH → Value → Prop) : Nat → (Nat → Value) → PH → World → Prop := fun s tm k w => N ≤ w.heap.size ∧
  (s = 1 → ∃ b c, tm d0 = .pointer (some ⟨b, 0, none⟩) ∧ w.heap[b]? = some (.cells c ty (0, 0)) ∧ c.size = sz ∧ k b = none ∧ b < w.heap.size ∧ N ≤ b ∧ kr b = none) ∧
  (s = 2 → ∃ b u k0, tm d0 = .pointer (some ⟨b, 0, none⟩) ∧ w.heap[b]? = some (.cells u.cells ty (0, 0)) ∧ φ k0 u ∧ Le kr k0 ∧ (∀ i o, k0 i = some o → i < w.heap.size ∧ k i = some o) ∧ k b = none ∧ b < w.heap.size ∧ N ≤ b ∧ kr b = none)
section
variable {P : Program} {F : Fr} {n : Nat} {ops : Array Oper} {Q : Exit → Act → World → Prop} {rest : List Oper} {o : Oper} {e : Env} {k : PH}
end
end Go.Wm
namespace Go.Wm
variable [Dfr]
open Go.RowKit

theorem wrap_uns {kd : IntKind} (h : kd.signed = false) (n : Int) : kd.wrap n = n % (2 ^ kd.bits : Int) := by simp [IntKind.wrap, h]
theorem wrap_nat {kd : IntKind} (h : kd.signed = false) (n : Nat) : kd.wrap (n : Int) = ((n % 2 ^ kd.bits : Nat) : Int) := by
  rw [wrap_uns h]; simp
section
variable {P : Program} {o : Oper} {e : Env} {k : PH} {t t' : TypeId} {x y : Operand}
theorem d_shrN {kd ky : IntKind} {a b : Nat} (hop : o.op = .binOp .shr t x y t') (hx : opv e x = some (.int kd (a : Int))) (hy : opv e y = some (.int ky (b : Int))) (hb : b ≤ kd.bits) : Det P e k o (.int kd ((a / 2 ^ b : Nat) : Int)) := by
  intro ev w hev _
  rw [hop] at hev
  have e1 := hev x (by simp [Op.operands]) _ hx
  have e2 := hev y (by simp [Op.operands]) _ hy
  have h0 : ¬ ((b : Int) < 0) := by omega
  have h1 : min (b : Int).toNat kd.bits = b := by simp; exact Nat.min_eq_left hb
  have h6 : (Op.shift .shr kd (a : Int) ky (b : Int)).run P w = .ok (.int kd ((a / 2 ^ b : Nat) : Int)) w := by
    unfold Op.shift
    rw [if_neg h0]
    show Result.ok (Value.int kd ((a : Int).fdiv (2 ^ (min (b : Int).toNat kd.bits)))) w = _
    rw [h1]
    congr 2
    rw [Int.fdiv_eq_ediv_of_nonneg _ (by exact Int.pow_nonneg (by decide))]
    simp
  simp [execOp, hop, e1, e2, eqGuard, binOp, h6]
/-- A whole number becomes one of another kind. -/
theorem d_conv {src dst : TypeId} {d : TypeDesc} {kd kx : IntKind} {a : Int} [hs : TyU P src d] [hd : TyU P dst (.int kd)] (hop : o.op = .convert src dst x) (hx : opv e x = some (.int kx a)) : Det P e k o (.int kd (kd.wrap a)) := by
  intro ev w hev _
  rw [hop] at hev
  have e1 := hev x (by simp [Op.operands]) _ hx
  have : (convert src dst (.int kx a)).run P w = .ok (.int kd (kd.wrap a)) w := by
    simp [convert, run_underlying hs.eq, run_underlying hd.eq, Conv.intToInt]
  simp [execOp, hop, e1, this]
end
end Go.Wm
namespace Go.Wm
variable [Dfr]
open Go.RowKit
/-- The first place that is not below. -/
def posF {α : Type} (f : α → Int) (l : List α) : Nat := (l.takeWhile fun x => decide (f x < 0)).length
/-- Does what is looked for stand there? -/
def metF {α : Type} (f : α → Int) (l : List α) : Bool := decide ((l[posF f l]?).map f = some 0)
theorem posF_eq {α : Type} {f : α → Int} : ∀ {l : List α} {n : Nat}, n ≤ l.length → (∀ q, (h : q < l.length) → q < n → f l[q] < 0) → (∀ h : n < l.length, ¬ f l[n] < 0) → posF f l = n
  | [], n, hn, _, _ => by simp at hn; subst hn; rfl
  | x :: r, 0, _, _, h2 => by
    have := h2 (by simp)
    simp only [List.getElem_cons_zero] at this
    unfold posF
    rw [List.takeWhile_cons_of_neg (by simpa using this)]
    rfl
  | x :: r, n + 1, hn, h1, h2 => by
    have h0 := h1 0 (by simp) (by omega)
    simp only [List.getElem_cons_zero] at h0
    unfold posF
    rw [List.takeWhile_cons_of_pos (by simpa using h0), List.length_cons]
    have := posF_eq (f := f) (l := r) (n := n) (by simpa using hn) (fun q hq hqn => by have := h1 (q + 1) (by simpa using hq) (by omega); simpa using this) (fun h => by have := h2 (by simpa using h); simpa using this)
    unfold posF at this
    rw [this]
theorem metF_lt {α : Type} {f : α → Int} {l : List α} (h : metF f l = true) : ∃ hl : posF f l < l.length, f l[posF f l] = 0 := by
  unfold metF at h
  have h := of_decide_eq_true h
  cases e : l[posF f l]? with
  | none => rw [e] at h; cases h
  | some x =>
    obtain ⟨hl, hx⟩ := List.getElem?_eq_some_iff.1 e
    rw [e] at h
    exact ⟨hl, by rw [hx]; simpa using h⟩
theorem u64_halfB {n : Nat} (h : n < 18446744073709551616) : IntKind.u64.wrap (n : Int) = (n : Int) := by
  rw [wrap_nat rfl, Nat.mod_eq_of_lt (by simpa [IntKind.bits] using h)]
end Go.Wm
namespace Go.Wm
open Go.RowKit
structure OrdL {α : Type} (ord : α → α → Int) : Prop where
  tr : ∀ a b c, ord a b < 0 → ord b c < 0 → ord a c < 0
  sw : ∀ a b, ord a b < 0 ↔ 0 < ord b a
  eqL : ∀ a b, ord a b = 0 → ∀ c, ord a c < 0 ↔ ord b c < 0
  eqR : ∀ a b, ord a b = 0 → ∀ c, ord c a < 0 ↔ ord c b < 0
def RightP {α : Type} (ord : α → α → Int) (may : α → Bool) (l : List α) : Prop := ∀ i, (h : i < l.length) → may l[i] = true ∧ (0 < i → ord l[i - 1] l[i] < 0)
instance {α : Type} (ord : α → α → Int) (may : α → Bool) (l : List α) : Decidable (RightP ord may l) := by unfold RightP; infer_instance
def putInL {α : Type} (ord : α → α → Int) (l : List α) (x : α) (there : Bool) : List α :=
  if metF (fun y => ord y x) l = true then (if there = true then l.set (posF (fun y => ord y x) l) x else l.take (posF (fun y => ord y x) l) ++ l.drop (posF (fun y => ord y x) l + 1))
  else (if there = true then l.take (posF (fun y => ord y x) l) ++ x :: l.drop (posF (fun y => ord y x) l) else l)
theorem pair_of_ord {α : Type} {ord : α → α → Int} (ho : OrdL ord) : ∀ {l : List α}, (∀ i, (h : i < l.length) → 0 < i → ord l[i - 1] l[i] < 0) → l.Pairwise fun a b => ord a b < 0
  | [], _ => List.Pairwise.nil
  | a :: l, h => by
    have ih := pair_of_ord ho (l := l) fun i hi h0 => by
      have := h (i + 1) (by simp; omega) (by omega)
      obtain ⟨j, rfl⟩ : ∃ j, i = j + 1 := ⟨i - 1, by omega⟩
      simpa using this
    refine List.pairwise_cons.2 ⟨fun b hb => ?_, ih⟩
    cases l with
    | nil => cases hb
    | cons c l =>
      have h1 := h 1 (by simp) (by omega)
      simp at h1
      rcases List.mem_cons.1 hb with rfl | hb
      · exact h1
      · exact ho.tr _ _ _ h1 ((List.pairwise_cons.1 ih).1 b hb)
theorem right_iff {α : Type} {ord : α → α → Int} (ho : OrdL ord) {may : α → Bool} {l : List α} : RightP ord may l ↔ (∀ x ∈ l, may x = true) ∧ l.Pairwise fun a b => ord a b < 0 := by
  constructor
  · intro h
    exact ⟨fun x hx => by obtain ⟨i, hi, rfl⟩ := List.getElem_of_mem hx; exact (h i hi).1, pair_of_ord ho fun i hi h0 => (h i hi).2 h0⟩
  · rintro ⟨h1, h2⟩ i hi
    exact ⟨h1 _ (List.getElem_mem hi), fun h0 => List.pairwise_iff_getElem.1 h2 (i - 1) i (by omega) hi (by omega)⟩
theorem take_below {α : Type} {f : α → Int} {l : List α} : ∀ y ∈ l.take (posF f l), f y < 0 := by
  intro y hy
  have e : l.take (posF f l) = l.takeWhile fun x => decide (f x < 0) := by
    unfold posF
    exact (List.prefix_iff_eq_take.1 (List.takeWhile_prefix _)).symm
  rw [e] at hy
  have h0 := @List.all_takeWhile _ (fun x => decide (f x < 0)) l
  rw [List.all_eq_true] at h0
  simpa using h0 y hy
theorem not_below {α : Type} {f : α → Int} : ∀ {l : List α} (h : posF f l < l.length), ¬ f l[posF f l] < 0
  | [], h => by simp at h
  | x :: l, h => by
    by_cases hx : f x < 0
    · have e : posF f (x :: l) = posF f l + 1 := by simp [posF, List.takeWhile_cons, hx]
      simp only [e] at h ⊢
      simpa using not_below (f := f) (l := l) (by simpa using h)
    · have e : posF f (x :: l) = 0 := by simp [posF, List.takeWhile_cons, hx]
      simp only [e]
      simpa using hx
theorem met_zero {α : Type} {f : α → Int} {l : List α} (h : posF f l < l.length) (hz : f l[posF f l] = 0) : metF f l = true := by
  unfold metF
  rw [List.getElem?_eq_getElem h]
  simp [hz]
/-- What stands from its place on is above it, if it is not there. -/
theorem drop_above {α : Type} {ord : α → α → Int} (ho : OrdL ord) {l : List α} {x : α} (hp : l.Pairwise fun a b => ord a b < 0) (hn : ¬ metF (fun y => ord y x) l = true) : ∀ y ∈ l.drop (posF (fun y => ord y x) l), ord x y < 0 := by
  intro y hy
  obtain ⟨j, hj, rfl⟩ := List.getElem_of_mem hy
  rw [List.length_drop] at hj
  have hlt : posF (fun y => ord y x) l < l.length := by omega
  have h1 : ¬ ord l[posF (fun y => ord y x) l] x < 0 := not_below (f := fun y => ord y x) hlt
  have h2 : ¬ ord l[posF (fun y => ord y x) l] x = 0 := fun e => hn (met_zero hlt e)
  have h3 : ord x l[posF (fun y => ord y x) l] < 0 := (ho.sw _ _).2 (by omega)
  rw [List.getElem_drop]
  rcases Nat.eq_zero_or_pos j with rfl | h0
  · simpa using h3
  · exact ho.tr _ _ _ h3 (List.pairwise_iff_getElem.1 hp _ _ hlt (by omega) (by omega))
end Go.Wm
namespace Go.Wm
open Go.RowKit Go.Proofs
attribute [local irreducible] RG CG EG WA Loc Det Alc CT Exit.then Exit.inBlock Code.wp bodyPost
theorem mem_take_succ {α : Type} {l : List α} {x : α} {i : Nat} (h : i < l.length) : x ∈ l.take (i + 1) ↔ x ∈ l.take i ∨ x = l[i] := by
  rw [List.take_succ_eq_append_getElem h, List.mem_append, List.mem_singleton]
/-- Where x is first, or -1. -/
def idx {α : Type} [DecidableEq α] (l : List α) (x : α) : Int := if x ∈ l then (l.idxOf x : Nat) else -1
theorem idx_at {α : Type} [DecidableEq α] {l : List α} {x : α} {i : Nat} (hlt : i < l.length) (h2 : x = l[i]) (hno : x ∉ l.take i) : idx l x = (i : Int) := by
  have h3 : x ∈ l := h2 ▸ List.getElem_mem hlt
  unfold idx
  rw [if_pos h3]
  have e1 : l = l.take i ++ (x :: l.drop (i + 1)) := by
    conv => lhs; rw [← List.take_append_drop i l]
    rw [List.drop_eq_getElem_cons hlt, h2]
  have h4 : l.idxOf x = i := by
    rw [e1, List.idxOf_append, if_neg hno, List.idxOf_cons_self, List.length_take]
    omega
  rw [h4]
theorem idx_no {α : Type} [DecidableEq α] {l : List α} {x : α} (h : x ∉ l) : idx l x = -1 := by
  unfold idx
  rw [if_neg h]
set_option maxHeartbeats 400000 in
theorem indexTp_ct {k : PH} {a : Option Addr} {c : Nat} {l : List Tp} (hl : Sl tTp k a c l) (tp : Tp) :
    CT Tryz.prog 97 #[.slice a l.length c, .agg tp.vs.toArray] k (fun _ v => v = .int .i64 (idx l tp)) := by
  refine ct_of_body (l := [_, _]) Tryz.func97 rfl Tryz.ntmps97 (by simp) (fun _ _ _ _ h => h) fun F hF0 hFm => ?_
  have b1 := hl.cap; have b2 := hl.max; unfold maxLen at b2
  repeat (first | refine cg_seq ?_ | refine cg_region ?_)
  refine rb rfl rfl rfl rfl (a_box rfl rfl) ?_; intro b3 k3 hb3 hN3 hle3 hk3
  have c3 := cells_at (vs := tp.vs) hk3 rfl
  repeat (first | refine cg_seq ?_ | refine cg_region ?_ | refine rg_nil ?_ | refine eg_then ?_ | refine qsp ?_ | refine qsn ?_ | refine cg_block ?_)
  refine cg_loop (fun (i : Nat) e k' => k' = k3 ∧ i ≤ l.length ∧ tp ∉ l.take i ∧ e = [(0, .is (.slice a l.length c)), (3, .is (.pointer (some ⟨b3, 0, none⟩))), (7, .is (.int .i64 (l.length : Int))), (8, .is (.int .i64 (i : Int)))])
    (fun i => l.length - i) 0 ⟨rfl, Nat.zero_le _, by simp, rfl⟩ ⟨rfl, rfl, rfl, rfl, trivial⟩ ?_
  rintro i e k1 ⟨rfl, hi, hno, rfl⟩
  repeat (first | refine cg_seq ?_ | refine cg_region ?_ | refine rg_nil ?_ | refine eg_then ?_ | refine qsp ?_)
  refine cg_cond rfl (fun h => ?_) (fun h => ?_)
  · have hlt : i < l.length := by simpa using h
    obtain ⟨bx, ox, cx, rfl, ⟨rfl, hxok⟩, hcx⟩ := (hl.le hle3).el i l[i] (List.getElem?_eq_getElem hlt)
    repeat (first | refine cg_seq ?_ | refine cg_region ?_ | refine rg_nil ?_ | refine eg_then ?_ | refine qsp ?_ | refine cg_skip ?_ | refine cg_block ?_)
    refine cg_any (by kernel_rfl) rfl ?_
    repeat (first | refine qwp ?_ | refine qwi ?_ | refine qwg ?_ | refine qwE ?_ | (refine wn rfl ?_; refine eg_then ?_))
    refine cg_cond rfl (fun h => ?_) (fun h => ?_)
    · repeat (first | refine cg_seq ?_ | refine cg_region ?_ | refine rg_nil ?_ | refine eg_then ?_ | refine qsp ?_ | refine cg_ret ?_ | refine eg_then_ret ?_ | refine eg_in_ret ?_)
      refine eg_return rfl rfl ?_
      have h2 : tp = l[i] := by simpa using h
      rw [idx_at hlt h2 hno]
    · repeat (first | refine cg_region ?_ | refine rg_nil ?_ | refine eg_then ?_ | refine qsp ?_ | refine qsa ?_ | refine cg_skip ?_ | refine eg_in_normal ?_)
      refine eg_again (i + 1) _ ⟨rfl, hlt, ?_, rfl⟩ (by omega) ⟨rfl, rfl, rfl, rfl, trivial⟩
      have h2 : tp ≠ l[i] := by simpa using h
      rw [mem_take_succ hlt]
      rintro (h3 | h3)
      · exact hno h3
      · exact h2 h3
  · repeat (first | refine cg_seq ?_ | refine cg_region ?_ | refine rg_nil ?_ | refine eg_then ?_ | refine qsp ?_ | refine cg_ret ?_ | refine cg_exit ?_ | refine eg_then_exit ?_ | refine eg_in_exit ?_)
    refine eg_return rfl rfl ?_
    have : i = l.length := by simp at h; omega
    rw [this, List.take_length] at hno
    rw [idx_no hno]
set_option maxHeartbeats 400000 in
theorem indexStr_ct {k : PH} {a : Option Addr} {c : Nat} {l : List ByteArray} (hl : Sl tStr k a c l) (x : ByteArray) :
    CT Tryz.prog 115 #[.slice a l.length c, .string x] k (fun _ v => v = .int .i64 (idx l x)) := by
  refine ct_of_body (l := [_, _]) Tryz.func115 rfl Tryz.ntmps115 (by simp) (fun _ _ _ _ h => h) fun F hF0 hFm => ?_
  have b1 := hl.cap; have b2 := hl.max; unfold maxLen at b2
  repeat (first | refine cg_seq ?_ | refine cg_region ?_ | refine rg_nil ?_ | refine eg_then ?_ | refine qsp ?_ | refine qsn ?_ | refine cg_block ?_)
  refine cg_loop (fun (i : Nat) e k' => k' = k ∧ i ≤ l.length ∧ x ∉ l.take i ∧ e = [(0, .is (.slice a l.length c)), (1, .is (.string x)), (7, .is (.int .i64 (l.length : Int))), (8, .is (.int .i64 (i : Int)))])
    (fun i => l.length - i) 0 ⟨rfl, Nat.zero_le _, by simp, rfl⟩ ⟨rfl, rfl, rfl, rfl, trivial⟩ ?_
  rintro i e k1 ⟨rfl, hi, hno, rfl⟩
  repeat (first | refine cg_seq ?_ | refine cg_region ?_ | refine rg_nil ?_ | refine eg_then ?_ | refine qsp ?_)
  refine cg_cond rfl (fun h => ?_) (fun h => ?_)
  · have hlt : i < l.length := by simpa using h
    obtain ⟨bx, ox, cx, rfl, ⟨rfl, _⟩, hcx⟩ := hl.el i l[i] (List.getElem?_eq_getElem hlt)
    repeat (first | refine cg_seq ?_ | refine cg_region ?_ | refine rg_nil ?_ | refine eg_then ?_ | refine qsp ?_ | refine qsi ?_ | refine qsl ?_ | refine cg_skip ?_ | refine cg_block ?_)
    refine cg_cond rfl (fun h => ?_) (fun h => ?_)
    · repeat (first | refine cg_seq ?_ | refine cg_region ?_ | refine rg_nil ?_ | refine eg_then ?_ | refine qsp ?_ | refine cg_ret ?_ | refine eg_then_ret ?_ | refine eg_in_ret ?_)
      refine eg_return rfl rfl ?_
      have h2 : x = l[i] := by simpa using h
      rw [idx_at hlt h2 hno]
    · repeat (first | refine cg_region ?_ | refine rg_nil ?_ | refine eg_then ?_ | refine qsp ?_ | refine qsa ?_ | refine cg_skip ?_ | refine eg_in_normal ?_)
      refine eg_again (i + 1) _ ⟨rfl, hlt, ?_, rfl⟩ (by omega) ⟨rfl, rfl, rfl, rfl, trivial⟩
      have h2 : x ≠ l[i] := by simpa using h
      rw [mem_take_succ hlt]
      rintro (h3 | h3)
      · exact hno h3
      · exact h2 h3
  · repeat (first | refine cg_seq ?_ | refine cg_region ?_ | refine rg_nil ?_ | refine eg_then ?_ | refine qsp ?_ | refine cg_ret ?_ | refine cg_exit ?_ | refine eg_then_exit ?_ | refine eg_in_exit ?_)
    refine eg_return rfl rfl ?_
    have : i = l.length := by simp at h; omega
    rw [this, List.take_length] at hno
    rw [idx_no hno]
theorem idx_geq {α : Type} [DecidableEq α] (l : List α) (x : α) : decide (idx l x ≥ 0) = decide (x ∈ l) := by
  unfold idx
  by_cases h : x ∈ l <;> simp [h]
set_option maxHeartbeats 400000 in
theorem containsTp_ct {k : PH} {a : Option Addr} {c : Nat} {l : List Tp} (hl : Sl tTp k a c l) (tp : Tp) :
    CT Tryz.prog 53 #[.slice a l.length c, .agg tp.vs.toArray] k (fun _ v => v = .bool (decide (tp ∈ l))) := by
  refine ct_of_body (l := [_, _]) Tryz.func53 rfl Tryz.ntmps53 (by simp) (fun _ _ _ _ h => h) fun F hF0 hFm => ?_
  repeat (first | refine cg_seq ?_ | refine cg_region ?_)
  refine rb rfl rfl rfl rfl (a_box rfl rfl) ?_; intro b3 k3 hb3 hN3 hle3 hk3
  have c3 := cells_at (vs := tp.vs) hk3 rfl
  repeat (first | refine cg_seq ?_ | refine cg_region ?_ | refine rg_nil ?_ | refine eg_then ?_ | refine qsp ?_ | refine qsg ?_)
  refine rs rfl rfl (loc_call_is rfl rfl rfl rfl (indexTp_ct (hl.le hle3) tp)) ?_
  repeat (first | refine rg_nil ?_ | refine eg_then ?_ | refine qsp ?_ | refine cg_ret ?_)
  refine eg_return rfl rfl ?_
  rw [idx_geq] <;> congr
set_option maxHeartbeats 400000 in
theorem containsStr_ct {k : PH} {a : Option Addr} {c : Nat} {l : List ByteArray} (hl : Sl tStr k a c l) (x : ByteArray) :
    CT Tryz.prog 105 #[.slice a l.length c, .string x] k (fun _ v => v = .bool (decide (x ∈ l))) := by
  refine ct_of_body (l := [_, _]) Tryz.func105 rfl Tryz.ntmps105 (by simp) (fun _ _ _ _ h => h) fun F hF0 hFm => ?_
  repeat (first | refine cg_seq ?_ | refine cg_region ?_ | refine rg_nil ?_ | refine eg_then ?_ | refine qsp ?_)
  refine rs rfl rfl (loc_call_is rfl rfl rfl rfl (indexStr_ct hl x)) ?_
  repeat (first | refine rg_nil ?_ | refine eg_then ?_ | refine qsp ?_ | refine cg_ret ?_)
  refine eg_return rfl rfl ?_
  rw [idx_geq] <;> congr
set_option maxHeartbeats 400000 in
theorem wants_ct {k : PH} {m : Member} {cm : List Value} (hm : tMember.rep k cm m) (tp : Tp) :
    CT Tryz.prog 73 #[.agg cm.toArray, .agg tp.vs.toArray] k (fun _ v => v = .bool (decide (tp.topic ∈ m.subs))) := by
  obtain ⟨sa, sc, oa, oc, rfl, ⟨hl, _⟩, _⟩ := hm
  refine ct_of_body (l := [_, _]) Tryz.func73 rfl Tryz.ntmps73 (by simp) (fun _ _ _ _ h => h) fun F hF0 hFm => ?_
  repeat (first | refine cg_seq ?_ | refine cg_region ?_)
  refine rb rfl rfl rfl rfl (a_box rfl rfl) ?_; intro b2 k2 hb2 hN2 hle2 hk2
  refine rb rfl rfl rfl rfl (a_box rfl rfl) ?_; intro b3 k3 hb3 hN3 hle3 hk3
  have c3 := cells_at (vs := tp.vs) hk3 rfl
  have c2 := (cells_at (vs := Member.cs m sa sc oa oc) hk2 rfl).le hle3
  have f2 := c2.one (i := 2) rfl
  have f0 := c3.one (i := 0) rfl
  repeat (first | refine cg_seq ?_ | refine cg_region ?_ | refine rg_nil ?_ | refine eg_then ?_ | refine qsp ?_ | refine qsl ?_ | refine qsf ?_)
  refine rs rfl rfl (loc_call_is rfl rfl rfl rfl (containsStr_ct (hl.le (hle2.trans hle3)) tp.topic)) ?_
  repeat (first | refine rg_nil ?_ | refine eg_then ?_ | refine qsp ?_ | refine cg_ret ?_)
  exact eg_return rfl rfl rfl
end Go.Wm
