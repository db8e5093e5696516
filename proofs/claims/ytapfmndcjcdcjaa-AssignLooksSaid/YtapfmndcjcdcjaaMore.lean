/-
  More on rows: what reads as a list lies in a row of cells; a list appended to a row; a row of known pieces reads as a list; sums that may wrap. Conditions: those of each law.
-/
import Derived.Test.YtapfmndcjcdcjaaRws
import Derived.Test.YtapfmndcjcdcjaaPart
set_option linter.all false
namespace Go.Wm
open Go.RowKit

/-- The pieces of a list. -/
def Pieces {α : Type} (T : Ty α) (k : PH) (css : List (List Value)) (xs : List α) : Prop := css.length = xs.length ∧ ∀ (i : Nat) (cs : List Value) (x : α), css[i]? = some cs → xs[i]? = some x → T.rep k cs x
theorem Pieces.nil {α : Type} (T : Ty α) (k : PH) : Pieces T k [] [] := ⟨rfl, by simp⟩
theorem Pieces.le {α : Type} {T : Ty α} {k k' : PH} {css : List (List Value)} {xs : List α} (h : Pieces T k css xs) (hl : Le k k') : Pieces T k' css xs := ⟨h.1, fun i cs x h1 h2 => T.mono hl (h.2 i cs x h1 h2)⟩
theorem Pieces.append {α : Type} {T : Ty α} {k : PH} {css ds : List (List Value)} {xs ys : List α} (h : Pieces T k css xs) (h' : Pieces T k ds ys) : Pieces T k (css ++ ds) (xs ++ ys) := by
  refine ⟨by rw [List.length_append, List.length_append, h.1, h'.1], fun i cs x h1 h2 => ?_⟩
  by_cases hi : i < css.length
  · rw [List.getElem?_append_left hi] at h1
    rw [List.getElem?_append_left (by rw [← h.1]; exact hi)] at h2
    exact h.2 i cs x h1 h2
  · rw [List.getElem?_append_right (by omega)] at h1
    rw [List.getElem?_append_right (by rw [← h.1]; omega), ← h.1] at h2
    exact h'.2 _ cs x h1 h2
theorem Pieces.one {α : Type} {T : Ty α} {k : PH} {cs : List Value} {x : α} (h : T.rep k cs x) : Pieces T k [cs] [x] := by
  refine ⟨rfl, fun i c y h1 h2 => ?_⟩
  cases i with
  | zero => simp at h1 h2; rw [← h1, ← h2]; exact h
  | succ i => simp at h1
theorem Pieces.set {α : Type} {T : Ty α} {k : PH} {css : List (List Value)} {xs : List α} (h : Pieces T k css xs) (i : Nat) {cs : List Value} {x : α} (hr : T.rep k cs x) : Pieces T k (css.set i cs) (xs.set i x) := by
  refine ⟨by simp [h.1], fun j c y h1 h2 => ?_⟩
  rw [List.getElem?_set] at h1 h2
  by_cases hij : i = j
  · subst hij
    simp only [if_true, h.1] at h1 h2
    split at h1
    · rename_i hl
      simp only [hl, if_true] at h2
      cases h1; cases h2
      exact hr
    · cases h1
  · rw [if_neg hij] at h1 h2
    exact h.2 j c y h1 h2
theorem Pieces.len {α : Type} {T : Ty α} {k : PH} {css : List (List Value)} {xs : List α} (h : Pieces T k css xs) : ∀ cs ∈ css, cs.length = T.sz := by
  intro y hy
  obtain ⟨q, hq⟩ := List.getElem?_of_mem hy
  have hql : q < xs.length := by rw [← h.1]; exact (List.getElem?_eq_some_iff.1 hq).1
  exact T.len (h.2 q y xs[q] hq (List.getElem?_eq_getElem hql))
theorem flat_at {sz : Nat} : ∀ (css : List (List Value)) (i : Nat) (cs : List Value) (j : Nat), (∀ y ∈ css, y.length = sz) → css[i]? = some cs → j < sz → css.flatten[i * sz + j]? = cs[j]? := by
  intro css
  induction css with
  | nil => intro i x j _ hx _; simp at hx
  | cons y ys ih =>
    intro i x j hl hx hj
    have hy := hl y (by simp)
    cases i with
    | zero =>
      simp at hx
      subst hx
      simp only [List.flatten_cons, Nat.zero_mul, Nat.zero_add]
      rw [List.getElem?_append_left (by omega)]
    | succ i =>
      simp only [List.flatten_cons]
      rw [List.getElem?_append_right (by rw [hy, Nat.succ_mul]; omega)]
      rw [show (i + 1) * sz + j - y.length = i * sz + j by rw [hy, Nat.succ_mul]; omega]
      exact ih i x j (fun z hz => hl z (by simp [hz])) (by simpa using hx) hj
theorem flat_len {sz : Nat} : ∀ (css : List (List Value)), (∀ y ∈ css, y.length = sz) → css.flatten.length = css.length * sz
  | [], _ => by simp
  | y :: ys, h => by rw [List.flatten_cons, List.length_append, flat_len ys (fun z hz => h z (by simp [hz])), h y (by simp), List.length_cons, Nat.succ_mul]; omega

/-- What reads as a list lies in a row of cells. -/
theorem Sl.pieces {α : Type} {T : Ty α} {k : PH} {b off c : Nat} {sp : Option _} {xs : List α} (h : Sl T k (some ⟨b, off, sp⟩) c xs) (hne : xs ≠ []) : sp = none ∧ ∃ css, Pieces T k css xs ∧ Cells k b off css.flatten := by
  have hpos : 0 < xs.length := List.length_pos_iff.2 hne
  have hsp : sp = none := h.spot (by have := h.cap; omega) _ rfl
  subst hsp
  refine ⟨rfl, ?_⟩
  obtain ⟨b0, off0, cs0, e0, _, c0, et, fr, hk, _⟩ := h.el 0 xs[0] (List.getElem?_eq_getElem hpos)
  cases e0
  have key : ∀ n, n ≤ xs.length → ∃ css, Pieces T k css (xs.take n) ∧ ∀ (i : Nat) (cs : List Value), css[i]? = some cs → ∀ (j : Nat) (v : Value), cs[j]? = some v → c0[off + i * T.sz + j]? = some v := by
    intro n
    induction n with
    | zero => intro _; exact ⟨[], by rw [List.take_zero]; exact Pieces.nil T k, by simp⟩
    | succ n ih =>
      intro hn
      obtain ⟨css, hp, hc⟩ := ih (by omega)
      obtain ⟨b1, off1, cs1, e1, hr, c1, et1, fr1, hk1, hc1⟩ := h.el n xs[n] (List.getElem?_eq_getElem (by omega))
      cases e1
      rw [hk] at hk1
      cases hk1
      have hl : css.length = n := by rw [hp.1, List.length_take]; omega
      refine ⟨css ++ [cs1], by rw [List.take_succ_eq_append_getElem (by omega)]; exact hp.append (.one hr), fun i cs hi j v hv => ?_⟩
      by_cases hin : i < css.length
      · rw [List.getElem?_append_left hin] at hi
        exact hc i cs hi j v hv
      · rw [List.getElem?_append_right (by omega)] at hi
        cases hq : i - css.length with
        | zero =>
          rw [hq] at hi
          simp at hi
          subst hi
          have : i = n := by omega
          subst this
          exact hc1 j v hv
        | succ q => rw [hq] at hi; simp at hi
  obtain ⟨css, hp, hc⟩ := key xs.length (Nat.le_refl _)
  rw [List.take_length] at hp
  refine ⟨css, hp, c0, et, fr, hk, fun q v hv => ?_⟩
  have hq : q < css.flatten.length := (List.getElem?_eq_some_iff.1 hv).1
  rw [flat_len css hp.len] at hq
  have hsz : 0 < T.sz := by
    rcases Nat.eq_zero_or_pos T.sz with h0 | h0
    · rw [h0] at hq; omega
    · exact h0
  have hd : q / T.sz < css.length := by rw [Nat.div_lt_iff_lt_mul hsz]; exact hq
  have hm := Nat.mod_lt q hsz
  have hdm : q / T.sz * T.sz + q % T.sz = q := by rw [Nat.mul_comm]; exact Nat.div_add_mod q T.sz
  have h2 : css[q / T.sz]? = some css[q / T.sz] := List.getElem?_eq_getElem hd
  have h3 := flat_at css _ _ _ hp.len h2 hm
  rw [hdm, hv] at h3
  have := hc _ _ h2 _ v h3.symm
  rw [Nat.add_assoc, hdm] at this
  exact this

section
variable {P : Program} {F : Fr} {n : Nat} {ops : Array Oper} {Q : Exit → Act → World → Prop} {rest : List Oper} {o : Oper} {e : Env} {k : PH}
/-- Nothing appended. -/
theorem d_app0 {t et : TypeId} {sz bs : Nat} {z : Value} {x y : Operand} {base a : Option Addr} {m cap c : Nat} [ht : TyU P t (.slice et)] [hi : TyI P et sz bs z] (hop : o.op = .call { callee := .builtin .append, args := #[x, y], argTypes := #[t, t] })
    (hx : opv e x = some (.slice base m cap)) (hy : opv e y = some (.slice a 0 c)) (hmc : m ≤ cap) : Det P e k o (.slice base m cap) := by
  intro ev w hev _
  rw [hop] at hev
  have e1 := hev x (by simp [Op.operands, Call.operands]) _ hx
  have e2 := hev y (by simp [Op.operands, Call.operands]) _ hy
  obtain ⟨i, hi1, hi2, _⟩ := hi.eq
  have hfc : (Builtin.firstCells i.size 0 (.slice a 0 c)).run P w = .ok #[] w := by
    cases a with
    | none => exact run_firstCells_none _ _ _ _ _
    | some ad => exact run_firstCells_some (P := P) w i.size 0 ad 0 c [] (by simp) (by simp)
  have hr : (Builtin.append_ #[t, t] o.type #[.slice base m cap, .slice a 0 c]).run P w = .ok (.slice base m cap) w := by
    cases base with
    | none => simp [Builtin.append_, run_underlying ht.eq, run_size hi1, Builtin.lenOf, hfc, hmc]
    | some ad => simp [Builtin.append_, run_underlying ht.eq, run_size hi1, Builtin.lenOf, hfc, hmc, storeCells]
  simp [execOp, hop, resolve, invoke, builtin, e1, e2, hr]
theorem Turn.refl (k : PH) (v : Value) : Turn k k v v := fun _ h h' => ⟨h, h'⟩
/-- append of what reads as a list, to a row of the call's own. -/
theorem raps {α : Type} {T : Ty α} {t et : TypeId} {bs : Nat} {z : Value} {d : Nat} {x y : Operand} {v : Value} {m c : Nat} {a : Option Addr} {olds : List Value} {xs : List α} (hd : o.dst = some d) (hf : Nat.blt d n = true) (hdet : det e = true) (hg : o.guard = none) [ht : TyU P t (.slice et)] [hi : TyI P et T.sz bs z]
    (hop : o.op = .call { callee := .builtin .append, args := #[x, y], argTypes := #[t, t] }) (hx : opv e x = some v) (hy : opv e y = some (.slice a xs.length c))
    (hrow : Row F.w0.heap.size k et T.sz v m olds) (hs : Sl T k a c xs) (h1 : ∀ k cs x, T.rep k cs x → ∀ u ∈ cs, u.oneCell' = true) (hz : Nat.beq z.cells.size T.sz = true) (hpos : Nat.blt 0 T.sz = true) (hm : m + xs.length ≤ maxLen) (hby : (m + xs.length) * bs ≤ 140737488355328)
    (h : ∀ v' k' css, Pieces T k css xs → Row F.w0.heap.size k' et T.sz v' (m + xs.length) (olds ++ css.flatten) → Turn k k' v v' → RG P F n ops Q rest ((d, .is v') :: e) k') : RG P F n ops Q (o :: rest) e k := by
  by_cases hne : xs = []
  · subst hne
    have hv : ∃ base cap, v = .slice base m cap ∧ m ≤ cap := by
      obtain ⟨_, h5⟩ := hrow
      rcases h5 with ⟨rfl, rfl⟩ | ⟨g, cap, cur, rfl, _, _, hmc, _⟩
      · exact ⟨none, 0, rfl, Nat.le_refl _⟩
      · exact ⟨_, cap, rfl, hmc⟩
    obtain ⟨base, cap, rfl, hmc⟩ := hv
    exact rs hd hf (loc_det (by simp [wantedE, hg]) (d_app0 hop hx hy hmc)) (h _ k [] (Pieces.nil T k) (by simpa using hrow) (Turn.refl _ _))
  · cases ha : a with
    | none =>
      have := hs.nil ha
      have := hs.cap
      exact absurd (List.length_eq_zero_iff.1 (by omega)) hne
    | some ad =>
      obtain ⟨b, off, sp⟩ := ad
      subst ha
      obtain ⟨hsp, css, hp, hc⟩ := hs.pieces hne
      subst hsp
      refine rap hd hf hdet hg hop hx hy hrow hc (by rw [flat_len css hp.len, hp.1]) (fun u hu => ?_) hz hpos hm hby fun v' k' hr ht => h v' k' css hp hr ht
      obtain ⟨cs, hcs, hu⟩ := List.mem_flatten.1 hu
      obtain ⟨q, hq⟩ := List.getElem?_of_mem hcs
      have hql : q < xs.length := by rw [← hp.1]; exact (List.getElem?_eq_some_iff.1 hq).1
      exact h1 k cs xs[q] (hp.2 q cs xs[q] hq (List.getElem?_eq_getElem hql)) u hu
end
/-- A row of known pieces reads as a list. -/
theorem Row.sls {α : Type} {T : Ty α} {N : Nat} {k : PH} {et : Nat} {v : Value} {css : List (List Value)} {xs : List α} (h : Row N k et T.sz v xs.length css.flatten) (hp : Pieces T k css xs) : ∃ a c, v = .slice a xs.length c ∧ Sl T k a c xs := by
  obtain ⟨h1, h2⟩ := h
  rcases h2 with ⟨rfl, h2⟩ | ⟨g, cap, cur, rfl, _, hg, hc, hm, hs, ht⟩
  · have : xs = [] := List.length_eq_zero_iff.1 h2
    subst this
    exact ⟨none, 0, rfl, by simp, by simp [maxLen], fun _ => rfl, by simp, by simp⟩
  · refine ⟨_, _, rfl, hc, hm, by simp, by simp, fun i x hx => ?_⟩
    have hlt : i < xs.length := (List.getElem?_eq_some_iff.1 hx).1
    have hcl : i < css.length := by rw [hp.1]; exact hlt
    have hci : css[i]? = some css[i] := List.getElem?_eq_getElem hcl
    have hrep := hp.2 i _ x hci hx
    refine ⟨g, 0, css[i], rfl, hrep, cur, et, (0, 0), hg, fun j u hu => ?_⟩
    have hj : j < T.sz := by rw [← T.len hrep]; exact (List.getElem?_eq_some_iff.1 hu).1
    have h3 := flat_at css i _ j hp.len hci hj
    rw [← ht, List.getElem?_take] at h3
    split at h3
    · rw [hu] at h3
      simpa using h3
    · rw [hu] at h3
      cases h3
theorem flat_set {sz : Nat} : ∀ (css : List (List Value)) (i : Nat) (cs : List Value) (j : Nat) (x : Value), (∀ y ∈ css, y.length = sz) → css[i]? = some cs → j < sz → (css.set i (cs.set j x)).flatten = css.flatten.set (i * sz + j) x := by
  intro css
  induction css with
  | nil => intro i cs j x _ hx _; simp at hx
  | cons y ys ih =>
    intro i cs j x hl hx hj
    have hy := hl y (by simp)
    cases i with
    | zero =>
      simp at hx
      subst hx
      simp only [List.set_cons_zero, List.flatten_cons, Nat.zero_mul, Nat.zero_add]
      rw [List.set_append_left _ _ (by omega)]
    | succ i =>
      simp only [List.set_cons_succ, List.flatten_cons]
      rw [ih i cs j x (fun z hz => hl z (by simp [hz])) (by simpa using hx) hj]
      rw [List.set_append_right _ _ (by rw [hy, Nat.succ_mul]; omega)]
      congr 2
      rw [hy, Nat.succ_mul]; omega
/-- A cell of a row of the call's own: where it lies, and the row behind a store into it. -/
theorem Row.cell {N : Nat} {k : PH} {et sz : Nat} {v : Value} {m i j : Nat} {css : List (List Value)} {cs : List Value} (h : Row N k et sz v m css.flatten) (hall : ∀ y ∈ css, y.length = sz) (hi : css[i]? = some cs) (hj : j < sz) :
    ∃ g cap cur, v = .slice (some ⟨g, 0, none⟩) m cap ∧ N ≤ g ∧ k g = some (.cells cur et (0, 0)) ∧ i * sz + j < cur.size ∧ Cells k g (0 + i * sz) cs ∧
      ∀ k' x, Turn1 k k' g → k' g = some (.cells (cur.setIfInBounds (i * sz + j) x) et (0, 0)) → Row N k' et sz v m (css.set i (cs.set j x)).flatten := by
  obtain ⟨h1, h2⟩ := h
  have hil : i < css.length := (List.getElem?_eq_some_iff.1 hi).1
  have hm : css.length = m := by
    rw [flat_len css hall] at h1
    exact Nat.eq_of_mul_eq_mul_right (by omega) h1
  have hcs : cs.length = sz := hall cs (List.mem_of_getElem? hi)
  rcases h2 with ⟨rfl, h2⟩ | ⟨g, cap, cur, rfl, hN, hg, hc, hmx, hs, ht⟩
  · omega
  · have hlt : i * sz + j < m * sz := by
      have : (i + 1) * sz ≤ m * sz := Nat.mul_le_mul_right _ (by omega)
      rw [Nat.succ_mul] at this
      omega
    have hle : m * sz ≤ cap * sz := Nat.mul_le_mul_right _ hc
    refine ⟨g, cap, cur, rfl, hN, hg, by omega, ⟨cur, et, (0, 0), hg, fun q u hu => ?_⟩, fun k' x ht1 hk' => ⟨?_, .inr ⟨g, cap, _, rfl, hN, hk', hc, hmx, by simpa using hs, ?_⟩⟩⟩
    · have hq : q < sz := by rw [← hcs]; exact (List.getElem?_eq_some_iff.1 hu).1
      have h3 := flat_at css i cs q hall hi hq
      rw [← ht, List.getElem?_take] at h3
      rw [Nat.zero_add]
      split at h3
      · rw [hu] at h3
        simpa using h3
      · rw [hu] at h3; cases h3
    · rw [flat_set css i cs j x hall hi hj, List.length_set]
      exact h1
    · rw [flat_set css i cs j x hall hi hj, ← ht]
      simp only [Array.toList_setIfInBounds]
      rw [List.take_set]
/-- A sum that may wrap. -/
theorem d_addw {P : Program} {o : Oper} {e : Env} {k : PH} {t t' : TypeId} {x y : Operand} {a b : Int} (hop : o.op = .binOp .add t x y t') (hx : opv e x = some (.int .i64 a)) (hy : opv e y = some (.int .i64 b)) : Det P e k o (.int .i64 (IntKind.i64.wrap (a + b))) := by
  intro ev w hev _
  rw [hop] at hev
  have e1 := hev x (by simp [Op.operands]) _ hx
  have e2 := hev y (by simp [Op.operands]) _ hy
  simp [execOp, hop, e1, e2, eqGuard, binOp, Op.intArith]
end Go.Wm
