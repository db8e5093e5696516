/-
  The batches of the example of layer 12. Conditions: none.
-/
import Derived.Test.YtjonlpdnhbnmmaaX2
import Derived.Test.YtjonlpdnhbnmmaaA10
import Derived.Test.YtjonlpdnhbnmmaaBits
import Derived.Test.YtjonlpdnhbnmmaaCoB
set_option linter.all false
namespace Go.Wm
open Go.RowKit Go.Proofs
attribute [local irreducible] RG CG EG WA Loc Det Alc CT Exit.then Exit.inBlock Code.wp bodyPost

def placeO (l : List OpenT) (pid : Int) : Nat := (l.takeWhile fun o => decide (o.pid < pid)).length
def thereO (l : List OpenT) (pid : Int) : Bool := decide ((l[placeO l pid]?).map (·.pid) = some pid)
theorem placeO_eq {pid : Int} : ∀ {l : List OpenT} {n : Nat}, n ≤ l.length → (∀ q, (h : q < l.length) → q < n → l[q].pid < pid) → (∀ h : n < l.length, ¬ l[n].pid < pid) → placeO l pid = n
  | [], n, hn, _, _ => by simp at hn; subst hn; rfl
  | x :: r, 0, _, _, h2 => by
    have := h2 (by simp)
    simp at this
    unfold placeO
    rw [List.takeWhile_cons_of_neg (by simpa using this)]
    rfl
  | x :: r, n + 1, hn, h1, h2 => by
    have h0 := h1 0 (by simp) (by omega)
    simp at h0
    unfold placeO
    rw [List.takeWhile_cons_of_pos (by simpa using h0), List.length_cons]
    have := placeO_eq (pid := pid) (l := r) (n := n) (by simpa using hn) (fun q hq hqn => by have := h1 (q + 1) (by simpa using hq) (by omega); simpa using this) (fun h => by have := h2 (by simpa using h); simpa using this)
    unfold placeO at this
    rw [this]
theorem cmpInt_lt (a b : Int) : decide (cmpInt a b < 0) = decide (a < b) := by
  rcases cmpInt_cases a b with ⟨h, h2⟩ | ⟨h, h2⟩ | ⟨h, h2⟩ <;> rw [h] <;> simp <;> omega
theorem cmpInt_eq0 (a b : Int) : (cmpInt a b == 0) = decide (a = b) := by
  rcases cmpInt_cases a b with ⟨h, h2⟩ | ⟨h, h2⟩ | ⟨h, h2⟩ <;> rw [h] <;> simp <;> omega
theorem u64_half {n : Nat} (h : n < 18446744073709551616) : IntKind.u64.wrap (n : Int) = (n : Int) := by
  rw [wrap_nat rfl, Nat.mod_eq_of_lt (by simpa [IntKind.bits] using h)]

set_option maxHeartbeats 1000000 in
theorem bsO_ct {k : PH} {a : Option Addr} {c : Nat} {l : List OpenT} (pid : Int) (hl : Sl tOpenT k a c l) (hb : l.length ≤ 1000000) (hs : ∀ i j, (hi : i < l.length) → (hj : j < l.length) → i < j → l[i].pid < l[j].pid) :
    CT Try.prog 75 #[.slice a l.length c, .int .i64 pid, .func (.func 76) #[] #[]] k (fun _ v => v = .tuple #[.int .i64 (placeO l pid : Int), .bool (thereO l pid)]) := by
  refine ct_of_body (l := [_, _, _]) Try.func75 rfl Try.ntmps75 (by simp) (fun _ _ _ _ h => h) fun F hF0 hFm => ?_
  have b1 := hl.cap; have b2 := hl.max; unfold maxLen at b2
  repeat (first | refine cg_seq ?_ | refine cg_region ?_ | refine rg_nil ?_ | refine eg_then ?_ | refine qsp ?_ | refine qsn ?_ | refine cg_block ?_)
  refine cg_loop (fun (m : Nat) e k' => ∃ i j : Nat, m = j - i ∧ Le k k' ∧ i ≤ j ∧ j ≤ l.length ∧ (∀ q, (h : q < l.length) → q < i → l[q].pid < pid) ∧ (∀ q, (h : q < l.length) → j ≤ q → ¬ l[q].pid < pid) ∧ e = [(0, .is (.slice a l.length c)), (1, .is (.int .i64 pid)), (2, .is (.func (.func 76) #[] #[])), (8, .is (.int .i64 (l.length : Int))), (9, .is (.int .i64 (i : Int))), (10, .is (.int .i64 (j : Int)))])
    (fun m => m) l.length ⟨0, l.length, rfl, Le.refl _, Nat.zero_le _, Nat.le_refl _, fun q _ hq => by omega, fun q _ hq => by omega, rfl⟩ ⟨rfl, rfl, rfl, rfl, rfl, rfl, trivial⟩ ?_
  rintro m e k1 ⟨i, j, rfl, hle, hij, hj, h1, h2, rfl⟩
  repeat (first | refine cg_seq ?_ | refine cg_region ?_ | refine rg_nil ?_ | refine eg_then ?_ | refine qsp ?_)
  refine cg_cond rfl (fun h => ?_) (fun h => ?_)
  · have hlt : i < j := by simpa using h
    repeat (first | refine cg_seq ?_ | refine cg_region ?_ | refine eg_then ?_ | refine qsp ?_ | refine qsa ?_ | refine cg_skip ?_ | refine cg_block ?_)
    have e1 : IntKind.u64.wrap ((i : Int) + (j : Int)) = ((i + j : Nat) : Int) := by
      rw [← Int.natCast_add]; exact u64_half (by omega)
    refine rs rfl rfl (loc_det rfl (d_conv rfl rfl)) ?_
    rw [e1]
    refine rs rfl rfl (loc_det rfl (d_shrN (b := 1) rfl rfl rfl (by decide))) ?_
    have e2 : IntKind.i64.wrap (((i + j) / 2 ^ 1 : Nat) : Int) = (((i + j) / 2 : Nat) : Int) := by
      rw [Nat.pow_one]
      simp [IntKind.wrap, IntKind.signed, IntKind.bits]; omega
    refine rs rfl rfl (loc_det rfl (d_conv rfl rfl)) ?_
    rw [e2]
    obtain ⟨q, hq⟩ : ∃ q, q = (i + j) / 2 := ⟨_, rfl⟩
    rw [← hq]
    have hqi : i ≤ q := by omega
    have hqj : q < j := by omega
    have hql : q < l.length := by omega
    obtain ⟨bx, ox, cx, rfl, ⟨rfl, hok⟩, hcx⟩ := (hl.le hle).el q l[q] (List.getElem?_eq_getElem hql)
    repeat (first | refine cg_seq ?_ | refine cg_region ?_ | refine rg_nil ?_ | refine eg_then ?_ | refine qsp ?_ | refine qsi ?_ | refine qsg ?_)
    refine rs rfl rfl (loc_call_is rfl rfl rfl rfl (txOrder_ct l[q] pid)) ?_
    repeat (first | refine rg_nil ?_ | refine eg_then ?_ | refine qsp ?_)
    rw [cmpInt_lt]
    cases y : decide (l[q].pid < pid)
    · repeat (first | refine cg_region ?_ | refine rg_nil ?_ | refine qsp ?_ | refine cg_cond_false rfl ?_ | refine eg_in_normal ?_)
      refine eg_again (q - i) _ ⟨i, q, rfl, hle, hqi, by omega, h1, fun r hr hqr => ?_, rfl⟩ (by omega) ⟨rfl, rfl, rfl, rfl, rfl, rfl, trivial⟩
      have hy : ¬ l[q].pid < pid := by simpa using y
      by_cases e : r = q
      · subst e; exact hy
      · have := hs q r hql hr (by omega); omega
    · repeat (first | refine cg_region ?_ | refine rg_nil ?_ | refine qsp ?_ | refine qsa ?_ | refine cg_cond_true rfl ?_ | refine eg_in_normal ?_)
      refine eg_again (j - (q + 1)) _ ⟨q + 1, j, rfl, hle, by omega, hj, fun r hr hqr => ?_, h2, rfl⟩ (by omega) ⟨rfl, rfl, rfl, rfl, rfl, rfl, trivial⟩
      have hy : l[q].pid < pid := by simpa using y
      by_cases e : r = q
      · subst e; exact hy
      · have := hs r q hr hql (by omega); omega
  · have hij' : i = j := by simp at h; omega
    subst hij'
    have hpl := placeO_eq hj h1 (fun h => h2 i h (Nat.le_refl _))
    repeat (first | refine cg_seq ?_ | refine cg_region ?_ | refine eg_then ?_ | refine qsp ?_ | refine cg_exit ?_ | refine eg_then_exit ?_ | refine eg_in_exit ?_)
    cases y : decide ((i : Int) < (l.length : Int))
    · repeat (first | refine rg_nil ?_ | refine eg_then ?_ | refine qsp ?_ | refine qso ?_ | refine cg_ret ?_)
      refine eg_return2 rfl rfl rfl ?_
      have hn : l[i]? = none := by simp at y; simp; omega
      rw [hpl, show thereO l pid = false by unfold thereO; rw [hpl, hn]; rfl]
    have hil : i < l.length := by simpa using y
    obtain ⟨bx, ox, cx, rfl, ⟨rfl, hok⟩, hcx⟩ := (hl.le hle).el i l[i] (List.getElem?_eq_getElem hil)
    repeat (first | refine qsp ?_ | refine qsi ?_ | refine qsg ?_)
    refine rs rfl rfl (loc_call_is rfl rfl rfl rfl (txOrder_ct l[i] pid)) ?_
    repeat (first | refine rg_nil ?_ | refine eg_then ?_ | refine qsp ?_ | refine cg_ret ?_)
    rw [cmpInt_eq0]
    refine eg_return2 rfl rfl rfl ?_
    rw [hpl, show thereO l pid = decide (l[i].pid = pid) by unfold thereO; rw [hpl, List.getElem?_eq_getElem hil]; simp]
end Go.Wm
namespace Go.Wm
open Go.RowKit Go.Proofs

section
variable {P : Program} {n : Nat} {ops : Array Oper} {o : Oper} {e : Env} {k : PH}
theorem run_bounds3 {ev : Operand → Value} {b : Bool} {j mx : Nat} {y z : Value} {kd kd' : IntKind} (len cap : Nat) (w : World) (hy : y = .int kd (j : Int)) (hz : z = .int kd' (mx : Int)) (h2 : j ≤ mx) (h3 : mx ≤ cap) :
    (Instr.sliceBounds b len cap none (some y) (some z)).run P w = .ok (0, j, mx) w := by
  have sb : ∀ (i y : Nat) (kd : IntKind) (cd : BoundsCode) (w : World), i ≤ y → (Instr.sliceBound (.int kd (i : Int)) y cd).run P w = .ok i w := by
    intro i y kd cd w hle
    have : (i : Int) ≤ (y : Int) := by omega
    simp [Instr.sliceBound, asIntOf, this]
  subst hy hz
  simp [Instr.sliceBounds, sb mx cap kd' _ _ h3, sb j mx kd _ _ h2]
/-- 'l[:j:mx]'. -/
theorem d_clip {t et : TypeId} {x y z' : Operand} {a : Option Addr} {m c j mx sz bs : Nat} {z : Value} {kd kd' : IntKind} [ht : TyU P t (.slice et)] [hi' : TyI P et sz bs z] (hop : o.op = .slice t x none (some y) (some z'))
    (hx : opv e x = some (.slice a m c)) (hy : opv e y = some (.int kd (j : Int))) (hz : opv e z' = some (.int kd' (mx : Int))) (h2 : j ≤ mx) (h3 : mx ≤ c) (hn : a = none → c = 0) :
    Det P e k o (.slice a j mx) := by
  intro ev w hev _
  rw [hop] at hev
  obtain ⟨inf, hi1, hi2, _⟩ := hi'.eq
  have g := run_bounds3 (P := P) (ev := ev) (b := true) (y := ev y) (z := ev z') m c w (hev y (by simp [Op.operands]) _ hy) (hev z' (by simp [Op.operands]) _ hz) h2 h3
  cases a with
  | none =>
    have e0 := hn rfl
    have e1 : mx = 0 := by omega
    have e2 : j = 0 := by omega
    rw [e0, e1, e2] at g
    simp [execOp, hop, hev x (by simp [Op.operands]) _ hx, Instr.sliceAt, Instr.slice, run_underlying ht.eq, g, run_size hi1, hi2, e1, e2, e0]
  | some ad =>
    simp [execOp, hop, hev x (by simp [Op.operands]) _ hx, Instr.sliceAt, Instr.slice, run_underlying ht.eq, g, run_size hi1, hi2]
    intro _
    cases ad; simp [Addr.add]
end
attribute [local irreducible] RG CG EG WA Loc Det Alc CT Exit.then Exit.inBlock Code.wp bodyPost
set_option maxHeartbeats 400000 in
theorem clipGone_ct {k : PH} {a : Option Addr} {c : Nat} {l : List Gone} (hl : Sl tGone k a c l) :
    CT Try.prog 80 #[.slice a l.length c] k (fun _ v => v = .slice a l.length l.length) := by
  refine ct_of_body (l := [_]) Try.func80 rfl Try.ntmps80 (by simp) (fun _ _ _ _ h => h) fun F hF0 hFm => ?_
  have b1 := hl.cap; have b2 := hl.max; unfold maxLen at b2
  repeat (first | refine cg_seq ?_ | refine cg_region ?_ | refine rg_nil ?_ | refine eg_then ?_ | refine qsp ?_ | refine qsn ?_)
  refine rs rfl rfl (loc_det rfl (d_clip rfl rfl rfl rfl (Nat.le_refl _) b1 hl.nil)) ?_
  repeat (first | refine rg_nil ?_ | refine eg_then ?_ | refine qsp ?_ | refine cg_ret ?_)
  exact eg_return rfl rfl rfl
end Go.Wm
namespace Go.Wm
open Go.RowKit Go.Proofs
attribute [local irreducible] RG CG EG WA Loc Det Alc CT Exit.then Exit.inBlock Code.wp bodyPost
set_option maxHeartbeats 1000000 in
theorem place_ct {k : PH} {a : Option Addr} {c : Nat} {l : List OpenT} (pid : Int) (hl : Sl tOpenT k a c l) : CT Try.prog 116 #[.slice a l.length c, .int .i64 pid] k (fun _ v => v = .int .i64 (placeO l pid : Int)) := by
  refine ct_of_body (l := [_, _]) Try.func116 rfl Try.ntmps116 (by simp) (fun _ _ _ _ h => h) fun F hF0 hFm => ?_
  have b1 := hl.cap; have b2 := hl.max; unfold maxLen at b2
  repeat (first | refine cg_seq ?_ | refine cg_region ?_ | refine rg_nil ?_ | refine eg_then ?_ | refine qsp ?_ | refine cg_block ?_)
  refine cg_loop (fun (i : Nat) e k' => Le k k' ∧ i ≤ l.length ∧ (∀ q, (h : q < l.length) → q < i → l[q].pid < pid) ∧ e = [(0, .is (.slice a l.length c)), (1, .is (.int .i64 pid)), (5, .is (.int .i64 (i : Int)))])
    (fun i => l.length - i) 0 ⟨Le.refl _, Nat.zero_le _, fun q _ hq => by omega, rfl⟩ ⟨rfl, rfl, rfl, trivial⟩ ?_
  rintro i e k1 ⟨hle, hi, hno, rfl⟩
  repeat (first | refine cg_seq ?_ | refine cg_region ?_ | refine qsp ?_ | refine qsn ?_)
  cases q0 : decide ((i : Int) < (l.length : Int))
  · repeat (first | refine cg_seq ?_ | refine cg_region ?_ | refine rg_nil ?_ | refine eg_then ?_ | refine qsp ?_ | refine qso ?_ | refine cg_cond_false rfl ?_ | refine cg_ret ?_ | refine cg_exit ?_ | refine eg_then_exit ?_ | refine eg_in_exit ?_)
    refine eg_return rfl rfl ?_
    rw [placeO_eq hi hno (fun h => by simp at q0; omega)]
  have hlt : i < l.length := by simpa using q0
  obtain ⟨bx, ox, cx, rfl, ⟨rfl, hok⟩, hcx⟩ := (hl.le hle).el i l[i] (List.getElem?_eq_getElem hlt)
  obtain ⟨p0, p1⟩ := OpenT.parts hcx
  repeat (first | refine rg_nil ?_ | refine eg_then ?_ | refine qsp ?_ | refine qsi ?_ | refine qsl ?_ | refine qsf ?_)
  refine cg_cond rfl (fun h => ?_) (fun h => ?_)
  · repeat (first | refine cg_region ?_ | refine rg_nil ?_ | refine eg_then ?_ | refine qsp ?_ | refine qsa ?_ | refine cg_skip ?_ | refine cg_block ?_ | refine eg_in_normal ?_)
    refine eg_again (i + 1) _ ⟨hle, hlt, fun q hq hqi => ?_, rfl⟩ (by omega) ⟨rfl, rfl, rfl, trivial⟩
    by_cases e : q = i
    · subst e; simpa using h
    · exact hno q hq (by omega)
  · repeat (first | refine cg_seq ?_ | refine cg_region ?_ | refine rg_nil ?_ | refine eg_then ?_ | refine qsp ?_ | refine cg_ret ?_ | refine cg_exit ?_ | refine eg_then_exit ?_ | refine eg_in_exit ?_)
    refine eg_return rfl rfl ?_
    rw [placeO_eq hi hno (fun _ => by simpa using h)]
end Go.Wm
namespace Go.Wm
open Go.RowKit Go.Proofs
attribute [local irreducible] RG CG EG WA Loc Det Alc CT Exit.then Exit.inBlock Code.wp bodyPost
/-- The greatest of some and one more. -/
def topL (n : Int) (l : List Int) : Int := l.foldl (fun a b => if a < b then b else a) n
theorem topL_succ {α : Type} {l : List α} {i : Nat} (f : α → Int) (n : Int) (h : i < l.length) : topL n ((l.take (i + 1)).map f) = if topL n ((l.take i).map f) < f l[i] then f l[i] else topL n ((l.take i).map f) := by
  unfold topL
  rw [List.take_succ_eq_append_getElem h, List.map_append, List.foldl_append]
  rfl
def topT (t : Tx) : Int := topL (topL (topL (-1) (t.openV.map (·.first))) (t.gone.map (·.last))) (t.done.map (·.last))
set_option maxHeartbeats 1000000 in
theorem top_ct {k : PH} {t : Tx} {a0 a1 a2 : Option Addr} {c0 c1 c2 : Nat} (ho : Sl tOpenT k a0 c0 t.openV) (hg : Sl tGone k a1 c1 t.gone) (hd : Sl tGone k a2 c2 t.done) :
    CT Try.prog 82 #[.agg (t.cs a0 c0 a1 c1 a2 c2).toArray] k (fun _ v => v = .int .i64 (topT t)) := by
  refine ct_of_body (l := [_]) Try.func82 rfl Try.ntmps82 (by simp) (fun _ _ _ _ h => h) fun F hF0 hFm => ?_
  have b1 := ho.cap; have b2 := ho.max; unfold maxLen at b2
  have b3 := hg.cap; have b4 := hg.max; unfold maxLen at b4
  have b5 := hd.cap; have b6 := hd.max; unfold maxLen at b6
  repeat (first | refine cg_seq ?_ | refine cg_region ?_)
  refine rb rfl rfl rfl rfl (a_box rfl rfl) ?_; intro bt kt hbt hNt hlet hkt
  have ct := cells_at (vs := t.cs a0 c0 a1 c1 a2 c2) hkt rfl
  have ho := ho.le hlet
  have hg := hg.le hlet
  have hd := hd.le hlet
  repeat (first | refine cg_seq ?_ | refine cg_region ?_ | refine rg_nil ?_ | refine eg_then ?_ | refine qsp ?_ | refine cg_block ?_)
  refine cg_loop (fun (i : Nat) e k' => Le kt k' ∧ i ≤ t.openV.length ∧ ∃ m : Int, m = topL (-1) ((t.openV.take i).map (·.first)) ∧ e = [(1, .is (.pointer (some ⟨bt, 0, none⟩))), (3, .is (.int .i64 m)), (4, .is (.int .i64 (i : Int)))])
    (fun i => t.openV.length - i) 0 (e0 := [(1, .is (.pointer (some ⟨bt, 0, none⟩))), (3, .is (.int .i64 (-1))), (4, .is (.int .i64 ((0 : Nat) : Int)))]) ⟨Le.refl _, Nat.zero_le _, _, rfl, rfl⟩ ⟨rfl, rfl, rfl, trivial⟩ ?_
  rintro i e k1 ⟨hle, hi, m, hm, rfl⟩
  obtain ⟨t0, t1, t2⟩ := Tx.parts (ct.le hle)
  repeat (first | refine cg_seq ?_ | refine cg_region ?_ | refine rg_nil ?_ | refine eg_then ?_ | refine qsp ?_ | refine qsn ?_ | refine qsl ?_ | refine qsf ?_)
  refine cg_cond rfl (fun h => ?_) (fun h => ?_)
  · have hlt : i < t.openV.length := by simpa using h
    obtain ⟨bx, ox, cx, rfl, ⟨rfl, hok⟩, hcx⟩ := (ho.le hle).el i t.openV[i] (List.getElem?_eq_getElem hlt)
    obtain ⟨p0, p1⟩ := OpenT.parts hcx
    repeat (first | refine cg_seq ?_ | refine cg_region ?_ | refine eg_then ?_ | refine qsp ?_ | refine qsi ?_ | refine qsl ?_ | refine qsf ?_ | refine cg_skip ?_ | refine cg_block ?_)
    refine rs rfl rfl (loc_det rfl (d_max rfl rfl rfl)) ?_
    repeat (first | refine cg_region ?_ | refine rg_nil ?_ | refine eg_then ?_ | refine qsp ?_ | refine qsa ?_ | refine eg_in_normal ?_)
    exact eg_again (i + 1) _ ⟨hle, hlt, _, by rw [topL_succ (·.first) _ hlt, hm], rfl⟩ (by omega) ⟨rfl, rfl, rfl, trivial⟩
  have hin : i = t.openV.length := by simp at h; omega
  subst hin
  rw [List.take_length] at hm
  clear t0 t1 t2
  have ct := ct.le hle
  have hg := hg.le hle
  have hd := hd.le hle
  obtain ⟨m1, e1⟩ : ∃ x, x = m := ⟨_, rfl⟩
  rw [← e1] at hm ⊢
  clear e1 m hle
  repeat (first | refine cg_seq ?_ | refine cg_region ?_ | refine rg_nil ?_ | refine eg_then ?_ | refine qsp ?_ | refine cg_block ?_ | refine cg_exit ?_ | refine eg_then_exit ?_ | refine eg_in_exit ?_)
  refine cg_loop (fun (i : Nat) e k' => Le k1 k' ∧ i ≤ t.gone.length ∧ ∃ m : Int, m = topL (m1) ((t.gone.take i).map (·.last)) ∧ e = [(1, .is (.pointer (some ⟨bt, 0, none⟩))), (3, .is (.int .i64 m)), (5, .is (.int .i64 (i : Int)))])
    (fun i => t.gone.length - i) 0 (e0 := [(1, .is (.pointer (some ⟨bt, 0, none⟩))), (3, .is (.int .i64 (m1))), (5, .is (.int .i64 ((0 : Nat) : Int)))]) ⟨Le.refl _, Nat.zero_le _, _, rfl, rfl⟩ ⟨rfl, rfl, rfl, trivial⟩ ?_
  rintro i e k2 ⟨hle, hi, m, hm2, rfl⟩
  obtain ⟨t0, t1, t2⟩ := Tx.parts (ct.le hle)
  repeat (first | refine cg_seq ?_ | refine cg_region ?_ | refine rg_nil ?_ | refine eg_then ?_ | refine qsp ?_ | refine qsn ?_ | refine qsl ?_ | refine qsf ?_)
  refine cg_cond rfl (fun h => ?_) (fun h => ?_)
  · have hlt : i < t.gone.length := by simpa using h
    obtain ⟨bx, ox, cx, rfl, ⟨rfl, hok⟩, hcx⟩ := (hg.le hle).el i t.gone[i] (List.getElem?_eq_getElem hlt)
    obtain ⟨p0, p1, p2, p3⟩ := Gone.parts hcx
    repeat (first | refine cg_seq ?_ | refine cg_region ?_ | refine eg_then ?_ | refine qsp ?_ | refine qsi ?_ | refine qsl ?_ | refine qsf ?_ | refine cg_skip ?_ | refine cg_block ?_)
    refine rs rfl rfl (loc_det rfl (d_max rfl rfl rfl)) ?_
    repeat (first | refine cg_region ?_ | refine rg_nil ?_ | refine eg_then ?_ | refine qsp ?_ | refine qsa ?_ | refine eg_in_normal ?_)
    exact eg_again (i + 1) _ ⟨hle, hlt, _, by rw [topL_succ (·.last) _ hlt, hm2], rfl⟩ (by omega) ⟨rfl, rfl, rfl, trivial⟩
  have hin : i = t.gone.length := by simp at h; omega
  subst hin
  rw [List.take_length] at hm2
  clear t0 t1 t2
  have ct := ct.le hle
  have hd := hd.le hle
  obtain ⟨m2, e1⟩ : ∃ x, x = m := ⟨_, rfl⟩
  rw [← e1] at hm2 ⊢
  clear e1 m hle
  repeat (first | refine cg_seq ?_ | refine cg_region ?_ | refine rg_nil ?_ | refine eg_then ?_ | refine qsp ?_ | refine cg_block ?_ | refine cg_exit ?_ | refine eg_then_exit ?_ | refine eg_in_exit ?_)
  refine cg_loop (fun (i : Nat) e k' => Le k2 k' ∧ i ≤ t.done.length ∧ ∃ m : Int, m = topL (m2) ((t.done.take i).map (·.last)) ∧ e = [(1, .is (.pointer (some ⟨bt, 0, none⟩))), (3, .is (.int .i64 m)), (6, .is (.int .i64 (i : Int)))])
    (fun i => t.done.length - i) 0 (e0 := [(1, .is (.pointer (some ⟨bt, 0, none⟩))), (3, .is (.int .i64 (m2))), (6, .is (.int .i64 ((0 : Nat) : Int)))]) ⟨Le.refl _, Nat.zero_le _, _, rfl, rfl⟩ ⟨rfl, rfl, rfl, trivial⟩ ?_
  rintro i e k3 ⟨hle, hi, m, hm3, rfl⟩
  obtain ⟨t0, t1, t2⟩ := Tx.parts (ct.le hle)
  repeat (first | refine cg_seq ?_ | refine cg_region ?_ | refine rg_nil ?_ | refine eg_then ?_ | refine qsp ?_ | refine qsn ?_ | refine qsl ?_ | refine qsf ?_)
  refine cg_cond rfl (fun h => ?_) (fun h => ?_)
  · have hlt : i < t.done.length := by simpa using h
    obtain ⟨bx, ox, cx, rfl, ⟨rfl, hok⟩, hcx⟩ := (hd.le hle).el i t.done[i] (List.getElem?_eq_getElem hlt)
    obtain ⟨p0, p1, p2, p3⟩ := Gone.parts hcx
    repeat (first | refine cg_seq ?_ | refine cg_region ?_ | refine eg_then ?_ | refine qsp ?_ | refine qsi ?_ | refine qsl ?_ | refine qsf ?_ | refine cg_skip ?_ | refine cg_block ?_)
    refine rs rfl rfl (loc_det rfl (d_max rfl rfl rfl)) ?_
    repeat (first | refine cg_region ?_ | refine rg_nil ?_ | refine eg_then ?_ | refine qsp ?_ | refine qsa ?_ | refine eg_in_normal ?_)
    exact eg_again (i + 1) _ ⟨hle, hlt, _, by rw [topL_succ (·.last) _ hlt, hm3], rfl⟩ (by omega) ⟨rfl, rfl, rfl, trivial⟩
  have hin : i = t.done.length := by simp at h; omega
  subst hin
  rw [List.take_length] at hm3
  clear t0 t1 t2
  repeat (first | refine cg_seq ?_ | refine cg_region ?_ | refine rg_nil ?_ | refine eg_then ?_ | refine qsp ?_ | refine cg_ret ?_ | refine cg_exit ?_ | refine eg_then_exit ?_ | refine eg_in_exit ?_)
  refine eg_return rfl rfl ?_
  rw [hm3, hm2, hm]; rfl
end Go.Wm
namespace Go.Wm
open Go.RowKit Go.Proofs
attribute [local irreducible] RG CG EG WA Loc Det Alc CT Exit.then Exit.inBlock Code.wp bodyPost
def endB (base pid ctl : Int) : Batch := ⟨base, base, base, 0, pid, 0, 0, true, ctl, []⟩
set_option maxHeartbeats 400000 in
theorem end12_ct {k : PH} (base pid ctl : Int) : CT Try.prog 51 #[.int .i64 base, .int .i64 pid, .int .i64 ctl] k (fun _ v => v = .agg ((endB base pid ctl).cs none 0).toArray) := by
  refine ct_of_body (l := [_, _, _]) Try.func51 rfl Try.ntmps51 (by simp) (fun _ _ _ _ h => h) fun F hF0 hFm => ?_
  repeat (first | refine cg_seq ?_ | refine cg_region ?_)
  refine rb rfl rfl rfl rfl (a_alloc rfl) ?_; intro b1 k1 hb1 hN1 hle1 hk1
  repeat (first | refine cg_seq ?_ | refine cg_region ?_ | refine rg_nil ?_ | refine eg_then ?_ | refine qsp ?_)
  refine rs rfl rfl (loc_det rfl (d_lit (cells := (endB base pid ctl).cs none 0) rfl rfl rfl)) ?_
  refine rw1 (vs := (endB base pid ctl).cs none 0) rfl rfl rfl rfl rfl rfl rfl hk1 rfl (.inl hN1) ?_ ?_
  · simp [Batch.cs, Value.oneCell']
  intro k2 ht2 hk2
  have c2 := cells_at (vs := (endB base pid ctl).cs none 0) hk2 rfl
  repeat (first | refine rg_nil ?_ | refine eg_then ?_ | refine cg_ret ?_)
  exact eg_returnC rfl rfl rfl c2 rfl rfl
end Go.Wm
