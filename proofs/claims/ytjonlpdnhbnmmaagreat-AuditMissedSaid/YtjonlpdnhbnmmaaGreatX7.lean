/-
  The batches of the example of layer 12. Conditions: none.
-/
import Derived.Test.YtjonlpdnhbnmmaaGreatT1
import Derived.Test.YtjonlpdnhbnmmaaGreatBits
import Derived.Test.YtjonlpdnhbnmmaaGreatCoB
set_option linter.all false
namespace Go.Wm
open Go.RowKit Go.Proofs
attribute [local irreducible] RG CG EG WA Loc Det Alc CT Exit.then Exit.inBlock Code.wp bodyPost

/-- Is an ended one of no matter between two offsets? -/
def farG (start to : Int) (g : Gone) : Bool := decide (g.last < start) || decide (g.first ≥ to)
def hiddenL (t : Tx) (start to : Int) : List Gone := t.gone.filter fun g => !farG start to g
/-! ### few and the same -/
def fewT (t : Tx) : Bool := decide (t.openV.length ≤ 60) && (decide (t.gone.length ≤ 60) && decide (t.done.length ≤ 60))
end Go.Wm
namespace Go.Wm
open Go.RowKit Go.Proofs
attribute [local irreducible] RG CG EG WA Loc Det Alc CT Exit.then Exit.inBlock Code.wp bodyPost

def placeO (l : List OpenT) (pid : Int) : Nat := (l.takeWhile fun o => decide (o.pid < pid)).length
def thereO (l : List OpenT) (pid : Int) : Bool := decide ((l[placeO l pid]?).map (·.pid) = some pid)
theorem placeO_eq {pid : Int} : ∀ {l : List OpenT} {n : Nat}, n ≤ l.length → (∀ q, (h : q < l.length) → q < n → l[q].pid < pid) → (∀ h : n < l.length, ¬ l[n].pid < pid) → placeO l pid = n
  | [], n, hn, _, _ => by simp at hn; subst hn; rfl
  | x :: r, 0, _, _, h2 => by
    have := h2 (by simp)
    simp at this
    unfold placeO
    rw [List.takeWhile_cons_of_neg (by simpa using this)]
    rfl
  | x :: r, n + 1, hn, h1, h2 => by
    have h0 := h1 0 (by simp) (by omega)
    simp at h0
    unfold placeO
    rw [List.takeWhile_cons_of_pos (by simpa using h0), List.length_cons]
    have := placeO_eq (pid := pid) (l := r) (n := n) (by simpa using hn) (fun q hq hqn => by have := h1 (q + 1) (by simpa using hq) (by omega); simpa using this) (fun h => by have := h2 (by simpa using h); simpa using this)
    unfold placeO at this
    rw [this]
theorem cmpInt_lt (a b : Int) : decide (cmpInt a b < 0) = decide (a < b) := by
  rcases cmpInt_cases a b with ⟨h, h2⟩ | ⟨h, h2⟩ | ⟨h, h2⟩ <;> rw [h] <;> simp <;> omega
theorem cmpInt_eq0 (a b : Int) : (cmpInt a b == 0) = decide (a = b) := by
  rcases cmpInt_cases a b with ⟨h, h2⟩ | ⟨h, h2⟩ | ⟨h, h2⟩ <;> rw [h] <;> simp <;> omega
theorem u64_half {n : Nat} (h : n < 18446744073709551616) : IntKind.u64.wrap (n : Int) = (n : Int) := by
  rw [wrap_nat rfl, Nat.mod_eq_of_lt (by simpa [IntKind.bits] using h)]

set_option maxHeartbeats 1000000 in
theorem bsO_ct {k : PH} {a : Option Addr} {c : Nat} {l : List OpenT} (pid : Int) (hl : Sl tOpenT k a c l) (hb : l.length ≤ 1000000) (hs : ∀ i j, (hi : i < l.length) → (hj : j < l.length) → i < j → l[i].pid < l[j].pid) :
    CT Tryz.prog 63 #[.slice a l.length c, .int .i64 pid, .func (.func 64) #[] #[]] k (fun _ v => v = .tuple #[.int .i64 (placeO l pid : Int), .bool (thereO l pid)]) := by
  refine ct_of_body (l := [_, _, _]) Tryz.func63 rfl Tryz.ntmps63 (by simp) (fun _ _ _ _ h => h) fun F hF0 hFm => ?_
  have b1 := hl.cap; have b2 := hl.max; unfold maxLen at b2
  repeat (first | refine cg_seq ?_ | refine cg_region ?_ | refine rg_nil ?_ | refine eg_then ?_ | refine qsp ?_ | refine qsn ?_ | refine cg_block ?_)
  refine cg_loop (fun (m : Nat) e k' => ∃ i j : Nat, m = j - i ∧ Le k k' ∧ i ≤ j ∧ j ≤ l.length ∧ (∀ q, (h : q < l.length) → q < i → l[q].pid < pid) ∧ (∀ q, (h : q < l.length) → j ≤ q → ¬ l[q].pid < pid) ∧ e = [(0, .is (.slice a l.length c)), (1, .is (.int .i64 pid)), (2, .is (.func (.func 64) #[] #[])), (8, .is (.int .i64 (l.length : Int))), (9, .is (.int .i64 (i : Int))), (10, .is (.int .i64 (j : Int)))])
    (fun m => m) l.length ⟨0, l.length, rfl, Le.refl _, Nat.zero_le _, Nat.le_refl _, fun q _ hq => by omega, fun q _ hq => by omega, rfl⟩ ⟨rfl, rfl, rfl, rfl, rfl, rfl, trivial⟩ ?_
  rintro m e k1 ⟨i, j, rfl, hle, hij, hj, h1, h2, rfl⟩
  repeat (first | refine cg_seq ?_ | refine cg_region ?_ | refine rg_nil ?_ | refine eg_then ?_ | refine qsp ?_)
  refine cg_cond rfl (fun h => ?_) (fun h => ?_)
  · have hlt : i < j := by simpa using h
    repeat (first | refine cg_seq ?_ | refine cg_region ?_ | refine eg_then ?_ | refine qsp ?_ | refine qsa ?_ | refine cg_skip ?_ | refine cg_block ?_)
    have e1 : IntKind.u64.wrap ((i : Int) + (j : Int)) = ((i + j : Nat) : Int) := by
      rw [← Int.natCast_add]; exact u64_half (by omega)
    refine rs rfl rfl (loc_det rfl (d_conv rfl rfl)) ?_
    rw [e1]
    refine rs rfl rfl (loc_det rfl (d_shrN (b := 1) rfl rfl rfl (by decide))) ?_
    have e2 : IntKind.i64.wrap (((i + j) / 2 ^ 1 : Nat) : Int) = (((i + j) / 2 : Nat) : Int) := by
      rw [Nat.pow_one]
      simp [IntKind.wrap, IntKind.signed, IntKind.bits]; omega
    refine rs rfl rfl (loc_det rfl (d_conv rfl rfl)) ?_
    rw [e2]
    obtain ⟨q, hq⟩ : ∃ q, q = (i + j) / 2 := ⟨_, rfl⟩
    rw [← hq]
    have hqi : i ≤ q := by omega
    have hqj : q < j := by omega
    have hql : q < l.length := by omega
    obtain ⟨bx, ox, cx, rfl, ⟨rfl, hok⟩, hcx⟩ := (hl.le hle).el q l[q] (List.getElem?_eq_getElem hql)
    repeat (first | refine cg_seq ?_ | refine cg_region ?_ | refine rg_nil ?_ | refine eg_then ?_ | refine qsp ?_ | refine qsi ?_ | refine qsg ?_)
    refine rs rfl rfl (loc_call_is rfl rfl rfl rfl (txOrder_ct l[q] pid)) ?_
    repeat (first | refine rg_nil ?_ | refine eg_then ?_ | refine qsp ?_)
    rw [cmpInt_lt]
    cases y : decide (l[q].pid < pid)
    · repeat (first | refine cg_region ?_ | refine rg_nil ?_ | refine qsp ?_ | refine cg_cond_false rfl ?_ | refine eg_in_normal ?_)
      refine eg_again (q - i) _ ⟨i, q, rfl, hle, hqi, by omega, h1, fun r hr hqr => ?_, rfl⟩ (by omega) ⟨rfl, rfl, rfl, rfl, rfl, rfl, trivial⟩
      have hy : ¬ l[q].pid < pid := by simpa using y
      by_cases e : r = q
      · subst e; exact hy
      · have := hs q r hql hr (by omega); omega
    · repeat (first | refine cg_region ?_ | refine rg_nil ?_ | refine qsp ?_ | refine qsa ?_ | refine cg_cond_true rfl ?_ | refine eg_in_normal ?_)
      refine eg_again (j - (q + 1)) _ ⟨q + 1, j, rfl, hle, by omega, hj, fun r hr hqr => ?_, h2, rfl⟩ (by omega) ⟨rfl, rfl, rfl, rfl, rfl, rfl, trivial⟩
      have hy : l[q].pid < pid := by simpa using y
      by_cases e : r = q
      · subst e; exact hy
      · have := hs r q hr hql (by omega); omega
  · have hij' : i = j := by simp at h; omega
    subst hij'
    have hpl := placeO_eq hj h1 (fun h => h2 i h (Nat.le_refl _))
    repeat (first | refine cg_seq ?_ | refine cg_region ?_ | refine eg_then ?_ | refine qsp ?_ | refine cg_exit ?_ | refine eg_then_exit ?_ | refine eg_in_exit ?_)
    cases y : decide ((i : Int) < (l.length : Int))
    · repeat (first | refine rg_nil ?_ | refine eg_then ?_ | refine qsp ?_ | refine qso ?_ | refine cg_ret ?_)
      refine eg_return2 rfl rfl rfl ?_
      have hn : l[i]? = none := by simp at y; simp; omega
      rw [hpl, show thereO l pid = false by unfold thereO; rw [hpl, hn]; rfl]
    have hil : i < l.length := by simpa using y
    obtain ⟨bx, ox, cx, rfl, ⟨rfl, hok⟩, hcx⟩ := (hl.le hle).el i l[i] (List.getElem?_eq_getElem hil)
    repeat (first | refine qsp ?_ | refine qsi ?_ | refine qsg ?_)
    refine rs rfl rfl (loc_call_is rfl rfl rfl rfl (txOrder_ct l[i] pid)) ?_
    repeat (first | refine rg_nil ?_ | refine eg_then ?_ | refine qsp ?_ | refine cg_ret ?_)
    rw [cmpInt_eq0]
    refine eg_return2 rfl rfl rfl ?_
    rw [hpl, show thereO l pid = decide (l[i].pid = pid) by unfold thereO; rw [hpl, List.getElem?_eq_getElem hil]; simp]
end Go.Wm
namespace Go.Wm
open Go.RowKit Go.Proofs

section
variable {P : Program} {n : Nat} {ops : Array Oper} {o : Oper} {e : Env} {k : PH}
theorem run_bounds3 {ev : Operand → Value} {b : Bool} {j mx : Nat} {y z : Value} {kd kd' : IntKind} (len cap : Nat) (w : World) (hy : y = .int kd (j : Int)) (hz : z = .int kd' (mx : Int)) (h2 : j ≤ mx) (h3 : mx ≤ cap) :
    (Instr.sliceBounds b len cap none (some y) (some z)).run P w = .ok (0, j, mx) w := by
  have sb : ∀ (i y : Nat) (kd : IntKind) (cd : BoundsCode) (w : World), i ≤ y → (Instr.sliceBound (.int kd (i : Int)) y cd).run P w = .ok i w := by
    intro i y kd cd w hle
    have : (i : Int) ≤ (y : Int) := by omega
    simp [Instr.sliceBound, asIntOf, this]
  subst hy hz
  simp [Instr.sliceBounds, sb mx cap kd' _ _ h3, sb j mx kd _ _ h2]
/-- 'l[:j:mx]'. -/
theorem d_clip {t et : TypeId} {x y z' : Operand} {a : Option Addr} {m c j mx sz bs : Nat} {z : Value} {kd kd' : IntKind} [ht : TyU P t (.slice et)] [hi' : TyI P et sz bs z] (hop : o.op = .slice t x none (some y) (some z'))
    (hx : opv e x = some (.slice a m c)) (hy : opv e y = some (.int kd (j : Int))) (hz : opv e z' = some (.int kd' (mx : Int))) (h2 : j ≤ mx) (h3 : mx ≤ c) (hn : a = none → c = 0) :
    Det P e k o (.slice a j mx) := by
  intro ev w hev _
  rw [hop] at hev
  obtain ⟨inf, hi1, hi2, _⟩ := hi'.eq
  have g := run_bounds3 (P := P) (ev := ev) (b := true) (y := ev y) (z := ev z') m c w (hev y (by simp [Op.operands]) _ hy) (hev z' (by simp [Op.operands]) _ hz) h2 h3
  cases a with
  | none =>
    have e0 := hn rfl
    have e1 : mx = 0 := by omega
    have e2 : j = 0 := by omega
    rw [e0, e1, e2] at g
    simp [execOp, hop, hev x (by simp [Op.operands]) _ hx, Instr.sliceAt, Instr.slice, run_underlying ht.eq, g, run_size hi1, hi2, e1, e2, e0]
  | some ad =>
    simp [execOp, hop, hev x (by simp [Op.operands]) _ hx, Instr.sliceAt, Instr.slice, run_underlying ht.eq, g, run_size hi1, hi2]
    intro _
    cases ad; simp [Addr.add]
end
attribute [local irreducible] RG CG EG WA Loc Det Alc CT Exit.then Exit.inBlock Code.wp bodyPost
set_option maxHeartbeats 400000 in
theorem clipGone_ct {k : PH} {a : Option Addr} {c : Nat} {l : List Gone} (hl : Sl tGone k a c l) :
    CT Tryz.prog 68 #[.slice a l.length c] k (fun _ v => v = .slice a l.length l.length) := by
  refine ct_of_body (l := [_]) Tryz.func68 rfl Tryz.ntmps68 (by simp) (fun _ _ _ _ h => h) fun F hF0 hFm => ?_
  have b1 := hl.cap; have b2 := hl.max; unfold maxLen at b2
  repeat (first | refine cg_seq ?_ | refine cg_region ?_ | refine rg_nil ?_ | refine eg_then ?_ | refine qsp ?_ | refine qsn ?_)
  refine rs rfl rfl (loc_det rfl (d_clip rfl rfl rfl rfl (Nat.le_refl _) b1 hl.nil)) ?_
  repeat (first | refine rg_nil ?_ | refine eg_then ?_ | refine qsp ?_ | refine cg_ret ?_)
  exact eg_return rfl rfl rfl
end Go.Wm
namespace Go.Wm
open Go.RowKit Go.Proofs
attribute [local irreducible] RG CG EG WA Loc Det Alc CT Exit.then Exit.inBlock Code.wp bodyPost
/-- The greatest of some and one more. -/
def topL (n : Int) (l : List Int) : Int := l.foldl (fun a b => if a < b then b else a) n
def topT (t : Tx) : Int := topL (topL (topL (-1) (t.openV.map (·.first))) (t.gone.map (·.last))) (t.done.map (·.last))
end Go.Wm
namespace Go.Wm
open Go.RowKit Go.Proofs
attribute [local irreducible] RG CG EG WA Loc Det Alc CT Exit.then Exit.inBlock Code.wp bodyPost
def endB (base pid ctl : Int) : Batch := ⟨base, base, base, 0, pid, 0, 0, true, ctl, []⟩
end Go.Wm
