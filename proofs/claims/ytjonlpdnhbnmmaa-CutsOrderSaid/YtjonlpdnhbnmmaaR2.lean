/-
  Transactions, the document's: whether they may be, and up to where all is decided. Conditions: that what is handed in reads as data.
-/
import Derived.Test.YtjonlpdnhbnmmaaR1
import Derived.Test.YtjonlpdnhbnmmaaCuP
set_option linter.all false
namespace Go.Wm
open Go.RowKit Go.Proofs
attribute [local irreducible] RG CG EG WA Loc Det Alc CT Exit.then Exit.inBlock Code.wp bodyPost

def inO (n : Int) : Bool := decide (0 ≤ n) && decide (n ≤ 1099511627776)
/-- May one that has ended be? -/
def okGone (g : Gone) : Bool := inO g.pid && (decide (0 ≤ g.no) && (decide (g.no ≤ 1048576) && (decide (0 ≤ g.first) && (decide (g.first < g.last) && inO g.last))))
/-- Those that have ended, by rising ends. -/
def Ended (l : List Gone) : Prop := ∀ i, (h : i < l.length) → okGone l[i] = true ∧ (0 < i → l[i - 1].last < l[i].last)
instance (l : List Gone) : Decidable (Ended l) := by unfold Ended; infer_instance
/-- Those that are open, by rising numbers. -/
def Opens (l : List OpenT) : Prop := ∀ i, (h : i < l.length) → (inO l[i].pid && inO l[i].first) = true ∧ (0 < i → l[i - 1].pid < l[i].pid)
instance (l : List OpenT) : Decidable (Opens l) := by unfold Opens; infer_instance
def errOf (b : Bool) (n : Int) : Value := .int .i64 (if b then 0 else n)
def txP (t : Tx) : Bool := decide (Opens t.openV) && (decide (Ended t.gone) && decide (Ended t.done))

theorem ended_bad {l : List Gone} {i : Nat} (h : i < l.length) (hb : ¬ (okGone l[i] = true ∧ (0 < i → l[i - 1].last < l[i].last))) : Value.bool false = .bool (decide (Ended l)) := by
  rw [decide_eq_false]
  exact fun ha => hb (ha i h)
theorem opens_bad {l : List OpenT} {i : Nat} (h : i < l.length) (hb : ¬ ((inO l[i].pid && inO l[i].first) = true ∧ (0 < i → l[i - 1].pid < l[i].pid))) : Opens l → False := fun ha => hb (ha i h)

set_option maxHeartbeats 400000 in
theorem in_ct {k : PH} (n : Int) : CT Try.prog 88 #[.int .i64 n] k (fun _ v => v = .bool (inO n)) := by
  refine ct_of_body (l := [_]) Try.func88 rfl Try.ntmps88 (by simp) (fun _ _ _ _ h => h) fun F hF0 hFm => ?_
  repeat (first | refine cg_seq ?_ | refine cg_region ?_ | refine rg_nil ?_ | refine eg_then ?_ | refine qsp ?_ | refine qsn ?_ | refine qsa ?_ | refine qss ?_ | refine qsi ?_ | refine qsz ?_ | refine qsl ?_ | refine qsg ?_ | refine qsf ?_ | refine qsd ?_ | refine qsE ?_ | refine qsX ?_ | refine qse ?_ | refine qsx ?_ | refine qso ?_ | refine cg_cond_true rfl ?_ | refine cg_cond_false rfl ?_ | refine cg_skip ?_ | refine cg_block ?_ | refine eg_in_normal ?_ | refine cg_ret ?_ | refine eg_then_ret ?_ | refine eg_in_ret ?_ | refine cg_exit ?_ | refine eg_then_exit ?_ | refine eg_in_exit ?_ | refine eg_in_other rfl ?_)
  cases q : decide (n ≥ 0)
  · repeat (first | refine cg_seq ?_ | refine cg_region ?_ | refine rg_nil ?_ | refine eg_then ?_ | refine qsp ?_ | refine qsn ?_ | refine qsa ?_ | refine qss ?_ | refine qsi ?_ | refine qsz ?_ | refine qsl ?_ | refine qsg ?_ | refine qsf ?_ | refine qsd ?_ | refine qsE ?_ | refine qsX ?_ | refine qse ?_ | refine qsx ?_ | refine qso ?_ | refine cg_cond_true rfl ?_ | refine cg_cond_false rfl ?_ | refine cg_skip ?_ | refine cg_block ?_ | refine eg_in_normal ?_ | refine cg_ret ?_ | refine eg_then_ret ?_ | refine eg_in_ret ?_ | refine cg_exit ?_ | refine eg_then_exit ?_ | refine eg_in_exit ?_ | refine eg_in_other rfl ?_)
    refine eg_return rfl rfl ?_
    have : ¬ 0 ≤ n := by simp at q; omega
    simp [inO, this]
  · repeat (first | refine cg_seq ?_ | refine cg_region ?_ | refine rg_nil ?_ | refine eg_then ?_ | refine qsp ?_ | refine qsn ?_ | refine qsa ?_ | refine qss ?_ | refine qsi ?_ | refine qsz ?_ | refine qsl ?_ | refine qsg ?_ | refine qsf ?_ | refine qsd ?_ | refine qsE ?_ | refine qsX ?_ | refine qse ?_ | refine qsx ?_ | refine qso ?_ | refine cg_cond_true rfl ?_ | refine cg_cond_false rfl ?_ | refine cg_skip ?_ | refine cg_block ?_ | refine eg_in_normal ?_ | refine cg_ret ?_ | refine eg_then_ret ?_ | refine eg_in_ret ?_ | refine cg_exit ?_ | refine eg_then_exit ?_ | refine eg_in_exit ?_ | refine eg_in_other rfl ?_)
    refine eg_return rfl rfl ?_
    have : 0 ≤ n := by simp at q; omega
    simp [inO, this]

set_option maxHeartbeats 1000000 in
theorem ended_ct {k : PH} {a : Option Addr} {c : Nat} {l : List Gone} (hl : Sl tGone k a c l) :
    CT Try.prog 89 #[.slice a l.length c] k (fun _ v => v = .bool (decide (Ended l))) := by
  refine ct_of_body (l := [_]) Try.func89 rfl Try.ntmps89 (by simp) (fun _ _ _ _ h => h) fun F hF0 hFm => ?_
  have b1 := hl.cap; have b2 := hl.max; unfold maxLen at b2
  repeat (first | refine cg_seq ?_ | refine cg_region ?_ | refine rg_nil ?_ | refine eg_then ?_ | refine qsp ?_ | refine qsn ?_ | refine qsa ?_ | refine qss ?_ | refine qsi ?_ | refine qsz ?_ | refine qsl ?_ | refine qsg ?_ | refine qsf ?_ | refine qsd ?_ | refine qsE ?_ | refine qsX ?_ | refine qse ?_ | refine qsx ?_ | refine qso ?_ | refine cg_cond_true rfl ?_ | refine cg_cond_false rfl ?_ | refine cg_skip ?_ | refine cg_block ?_ | refine eg_in_normal ?_ | refine cg_ret ?_ | refine eg_then_ret ?_ | refine eg_in_ret ?_ | refine cg_exit ?_ | refine eg_then_exit ?_ | refine eg_in_exit ?_ | refine eg_in_other rfl ?_)
  refine cg_loop (fun (i : Nat) e k' => k' = k ∧ i ≤ l.length ∧ (∀ j, (h : j < l.length) → j < i → okGone l[j] = true ∧ (0 < j → l[j - 1].last < l[j].last)) ∧ e = [(0, .is (.slice a l.length c)), (3, .is (.int .i64 (i : Int)))])
    (fun i => l.length - i) 0 ⟨rfl, Nat.zero_le _, fun j _ hj => by omega, rfl⟩ ⟨rfl, rfl, trivial⟩ ?_
  rintro i e k1 ⟨rfl, hi, hno, rfl⟩
  repeat (first | refine cg_seq ?_ | refine cg_region ?_ | refine rg_nil ?_ | refine eg_then ?_ | refine qsp ?_ | refine qsn ?_ | refine qsa ?_ | refine qss ?_ | refine qsi ?_ | refine qsz ?_ | refine qsl ?_ | refine qsg ?_ | refine qsf ?_ | refine qsd ?_ | refine qsE ?_ | refine qsX ?_ | refine qse ?_ | refine qsx ?_ | refine qso ?_ | refine cg_cond_true rfl ?_ | refine cg_cond_false rfl ?_ | refine cg_skip ?_ | refine cg_block ?_ | refine eg_in_normal ?_ | refine cg_ret ?_ | refine eg_then_ret ?_ | refine eg_in_ret ?_ | refine cg_exit ?_ | refine eg_then_exit ?_ | refine eg_in_exit ?_ | refine eg_in_other rfl ?_)
  refine cg_cond rfl (fun h => ?_) (fun h => ?_)
  · have hlt : i < l.length := by simpa using h
    obtain ⟨bx, ox, cx, rfl, ⟨rfl, hok⟩, hcx⟩ := hl.el i l[i] (List.getElem?_eq_getElem hlt)
    obtain ⟨p0, p1, p2, p3⟩ := Gone.parts hcx
    have hd : okGone l[i] = (inO l[i].pid && (decide (0 ≤ l[i].no) && (decide (l[i].no ≤ 1048576) && (decide (0 ≤ l[i].first) && (decide (l[i].first < l[i].last) && inO l[i].last))))) := rfl
    repeat (first | refine cg_seq ?_ | refine cg_region ?_ | refine rg_nil ?_ | refine eg_then ?_ | refine qsp ?_ | refine qsn ?_ | refine qsa ?_ | refine qss ?_ | refine qsi ?_ | refine qsz ?_ | refine qsl ?_ | refine qsg ?_ | refine qsf ?_ | refine qsd ?_ | refine qsE ?_ | refine qsX ?_ | refine qse ?_ | refine qsx ?_ | refine qso ?_ | refine cg_cond_true rfl ?_ | refine cg_cond_false rfl ?_ | refine cg_skip ?_ | refine cg_block ?_ | refine eg_in_normal ?_ | refine cg_ret ?_ | refine eg_then_ret ?_ | refine eg_in_ret ?_ | refine cg_exit ?_ | refine eg_then_exit ?_ | refine eg_in_exit ?_ | refine eg_in_other rfl ?_)
    refine cg_any (by kernel_rfl) rfl ?_
    repeat (first | refine qwp ?_ | refine qwn ?_ | refine qwa ?_ | refine qws ?_ | refine qwi ?_ | refine qwz ?_ | refine qwl ?_ | refine qwg ?_ | refine qwf ?_ | refine qwd ?_ | refine qwE ?_ | refine qwX ?_ | refine qwe ?_ | refine qwx ?_ | refine qwo ?_ | (refine wn rfl ?_; refine eg_then ?_))
    refine ws rfl (loc_call_is rfl rfl rfl rfl (in_ct l[i].pid)) ?_
    repeat (first | refine qwp ?_ | refine qwn ?_ | refine qwa ?_ | refine qws ?_ | refine qwi ?_ | refine qwz ?_ | refine qwl ?_ | refine qwg ?_ | refine qwf ?_ | refine qwd ?_ | refine qwE ?_ | refine qwX ?_ | refine qwe ?_ | refine qwx ?_ | refine qwo ?_ | (refine wn rfl ?_; refine eg_then ?_))
    cases q1 : inO l[i].pid
    · repeat (first | refine qwp ?_ | refine qwn ?_ | refine qwa ?_ | refine qws ?_ | refine qwi ?_ | refine qwz ?_ | refine qwl ?_ | refine qwg ?_ | refine qwf ?_ | refine qwd ?_ | refine qwE ?_ | refine qwX ?_ | refine qwe ?_ | refine qwx ?_ | refine qwo ?_ | (refine wn rfl ?_; refine eg_then ?_))
      repeat (first | refine cg_seq ?_ | refine cg_region ?_ | refine rg_nil ?_ | refine eg_then ?_ | refine qsp ?_ | refine qsn ?_ | refine qsa ?_ | refine qss ?_ | refine qsi ?_ | refine qsz ?_ | refine qsl ?_ | refine qsg ?_ | refine qsf ?_ | refine qsd ?_ | refine qsE ?_ | refine qsX ?_ | refine qse ?_ | refine qsx ?_ | refine qso ?_ | refine cg_cond_true rfl ?_ | refine cg_cond_false rfl ?_ | refine cg_skip ?_ | refine cg_block ?_ | refine eg_in_normal ?_ | refine cg_ret ?_ | refine eg_then_ret ?_ | refine eg_in_ret ?_ | refine cg_exit ?_ | refine eg_then_exit ?_ | refine eg_in_exit ?_ | refine eg_in_other rfl ?_)
      exact eg_return rfl rfl (ended_bad hlt (by simp [hd, q1]))
    repeat (first | refine qwp ?_ | refine qwn ?_ | refine qwa ?_ | refine qws ?_ | refine qwi ?_ | refine qwz ?_ | refine qwl ?_ | refine qwg ?_ | refine qwf ?_ | refine qwd ?_ | refine qwE ?_ | refine qwX ?_ | refine qwe ?_ | refine qwx ?_ | refine qwo ?_ | (refine wn rfl ?_; refine eg_then ?_))
    cases q2 : decide (l[i].no < 0)
    rotate_left
    · repeat (first | refine qwp ?_ | refine qwn ?_ | refine qwa ?_ | refine qws ?_ | refine qwi ?_ | refine qwz ?_ | refine qwl ?_ | refine qwg ?_ | refine qwf ?_ | refine qwd ?_ | refine qwE ?_ | refine qwX ?_ | refine qwe ?_ | refine qwx ?_ | refine qwo ?_ | (refine wn rfl ?_; refine eg_then ?_))
      repeat (first | refine cg_seq ?_ | refine cg_region ?_ | refine rg_nil ?_ | refine eg_then ?_ | refine qsp ?_ | refine qsn ?_ | refine qsa ?_ | refine qss ?_ | refine qsi ?_ | refine qsz ?_ | refine qsl ?_ | refine qsg ?_ | refine qsf ?_ | refine qsd ?_ | refine qsE ?_ | refine qsX ?_ | refine qse ?_ | refine qsx ?_ | refine qso ?_ | refine cg_cond_true rfl ?_ | refine cg_cond_false rfl ?_ | refine cg_skip ?_ | refine cg_block ?_ | refine eg_in_normal ?_ | refine cg_ret ?_ | refine eg_then_ret ?_ | refine eg_in_ret ?_ | refine cg_exit ?_ | refine eg_then_exit ?_ | refine eg_in_exit ?_ | refine eg_in_other rfl ?_)
      exact eg_return rfl rfl (ended_bad hlt (by simp [hd]; simp at q2; intros; omega))
    repeat (first | refine qwp ?_ | refine qwn ?_ | refine qwa ?_ | refine qws ?_ | refine qwi ?_ | refine qwz ?_ | refine qwl ?_ | refine qwg ?_ | refine qwf ?_ | refine qwd ?_ | refine qwE ?_ | refine qwX ?_ | refine qwe ?_ | refine qwx ?_ | refine qwo ?_ | (refine wn rfl ?_; refine eg_then ?_))
    cases q3 : decide (l[i].no > 1048576)
    rotate_left
    · repeat (first | refine qwp ?_ | refine qwn ?_ | refine qwa ?_ | refine qws ?_ | refine qwi ?_ | refine qwz ?_ | refine qwl ?_ | refine qwg ?_ | refine qwf ?_ | refine qwd ?_ | refine qwE ?_ | refine qwX ?_ | refine qwe ?_ | refine qwx ?_ | refine qwo ?_ | (refine wn rfl ?_; refine eg_then ?_))
      repeat (first | refine cg_seq ?_ | refine cg_region ?_ | refine rg_nil ?_ | refine eg_then ?_ | refine qsp ?_ | refine qsn ?_ | refine qsa ?_ | refine qss ?_ | refine qsi ?_ | refine qsz ?_ | refine qsl ?_ | refine qsg ?_ | refine qsf ?_ | refine qsd ?_ | refine qsE ?_ | refine qsX ?_ | refine qse ?_ | refine qsx ?_ | refine qso ?_ | refine cg_cond_true rfl ?_ | refine cg_cond_false rfl ?_ | refine cg_skip ?_ | refine cg_block ?_ | refine eg_in_normal ?_ | refine cg_ret ?_ | refine eg_then_ret ?_ | refine eg_in_ret ?_ | refine cg_exit ?_ | refine eg_then_exit ?_ | refine eg_in_exit ?_ | refine eg_in_other rfl ?_)
      exact eg_return rfl rfl (ended_bad hlt (by simp [hd]; simp at q3; intros; omega))
    repeat (first | refine qwp ?_ | refine qwn ?_ | refine qwa ?_ | refine qws ?_ | refine qwi ?_ | refine qwz ?_ | refine qwl ?_ | refine qwg ?_ | refine qwf ?_ | refine qwd ?_ | refine qwE ?_ | refine qwX ?_ | refine qwe ?_ | refine qwx ?_ | refine qwo ?_ | (refine wn rfl ?_; refine eg_then ?_))
    cases q4 : decide (l[i].first < 0)
    rotate_left
    · repeat (first | refine qwp ?_ | refine qwn ?_ | refine qwa ?_ | refine qws ?_ | refine qwi ?_ | refine qwz ?_ | refine qwl ?_ | refine qwg ?_ | refine qwf ?_ | refine qwd ?_ | refine qwE ?_ | refine qwX ?_ | refine qwe ?_ | refine qwx ?_ | refine qwo ?_ | (refine wn rfl ?_; refine eg_then ?_))
      repeat (first | refine cg_seq ?_ | refine cg_region ?_ | refine rg_nil ?_ | refine eg_then ?_ | refine qsp ?_ | refine qsn ?_ | refine qsa ?_ | refine qss ?_ | refine qsi ?_ | refine qsz ?_ | refine qsl ?_ | refine qsg ?_ | refine qsf ?_ | refine qsd ?_ | refine qsE ?_ | refine qsX ?_ | refine qse ?_ | refine qsx ?_ | refine qso ?_ | refine cg_cond_true rfl ?_ | refine cg_cond_false rfl ?_ | refine cg_skip ?_ | refine cg_block ?_ | refine eg_in_normal ?_ | refine cg_ret ?_ | refine eg_then_ret ?_ | refine eg_in_ret ?_ | refine cg_exit ?_ | refine eg_then_exit ?_ | refine eg_in_exit ?_ | refine eg_in_other rfl ?_)
      exact eg_return rfl rfl (ended_bad hlt (by simp [hd]; simp at q4; intros; omega))
    repeat (first | refine qwp ?_ | refine qwn ?_ | refine qwa ?_ | refine qws ?_ | refine qwi ?_ | refine qwz ?_ | refine qwl ?_ | refine qwg ?_ | refine qwf ?_ | refine qwd ?_ | refine qwE ?_ | refine qwX ?_ | refine qwe ?_ | refine qwx ?_ | refine qwo ?_ | (refine wn rfl ?_; refine eg_then ?_))
    cases q5 : decide (l[i].first ≥ l[i].last)
    rotate_left
    · repeat (first | refine qwp ?_ | refine qwn ?_ | refine qwa ?_ | refine qws ?_ | refine qwi ?_ | refine qwz ?_ | refine qwl ?_ | refine qwg ?_ | refine qwf ?_ | refine qwd ?_ | refine qwE ?_ | refine qwX ?_ | refine qwe ?_ | refine qwx ?_ | refine qwo ?_ | (refine wn rfl ?_; refine eg_then ?_))
      repeat (first | refine cg_seq ?_ | refine cg_region ?_ | refine rg_nil ?_ | refine eg_then ?_ | refine qsp ?_ | refine qsn ?_ | refine qsa ?_ | refine qss ?_ | refine qsi ?_ | refine qsz ?_ | refine qsl ?_ | refine qsg ?_ | refine qsf ?_ | refine qsd ?_ | refine qsE ?_ | refine qsX ?_ | refine qse ?_ | refine qsx ?_ | refine qso ?_ | refine cg_cond_true rfl ?_ | refine cg_cond_false rfl ?_ | refine cg_skip ?_ | refine cg_block ?_ | refine eg_in_normal ?_ | refine cg_ret ?_ | refine eg_then_ret ?_ | refine eg_in_ret ?_ | refine cg_exit ?_ | refine eg_then_exit ?_ | refine eg_in_exit ?_ | refine eg_in_other rfl ?_)
      exact eg_return rfl rfl (ended_bad hlt (by simp [hd]; simp at q5; intros; omega))
    repeat (first | refine qwp ?_ | refine qwn ?_ | refine qwa ?_ | refine qws ?_ | refine qwi ?_ | refine qwz ?_ | refine qwl ?_ | refine qwg ?_ | refine qwf ?_ | refine qwd ?_ | refine qwE ?_ | refine qwX ?_ | refine qwe ?_ | refine qwx ?_ | refine qwo ?_ | (refine wn rfl ?_; refine eg_then ?_))
    refine ws rfl (loc_call_is rfl rfl rfl rfl (in_ct l[i].last)) ?_
    repeat (first | refine qwp ?_ | refine qwn ?_ | refine qwa ?_ | refine qws ?_ | refine qwi ?_ | refine qwz ?_ | refine qwl ?_ | refine qwg ?_ | refine qwf ?_ | refine qwd ?_ | refine qwE ?_ | refine qwX ?_ | refine qwe ?_ | refine qwx ?_ | refine qwo ?_ | (refine wn rfl ?_; refine eg_then ?_))
    cases q6 : inO l[i].last
    · repeat (first | refine qwp ?_ | refine qwn ?_ | refine qwa ?_ | refine qws ?_ | refine qwi ?_ | refine qwz ?_ | refine qwl ?_ | refine qwg ?_ | refine qwf ?_ | refine qwd ?_ | refine qwE ?_ | refine qwX ?_ | refine qwe ?_ | refine qwx ?_ | refine qwo ?_ | (refine wn rfl ?_; refine eg_then ?_))
      repeat (first | refine cg_seq ?_ | refine cg_region ?_ | refine rg_nil ?_ | refine eg_then ?_ | refine qsp ?_ | refine qsn ?_ | refine qsa ?_ | refine qss ?_ | refine qsi ?_ | refine qsz ?_ | refine qsl ?_ | refine qsg ?_ | refine qsf ?_ | refine qsd ?_ | refine qsE ?_ | refine qsX ?_ | refine qse ?_ | refine qsx ?_ | refine qso ?_ | refine cg_cond_true rfl ?_ | refine cg_cond_false rfl ?_ | refine cg_skip ?_ | refine cg_block ?_ | refine eg_in_normal ?_ | refine cg_ret ?_ | refine eg_then_ret ?_ | refine eg_in_ret ?_ | refine cg_exit ?_ | refine eg_then_exit ?_ | refine eg_in_exit ?_ | refine eg_in_other rfl ?_)
      exact eg_return rfl rfl (ended_bad hlt (by simp [hd, q6]))
    have hg : okGone l[i] = true := by
      simp at q2 q3 q4 q5
      simp [hd, q1, q2, q3, q4, q5, q6]
    repeat (first | refine qwp ?_ | refine qwn ?_ | refine qwa ?_ | refine qws ?_ | refine qwi ?_ | refine qwz ?_ | refine qwl ?_ | refine qwg ?_ | refine qwf ?_ | refine qwd ?_ | refine qwE ?_ | refine qwX ?_ | refine qwe ?_ | refine qwx ?_ | refine qwo ?_ | (refine wn rfl ?_; refine eg_then ?_))
    cases q7 : decide ((i : Int) > 0)
    · repeat (first | refine qwp ?_ | refine qwn ?_ | refine qwa ?_ | refine qws ?_ | refine qwi ?_ | refine qwz ?_ | refine qwl ?_ | refine qwg ?_ | refine qwf ?_ | refine qwd ?_ | refine qwE ?_ | refine qwX ?_ | refine qwe ?_ | refine qwx ?_ | refine qwo ?_ | (refine wn rfl ?_; refine eg_then ?_))
      repeat (first | refine cg_seq ?_ | refine cg_region ?_ | refine rg_nil ?_ | refine eg_then ?_ | refine qsp ?_ | refine qsn ?_ | refine qsa ?_ | refine qss ?_ | refine qsi ?_ | refine qsz ?_ | refine qsl ?_ | refine qsg ?_ | refine qsf ?_ | refine qsd ?_ | refine qsE ?_ | refine qsX ?_ | refine qse ?_ | refine qsx ?_ | refine qso ?_ | refine cg_cond_true rfl ?_ | refine cg_cond_false rfl ?_ | refine cg_skip ?_ | refine cg_block ?_ | refine eg_in_normal ?_ | refine cg_ret ?_ | refine eg_then_ret ?_ | refine eg_in_ret ?_ | refine cg_exit ?_ | refine eg_then_exit ?_ | refine eg_in_exit ?_ | refine eg_in_other rfl ?_)
      refine eg_again (i + 1) _ ⟨rfl, hlt, fun j hj hji => ?_, rfl⟩ (by omega) ⟨rfl, rfl, trivial⟩
      have : i = 0 := by simp at q7; omega
      have : j = 0 := by omega
      subst this; subst i
      exact ⟨hg, by omega⟩
    have hi0 : 0 < i := by simp at q7; omega
    have hlt' : i - 1 < l.length := by omega
    obtain ⟨by', oy, cy, ey, ⟨rfl, hok'⟩, hcy⟩ := hl.el (i - 1) l[i - 1] (List.getElem?_eq_getElem hlt')
    cases ey
    obtain ⟨r0, r1, r2, r3⟩ := Gone.parts hcy
    have hsub : ((i - 1 : Nat) : Int) = (i : Int) - 1 := by omega
    repeat (first | refine qwp ?_ | refine qwn ?_ | refine qwa ?_ | refine qws ?_ | refine qwi ?_ | refine qwz ?_ | refine qwl ?_ | refine qwg ?_ | refine qwf ?_ | refine qwd ?_ | refine qwE ?_ | refine qwX ?_ | refine qwe ?_ | refine qwx ?_ | refine qwo ?_ | (refine wn rfl ?_; refine eg_then ?_))
    rw [← hsub]
    repeat (first | refine qwp ?_ | refine qwn ?_ | refine qwa ?_ | refine qws ?_ | refine qwi ?_ | refine qwz ?_ | refine qwl ?_ | refine qwg ?_ | refine qwf ?_ | refine qwd ?_ | refine qwE ?_ | refine qwX ?_ | refine qwe ?_ | refine qwx ?_ | refine qwo ?_ | (refine wn rfl ?_; refine eg_then ?_))
    refine cg_cond rfl (fun h2 => ?_) (fun h2 => ?_)
    · repeat (first | refine cg_seq ?_ | refine cg_region ?_ | refine rg_nil ?_ | refine eg_then ?_ | refine qsp ?_ | refine qsn ?_ | refine qsa ?_ | refine qss ?_ | refine qsi ?_ | refine qsz ?_ | refine qsl ?_ | refine qsg ?_ | refine qsf ?_ | refine qsd ?_ | refine qsE ?_ | refine qsX ?_ | refine qse ?_ | refine qsx ?_ | refine qso ?_ | refine cg_cond_true rfl ?_ | refine cg_cond_false rfl ?_ | refine cg_skip ?_ | refine cg_block ?_ | refine eg_in_normal ?_ | refine cg_ret ?_ | refine eg_then_ret ?_ | refine eg_in_ret ?_ | refine cg_exit ?_ | refine eg_then_exit ?_ | refine eg_in_exit ?_ | refine eg_in_other rfl ?_)
      exact eg_return rfl rfl (ended_bad hlt (by rintro ⟨_, h3⟩; have := h3 hi0; simp at h2; omega))
    · repeat (first | refine cg_seq ?_ | refine cg_region ?_ | refine rg_nil ?_ | refine eg_then ?_ | refine qsp ?_ | refine qsn ?_ | refine qsa ?_ | refine qss ?_ | refine qsi ?_ | refine qsz ?_ | refine qsl ?_ | refine qsg ?_ | refine qsf ?_ | refine qsd ?_ | refine qsE ?_ | refine qsX ?_ | refine qse ?_ | refine qsx ?_ | refine qso ?_ | refine cg_cond_true rfl ?_ | refine cg_cond_false rfl ?_ | refine cg_skip ?_ | refine cg_block ?_ | refine eg_in_normal ?_ | refine cg_ret ?_ | refine eg_then_ret ?_ | refine eg_in_ret ?_ | refine cg_exit ?_ | refine eg_then_exit ?_ | refine eg_in_exit ?_ | refine eg_in_other rfl ?_)
      refine eg_again (i + 1) _ ⟨rfl, hlt, fun j hj hji => ?_, rfl⟩ (by omega) ⟨rfl, rfl, trivial⟩
      by_cases e : j = i
      · subst e
        exact ⟨hg, fun _ => by simp at h2; omega⟩
      · exact hno j hj (by omega)
  · repeat (first | refine cg_seq ?_ | refine cg_region ?_ | refine rg_nil ?_ | refine eg_then ?_ | refine qsp ?_ | refine qsn ?_ | refine qsa ?_ | refine qss ?_ | refine qsi ?_ | refine qsz ?_ | refine qsl ?_ | refine qsg ?_ | refine qsf ?_ | refine qsd ?_ | refine qsE ?_ | refine qsX ?_ | refine qse ?_ | refine qsx ?_ | refine qso ?_ | refine cg_cond_true rfl ?_ | refine cg_cond_false rfl ?_ | refine cg_skip ?_ | refine cg_block ?_ | refine eg_in_normal ?_ | refine cg_ret ?_ | refine eg_then_ret ?_ | refine eg_in_ret ?_ | refine cg_exit ?_ | refine eg_then_exit ?_ | refine eg_in_exit ?_ | refine eg_in_other rfl ?_)
    refine eg_return rfl rfl ?_
    have hin : i = l.length := by simp at h; omega
    rw [decide_eq_true]
    exact fun j hj => hno j hj (by omega)
end Go.Wm
