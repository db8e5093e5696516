/-
  What somebody may, the document's. Conditions: that what is handed in reads as data.
-/
import Derived.Test.YtgalkgidjpbiaaaGreatMn2
import Derived.Test.YtgalkgidjpbiaaaGreatD9
import Derived.Test.YtgalkgidjpbiaaaGreatR3
import Derived.Test.YtgalkgidjpbiaaaGreatArr3
import Derived.Test.YtgalkgidjpbiaaaGreatC2
set_option linter.all false
namespace Go.Wm
open Go.RowKit Go.Proofs
theorem put_len {α : Type} (ord : α → α → Int) (l : List α) (x : α) (there : Bool) : (putInL ord l x there).length ≤ l.length + 1 := by
  unfold putInL
  split <;> split <;> simp <;> omega
/-- At most n of each. -/
def Conf.upto (x : Conf) (n : Nat) : Prop := x.topics.length ≤ n ∧ x.rules.length ≤ n ∧ x.rates.length ≤ n ∧ x.ways.length ≤ n
theorem act_upto {x y : Conf} {s : Step} {n : Nat} (h : x.upto n) (ha : actC x s = .ok y) : y.upto (n + 1) := by
  obtain ⟨h1, h2, h3, h4⟩ := h
  unfold actC at ha
  unfold Conf.upto
  repeat' split at ha
  all_goals first | cases ha | skip
  all_goals simp only [List.length_map]
  · exact ⟨Nat.le_trans (put_len _ _ _ _) (by omega), by omega, by omega, by omega⟩
  · exact ⟨Nat.le_trans (List.length_filter_le _ _) (by omega), Nat.le_trans (List.length_filter_le _ _) (by omega), by omega, Nat.le_trans (List.length_filter_le _ _) (by omega)⟩
  · exact ⟨by omega, by omega, by omega, by omega⟩
  · exact ⟨by omega, by omega, by omega, by omega⟩
  · exact ⟨by omega, Nat.le_trans (put_len _ _ _ _) (by omega), by omega, by omega⟩
  · exact ⟨by omega, by omega, Nat.le_trans (put_len _ _ _ _) (by omega), by omega⟩
  · exact ⟨by omega, by omega, by omega, Nat.le_trans (put_len _ _ _ _) (by omega)⟩
theorem noConf_upto (n : Nat) : noConf.upto n := ⟨Nat.zero_le _, Nat.zero_le _, Nat.zero_le _, Nat.zero_le _⟩
theorem do_upto {x : Conf} {s : Step} {n : Nat} (h : x.upto n) : (doC x s).1.upto (n + 1) := by
  unfold doC
  split
  · exact noConf_upto _
  · split
    · exact noConf_upto _
    · cases ha : actC { x with ver := x.ver + 1 } s with
      | error e => exact noConf_upto _
      | ok y => exact act_upto (x := { x with ver := x.ver + 1 }) h ha
end Go.Wm
namespace Go.Wm
open Go.RowKit Go.Proofs
def dropS (name : ByteArray) : Step := ⟨2, name, ⟨#[]⟩, 0, 0, 0⟩
end Go.Wm
namespace Go.Wm
open Go.RowKit Go.Proofs
attribute [local irreducible] RG CG EG WA Loc Det Alc CT Exit.then Exit.inBlock Code.wp bodyPost
def noRate : Rate := ⟨⟨#[]⟩, 0, 0⟩
def rateF (l : List Rate) (s : ByteArray) : Option Rate := l.find? fun r => decide (r.who = s)
def rateQ (x : Conf) (who : ByteArray) : Rate × Bool := if confP x = true then (match rateF x.rates who with | some r => (r, true) | none => (match rateF x.rates starS with | some r => (r, true) | none => (noRate, false))) else (noRate, false)
def nmR (who : ByteArray) (i : Nat) : ByteArray := if i = 0 then who else starS
def RateV (q : Rate × Bool) (v : Value) : Prop := v = .tuple #[.agg q.1.vs.toArray, .bool q.2]
set_option maxHeartbeats 1000000 in
theorem refGoesIn_ct {k : PH} {x : Conf} (a0 : Option Addr) (c0 : Nat) (a1 : Option Addr) (c1 : Nat) (a2 : Option Addr) (c2 : Nat) {a3 : Option Addr} {c3 : Nat} (hw : Sl tWay k a3 c3 x.ways) (w : Way) :
    CT Tryz.prog 233 #[.agg (x.cs a0 c0 a1 c1 a2 c2 a3 c3).toArray, .agg w.vs.toArray] k (fun _ v => v = .bool (goesC x w)) := by
  refine ct_of_body (l := [_, _]) Tryz.func233 rfl Tryz.ntmps233 (by simp) (fun _ _ _ _ h => h) fun F hF0 hFm => ?_
  have m1 := hw.cap; have m2 := hw.max; unfold maxLen at m2
  repeat (first | refine cg_seq ?_ | refine cg_region ?_ | refine rg_nil ?_ | refine eg_then ?_ | refine qsp ?_ | refine qsn ?_ | refine qsa ?_ | refine qss ?_ | refine qsi ?_ | refine qsz ?_ | refine qsl ?_ | refine qsg ?_ | refine qsf ?_ | refine qsd ?_ | refine qsE ?_ | refine qsX ?_ | refine qse ?_ | refine qsx ?_ | refine qso ?_ | refine cg_cond_true rfl ?_ | refine cg_cond_false rfl ?_ | refine cg_skip ?_ | refine cg_block ?_ | refine eg_in_normal ?_ | refine cg_ret ?_ | refine eg_then_ret ?_ | refine eg_in_ret ?_ | refine cg_exit ?_ | refine eg_then_exit ?_ | refine eg_in_exit ?_ | refine eg_in_other rfl ?_)
  refine rb rfl rfl rfl rfl (a_box rfl rfl) ?_; intro s2 k2 hb2 hN2 hle2 hk2
  refine rb rfl rfl rfl rfl (a_box rfl rfl) ?_; intro s3 k3 hb3 hN3 hle3 hk3
  have hw := hw.le (hle2.trans hle3)
  obtain ⟨p0, p1, p2, p3, p4⟩ := Conf.parts ((cells_at (vs := x.cs a0 c0 a1 c1 a2 c2 a3 c3) hk2 rfl).le hle3)
  have cw := cells_at (vs := w.vs) hk3 rfl
  repeat (first | refine cg_seq ?_ | refine cg_region ?_ | refine rg_nil ?_ | refine eg_then ?_ | refine qsp ?_ | refine qsn ?_ | refine qsa ?_ | refine qss ?_ | refine qsi ?_ | refine qsz ?_ | refine qsl ?_ | refine qsg ?_ | refine qsf ?_ | refine qsd ?_ | refine qsE ?_ | refine qsX ?_ | refine qse ?_ | refine qsx ?_ | refine qso ?_ | refine cg_cond_true rfl ?_ | refine cg_cond_false rfl ?_ | refine cg_skip ?_ | refine cg_block ?_ | refine eg_in_normal ?_ | refine cg_ret ?_ | refine eg_then_ret ?_ | refine eg_in_ret ?_ | refine cg_exit ?_ | refine eg_then_exit ?_ | refine eg_in_exit ?_ | refine eg_in_other rfl ?_)
  refine cg_loop (fun (i : Nat) e k' => i ≤ x.ways.length ∧ Le k3 k' ∧ (∀ v ∈ x.ways.take i, decide (v = w) = false) ∧ e = [(3, .is (.pointer (some ⟨s3, 0, none⟩))), (8, .is (.slice a3 x.ways.length c3)), (9, .is (.int .i64 (x.ways.length : Int))), (10, .is (.int .i64 (i : Int)))])
    (fun i => x.ways.length - i) 0 ⟨Nat.zero_le _, Le.refl _, by simp, rfl⟩ ⟨rfl, rfl, rfl, rfl, trivial⟩ ?_
  rintro i e k1 ⟨hi, hle, hno, rfl⟩
  repeat (first | refine cg_seq ?_ | refine cg_region ?_ | refine rg_nil ?_ | refine eg_then ?_ | refine qsp ?_ | refine qsn ?_ | refine qsa ?_ | refine qss ?_ | refine qsi ?_ | refine qsz ?_ | refine qsl ?_ | refine qsg ?_ | refine qsf ?_ | refine qsd ?_ | refine qsE ?_ | refine qsX ?_ | refine qse ?_ | refine qsx ?_ | refine qso ?_ | refine cg_cond_true rfl ?_ | refine cg_cond_false rfl ?_ | refine cg_skip ?_ | refine cg_block ?_ | refine eg_in_normal ?_ | refine cg_ret ?_ | refine eg_then_ret ?_ | refine eg_in_ret ?_ | refine cg_exit ?_ | refine eg_then_exit ?_ | refine eg_in_exit ?_ | refine eg_in_other rfl ?_)
  refine cg_cond rfl (fun h => ?_) (fun h => ?_)
  · have hlt : i < x.ways.length := by simpa using h
    obtain ⟨v, hv⟩ : ∃ v, x.ways[i] = v := ⟨_, rfl⟩
    obtain ⟨bx, ox, cx, ea, ⟨ecx, _⟩, hcx⟩ := (hw.le hle).el i v (by rw [List.getElem?_eq_getElem hlt, hv])
    subst ecx
    subst ea
    repeat (first | refine cg_seq ?_ | refine cg_region ?_ | refine rg_nil ?_ | refine eg_then ?_ | refine qsp ?_ | refine qsn ?_ | refine qsa ?_ | refine qss ?_ | refine qsi ?_ | refine qsz ?_ | refine qsl ?_ | refine qsg ?_ | refine qsf ?_ | refine qsd ?_ | refine qsE ?_ | refine qsX ?_ | refine qse ?_ | refine qsx ?_ | refine qso ?_ | refine cg_cond_true rfl ?_ | refine cg_cond_false rfl ?_ | refine cg_skip ?_ | refine cg_block ?_ | refine eg_in_normal ?_ | refine cg_ret ?_ | refine eg_then_ret ?_ | refine eg_in_ret ?_ | refine cg_exit ?_ | refine eg_then_exit ?_ | refine eg_in_exit ?_ | refine eg_in_other rfl ?_)
    refine rb rfl rfl rfl rfl (a_alloc rfl) ?_; intro s6 k6 hb6 hN6 hle6 hk6
    refine rw1 (vs := v.vs) rfl rfl rfl rfl rfl rfl rfl hk6 rfl (.inl hN6) ?_ ?_
    · simp [Way.vs, Value.oneCell']
    intro k7 ht7 hk7
    have hle7 : Le k1 k7 := ht7 k1 hle6 hb6
    have cv := cells_at (vs := v.vs) hk7 rfl
    have cw := cw.le (hle.trans hle7)
    repeat (first | refine cg_seq ?_ | refine cg_region ?_ | refine rg_nil ?_ | refine eg_then ?_ | refine qsp ?_ | refine qsn ?_ | refine qsa ?_ | refine qss ?_ | refine qsi ?_ | refine qsz ?_ | refine qsl ?_ | refine qsg ?_ | refine qsf ?_ | refine qsd ?_ | refine qsE ?_ | refine qsX ?_ | refine qse ?_ | refine qsx ?_ | refine qso ?_ | refine cg_cond_true rfl ?_ | refine cg_cond_false rfl ?_ | refine cg_skip ?_ | refine cg_block ?_ | refine eg_in_normal ?_ | refine cg_ret ?_ | refine eg_then_ret ?_ | refine eg_in_ret ?_ | refine cg_exit ?_ | refine eg_then_exit ?_ | refine eg_in_exit ?_ | refine eg_in_other rfl ?_)
    cases q : decide (v = w)
    · repeat (first | refine cg_seq ?_ | refine cg_region ?_ | refine rg_nil ?_ | refine eg_then ?_ | refine qsp ?_ | refine qsn ?_ | refine qsa ?_ | refine qss ?_ | refine qsi ?_ | refine qsz ?_ | refine qsl ?_ | refine qsg ?_ | refine qsf ?_ | refine qsd ?_ | refine qsE ?_ | refine qsX ?_ | refine qse ?_ | refine qsx ?_ | refine qso ?_ | refine cg_cond_true rfl ?_ | refine cg_cond_false rfl ?_ | refine cg_skip ?_ | refine cg_block ?_ | refine eg_in_normal ?_ | refine cg_ret ?_ | refine eg_then_ret ?_ | refine eg_in_ret ?_ | refine cg_exit ?_ | refine eg_then_exit ?_ | refine eg_in_exit ?_ | refine eg_in_other rfl ?_)
      refine eg_again (i + 1) _ ⟨hlt, hle.trans hle7, fun u hu => ?_, rfl⟩ (by omega) ⟨rfl, rfl, rfl, rfl, trivial⟩
      rw [List.take_succ_eq_append_getElem hlt] at hu
      rcases List.mem_append.1 hu with h | h
      · exact hno u h
      · simp at h; rw [h, hv]; exact q
    · repeat (first | refine cg_seq ?_ | refine cg_region ?_ | refine rg_nil ?_ | refine eg_then ?_ | refine qsp ?_ | refine qsn ?_ | refine qsa ?_ | refine qss ?_ | refine qsi ?_ | refine qsz ?_ | refine qsl ?_ | refine qsg ?_ | refine qsf ?_ | refine qsd ?_ | refine qsE ?_ | refine qsX ?_ | refine qse ?_ | refine qsx ?_ | refine qso ?_ | refine cg_cond_true rfl ?_ | refine cg_cond_false rfl ?_ | refine cg_skip ?_ | refine cg_block ?_ | refine eg_in_normal ?_ | refine cg_ret ?_ | refine eg_then_ret ?_ | refine eg_in_ret ?_ | refine cg_exit ?_ | refine eg_then_exit ?_ | refine eg_in_exit ?_ | refine eg_in_other rfl ?_)
      refine eg_return rfl rfl ?_
      have : goesC x w = true := List.any_eq_true.2 ⟨v, by rw [← hv]; exact List.getElem_mem hlt, q⟩
      rw [this]
  · have hil : i = x.ways.length := by simp at h; omega
    rw [hil, List.take_length] at hno
    repeat (first | refine cg_seq ?_ | refine cg_region ?_ | refine rg_nil ?_ | refine eg_then ?_ | refine qsp ?_ | refine qsn ?_ | refine qsa ?_ | refine qss ?_ | refine qsi ?_ | refine qsz ?_ | refine qsl ?_ | refine qsg ?_ | refine qsf ?_ | refine qsd ?_ | refine qsE ?_ | refine qsX ?_ | refine qse ?_ | refine qsx ?_ | refine qso ?_ | refine cg_cond_true rfl ?_ | refine cg_cond_false rfl ?_ | refine cg_skip ?_ | refine cg_block ?_ | refine eg_in_normal ?_ | refine cg_ret ?_ | refine eg_then_ret ?_ | refine eg_in_ret ?_ | refine cg_exit ?_ | refine eg_then_exit ?_ | refine eg_in_exit ?_ | refine eg_in_other rfl ?_)
    refine eg_return rfl rfl ?_
    have : goesC x w = false := List.any_eq_false.2 fun v hv => by rw [hno v hv]; simp
    rw [this]
end Go.Wm
-- cut by zcut
namespace Go.Wm
open Go.RowKit Go.Proofs
def bitsN : List Nat := [1, 2, 4]
def eachF (f : Nat → Bool) (w : Nat) (l : List Nat) : Bool := l.all fun b => !decide (w / b % 2 = 1) || f b
end Go.Wm
namespace Go.Wm
open Go.RowKit Go.Proofs
attribute [local irreducible] RG CG EG WA Loc Det Alc CT Exit.then Exit.inBlock Code.wp bodyPost
def bitsV (g : Nat) : List Value := [.bool (g.testBit 0), .bool (g.testBit 1), .bool (g.testBit 2)]
/-- Halfway: below j what is behind a rule, above what was. -/
def bitsH (g h j : Nat) : List Value := [.bool ((if 0 < j then h else g).testBit 0), .bool ((if 1 < j then h else g).testBit 1), .bool ((if 2 < j then h else g).testBit 2)]
end Go.Wm
-- cut by zcut
