/-
  The records of batches. Conditions: that what is handed in reads as data, and that there are few.
-/
import Derived.Test.YtpinnhemlcpkaaaR10
set_option linter.all false
namespace Go.Wm
open Go.RowKit Go.Proofs
attribute [local irreducible] RG CG EG WA Loc Det Alc CT Exit.then Exit.inBlock Code.wp bodyPost

def recsP (l : List Batch) : List Rec := l.flatMap (·.recs)
theorem recsP_succ {l : List Batch} {i : Nat} (h : i < l.length) : recsP (l.take (i + 1)) = recsP (l.take i) ++ l[i].recs := by
  unfold recsP
  rw [List.take_succ_eq_append_getElem h, List.flatMap_append]; simp
theorem pieces_rec {k : PH} : ∀ {css : List (List Value)} {xs : List Rec}, Pieces tRec k css xs → css.flatten = xs.flatMap Rec.vs
  | [], [], _ => rfl
  | [], _ :: _, h => by have := h.1; simp at this
  | _ :: _, [], h => by have := h.1; simp at this
  | c :: css, x :: xs, h => by
    have h0 := h.2 0 c x rfl rfl
    have ht : Pieces tRec k css xs := ⟨by have := h.1; simpa using this, fun i cs y h1 h2 => h.2 (i + 1) cs y (by simpa using h1) (by simpa using h2)⟩
    rw [List.flatten_cons, List.flatMap_cons, pieces_rec ht, h0.1]
theorem recsP_len {l : List Batch} (h : ∀ b ∈ l, b.recs.length ≤ 100) : (recsP l).length ≤ 100 * l.length := by
  induction l with
  | nil => simp [recsP]
  | cons b l ih =>
    have h1 := h b (by simp)
    have h2 := ih fun x hx => h x (by simp [hx])
    simp only [recsP, List.flatMap_cons, List.length_append, List.length_cons] at h2 ⊢
    omega

set_option maxHeartbeats 1000000 in
theorem recs_ct {k : PH} {a : Option Addr} {c : Nat} {l : List Batch} (hl : Sl tBatch k a c l) (h100 : ∀ b ∈ l, b.recs.length ≤ 100) (hb : l.length ≤ 10000) :
    CT Try.prog 39 #[.slice a l.length c] k (fun k' v => ∃ a' c', v = .slice a' (recsP l).length c' ∧ Sl tRec k' a' c' (recsP l)) := by
  refine ct_of_body (l := [_]) Try.func39 rfl Try.ntmps39 (by simp) (fun k k' v hle ⟨a, c, h1, h2⟩ => ⟨a, c, h1, h2.le hle⟩) fun F hF0 hFm => ?_
  have b1 := hl.cap; have b2 := hl.max; unfold maxLen at b2
  repeat (first | refine cg_seq ?_ | refine cg_region ?_ | refine rg_nil ?_ | refine eg_then ?_ | refine qsp ?_ | refine qsn ?_ | refine qsa ?_ | refine qss ?_ | refine qsi ?_ | refine qsz ?_ | refine qsl ?_ | refine qsg ?_ | refine qsf ?_ | refine qsd ?_ | refine qsE ?_ | refine qsX ?_ | refine qse ?_ | refine qsx ?_ | refine qso ?_ | refine cg_cond_true rfl ?_ | refine cg_cond_false rfl ?_ | refine cg_skip ?_ | refine cg_block ?_ | refine eg_in_normal ?_ | refine cg_ret ?_ | refine eg_then_ret ?_ | refine eg_in_ret ?_ | refine cg_exit ?_ | refine eg_then_exit ?_ | refine eg_in_exit ?_ | refine eg_in_other rfl ?_)
  refine cg_loop (fun (i : Nat) e k' => ∃ v, Le k k' ∧ Row F.w0.heap.size k' 41 5 v (recsP (l.take i)).length ((recsP (l.take i)).flatMap Rec.vs) ∧ Apart k v ∧ i ≤ l.length ∧ e = [(0, .is (.slice a l.length c)), (3, .is v), (4, .is (.int .i64 (i : Int)))])
    (fun i => l.length - i) 0 ⟨.slice none 0 0, Le.refl _, row_nil _ _ _ _, apart_nil _ _ _, Nat.zero_le _, rfl⟩ ⟨rfl, rfl, rfl, trivial⟩ ?_
  rintro i e k1 ⟨v, hle, hrow, hap, hi, rfl⟩
  repeat (first | refine cg_seq ?_ | refine cg_region ?_ | refine rg_nil ?_ | refine eg_then ?_ | refine qsp ?_ | refine qsn ?_ | refine qsa ?_ | refine qss ?_ | refine qsi ?_ | refine qsz ?_ | refine qsl ?_ | refine qsg ?_ | refine qsf ?_ | refine qsd ?_ | refine qsE ?_ | refine qsX ?_ | refine qse ?_ | refine qsx ?_ | refine qso ?_ | refine cg_cond_true rfl ?_ | refine cg_cond_false rfl ?_ | refine cg_skip ?_ | refine cg_block ?_ | refine eg_in_normal ?_ | refine cg_ret ?_ | refine eg_then_ret ?_ | refine eg_in_ret ?_ | refine cg_exit ?_ | refine eg_then_exit ?_ | refine eg_in_exit ?_ | refine eg_in_other rfl ?_)
  refine cg_cond rfl (fun h => ?_) (fun h => ?_)
  · have hlt : i < l.length := by simpa using h
    obtain ⟨bx, ox, cx, rfl, ⟨ra, rc, rfl, hr, hok⟩, hcx⟩ := (hl.le hle).el i l[i] (List.getElem?_eq_getElem hlt)
    obtain ⟨p0, p1, p2, p3, p4, p5, p6, p7, p8, p9⟩ := Batch.parts hcx
    have hlen : (recsP (l.take i)).length ≤ 100 * (l.take i).length := recsP_len fun b hb => h100 b (List.mem_of_mem_take hb)
    rw [List.length_take] at hlen
    have h100i := h100 l[i] (List.getElem_mem hlt)
    repeat (first | refine cg_seq ?_ | refine cg_region ?_ | refine rg_nil ?_ | refine eg_then ?_ | refine qsp ?_ | refine qsn ?_ | refine qsa ?_ | refine qss ?_ | refine qsi ?_ | refine qsz ?_ | refine qsl ?_ | refine qsg ?_ | refine qsf ?_ | refine qsd ?_ | refine qsE ?_ | refine qsX ?_ | refine qse ?_ | refine qsx ?_ | refine qso ?_ | refine cg_cond_true rfl ?_ | refine cg_cond_false rfl ?_ | refine cg_skip ?_ | refine cg_block ?_ | refine eg_in_normal ?_ | refine cg_ret ?_ | refine eg_then_ret ?_ | refine eg_in_ret ?_ | refine cg_exit ?_ | refine eg_then_exit ?_ | refine eg_in_exit ?_ | refine eg_in_other rfl ?_)
    refine raps rfl rfl rfl rfl rfl rfl rfl hrow hr Rec.one rfl rfl (by unfold maxLen; omega) (by omega) ?_
    intro v' k2 css hp hrow2 hturn
    obtain ⟨hle2, hap2⟩ := hturn k hle hap
    rw [pieces_rec hp, ← List.flatMap_append, ← List.length_append, ← recsP_succ hlt] at hrow2
    repeat (first | refine cg_seq ?_ | refine cg_region ?_ | refine rg_nil ?_ | refine eg_then ?_ | refine qsp ?_ | refine qsn ?_ | refine qsa ?_ | refine qss ?_ | refine qsi ?_ | refine qsz ?_ | refine qsl ?_ | refine qsg ?_ | refine qsf ?_ | refine qsd ?_ | refine qsE ?_ | refine qsX ?_ | refine qse ?_ | refine qsx ?_ | refine qso ?_ | refine cg_cond_true rfl ?_ | refine cg_cond_false rfl ?_ | refine cg_skip ?_ | refine cg_block ?_ | refine eg_in_normal ?_ | refine cg_ret ?_ | refine eg_then_ret ?_ | refine eg_in_ret ?_ | refine cg_exit ?_ | refine eg_then_exit ?_ | refine eg_in_exit ?_ | refine eg_in_other rfl ?_)
    exact eg_again (i + 1) _ ⟨v', hle2, hrow2, hap2, hlt, rfl⟩ (by omega) ⟨rfl, rfl, rfl, trivial⟩
  · repeat (first | refine cg_seq ?_ | refine cg_region ?_ | refine rg_nil ?_ | refine eg_then ?_ | refine qsp ?_ | refine qsn ?_ | refine qsa ?_ | refine qss ?_ | refine qsi ?_ | refine qsz ?_ | refine qsl ?_ | refine qsg ?_ | refine qsf ?_ | refine qsd ?_ | refine qsE ?_ | refine qsX ?_ | refine qse ?_ | refine qsx ?_ | refine qso ?_ | refine cg_cond_true rfl ?_ | refine cg_cond_false rfl ?_ | refine cg_skip ?_ | refine cg_block ?_ | refine eg_in_normal ?_ | refine cg_ret ?_ | refine eg_then_ret ?_ | refine eg_in_ret ?_ | refine cg_exit ?_ | refine eg_then_exit ?_ | refine eg_in_exit ?_ | refine eg_in_other rfl ?_)
    have hil : i = l.length := by simp at h; omega
    rw [hil, List.take_length] at hrow
    obtain ⟨ai, ci, rfl, hsl⟩ := Row.sl (T := tRec) hrow (fun x hx => ⟨rfl, by
      simp only [recsP, List.mem_flatMap] at hx
      obtain ⟨b, hb, hx⟩ := hx
      obtain ⟨j, hj, rfl⟩ := List.getElem_of_mem hb
      obtain ⟨_, _, _, _, ⟨_, _, _, hr, _⟩, _⟩ := hl.el j l[j] (List.getElem?_eq_getElem hj)
      obtain ⟨q, hq, rfl⟩ := List.getElem_of_mem hx
      obtain ⟨_, _, _, _, ⟨_, h⟩, _⟩ := hr.el q l[j].recs[q] (List.getElem?_eq_getElem hq)
      exact h⟩)
    refine eg_return rfl rfl ⟨ai, ci, rfl, hsl⟩
end Go.Wm
