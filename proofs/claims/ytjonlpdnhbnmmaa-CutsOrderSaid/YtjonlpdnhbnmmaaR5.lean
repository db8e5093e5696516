/-
  Views, the document's: whether they may be, few, what is stable, whether a transaction is below. Conditions: that what is handed in reads as data.
-/
import Derived.Test.YtjonlpdnhbnmmaaR4
set_option linter.all false
namespace Go.Wm
open Go.RowKit Go.Proofs
attribute [local irreducible] RG CG EG WA Loc Det Alc CT Exit.then Exit.inBlock Code.wp bodyPost

def stableL (l : List View) : List Int := l.map fun v => stabP v.tx v.high
theorem foldMin_I64 {γ : Type} {c : γ → Bool} {f : γ → Int} {a : Int} {l : List γ} (ha : I64 a) (h : ∀ g ∈ l, I64 (f g)) : I64 (foldMin c f a l) :=
  ⟨le_foldMin _ _ _ ha.1 fun g hg _ => (h g hg).1, Int.le_trans (foldMin_le _ _) ha.2⟩
theorem open_ok {k : PH} {a : Option Addr} {c : Nat} {l : List OpenT} (hl : Sl tOpenT k a c l) : ∀ m ∈ l, m.ok := fun m hm => by
  obtain ⟨i, hi, rfl⟩ := List.getElem_of_mem hm
  obtain ⟨_, _, _, _, ⟨_, h⟩, _⟩ := hl.el i l[i] (List.getElem?_eq_getElem hi)
  exact h
theorem stabP_I64 {t : Tx} {h : Int} (hh : I64 h) (ho : ∀ m ∈ t.openV, m.ok) : I64 (stabP t h) := foldMin_I64 hh fun g hg => (ho g hg).2
theorem stableL_I64 {k : PH} {a : Option Addr} {c : Nat} {l : List View} (hl : Sl tView k a c l) : ∀ n ∈ stableL l, I64 n := fun n hn => by
  unfold stableL at hn
  rw [List.mem_map] at hn
  obtain ⟨v, hv, rfl⟩ := hn
  obtain ⟨i, hi, rfl⟩ := List.getElem_of_mem hv
  obtain ⟨_, _, _, _, ⟨_, _, _, _, _, _, _, ⟨so, _, _⟩, hk⟩, _⟩ := hl.el i l[i] (List.getElem?_eq_getElem hi)
  exact stabP_I64 hk.2.2 (open_ok so)

set_option maxHeartbeats 400000 in
theorem sameInt_ct {k : PH} {a b : Option Addr} {ca cb : Nat} {xs ys : List Int} (hx : Sl tInt k a ca xs) (hy : Sl tInt k b cb ys) (hlen : xs.length = ys.length) :
    CT Try.prog 62 #[.slice a xs.length ca, .slice b ys.length cb] k (fun _ v => v = .bool (decide (xs = ys))) := by
  refine ct_of_body (l := [_, _]) Try.func62 rfl Try.ntmps62 (by simp) (fun _ _ _ _ h => h) fun F hF0 hFm => ?_
  have b1 := hx.cap; have b2 := hx.max; unfold maxLen at b2
  repeat (first | refine cg_seq ?_ | refine cg_region ?_ | refine rg_nil ?_ | refine eg_then ?_ | refine qsp ?_ | refine qsn ?_ | refine qsa ?_ | refine qss ?_ | refine qsi ?_ | refine qsz ?_ | refine qsl ?_ | refine qsg ?_ | refine qsf ?_ | refine qsd ?_ | refine qsE ?_ | refine qsX ?_ | refine qse ?_ | refine qsx ?_ | refine qso ?_ | refine cg_cond_true rfl ?_ | refine cg_cond_false rfl ?_ | refine cg_skip ?_ | refine cg_block ?_ | refine eg_in_normal ?_ | refine cg_ret ?_ | refine eg_then_ret ?_ | refine eg_in_ret ?_ | refine cg_exit ?_ | refine eg_then_exit ?_ | refine eg_in_exit ?_ | refine eg_in_other rfl ?_)
  refine cg_loop (fun (i : Nat) e k' => k' = k ∧ i ≤ xs.length ∧ (∀ j, j < i → xs[j]? = ys[j]?) ∧ e = [(0, .is (.slice a xs.length ca)), (1, .is (.slice b ys.length cb)), (5, .is (.int .i64 (i : Int)))])
    (fun i => xs.length - i) 0 ⟨rfl, Nat.zero_le _, fun j hj => by omega, rfl⟩ ⟨rfl, rfl, rfl, trivial⟩ ?_
  rintro i e k1 ⟨rfl, hi, heq, rfl⟩
  repeat (first | refine cg_seq ?_ | refine cg_region ?_ | refine rg_nil ?_ | refine eg_then ?_ | refine qsp ?_ | refine qsn ?_ | refine qsa ?_ | refine qss ?_ | refine qsi ?_ | refine qsz ?_ | refine qsl ?_ | refine qsg ?_ | refine qsf ?_ | refine qsd ?_ | refine qsE ?_ | refine qsX ?_ | refine qse ?_ | refine qsx ?_ | refine qso ?_ | refine cg_cond_true rfl ?_ | refine cg_cond_false rfl ?_ | refine cg_skip ?_ | refine cg_block ?_ | refine eg_in_normal ?_ | refine cg_ret ?_ | refine eg_then_ret ?_ | refine eg_in_ret ?_ | refine cg_exit ?_ | refine eg_then_exit ?_ | refine eg_in_exit ?_ | refine eg_in_other rfl ?_)
  refine cg_cond rfl (fun h => ?_) (fun h => ?_)
  · have hlt : i < xs.length := by simpa using h
    have hlt2 : i < ys.length := by omega
    obtain ⟨bx, ox, cx, rfl, ⟨rfl, _⟩, hcx⟩ := hx.el i xs[i] (List.getElem?_eq_getElem hlt)
    obtain ⟨by', oy, cy, rfl, ⟨rfl, _⟩, hcy⟩ := hy.el i ys[i] (List.getElem?_eq_getElem hlt2)
    repeat (first | refine cg_seq ?_ | refine cg_region ?_ | refine rg_nil ?_ | refine eg_then ?_ | refine qsp ?_ | refine qsn ?_ | refine qsa ?_ | refine qss ?_ | refine qsi ?_ | refine qsz ?_ | refine qsl ?_ | refine qsg ?_ | refine qsf ?_ | refine qsd ?_ | refine qsE ?_ | refine qsX ?_ | refine qse ?_ | refine qsx ?_ | refine qso ?_ | refine cg_cond_true rfl ?_ | refine cg_cond_false rfl ?_ | refine cg_skip ?_ | refine cg_block ?_ | refine eg_in_normal ?_ | refine cg_ret ?_ | refine eg_then_ret ?_ | refine eg_in_ret ?_ | refine cg_exit ?_ | refine eg_then_exit ?_ | refine eg_in_exit ?_ | refine eg_in_other rfl ?_)
    refine cg_any (by kernel_rfl) rfl ?_
    repeat (first | refine qwp ?_ | refine qwn ?_ | refine qwa ?_ | refine qws ?_ | refine qwi ?_ | refine qwz ?_ | refine qwl ?_ | refine qwg ?_ | refine qwf ?_ | refine qwd ?_ | refine qwE ?_ | refine qwX ?_ | refine qwe ?_ | refine qwx ?_ | refine qwo ?_ | (refine wn rfl ?_; refine eg_then ?_))
    refine cg_cond rfl (fun h => ?_) (fun h => ?_)
    · repeat (first | refine cg_seq ?_ | refine cg_region ?_ | refine rg_nil ?_ | refine eg_then ?_ | refine qsp ?_ | refine qsn ?_ | refine qsa ?_ | refine qss ?_ | refine qsi ?_ | refine qsz ?_ | refine qsl ?_ | refine qsg ?_ | refine qsf ?_ | refine qsd ?_ | refine qsE ?_ | refine qsX ?_ | refine qse ?_ | refine qsx ?_ | refine qso ?_ | refine cg_cond_true rfl ?_ | refine cg_cond_false rfl ?_ | refine cg_skip ?_ | refine cg_block ?_ | refine eg_in_normal ?_ | refine cg_ret ?_ | refine eg_then_ret ?_ | refine eg_in_ret ?_ | refine cg_exit ?_ | refine eg_then_exit ?_ | refine eg_in_exit ?_ | refine eg_in_other rfl ?_)
      refine eg_return rfl rfl ?_
      have : xs ≠ ys := by
        rintro rfl
        simp at h
      simp [this]
    · repeat (first | refine cg_seq ?_ | refine cg_region ?_ | refine rg_nil ?_ | refine eg_then ?_ | refine qsp ?_ | refine qsn ?_ | refine qsa ?_ | refine qss ?_ | refine qsi ?_ | refine qsz ?_ | refine qsl ?_ | refine qsg ?_ | refine qsf ?_ | refine qsd ?_ | refine qsE ?_ | refine qsX ?_ | refine qse ?_ | refine qsx ?_ | refine qso ?_ | refine cg_cond_true rfl ?_ | refine cg_cond_false rfl ?_ | refine cg_skip ?_ | refine cg_block ?_ | refine eg_in_normal ?_ | refine cg_ret ?_ | refine eg_then_ret ?_ | refine eg_in_ret ?_ | refine cg_exit ?_ | refine eg_then_exit ?_ | refine eg_in_exit ?_ | refine eg_in_other rfl ?_)
      refine eg_again (i + 1) _ ⟨rfl, hlt, fun j hj => ?_, rfl⟩ (by omega) ⟨rfl, rfl, rfl, trivial⟩
      by_cases hji : j = i
      · subst hji
        rw [List.getElem?_eq_getElem hlt, List.getElem?_eq_getElem hlt2]
        have : xs[j] = ys[j] := by simpa using h
        rw [this]
      · exact heq j (by omega)
  · repeat (first | refine cg_seq ?_ | refine cg_region ?_ | refine rg_nil ?_ | refine eg_then ?_ | refine qsp ?_ | refine qsn ?_ | refine qsa ?_ | refine qss ?_ | refine qsi ?_ | refine qsz ?_ | refine qsl ?_ | refine qsg ?_ | refine qsf ?_ | refine qsd ?_ | refine qsE ?_ | refine qsX ?_ | refine qse ?_ | refine qsx ?_ | refine qso ?_ | refine cg_cond_true rfl ?_ | refine cg_cond_false rfl ?_ | refine cg_skip ?_ | refine cg_block ?_ | refine eg_in_normal ?_ | refine cg_ret ?_ | refine eg_then_ret ?_ | refine eg_in_ret ?_ | refine cg_exit ?_ | refine eg_then_exit ?_ | refine eg_in_exit ?_ | refine eg_in_other rfl ?_)
    refine eg_return rfl rfl ?_
    have hix : i = xs.length := by simp at h; omega
    have : xs = ys := by
      apply List.ext_getElem?
      intro j
      by_cases hj : j < xs.length
      · exact heq j (by omega)
      · rw [List.getElem?_eq_none (by omega), List.getElem?_eq_none (by omega)]
    subst this
    simp

set_option maxHeartbeats 1000000 in
theorem stable_ct {k : PH} {a : Option Addr} {c : Nat} {x : List View} (hx : Sl tView k a c x) (hb : x.length ≤ 1000000) :
    CT Try.prog 60 #[.slice a x.length c] k (fun k' v => ∃ a' c', v = .slice a' (stableL x).length c' ∧ Sl tInt k' a' c' (stableL x)) := by
  refine ct_of_body (l := [_]) Try.func60 rfl Try.ntmps60 (by simp) (fun k k' v hle ⟨a, c, h1, h2⟩ => ⟨a, c, h1, h2.le hle⟩) fun F hF0 hFm => ?_
  have b1 := hx.cap; have b2 := hx.max; unfold maxLen at b2
  repeat (first | refine cg_seq ?_ | refine cg_region ?_ | refine rg_nil ?_ | refine eg_then ?_ | refine qsp ?_ | refine qsn ?_ | refine qsa ?_ | refine qss ?_ | refine qsi ?_ | refine qsz ?_ | refine qsl ?_ | refine qsg ?_ | refine qsf ?_ | refine qsd ?_ | refine qsE ?_ | refine qsX ?_ | refine qse ?_ | refine qsx ?_ | refine qso ?_ | refine cg_cond_true rfl ?_ | refine cg_cond_false rfl ?_ | refine cg_skip ?_ | refine cg_block ?_ | refine eg_in_normal ?_ | refine cg_ret ?_ | refine eg_then_ret ?_ | refine eg_in_ret ?_ | refine cg_exit ?_ | refine eg_then_exit ?_ | refine eg_in_exit ?_ | refine eg_in_other rfl ?_)
  refine cg_loop (fun (i : Nat) e k' => ∃ v, Le k k' ∧ Row F.w0.heap.size k' 3 1 v i ((stableL (x.take i)).flatMap fun n => [Value.int .i64 n]) ∧ Apart k v ∧ i ≤ x.length ∧ e = [(0, .is (.slice a x.length c)), (3, .is v), (4, .is (.int .i64 (i : Int)))])
    (fun i => x.length - i) 0 ⟨.slice none 0 0, Le.refl _, row_nil _ _ _ _, apart_nil _ _ _, Nat.zero_le _, rfl⟩ ⟨rfl, rfl, rfl, trivial⟩ ?_
  rintro i e k1 ⟨v, hle, hrow, hap, hi, rfl⟩
  repeat (first | refine cg_seq ?_ | refine cg_region ?_ | refine rg_nil ?_ | refine eg_then ?_ | refine qsp ?_ | refine qsn ?_ | refine qsa ?_ | refine qss ?_ | refine qsi ?_ | refine qsz ?_ | refine qsl ?_ | refine qsg ?_ | refine qsf ?_ | refine qsd ?_ | refine qsE ?_ | refine qsX ?_ | refine qse ?_ | refine qsx ?_ | refine qso ?_ | refine cg_cond_true rfl ?_ | refine cg_cond_false rfl ?_ | refine cg_skip ?_ | refine cg_block ?_ | refine eg_in_normal ?_ | refine cg_ret ?_ | refine eg_then_ret ?_ | refine eg_in_ret ?_ | refine cg_exit ?_ | refine eg_then_exit ?_ | refine eg_in_exit ?_ | refine eg_in_other rfl ?_)
  refine cg_cond rfl (fun h => ?_) (fun h => ?_)
  · have hlt : i < x.length := by simpa using h
    obtain ⟨bx, ox, cx, rfl, ⟨a0, c0, a1, c1, a2, c2, rfl, ⟨so, sg, sd⟩, hok⟩, hcx⟩ := hx.el i x[i] (List.getElem?_eq_getElem hlt)
    have hsn : stableL (x.take (i + 1)) = stableL (x.take i) ++ [stabP x[i].tx x[i].high] := by
      rw [List.take_succ_eq_append_getElem hlt, stableL, List.map_append]
      rfl
    have hd := le_delV hle hap
    have c2' := hcx.le hd
    obtain ⟨r0, r1, r2⟩ := View.parts c2'
    have htx : TxAt (delV k1 v) x[i].tx a0 c0 a1 c1 a2 c2 := ⟨so.le hd, sg.le hd, sd.le hd⟩
    repeat (first | refine cg_seq ?_ | refine cg_region ?_ | refine rg_nil ?_ | refine eg_then ?_ | refine qsp ?_ | refine qsn ?_ | refine qsa ?_ | refine qss ?_ | refine qsi ?_ | refine qsz ?_ | refine qsl ?_ | refine qsg ?_ | refine qsf ?_ | refine qsd ?_ | refine qsE ?_ | refine qsX ?_ | refine qse ?_ | refine qsx ?_ | refine qso ?_ | refine cg_cond_true rfl ?_ | refine cg_cond_false rfl ?_ | refine cg_skip ?_ | refine cg_block ?_ | refine eg_in_normal ?_ | refine cg_ret ?_ | refine eg_then_ret ?_ | refine eg_in_ret ?_ | refine cg_exit ?_ | refine eg_then_exit ?_ | refine eg_in_exit ?_ | refine eg_in_other rfl ?_)
    refine cg_app v hrow rfl (by kernel_rfl) (by kernel_rfl) rfl rfl (m' := i + 1) (xs' := ((stableL (x.take i)).flatMap fun n => [Value.int .i64 n]) ++ [Value.int .i64 (stabP x[i].tx x[i].high)]) ?_
    repeat (first | refine qvp ?_ | refine qvn ?_ | refine qva ?_ | refine qvs ?_ | refine qvi ?_ | refine qvz ?_ | refine qvl ?_ | refine qvg ?_ | refine qvf ?_ | refine qvd ?_ | refine qvE ?_ | refine qvX ?_ | refine qve ?_ | refine qvx ?_ | refine qvo ?_)
    refine we_s rfl (loc_call_is rfl rfl rfl rfl (refStable_ct x[i].high htx)) ?_
    repeat (first | refine qvp ?_ | refine qvn ?_ | refine qva ?_ | refine qvs ?_ | refine qvi ?_ | refine qvz ?_ | refine qvl ?_ | refine qvg ?_ | refine qvf ?_ | refine qvd ?_ | refine qvE ?_ | refine qvX ?_ | refine qve ?_ | refine qvx ?_ | refine qvo ?_)
    refine we_v rfl (loc_alloc rfl (a_slice rfl rfl rfl rfl (by kernel_rfl) rfl)) ?_
    refine we_app rfl rfl rfl rfl rfl (fun k1 u _ ⟨b, hu, hkb, _⟩ => ⟨b, 0, 1, hu, cells_at hkb rfl⟩) rfl (by simp [Value.oneCell']) rfl rfl (by unfold maxLen; omega) (by omega) ?_
    repeat (first | refine qvp ?_ | refine qvn ?_ | refine qva ?_ | refine qvs ?_ | refine qvi ?_ | refine qvz ?_ | refine qvl ?_ | refine qvg ?_ | refine qvf ?_ | refine qvd ?_ | refine qvE ?_ | refine qvX ?_ | refine qve ?_ | refine qvx ?_ | refine qvo ?_)
    refine we_nil ⟨24, _, [(0, .is (.slice (some ⟨bx, ox, none⟩) x.length c)), (4, .is (.int .i64 (i : Int)))], rfl, rfl, rfl, ⟨rfl, rfl, trivial⟩, fun v' k9 hrow9 ht9 => ?_⟩
    obtain ⟨hle9, hap9⟩ := ht9 k hle hap
    repeat (first | refine cg_seq ?_ | refine cg_region ?_ | refine rg_nil ?_ | refine eg_then ?_ | refine qsp ?_ | refine qsn ?_ | refine qsa ?_ | refine qss ?_ | refine qsi ?_ | refine qsz ?_ | refine qsl ?_ | refine qsg ?_ | refine qsf ?_ | refine qsd ?_ | refine qsE ?_ | refine qsX ?_ | refine qse ?_ | refine qsx ?_ | refine qso ?_ | refine cg_cond_true rfl ?_ | refine cg_cond_false rfl ?_ | refine cg_skip ?_ | refine cg_block ?_ | refine eg_in_normal ?_ | refine cg_ret ?_ | refine eg_then_ret ?_ | refine eg_in_ret ?_ | refine cg_exit ?_ | refine eg_then_exit ?_ | refine eg_in_exit ?_ | refine eg_in_other rfl ?_)
    refine eg_again (i + 1) _ ⟨v', hle9, ?_, hap9, hlt, rfl⟩ (by omega) ⟨rfl, rfl, rfl, trivial⟩
    rw [hsn, List.flatMap_append]
    exact hrow9
  · repeat (first | refine cg_seq ?_ | refine cg_region ?_ | refine rg_nil ?_ | refine eg_then ?_ | refine qsp ?_ | refine qsn ?_ | refine qsa ?_ | refine qss ?_ | refine qsi ?_ | refine qsz ?_ | refine qsl ?_ | refine qsg ?_ | refine qsf ?_ | refine qsd ?_ | refine qsE ?_ | refine qsX ?_ | refine qse ?_ | refine qsx ?_ | refine qso ?_ | refine cg_cond_true rfl ?_ | refine cg_cond_false rfl ?_ | refine cg_skip ?_ | refine cg_block ?_ | refine eg_in_normal ?_ | refine cg_ret ?_ | refine eg_then_ret ?_ | refine eg_in_ret ?_ | refine cg_exit ?_ | refine eg_then_exit ?_ | refine eg_in_exit ?_ | refine eg_in_other rfl ?_)
    have hil : i = x.length := by simp at h; omega
    rw [hil, List.take_length] at hrow
    have hrow : Row F.w0.heap.size k1 3 1 v (stableL x).length ((stableL x).flatMap fun n => [Value.int .i64 n]) := by rw [show (stableL x).length = x.length by simp [stableL]]; exact hrow
    obtain ⟨ai, ci, rfl, hsl⟩ := Row.sl (T := tInt) hrow (fun m hm => ⟨rfl, stableL_I64 hx m hm⟩)
    refine eg_return rfl rfl ⟨ai, ci, rfl, hsl⟩
end Go.Wm
