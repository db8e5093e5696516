/-
  Marks lowered once, the document's. Conditions: that what is handed in reads as data.
-/
import Derived.Test.YtjonlpdnhbnmmaaR7
set_option linter.all false
namespace Go.Wm
open Go.RowKit Go.Proofs
attribute [local irreducible] RG CG EG WA Loc Det Alc CT Exit.then Exit.inBlock Code.wp bodyPost

/-- The cells of numbers, side by side. -/
def curR (cur : List Int) : List Value := (cur.map fun n => [Value.int .i64 n]).flatten
theorem curR_eq (cur : List Int) : curR cur = cur.flatMap fun n => [Value.int .i64 n] := by simp [curR, List.flatMap]
theorem pieces_int {k : PH} : ∀ {css : List (List Value)} {xs : List Int}, Pieces tInt k css xs → css.flatten = curR xs
  | css, xs, h => by
    have : css = xs.map fun n => [Value.int .i64 n] := by
      apply List.ext_getElem?
      intro i
      by_cases hi : i < css.length
      · have hx : i < xs.length := by rw [← h.1]; exact hi
        have := (h.2 i css[i] xs[i] (List.getElem?_eq_getElem hi) (List.getElem?_eq_getElem hx)).1
        rw [List.getElem?_eq_getElem hi, List.getElem?_map, List.getElem?_eq_getElem hx, this]
        rfl
      · rw [List.getElem?_eq_none (by omega), List.getElem?_eq_none (by rw [List.length_map, ← h.1]; omega)]
    rw [this]
    rfl
theorem rowI_el {N : Nat} {k : PH} {et : Nat} {v : Value} {m i : Nat} {cur : List Int} (h : Row N k et 1 v m (curR cur)) (hi : i < cur.length) :
    ∃ g cap cs, v = .slice (some ⟨g, 0, none⟩) m cap ∧ N ≤ g ∧ k g = some (.cells cs et (0, 0)) ∧ i < m ∧ 0 + i * 1 + 1 ≤ cs.size ∧ Cells k g (0 + i * 1) [.int .i64 cur[i]] ∧
      ∀ k' x, k' g = some (.cells (cs.setIfInBounds (0 + i * 1) (Value.int .i64 x)) et (0, 0)) → Row N k' et 1 v m (curR (cur.set i x)) := by
  obtain ⟨g, cap, cs, h1, h2, h3, h4, _, h5, h6, h7⟩ := Row.el h (fun y hy => by rw [List.mem_map] at hy; obtain ⟨n, _, rfl⟩ := hy; rfl) (i := i) (cs := [.int .i64 cur[i]]) (by simp [hi]) (by omega)
  refine ⟨g, cap, cs, h1, h2, h3, h4, h5, h6, fun k' x hk => ?_⟩
  have e : cs.setIfInBounds (0 + i * 1) (Value.int .i64 x) = (cs.toList.take (0 + i * 1) ++ [Value.int .i64 x] ++ cs.toList.drop (0 + i * 1 + 1)).toArray := by
    apply Array.toList_inj.1
    rw [Array.toList_setIfInBounds, List.set_eq_take_append_cons_drop, if_pos (by simp at h5 ⊢; omega)]
    simp
  rw [e] at hk
  have := h7 k' [.int .i64 x] rfl hk
  unfold curR
  rw [List.map_set]
  exact this

def outL (l : List View) (m : List Int) (i : Nat) : List Int := (lowP l m).take i ++ m.drop i
theorem outL_len {l : List View} {m : List Int} (h : m.length = l.length) (i : Nat) : (outL l m i).length = m.length := by
  unfold outL
  rw [List.length_append, List.length_take, List.length_drop, lowP_len h]
  omega
theorem outL_zero (l : List View) (m : List Int) : outL l m 0 = m := by simp [outL]
theorem outL_full {l : List View} {m : List Int} (h : m.length = l.length) : outL l m l.length = lowP l m := by
  unfold outL
  rw [List.take_of_length_le (by rw [lowP_len h]; exact Nat.le_refl _), List.drop_of_length_le (by omega), List.append_nil]
theorem outL_at {l : List View} {m : List Int} (h : m.length = l.length) {i : Nat} (hi : i < m.length) (h' : i < (outL l m i).length) : (outL l m i)[i] = m[i] := by
  unfold outL at h' ⊢
  rw [List.getElem_append_right (by rw [List.length_take]; omega)]
  simp only [List.getElem_drop, List.length_take, lowP_len h]
  congr 1
  omega
theorem outL_succ {l : List View} {m : List Int} (h : m.length = l.length) {i : Nat} (hi : i < l.length) (hm : i < m.length) : (outL l m i).set i (lowV l m (l[i], m[i])) = outL l m (i + 1) := by
  have hq : i < (lowP l m).length := by rw [lowP_len h]; exact hi
  rw [← lowP_get hi hm hq]
  unfold outL
  apply List.ext_getElem?
  intro j
  have hl := lowP_len h
  rw [List.getElem?_set]
  by_cases e : i = j
  · subst e
    rw [if_pos rfl, if_pos (by simp; omega), List.getElem?_append_left (by rw [List.length_take]; omega), List.getElem?_take, if_pos (by omega), List.getElem?_eq_getElem hq]
  · rw [if_neg e]
    by_cases hj : j < i
    · rw [List.getElem?_append_left (by rw [List.length_take]; omega), List.getElem?_append_left (by rw [List.length_take]; omega), List.getElem?_take, List.getElem?_take, if_pos hj, if_pos (by omega)]
    · rw [List.getElem?_append_right (by rw [List.length_take]; omega), List.getElem?_append_right (by rw [List.length_take]; omega), List.getElem?_drop, List.getElem?_drop, List.length_take, List.length_take]
      congr 1
      omega
theorem low_I64 {l : List View} {m : List Int} (hm : ∀ n ∈ m, I64 n) (hg : ∀ v ∈ l, (∀ g ∈ v.tx.done, I64 g.first) ∧ ∀ g ∈ v.tx.gone, I64 g.first) : ∀ n ∈ lowP l m, I64 n := fun n hn => by
  unfold lowP at hn
  rw [List.mem_map] at hn
  obtain ⟨p, hp, rfl⟩ := hn
  have h1 := List.of_mem_zip hp
  unfold lowV
  exact foldMin_I64 (foldMin_I64 (hm _ h1.2) fun g h => (hg _ h1.1).1 g h) fun g h => (hg _ h1.1).2 g h
theorem gone_ok {k : PH} {a : Option Addr} {c : Nat} {l : List Gone} (hl : Sl tGone k a c l) : ∀ m ∈ l, m.ok := fun m hm => by
  obtain ⟨i, hi, rfl⟩ := List.getElem_of_mem hm
  obtain ⟨_, _, _, _, ⟨_, h⟩, _⟩ := hl.el i l[i] (List.getElem?_eq_getElem hi)
  exact h
theorem view_first {k : PH} {a : Option Addr} {c : Nat} {l : List View} (hl : Sl tView k a c l) : ∀ v ∈ l, (∀ g ∈ v.tx.done, I64 g.first) ∧ ∀ g ∈ v.tx.gone, I64 g.first := fun v hv => by
  obtain ⟨i, hi, rfl⟩ := List.getElem_of_mem hv
  obtain ⟨_, _, _, _, ⟨_, _, _, _, _, _, _, ⟨_, sg, sd⟩, hk⟩, _⟩ := hl.el i l[i] (List.getElem?_eq_getElem hi)
  exact ⟨fun g hg => (gone_ok sd g hg).2.2.1, fun g hg => (gone_ok sg g hg).2.2.1⟩

set_option maxHeartbeats 2000000 in
theorem lower_ct {k : PH} {a b : Option Addr} {c d : Nat} {l : List View} {m : List Int} (hl : Sl tView k a c l) (hm : Sl tInt k b d m) (hlen : m.length = l.length) (hb : l.length ≤ 1000000) :
    CT Try.prog 61 #[.slice a l.length c, .slice b m.length d] k (fun k' v => ∃ a' c', v = .slice a' (lowP l m).length c' ∧ Sl tInt k' a' c' (lowP l m)) := by
  refine ct_of_body (l := [_, _]) Try.func61 rfl Try.ntmps61 (by simp) (fun k k' v hle ⟨a, c, h1, h2⟩ => ⟨a, c, h1, h2.le hle⟩) fun F hF0 hFm => ?_
  have b1 := hl.cap; have b2 := hl.max; unfold maxLen at b2
  repeat (first | refine cg_seq ?_ | refine cg_region ?_ | refine rg_nil ?_ | refine eg_then ?_ | refine qsp ?_ | refine qsn ?_ | refine qsa ?_ | refine qss ?_ | refine qsi ?_ | refine qsz ?_ | refine qsl ?_ | refine qsg ?_ | refine qsf ?_ | refine qsd ?_ | refine qsE ?_ | refine qsX ?_ | refine qse ?_ | refine qsx ?_ | refine qso ?_ | refine cg_cond_true rfl ?_ | refine cg_cond_false rfl ?_ | refine cg_skip ?_ | refine cg_block ?_ | refine eg_in_normal ?_ | refine cg_ret ?_ | refine eg_then_ret ?_ | refine eg_in_ret ?_ | refine cg_exit ?_ | refine eg_then_exit ?_ | refine eg_in_exit ?_ | refine eg_in_other rfl ?_)
  refine rb rfl rfl rfl rfl (a_empty rfl) ?_; intro be ke hbe hNe hlee hke
  repeat (first | refine cg_seq ?_ | refine cg_region ?_ | refine rg_nil ?_ | refine eg_then ?_ | refine qsp ?_ | refine qsn ?_ | refine qsa ?_ | refine qss ?_ | refine qsi ?_ | refine qsz ?_ | refine qsl ?_ | refine qsg ?_ | refine qsf ?_ | refine qsd ?_ | refine qsE ?_ | refine qsX ?_ | refine qse ?_ | refine qsx ?_ | refine qso ?_ | refine cg_cond_true rfl ?_ | refine cg_cond_false rfl ?_ | refine cg_skip ?_ | refine cg_block ?_ | refine eg_in_normal ?_ | refine cg_ret ?_ | refine eg_then_ret ?_ | refine eg_in_ret ?_ | refine cg_exit ?_ | refine eg_then_exit ?_ | refine eg_in_exit ?_ | refine eg_in_other rfl ?_)
  refine raps rfl rfl rfl rfl rfl rfl rfl (row_empty hNe hke) (hm.le hlee) (fun k cs x h => by rw [h.1]; simp [Value.oneCell']) rfl rfl (by unfold maxLen; omega) (by omega) ?_
  intro v0 k0 css hp hrow0 hturn0
  obtain ⟨hle0, hap0⟩ := hturn0 k hlee (fun g hg => by simp [Value.ownBlock] at hg; subst hg; exact hbe)
  rw [List.nil_append, pieces_int hp, Nat.zero_add] at hrow0
  repeat (first | refine cg_seq ?_ | refine cg_region ?_ | refine rg_nil ?_ | refine eg_then ?_ | refine qsp ?_ | refine qsn ?_ | refine qsa ?_ | refine qss ?_ | refine qsi ?_ | refine qsz ?_ | refine qsl ?_ | refine qsg ?_ | refine qsf ?_ | refine qsd ?_ | refine qsE ?_ | refine qsX ?_ | refine qse ?_ | refine qsx ?_ | refine qso ?_ | refine cg_cond_true rfl ?_ | refine cg_cond_false rfl ?_ | refine cg_skip ?_ | refine cg_block ?_ | refine eg_in_normal ?_ | refine cg_ret ?_ | refine eg_then_ret ?_ | refine eg_in_ret ?_ | refine cg_exit ?_ | refine eg_then_exit ?_ | refine eg_in_exit ?_ | refine eg_in_other rfl ?_)
  refine cg_loop (fun (i : Nat) e k' => ∃ v, Le k k' ∧ Row F.w0.heap.size k' 3 1 v m.length (curR (outL l m i)) ∧ Apart k v ∧ i ≤ l.length ∧ e = [(0, .is (.slice a l.length c)), (1, .is (.slice b m.length d)), (5, .is v), (6, .is (.int .i64 (i : Int)))])
    (fun i => l.length - i) 0 ⟨v0, hle0, by rw [outL_zero]; exact hrow0, hap0, Nat.zero_le _, rfl⟩ ⟨rfl, rfl, rfl, rfl, trivial⟩ ?_
  rintro i e k1 ⟨v, hle, hrow, hap, hi, rfl⟩
  repeat (first | refine cg_seq ?_ | refine cg_region ?_ | refine rg_nil ?_ | refine eg_then ?_ | refine qsp ?_ | refine qsn ?_ | refine qsa ?_ | refine qss ?_ | refine qsi ?_ | refine qsz ?_ | refine qsl ?_ | refine qsg ?_ | refine qsf ?_ | refine qsd ?_ | refine qsE ?_ | refine qsX ?_ | refine qse ?_ | refine qsx ?_ | refine qso ?_ | refine cg_cond_true rfl ?_ | refine cg_cond_false rfl ?_ | refine cg_skip ?_ | refine cg_block ?_ | refine eg_in_normal ?_ | refine cg_ret ?_ | refine eg_then_ret ?_ | refine eg_in_ret ?_ | refine cg_exit ?_ | refine eg_then_exit ?_ | refine eg_in_exit ?_ | refine eg_in_other rfl ?_)
  refine cg_cond rfl (fun h => ?_) (fun h => ?_)
  · have hlt : i < l.length := by simpa using h
    have hlm : i < m.length := by omega
    obtain ⟨bx, ox, cx, rfl, ⟨a0, c0, a1, c1, a2, c2, rfl, ⟨so, sg, sd⟩, hok⟩, hcx⟩ := hl.el i l[i] (List.getElem?_eq_getElem hlt)
    obtain ⟨bm, om, cm, rfl, ⟨rfl, hmok⟩, hcm⟩ := hm.el i m[i] (List.getElem?_eq_getElem hlm)
    have d1 := sd.cap; have d2 := sd.max; unfold maxLen at d2
    have g1 := sg.cap; have g2 := sg.max; unfold maxLen at g2
    obtain ⟨cur, hcur⟩ : ∃ cur, cur = outL l m i := ⟨_, rfl⟩
    have hcl : cur.length = m.length := by rw [hcur]; exact outL_len hlen i
    have hcat : cur.set i m[i] = cur := by
      rw [← outL_at hlen hlm (by rw [outL_len hlen]; exact hlm), ← List.getElem_of_eq hcur (by omega)]
      exact List.set_getElem_self _
    rw [← hcur] at hrow
    rw [← hcat] at hrow
    repeat (first | refine cg_seq ?_ | refine cg_region ?_ | refine rg_nil ?_ | refine eg_then ?_ | refine qsp ?_ | refine qsn ?_ | refine qsa ?_ | refine qss ?_ | refine qsi ?_ | refine qsz ?_ | refine qsl ?_ | refine qsg ?_ | refine qsf ?_ | refine qsd ?_ | refine qsE ?_ | refine qsX ?_ | refine qse ?_ | refine qsx ?_ | refine qso ?_ | refine cg_cond_true rfl ?_ | refine cg_cond_false rfl ?_ | refine cg_skip ?_ | refine cg_block ?_ | refine eg_in_normal ?_ | refine cg_ret ?_ | refine eg_then_ret ?_ | refine eg_in_ret ?_ | refine cg_exit ?_ | refine eg_then_exit ?_ | refine eg_in_exit ?_ | refine eg_in_other rfl ?_)
    refine cg_loop (fun (j : Nat) e k' => ∃ v, Le k k' ∧ Row F.w0.heap.size k' 3 1 v m.length (curR (cur.set i (foldMin (fun g : Gone => !belowP l m g.pid g.no) (fun g => g.first) m[i] (l[i].tx.done.take j)))) ∧ Apart k v ∧ j ≤ l[i].tx.done.length ∧ e = [(0, .is (.slice (some ⟨bx, ox, none⟩) l.length c)), (1, .is (.slice (some ⟨bm, om, none⟩) m.length d)), (5, .is v), (6, .is (.int .i64 (i : Int))), (7, .is (.int .i64 (j : Int)))])
      (fun j => l[i].tx.done.length - j) 0 ⟨v, hle, hrow, hap, Nat.zero_le _, rfl⟩ ⟨rfl, rfl, rfl, rfl, rfl, trivial⟩ ?_
    rintro j e k2 ⟨v2, hle2, hrow2, hap2, hj, rfl⟩
    have hcx2 := hcx.le hle2
    obtain ⟨r0, r1, r2⟩ := View.parts hcx2
    obtain ⟨t0, t1, t2⟩ := Tx.parts r1
    repeat (first | refine cg_seq ?_ | refine cg_region ?_ | refine rg_nil ?_ | refine eg_then ?_ | refine qsp ?_ | refine qsn ?_ | refine qsa ?_ | refine qss ?_ | refine qsi ?_ | refine qsz ?_ | refine qsl ?_ | refine qsg ?_ | refine qsf ?_ | refine qsd ?_ | refine qsE ?_ | refine qsX ?_ | refine qse ?_ | refine qsx ?_ | refine qso ?_ | refine cg_cond_true rfl ?_ | refine cg_cond_false rfl ?_ | refine cg_skip ?_ | refine cg_block ?_ | refine eg_in_normal ?_ | refine cg_ret ?_ | refine eg_then_ret ?_ | refine eg_in_ret ?_ | refine cg_exit ?_ | refine eg_then_exit ?_ | refine eg_in_exit ?_ | refine eg_in_other rfl ?_)
    refine cg_cond rfl (fun h => ?_) (fun h => ?_)
    · have hjt : j < l[i].tx.done.length := by simpa using h
      obtain ⟨by', oy, cy, rfl, ⟨rfl, hyok⟩, hcy⟩ := sd.el j l[i].tx.done[j] (List.getElem?_eq_getElem hjt)
      have hcy2 := hcy.le hle2
      have hsn := foldMin_snoc (c := fun g : Gone => !belowP l m g.pid g.no) (f := fun g => g.first) m[i] (l[i].tx.done.take j) l[i].tx.done[j]
      rw [← List.take_succ_eq_append_getElem hjt] at hsn
      repeat (first | refine cg_seq ?_ | refine cg_region ?_ | refine rg_nil ?_ | refine eg_then ?_ | refine qsp ?_ | refine qsn ?_ | refine qsa ?_ | refine qss ?_ | refine qsi ?_ | refine qsz ?_ | refine qsl ?_ | refine qsg ?_ | refine qsf ?_ | refine qsd ?_ | refine qsE ?_ | refine qsX ?_ | refine qse ?_ | refine qsx ?_ | refine qso ?_ | refine cg_cond_true rfl ?_ | refine cg_cond_false rfl ?_ | refine cg_skip ?_ | refine cg_block ?_ | refine eg_in_normal ?_ | refine cg_ret ?_ | refine eg_then_ret ?_ | refine eg_in_ret ?_ | refine cg_exit ?_ | refine eg_then_exit ?_ | refine eg_in_exit ?_ | refine eg_in_other rfl ?_)
      refine rb rfl rfl rfl rfl (a_alloc rfl) ?_; intro b7 k7 hb7 hN7 hle7 hk7
      repeat (first | refine cg_seq ?_ | refine cg_region ?_ | refine rg_nil ?_ | refine eg_then ?_ | refine qsp ?_ | refine qsn ?_ | refine qsa ?_ | refine qss ?_ | refine qsi ?_ | refine qsz ?_ | refine qsl ?_ | refine qsg ?_ | refine qsf ?_ | refine qsd ?_ | refine qsE ?_ | refine qsX ?_ | refine qse ?_ | refine qsx ?_ | refine qso ?_ | refine cg_cond_true rfl ?_ | refine cg_cond_false rfl ?_ | refine cg_skip ?_ | refine cg_block ?_ | refine eg_in_normal ?_ | refine cg_ret ?_ | refine eg_then_ret ?_ | refine eg_in_ret ?_ | refine cg_exit ?_ | refine eg_then_exit ?_ | refine eg_in_exit ?_ | refine eg_in_other rfl ?_)
      refine rw1 rfl rfl rfl rfl rfl rfl rfl hk7 rfl (.inl hN7) ?_ ?_; (simp [Tp.vs, Mark.vs, OpenT.vs, Gone.vs, Tx.cs, View.cs, Rec.vs, Batch.cs, Who.vs, Pl.vs, Value.oneCell']); intro k8 ht8 hk8
      have c8 := cells_at (vs := l[i].tx.done[j].vs) hk8 rfl
      have hle8 : Le k2 k8 := ht8 k2 hle7 hb7
      have hl8 := hle2.trans hle8
      obtain ⟨p0, p1, p2, p3⟩ := Gone.parts c8
      repeat (first | refine cg_seq ?_ | refine cg_region ?_ | refine rg_nil ?_ | refine eg_then ?_ | refine qsp ?_ | refine qsn ?_ | refine qsa ?_ | refine qss ?_ | refine qsi ?_ | refine qsz ?_ | refine qsl ?_ | refine qsg ?_ | refine qsf ?_ | refine qsd ?_ | refine qsE ?_ | refine qsX ?_ | refine qse ?_ | refine qsx ?_ | refine qso ?_ | refine cg_cond_true rfl ?_ | refine cg_cond_false rfl ?_ | refine cg_skip ?_ | refine cg_block ?_ | refine eg_in_normal ?_ | refine cg_ret ?_ | refine eg_then_ret ?_ | refine eg_in_ret ?_ | refine cg_exit ?_ | refine eg_then_exit ?_ | refine eg_in_exit ?_ | refine eg_in_other rfl ?_)
      refine rs rfl rfl (loc_call_is rfl rfl rfl rfl (below_ct l[i].tx.done[j].pid l[i].tx.done[j].no (hl.le hl8) (hm.le hl8) hlen)) ?_
      repeat (first | refine cg_seq ?_ | refine cg_region ?_ | refine rg_nil ?_ | refine eg_then ?_ | refine qsp ?_ | refine qsn ?_ | refine qsa ?_ | refine qss ?_ | refine qsi ?_ | refine qsz ?_ | refine qsl ?_ | refine qsg ?_ | refine qsf ?_ | refine qsd ?_ | refine qsE ?_ | refine qsX ?_ | refine qse ?_ | refine qsx ?_ | refine qso ?_ | refine cg_cond_true rfl ?_ | refine cg_cond_false rfl ?_ | refine cg_skip ?_ | refine cg_block ?_ | refine eg_in_normal ?_ | refine cg_ret ?_ | refine eg_then_ret ?_ | refine eg_in_ret ?_ | refine cg_exit ?_ | refine eg_then_exit ?_ | refine eg_in_exit ?_ | refine eg_in_other rfl ?_)
      cases q : belowP l m l[i].tx.done[j].pid l[i].tx.done[j].no
      · rw [q] at hsn
        have hrow3 := hrow2.le hle8
        obtain ⟨g, cap, cs, rfl, hNg, hkg, him, hsz, hcg, hset⟩ := rowI_el hrow3 (i := i) (by rw [List.length_set]; omega)
        rw [List.getElem_set_self] at hcg
        repeat (first | refine cg_seq ?_ | refine cg_region ?_ | refine rg_nil ?_ | refine eg_then ?_ | refine qsp ?_ | refine qsn ?_ | refine qsa ?_ | refine qss ?_ | refine qsi ?_ | refine qsz ?_ | refine qsl ?_ | refine qsg ?_ | refine qsf ?_ | refine qsd ?_ | refine qsE ?_ | refine qsX ?_ | refine qse ?_ | refine qsx ?_ | refine qso ?_ | refine cg_cond_true rfl ?_ | refine cg_cond_false rfl ?_ | refine cg_skip ?_ | refine cg_block ?_ | refine eg_in_normal ?_ | refine cg_ret ?_ | refine eg_then_ret ?_ | refine eg_in_ret ?_ | refine cg_exit ?_ | refine eg_then_exit ?_ | refine eg_in_exit ?_ | refine eg_in_other rfl ?_)
        refine cg_fresh 10 [] (by kernel_rfl) (by kernel_rfl) rfl rfl rfl ?_
        dsimp only [List.take]
        repeat (first | refine qfp ?_ | refine qfn ?_ | refine qfa ?_ | refine qfs ?_ | refine qfi ?_ | refine qfz ?_ | refine qfl ?_ | refine qfg ?_ | refine qff ?_ | refine qfd ?_ | refine qfE ?_ | refine qfX ?_ | refine qfe ?_ | refine qfx ?_ | refine qfo ?_)
        refine fs_s rfl (loc_det rfl (d_min rfl rfl rfl)) rfl ?_
        repeat (first | refine qfp ?_ | refine qfn ?_ | refine qfa ?_ | refine qfs ?_ | refine qfi ?_ | refine qfz ?_ | refine qfl ?_ | refine qfg ?_ | refine qff ?_ | refine qfd ?_ | refine qfE ?_ | refine qfX ?_ | refine qfe ?_ | refine qfx ?_ | refine qfo ?_)
        refine fs_nil ?_
        intro k9 vs hle9 _ _ _
        dsimp only [List.drop, nameE, nameP]
        refine rw0 rfl rfl rfl rfl rfl rfl rfl rfl (hle9 _ _ hkg) ?_ (.inl hNg) ?_
        · simp; omega
        intro k10 ht10 hk10
        have hle10 := ht10 k (hl8.trans hle9) (hap2 g rfl)
        repeat (first | refine cg_seq ?_ | refine cg_region ?_ | refine rg_nil ?_ | refine eg_then ?_ | refine qsp ?_ | refine qsn ?_ | refine qsa ?_ | refine qss ?_ | refine qsi ?_ | refine qsz ?_ | refine qsl ?_ | refine qsg ?_ | refine qsf ?_ | refine qsd ?_ | refine qsE ?_ | refine qsX ?_ | refine qse ?_ | refine qsx ?_ | refine qso ?_ | refine cg_cond_true rfl ?_ | refine cg_cond_false rfl ?_ | refine cg_skip ?_ | refine cg_block ?_ | refine eg_in_normal ?_ | refine cg_ret ?_ | refine eg_then_ret ?_ | refine eg_in_ret ?_ | refine cg_exit ?_ | refine eg_then_exit ?_ | refine eg_in_exit ?_ | refine eg_in_other rfl ?_)
        refine eg_again (j + 1) _ ⟨_, hle10, ?_, hap2, hjt, rfl⟩ (by omega) ⟨rfl, rfl, rfl, rfl, rfl, trivial⟩
        have := hset k10 (minI (foldMin (fun g : Gone => !belowP l m g.pid g.no) (fun g => g.first) m[i] (l[i].tx.done.take j)) l[i].tx.done[j].first) hk10
        rw [List.set_set] at this
        rw [hsn]
        exact this
      · rw [q] at hsn
        repeat (first | refine cg_seq ?_ | refine cg_region ?_ | refine rg_nil ?_ | refine eg_then ?_ | refine qsp ?_ | refine qsn ?_ | refine qsa ?_ | refine qss ?_ | refine qsi ?_ | refine qsz ?_ | refine qsl ?_ | refine qsg ?_ | refine qsf ?_ | refine qsd ?_ | refine qsE ?_ | refine qsX ?_ | refine qse ?_ | refine qsx ?_ | refine qso ?_ | refine cg_cond_true rfl ?_ | refine cg_cond_false rfl ?_ | refine cg_skip ?_ | refine cg_block ?_ | refine eg_in_normal ?_ | refine cg_ret ?_ | refine eg_then_ret ?_ | refine eg_in_ret ?_ | refine cg_exit ?_ | refine eg_then_exit ?_ | refine eg_in_exit ?_ | refine eg_in_other rfl ?_)
        refine eg_again (j + 1) _ ⟨v2, hl8, ?_, hap2, hjt, rfl⟩ (by omega) ⟨rfl, rfl, rfl, rfl, rfl, trivial⟩
        rw [hsn]
        exact hrow2.le hle8
    · have hjl : j = l[i].tx.done.length := by simp at h; omega
      rw [hjl, List.take_length] at hrow2
      obtain ⟨md, hmd⟩ : ∃ x, x = foldMin (fun g : Gone => !belowP l m g.pid g.no) (fun g => g.first) m[i] l[i].tx.done := ⟨_, rfl⟩
      rw [← hmd] at hrow2
      repeat (first | refine cg_seq ?_ | refine cg_region ?_ | refine rg_nil ?_ | refine eg_then ?_ | refine qsp ?_ | refine qsn ?_ | refine qsa ?_ | refine qss ?_ | refine qsi ?_ | refine qsz ?_ | refine qsl ?_ | refine qsg ?_ | refine qsf ?_ | refine qsd ?_ | refine qsE ?_ | refine qsX ?_ | refine qse ?_ | refine qsx ?_ | refine qso ?_ | refine cg_cond_true rfl ?_ | refine cg_cond_false rfl ?_ | refine cg_skip ?_ | refine cg_block ?_ | refine eg_in_normal ?_ | refine cg_ret ?_ | refine eg_then_ret ?_ | refine eg_in_ret ?_ | refine cg_exit ?_ | refine eg_then_exit ?_ | refine eg_in_exit ?_ | refine eg_in_other rfl ?_)
      refine cg_loop (fun (j : Nat) e k' => ∃ v, Le k k' ∧ Row F.w0.heap.size k' 3 1 v m.length (curR (cur.set i (foldMin (fun g : Gone => decide (m[i] ≤ g.last)) (fun g => g.first) md (l[i].tx.gone.take j)))) ∧ Apart k v ∧ j ≤ l[i].tx.gone.length ∧ e = [(0, .is (.slice (some ⟨bx, ox, none⟩) l.length c)), (1, .is (.slice (some ⟨bm, om, none⟩) m.length d)), (5, .is v), (6, .is (.int .i64 (i : Int))), (9, .is (.int .i64 (j : Int)))])
        (fun j => l[i].tx.gone.length - j) 0 ⟨v2, hle2, hrow2, hap2, Nat.zero_le _, rfl⟩ ⟨rfl, rfl, rfl, rfl, rfl, trivial⟩ ?_
      clear hrow2 hap2 hle2 hcx2 r0 r1 r2 t0 t1 t2
      rintro j e k2 ⟨v2, hle2, hrow2, hap2, hj, rfl⟩
      have hcx2 := hcx.le hle2
      have hcm2 := hcm.le hle2
      obtain ⟨r0, r1, r2⟩ := View.parts hcx2
      obtain ⟨t0, t1, t2⟩ := Tx.parts r1
      repeat (first | refine cg_seq ?_ | refine cg_region ?_ | refine rg_nil ?_ | refine eg_then ?_ | refine qsp ?_ | refine qsn ?_ | refine qsa ?_ | refine qss ?_ | refine qsi ?_ | refine qsz ?_ | refine qsl ?_ | refine qsg ?_ | refine qsf ?_ | refine qsd ?_ | refine qsE ?_ | refine qsX ?_ | refine qse ?_ | refine qsx ?_ | refine qso ?_ | refine cg_cond_true rfl ?_ | refine cg_cond_false rfl ?_ | refine cg_skip ?_ | refine cg_block ?_ | refine eg_in_normal ?_ | refine cg_ret ?_ | refine eg_then_ret ?_ | refine eg_in_ret ?_ | refine cg_exit ?_ | refine eg_then_exit ?_ | refine eg_in_exit ?_ | refine eg_in_other rfl ?_)
      refine cg_cond rfl (fun h => ?_) (fun h => ?_)
      · have hjt : j < l[i].tx.gone.length := by simpa using h
        obtain ⟨by', oy, cy, rfl, ⟨rfl, hyok⟩, hcy⟩ := sg.el j l[i].tx.gone[j] (List.getElem?_eq_getElem hjt)
        have hcy2 := hcy.le hle2
        have hsn := foldMin_snoc (c := fun g : Gone => decide (m[i] ≤ g.last)) (f := fun g => g.first) md (l[i].tx.gone.take j) l[i].tx.gone[j]
        rw [← List.take_succ_eq_append_getElem hjt] at hsn
        repeat (first | refine cg_seq ?_ | refine cg_region ?_ | refine rg_nil ?_ | refine eg_then ?_ | refine qsp ?_ | refine qsn ?_ | refine qsa ?_ | refine qss ?_ | refine qsi ?_ | refine qsz ?_ | refine qsl ?_ | refine qsg ?_ | refine qsf ?_ | refine qsd ?_ | refine qsE ?_ | refine qsX ?_ | refine qse ?_ | refine qsx ?_ | refine qso ?_ | refine cg_cond_true rfl ?_ | refine cg_cond_false rfl ?_ | refine cg_skip ?_ | refine cg_block ?_ | refine eg_in_normal ?_ | refine cg_ret ?_ | refine eg_then_ret ?_ | refine eg_in_ret ?_ | refine cg_exit ?_ | refine eg_then_exit ?_ | refine eg_in_exit ?_ | refine eg_in_other rfl ?_)
        refine rb rfl rfl rfl rfl (a_alloc rfl) ?_; intro b7 k7 hb7 hN7 hle7 hk7
        repeat (first | refine cg_seq ?_ | refine cg_region ?_ | refine rg_nil ?_ | refine eg_then ?_ | refine qsp ?_ | refine qsn ?_ | refine qsa ?_ | refine qss ?_ | refine qsi ?_ | refine qsz ?_ | refine qsl ?_ | refine qsg ?_ | refine qsf ?_ | refine qsd ?_ | refine qsE ?_ | refine qsX ?_ | refine qse ?_ | refine qsx ?_ | refine qso ?_ | refine cg_cond_true rfl ?_ | refine cg_cond_false rfl ?_ | refine cg_skip ?_ | refine cg_block ?_ | refine eg_in_normal ?_ | refine cg_ret ?_ | refine eg_then_ret ?_ | refine eg_in_ret ?_ | refine cg_exit ?_ | refine eg_then_exit ?_ | refine eg_in_exit ?_ | refine eg_in_other rfl ?_)
        refine rw1 rfl rfl rfl rfl rfl rfl rfl hk7 rfl (.inl hN7) ?_ ?_; (simp [Tp.vs, Mark.vs, OpenT.vs, Gone.vs, Tx.cs, View.cs, Rec.vs, Batch.cs, Who.vs, Pl.vs, Value.oneCell']); intro k8 ht8 hk8
        have c8 := cells_at (vs := l[i].tx.gone[j].vs) hk8 rfl
        have hle8 : Le k2 k8 := ht8 k2 hle7 hb7
        have hl8 := hle2.trans hle8
        have hcm8 := hcm.le hl8
        obtain ⟨p0, p1, p2, p3⟩ := Gone.parts c8
        repeat (first | refine cg_seq ?_ | refine cg_region ?_ | refine rg_nil ?_ | refine eg_then ?_ | refine qsp ?_ | refine qsn ?_ | refine qsa ?_ | refine qss ?_ | refine qsi ?_ | refine qsz ?_ | refine qsl ?_ | refine qsg ?_ | refine qsf ?_ | refine qsd ?_ | refine qsE ?_ | refine qsX ?_ | refine qse ?_ | refine qsx ?_ | refine qso ?_ | refine cg_cond_true rfl ?_ | refine cg_cond_false rfl ?_ | refine cg_skip ?_ | refine cg_block ?_ | refine eg_in_normal ?_ | refine cg_ret ?_ | refine eg_then_ret ?_ | refine eg_in_ret ?_ | refine cg_exit ?_ | refine eg_then_exit ?_ | refine eg_in_exit ?_ | refine eg_in_other rfl ?_)
        refine cg_any (by kernel_rfl) rfl ?_
        repeat (first | refine qwp ?_ | refine qwn ?_ | refine qwa ?_ | refine qws ?_ | refine qwi ?_ | refine qwz ?_ | refine qwl ?_ | refine qwg ?_ | refine qwf ?_ | refine qwd ?_ | refine qwE ?_ | refine qwX ?_ | refine qwe ?_ | refine qwx ?_ | refine qwo ?_ | (refine wn rfl ?_; refine eg_then ?_))
        refine cg_cond rfl (fun h2 => ?_) (fun h2 => ?_)
        · have hc2 : decide (m[i] ≤ l[i].tx.gone[j].last) = true := by simp at h2 ⊢; omega
          rw [if_pos hc2] at hsn
          have hrow3 := hrow2.le hle8
          obtain ⟨g, cap, cs, rfl, hNg, hkg, him, hsz, hcg, hset⟩ := rowI_el hrow3 (i := i) (by rw [List.length_set]; omega)
          rw [List.getElem_set_self] at hcg
          repeat (first | refine cg_seq ?_ | refine cg_region ?_ | refine rg_nil ?_ | refine eg_then ?_ | refine qsp ?_ | refine qsn ?_ | refine qsa ?_ | refine qss ?_ | refine qsi ?_ | refine qsz ?_ | refine qsl ?_ | refine qsg ?_ | refine qsf ?_ | refine qsd ?_ | refine qsE ?_ | refine qsX ?_ | refine qse ?_ | refine qsx ?_ | refine qso ?_ | refine cg_cond_true rfl ?_ | refine cg_cond_false rfl ?_ | refine cg_skip ?_ | refine cg_block ?_ | refine eg_in_normal ?_ | refine cg_ret ?_ | refine eg_then_ret ?_ | refine eg_in_ret ?_ | refine cg_exit ?_ | refine eg_then_exit ?_ | refine eg_in_exit ?_ | refine eg_in_other rfl ?_)
          refine cg_fresh 10 [] (by kernel_rfl) (by kernel_rfl) rfl rfl rfl ?_
          dsimp only [List.take]
          repeat (first | refine qfp ?_ | refine qfn ?_ | refine qfa ?_ | refine qfs ?_ | refine qfi ?_ | refine qfz ?_ | refine qfl ?_ | refine qfg ?_ | refine qff ?_ | refine qfd ?_ | refine qfE ?_ | refine qfX ?_ | refine qfe ?_ | refine qfx ?_ | refine qfo ?_)
          refine fs_s rfl (loc_det rfl (d_min rfl rfl rfl)) rfl ?_
          repeat (first | refine qfp ?_ | refine qfn ?_ | refine qfa ?_ | refine qfs ?_ | refine qfi ?_ | refine qfz ?_ | refine qfl ?_ | refine qfg ?_ | refine qff ?_ | refine qfd ?_ | refine qfE ?_ | refine qfX ?_ | refine qfe ?_ | refine qfx ?_ | refine qfo ?_)
          refine fs_nil ?_
          intro k9 vs hle9 _ _ _
          dsimp only [List.drop, nameE, nameP]
          refine rw0 rfl rfl rfl rfl rfl rfl rfl rfl (hle9 _ _ hkg) ?_ (.inl hNg) ?_
          · simp; omega
          intro k10 ht10 hk10
          have hle10 := ht10 k (hl8.trans hle9) (hap2 g rfl)
          repeat (first | refine cg_seq ?_ | refine cg_region ?_ | refine rg_nil ?_ | refine eg_then ?_ | refine qsp ?_ | refine qsn ?_ | refine qsa ?_ | refine qss ?_ | refine qsi ?_ | refine qsz ?_ | refine qsl ?_ | refine qsg ?_ | refine qsf ?_ | refine qsd ?_ | refine qsE ?_ | refine qsX ?_ | refine qse ?_ | refine qsx ?_ | refine qso ?_ | refine cg_cond_true rfl ?_ | refine cg_cond_false rfl ?_ | refine cg_skip ?_ | refine cg_block ?_ | refine eg_in_normal ?_ | refine cg_ret ?_ | refine eg_then_ret ?_ | refine eg_in_ret ?_ | refine cg_exit ?_ | refine eg_then_exit ?_ | refine eg_in_exit ?_ | refine eg_in_other rfl ?_)
          refine eg_again (j + 1) _ ⟨_, hle10, ?_, hap2, hjt, rfl⟩ (by omega) ⟨rfl, rfl, rfl, rfl, rfl, trivial⟩
          have := hset k10 (minI (foldMin (fun g : Gone => decide (m[i] ≤ g.last)) (fun g => g.first) md (l[i].tx.gone.take j)) l[i].tx.gone[j].first) hk10
          rw [List.set_set] at this
          rw [hsn]
          exact this
        · have hc2 : ¬ decide (m[i] ≤ l[i].tx.gone[j].last) = true := by simp at h2 ⊢; omega
          rw [if_neg hc2] at hsn
          repeat (first | refine cg_seq ?_ | refine cg_region ?_ | refine rg_nil ?_ | refine eg_then ?_ | refine qsp ?_ | refine qsn ?_ | refine qsa ?_ | refine qss ?_ | refine qsi ?_ | refine qsz ?_ | refine qsl ?_ | refine qsg ?_ | refine qsf ?_ | refine qsd ?_ | refine qsE ?_ | refine qsX ?_ | refine qse ?_ | refine qsx ?_ | refine qso ?_ | refine cg_cond_true rfl ?_ | refine cg_cond_false rfl ?_ | refine cg_skip ?_ | refine cg_block ?_ | refine eg_in_normal ?_ | refine cg_ret ?_ | refine eg_then_ret ?_ | refine eg_in_ret ?_ | refine cg_exit ?_ | refine eg_then_exit ?_ | refine eg_in_exit ?_ | refine eg_in_other rfl ?_)
          refine eg_again (j + 1) _ ⟨v2, hl8, ?_, hap2, hjt, rfl⟩ (by omega) ⟨rfl, rfl, rfl, rfl, rfl, trivial⟩
          rw [hsn]
          exact hrow2.le hle8
      · have hjl : j = l[i].tx.gone.length := by simp at h; omega
        rw [hjl, List.take_length, hmd, hcur, show foldMin (fun g : Gone => decide (m[i] ≤ g.last)) (fun g => g.first) (foldMin (fun g : Gone => !belowP l m g.pid g.no) (fun g => g.first) m[i] l[i].tx.done) l[i].tx.gone = lowV l m (l[i], m[i]) from rfl, outL_succ hlen hlt hlm] at hrow2
        repeat (first | refine cg_seq ?_ | refine cg_region ?_ | refine rg_nil ?_ | refine eg_then ?_ | refine qsp ?_ | refine qsn ?_ | refine qsa ?_ | refine qss ?_ | refine qsi ?_ | refine qsz ?_ | refine qsl ?_ | refine qsg ?_ | refine qsf ?_ | refine qsd ?_ | refine qsE ?_ | refine qsX ?_ | refine qse ?_ | refine qsx ?_ | refine qso ?_ | refine cg_cond_true rfl ?_ | refine cg_cond_false rfl ?_ | refine cg_skip ?_ | refine cg_block ?_ | refine eg_in_normal ?_ | refine cg_ret ?_ | refine eg_then_ret ?_ | refine eg_in_ret ?_ | refine cg_exit ?_ | refine eg_then_exit ?_ | refine eg_in_exit ?_ | refine eg_in_other rfl ?_)
        exact eg_again (i + 1) _ ⟨v2, hle2, hrow2, hap2, hlt, rfl⟩ (by omega) ⟨rfl, rfl, rfl, rfl, trivial⟩
  · have hin : i = l.length := by simp at h; omega
    rw [hin, outL_full hlen] at hrow
    repeat (first | refine cg_seq ?_ | refine cg_region ?_ | refine rg_nil ?_ | refine eg_then ?_ | refine qsp ?_ | refine qsn ?_ | refine qsa ?_ | refine qss ?_ | refine qsi ?_ | refine qsz ?_ | refine qsl ?_ | refine qsg ?_ | refine qsf ?_ | refine qsd ?_ | refine qsE ?_ | refine qsX ?_ | refine qse ?_ | refine qsx ?_ | refine qso ?_ | refine cg_cond_true rfl ?_ | refine cg_cond_false rfl ?_ | refine cg_skip ?_ | refine cg_block ?_ | refine eg_in_normal ?_ | refine cg_ret ?_ | refine eg_then_ret ?_ | refine eg_in_ret ?_ | refine cg_exit ?_ | refine eg_then_exit ?_ | refine eg_in_exit ?_ | refine eg_in_other rfl ?_)
    have hrow : Row F.w0.heap.size k1 3 1 v (lowP l m).length ((lowP l m).flatMap fun n => [Value.int .i64 n]) := by rw [← curR_eq, lowP_len hlen, ← hlen]; exact hrow
    obtain ⟨ai, ci, rfl, hsl⟩ := Row.sl (T := tInt) hrow (fun n hn => ⟨rfl, low_I64 (fun n hn => by
      obtain ⟨i, hi, rfl⟩ := List.getElem_of_mem hn
      obtain ⟨_, _, _, _, ⟨_, h⟩, _⟩ := hm.el i m[i] (List.getElem?_eq_getElem hi)
      exact h) (view_first hl) n hn⟩)
    refine eg_return rfl rfl ⟨ai, ci, rfl, hsl⟩
end Go.Wm
