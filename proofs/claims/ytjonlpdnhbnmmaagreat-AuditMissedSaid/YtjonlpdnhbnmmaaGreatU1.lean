/-
  What was told, at home, the program's. Conditions: that what is handed in reads as data.
-/
import Derived.Test.YtjonlpdnhbnmmaaGreatE4
import Derived.Test.YtjonlpdnhbnmmaaGreatU0
set_option linter.all false
namespace Go.Wm
open Go.RowKit Go.Proofs
def cutL (l : List Told) (n : Nat) : List Told := l.take n ++ l.drop (n + 1)
theorem cut_sub (l : List Told) (n : Nat) : (cutL l n).Sublist l := by
  unfold cutL
  rw [← List.eraseIdx_eq_take_drop_succ]
  exact List.eraseIdx_sublist _ _
theorem cut_mem {l : List Told} (h : l.Pairwise fun a b => a.off < b.off) {n : Nat} (hn : n < l.length) {s : Told} : s ∈ cutL l n ↔ s ∈ l ∧ s.off ≠ l[n].off := by
  have hp := List.pairwise_iff_getElem.1 h
  unfold cutL
  constructor
  · intro hs
    refine ⟨(cut_sub l n).subset hs, ?_⟩
    rcases List.mem_append.1 hs with hs | hs
    · have := take_less h hn s hs
      omega
    · obtain ⟨j, hj, rfl⟩ := List.getElem_of_mem hs
      rw [List.length_drop] at hj
      rw [List.getElem_drop]
      have := hp n (n + 1 + j) hn (by omega) (by omega)
      omega
  · rintro ⟨hs, hne⟩
    obtain ⟨j, hj, rfl⟩ := List.getElem_of_mem hs
    rcases Nat.lt_trichotomy j n with hjn | hjn | hjn
    · exact List.mem_append_left _ (List.mem_take_iff_getElem.2 ⟨j, by omega, rfl⟩)
    · subst hjn; exact absurd rfl hne
    · refine List.mem_append_right _ ?_
      rw [List.mem_drop_iff_getElem]
      exact ⟨j - (n + 1), by omega, by congr 1; omega⟩
theorem cut_at {l : List Told} {tp : Tp} (h : l.Pairwise fun a b => a.off < b.off) (htp : ∀ s ∈ l, s.tp = tp) {n : Nat} (hn : n < l.length) {off : Int} : atP (cutL l n) tp off = true ↔ atP l tp off = true ∧ off ≠ l[n].off := by
  unfold atP
  rw [List.any_eq_true, List.any_eq_true]
  constructor
  · rintro ⟨s, hs, e⟩
    obtain ⟨h1, h2⟩ := (cut_mem h hn).1 hs
    simp only [Bool.and_eq_true, decide_eq_true_eq] at e
    exact ⟨⟨s, h1, by simp [e.1, e.2]⟩, by rw [← e.2]; exact h2⟩
  · rintro ⟨⟨s, hs, e⟩, hne⟩
    simp only [Bool.and_eq_true, decide_eq_true_eq] at e
    exact ⟨s, (cut_mem h hn).2 ⟨hs, by rw [e.2]; exact hne⟩, by simp [e.1, e.2]⟩
theorem miss_needed {bs : List Batch} {gone : List Gone} {to : Int} {tp : Tp} {n : Nat} (h : (heardL (bs.filter (showB gone to)) tp).Pairwise fun a b => a.off < b.off) (hn : n < (heardL (bs.filter (showB gone to)) tp).length) :
    (neededL bs gone to).all (toldP (cutL (heardL (bs.filter (showB gone to)) tp) n)) = !(neededL bs gone to).any fun r => decide (r.off = (heardL (bs.filter (showB gone to)) tp)[n].off) := by
  have key : ∀ r ∈ neededL bs gone to, toldP (cutL (heardL (bs.filter (showB gone to)) tp) n) r = !decide (r.off = (heardL (bs.filter (showB gone to)) tp)[n].off) := by
    intro r hr
    have hm := nd_memR hr
    unfold recsAll at hm
    obtain ⟨b, hb, hrb⟩ := List.mem_flatMap.1 hm
    unfold toldP
    by_cases e : r.off = (heardL (bs.filter (showB gone to)) tp)[n].off
    · rw [decide_eq_true e, Bool.not_true, List.any_eq_false]
      intro s hs
      have := ((cut_mem h hn).1 hs).2
      simp only [Bool.and_eq_true, decide_eq_true_eq]
      rintro ⟨h1, _⟩
      exact this (h1.trans e)
    · rw [decide_eq_false e, Bool.not_false]
      exact List.any_eq_true.2 ⟨toldB tp b r, (cut_mem h hn).2 ⟨heard_mem.2 ⟨b, hb, r, hrb, rfl⟩, e⟩, by simp [toldB]⟩
  cases hA : (neededL bs gone to).any fun r => decide (r.off = (heardL (bs.filter (showB gone to)) tp)[n].off) with
  | false =>
    rw [Bool.not_false, List.all_eq_true]
    intro r hr
    rw [key r hr]
    have := List.any_eq_false.1 hA r hr
    simpa using this
  | true =>
    rw [Bool.not_true, List.all_eq_false]
    obtain ⟨r, hr, e⟩ := List.any_eq_true.1 hA
    exact ⟨r, hr, by rw [key r hr, e]; decide⟩
def condF (x : Int) (f g : Fact) : Bool := decide (f.off = x) && decide (0 ≤ f.txn) && !decide (g.off = f.off) && decide (g.pid = f.pid) && decide (g.txn = f.txn)
def splitB (fs : List Fact) (x : Int) : Bool := fs.any fun f => fs.any fun g => condF x f g
theorem cond_iff {x : Int} {f g : Fact} : condF x f g = true ↔ f.off = x ∧ 0 ≤ f.txn ∧ g.off ≠ f.off ∧ g.pid = f.pid ∧ g.txn = f.txn := by
  simp [condF, and_assoc]
theorem miss_whole {bs : List Batch} {to : Int} {tp : Tp} (hR : Rising bs) (hC : CutF bs to) {n : Nat} (h : (heardL (bs.filter (showB (ofT bs).gone to)) tp).Pairwise fun a b => a.off < b.off) (hn : n < (heardL (bs.filter (showB (ofT bs).gone to)) tp).length) :
    decide (WholeR (cutL (heardL (bs.filter (showB (ofT bs).gone to)) tp) n) (factsN tp (ofT bs) bs bs.length)) = !splitB (factsN tp (ofT bs) bs bs.length) (heardL (bs.filter (showB (ofT bs).gone to)) tp)[n].off := by
  have hW := heard_whole (tp := tp) hR hC
  have htp : ∀ s ∈ heardL (bs.filter (showB (ofT bs).gone to)) tp, s.tp = tp := fun s hs => by obtain ⟨b, hb, r, hr, rfl⟩ := heard_mem.1 hs; rfl
  have hft : ∀ f ∈ factsN tp (ofT bs) bs bs.length, f.tp = tp ∧ (0 ≤ f.txn → 0 ≤ f.pid) := fun f hf => by
    obtain ⟨i, hi, _, r, hr, rfl⟩ := facts_mem _ hf
    refine ⟨rfl, fun h0 => ?_⟩
    have ti : bs[i].txn = true := by
      cases e : bs[i].txn
      · exfalso; simp [factB, e] at h0
      · rfl
    exact (pid_ok (hR i hi).1 ti).1
  have hm := List.getElem_mem hn
  generalize hx : (heardL (bs.filter (showB (ofT bs).gone to)) tp)[n].off = x
  have hat : ∀ off : Int, atP (cutL (heardL (bs.filter (showB (ofT bs).gone to)) tp) n) tp off = true ↔ atP (heardL (bs.filter (showB (ofT bs).gone to)) tp) tp off = true ∧ off ≠ x := fun off => by
    rw [cut_at h htp hn, hx]
  have hxl : atP (heardL (bs.filter (showB (ofT bs).gone to)) tp) tp x = true := by
    unfold atP
    exact List.any_eq_true.2 ⟨_, hm, by simp [htp _ hm, hx]⟩
  generalize heardL (bs.filter (showB (ofT bs).gone to)) tp = l at hW hat hxl
  generalize cutL l n = m at hat
  generalize factsN tp (ofT bs) bs bs.length = fs at hW hft
  cases hS : splitB fs x with
  | false =>
    rw [Bool.not_false, decide_eq_true_eq]
    intro i hi
    unfold WholeAt
    by_cases hsk : skipF m fs[i] = true
    · exact .inl hsk
    refine .inr fun k hk => ?_
    cases hbad : badF m i fs[i] k fs[k] with
    | false => rfl
    | true =>
      exfalso
      have hfi := hft _ (List.getElem_mem hi)
      have hfk := hft _ (List.getElem_mem hk)
      simp only [skipF, hfi.1, Bool.not_eq_true, Bool.or_eq_false_iff, decide_eq_false_iff_not, Bool.not_eq_false'] at hsk
      obtain ⟨⟨s1, s2⟩, s3⟩ := hsk
      obtain ⟨t1, t2⟩ := (hat _).1 s3
      simp only [badF, hfk.1, Bool.and_eq_true, decide_eq_true_eq, Bool.or_eq_true, Bool.not_eq_true'] at hbad
      obtain ⟨⟨g1, g2⟩, g3⟩ := hbad
      rcases hW i hi with hw | hw
      · simp only [skipF, hfi.1, t1, Bool.not_true, Bool.or_false, Bool.or_eq_true, decide_eq_true_eq] at hw
        rcases hw with hw | hw
        · exact s1 hw
        · exact s2 hw
      · have hw := hw k hk
        simp only [badF, hfk.1, g1, g2, decide_true, Bool.true_and] at hw
        rw [Bool.or_eq_false_iff] at hw
        obtain ⟨w1, w2⟩ := hw
        have w2 : atP l tp fs[k].off = true := by simpa using w2
        rcases g3 with ⟨e, hd⟩ | hno
        · rw [hd] at w1
          simp [e] at w1
        · have hkx : fs[k].off = x := by
            by_cases e : fs[k].off = x
            · exact e
            · rw [(hat _).2 ⟨w2, e⟩] at hno; cases hno
          have hc : condF x fs[k] fs[i] = true := cond_iff.2 ⟨hkx, by omega, by rw [hkx]; exact t2, g1.symm, g2.symm⟩
          have : splitB fs x = true := List.any_eq_true.2 ⟨fs[k], List.getElem_mem hk, List.any_eq_true.2 ⟨fs[i], List.getElem_mem hi, hc⟩⟩
          rw [hS] at this; cases this
  | true =>
    rw [Bool.not_true, decide_eq_false_iff_not]
    intro hWm
    obtain ⟨f, hf, h1⟩ := List.any_eq_true.1 hS
    obtain ⟨g, hg, h2⟩ := List.any_eq_true.1 h1
    obtain ⟨c1, c2, c3, c4, c5⟩ := cond_iff.1 h2
    obtain ⟨i, hi, rfl⟩ := List.getElem_of_mem hf
    obtain ⟨j, hj, rfl⟩ := List.getElem_of_mem hg
    have hfi := hft _ hf
    have hfj := hft _ hg
    have hp0 := hfi.2 c2
    have hgl : atP l tp fs[j].off = true := by
      rcases hW i hi with hw | hw
      · rw [← c1] at hxl
        simp only [skipF, hfi.1, hxl, Bool.not_true, Bool.or_false, Bool.or_eq_true, decide_eq_true_eq] at hw
        omega
      · have hw := hw j hj
        simp only [badF, hfj.1, c4, c5, decide_true, Bool.true_and] at hw
        rw [Bool.or_eq_false_iff] at hw
        simpa using hw.2
    have hgm : atP m tp fs[j].off = true := (hat _).2 ⟨hgl, by rw [← c1]; exact c3⟩
    rcases hWm j hj with hw | hw
    · simp only [skipF, hfj.1, hgm, Bool.not_true, Bool.or_false, Bool.or_eq_true, decide_eq_true_eq] at hw
      omega
    · have hw := hw i hi
      simp only [badF, hfi.1, c4, c5, decide_true, Bool.true_and] at hw
      rw [Bool.or_eq_false_iff] at hw
      have h3 : atP m tp fs[i].off = true := by simpa using hw.2
      exact ((hat _).1 h3).2 c1
end Go.Wm
namespace Go.Wm
open Go.RowKit Go.Proofs
attribute [local irreducible] RG CG EG WA Loc Det Alc CT Exit.then Exit.inBlock Code.wp bodyPost
set_option maxHeartbeats 1000000 in
theorem audHome_ct {k : PH} {a : Option Addr} {c : Nat} {l : List Told} (tp : Tp) (hl : Sl tTold k a c l) (hb : l.length ≤ 1000000) :
    CT Tryz.prog 53 #[.slice a l.length c, .agg tp.vs.toArray] k (fun k' v => ∃ a' c', v = .slice a' (homeP l tp).length c' ∧ Sl tTold k' a' c' (homeP l tp)) := by
  refine ct_of_body (l := [_, _]) Tryz.func53 rfl Tryz.ntmps53 (by simp) (fun k k' v hle ⟨a, c, h1, h2⟩ => ⟨a, c, h1, h2.le hle⟩) fun F hF0 hFm => ?_
  have b1 := hl.cap; have b2 := hl.max; unfold maxLen at b2
  repeat (first | refine cg_seq ?_ | refine cg_region ?_)
  refine rb rfl rfl rfl rfl (a_box rfl rfl) ?_; intro b3 k3 hb3 hN3 hle3 hk3
  have c3 := cells_at (vs := tp.vs) hk3 rfl
  repeat (first | refine cg_seq ?_ | refine cg_region ?_ | refine rg_nil ?_ | refine eg_then ?_ | refine qsp ?_ | refine qsn ?_ | refine cg_block ?_)
  refine cg_loop (fun (i : Nat) e k' => ∃ v, Le k3 k' ∧ Row F.w0.heap.size k' 63 10 v (homeP (l.take i) tp).length ((homeP (l.take i) tp).flatMap Told.vs) ∧ Apart k3 v ∧ i ≤ l.length ∧ e = [(3, .is (.pointer (some ⟨b3, 0, none⟩))), (5, .is v), (8, .is (.slice a l.length c)), (9, .is (.int .i64 (l.length : Int))), (10, .is (.int .i64 (i : Int)))])
    (fun i => l.length - i) 0 ⟨.slice none 0 0, Le.refl _, row_nil _ _ _ _, apart_nil _ _ _, Nat.zero_le _, rfl⟩ ⟨rfl, rfl, rfl, rfl, rfl, trivial⟩ ?_
  rintro i e k1 ⟨v, hle, hrow, hap, hi, rfl⟩
  repeat (first | refine cg_seq ?_ | refine cg_region ?_ | refine rg_nil ?_ | refine eg_then ?_ | refine qsp ?_)
  refine cg_cond rfl (fun h => ?_) (fun h => ?_)
  · have hlt : i < l.length := by simpa using h
    obtain ⟨bx, ox, cx, rfl, ⟨rfl, hok⟩, hcx⟩ := (hl.le (hle3.trans hle)).el i l[i] (List.getElem?_eq_getElem hlt)
    have hlen := homeP_len l tp i
    repeat (first | refine cg_seq ?_ | refine cg_region ?_ | refine eg_then ?_ | refine qsi ?_ | refine qsg ?_ | refine cg_skip ?_ | refine cg_block ?_)
    refine rb rfl rfl rfl rfl (a_alloc rfl) ?_; intro b7 k7 hb7 hN7 hle7 hk7
    skip
    refine rw1 rfl rfl rfl rfl rfl rfl rfl hk7 rfl (.inl hN7) ?_ ?_; (simp [Tp.vs, Mark.vs, OpenT.vs, Gone.vs, Tx.cs, View.cs, Rec.vs, Batch.cs, Who.vs, Pl.vs, Told.vs, Fact.vs, Place.vs, Value.oneCell']); intro k8 ht8 hk8
    have c8 := cells_at (vs := l[i].vs) hk8 rfl
    have hle8 : Le k1 k8 := ht8 k1 hle7 hb7
    have hc3 := c3.le (hle.trans hle8)
    obtain ⟨p0, p1, p2, p3⟩ := Told.parts c8
    repeat (first | refine cg_seq ?_ | refine cg_region ?_ | refine rg_nil ?_ | refine eg_then ?_ | refine qsg ?_ | refine qsf ?_ | refine qsE ?_)
    refine cg_cond rfl (fun h2 => ?_) (fun h2 => ?_)
    · have he : l[i].tp = tp := by simpa using h2
      repeat (first | refine cg_seq ?_ | refine cg_region ?_ | refine qsl ?_ | refine qsf ?_)
      refine rw0 rfl rfl rfl rfl rfl rfl rfl rfl hk8 ?_ (.inl hN7) ?_
      · simp [Told.vs]
      intro k9 ht9 hk9
      have hle9 : Le k1 k9 := ht9 k1 hle8 hb7
      have c9 := cells_at (vs := ({ l[i] with off := l[i].fromV } : Told).vs) hk9 rfl
      obtain ⟨p0, p1, p2, p3⟩ := Told.parts c9
      repeat (first | refine qsf ?_)
      refine rw0 rfl rfl rfl rfl rfl rfl rfl rfl hk9 ?_ (.inl hN7) ?_
      · simp [Told.vs]
      intro k10 ht10 hk10
      have hle10 : Le k1 k10 := ht10 k1 hle9 hb7
      have c10 := cells_at (vs := (homeT l[i]).vs) hk10 rfl
      repeat (first | refine cg_region ?_ | refine rg_nil ?_ | refine eg_then ?_ | refine qsp ?_ | refine qsg ?_)
      refine rb rfl rfl rfl rfl (a_slice rfl rfl rfl rfl (by kernel_rfl) rfl) ?_; intro b11 k11 hb11 hN11 hle11 hk11
      have c11 := cells_at (vs := (homeT l[i]).vs) hk11 rfl
      refine rap rfl rfl rfl rfl rfl rfl rfl (hrow.le (hle10.trans hle11)) c11 rfl (by simp [Told.vs, Value.oneCell']) rfl rfl (by unfold maxLen; omega) (by omega) ?_
      intro v' k12 hrow12 hturn
      obtain ⟨hle12, hap12⟩ := hturn k3 (hle.trans (hle10.trans hle11)) hap
      repeat (first | refine cg_region ?_ | refine rg_nil ?_ | refine eg_then ?_ | refine qsp ?_ | refine qsa ?_ | refine eg_in_normal ?_)
      refine eg_again (i + 1) _ ⟨v', hle12, ?_, hap12, hlt, rfl⟩ (by omega) ⟨rfl, rfl, rfl, rfl, rfl, trivial⟩
      rw [homeP_succ hlt, if_pos he, List.flatMap_append, List.length_append]
      simpa using hrow12
    · repeat (first | refine cg_region ?_ | refine rg_nil ?_ | refine eg_then ?_ | refine qsp ?_ | refine qsa ?_ | refine cg_skip ?_ | refine eg_in_normal ?_)
      refine eg_again (i + 1) _ ⟨v, hle.trans hle8, ?_, hap, hlt, rfl⟩ (by omega) ⟨rfl, rfl, rfl, rfl, rfl, trivial⟩
      have hne : ¬ l[i].tp = tp := by simpa using h2
      rw [homeP_succ hlt, if_neg hne, List.append_nil]
      exact hrow.le hle8
  · repeat (first | refine cg_seq ?_ | refine cg_region ?_ | refine rg_nil ?_ | refine eg_then ?_ | refine qsp ?_ | refine cg_ret ?_ | refine cg_exit ?_ | refine eg_then_exit ?_ | refine eg_in_exit ?_)
    have hil : i = l.length := by simp at h; omega
    rw [hil, List.take_length] at hrow
    obtain ⟨ai, ci, rfl, hsl⟩ := Row.sl (T := tTold) hrow (fun x hx => ⟨rfl, homeP_ok (told_ok hl) x hx⟩)
    refine eg_return rfl rfl ⟨ai, ci, rfl, hsl⟩
end Go.Wm
