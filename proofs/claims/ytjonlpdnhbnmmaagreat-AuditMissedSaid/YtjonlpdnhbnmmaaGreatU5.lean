/-
  Whether nothing was left out, the program's. Conditions: that what is handed in reads as data, and that there are few.
-/
import Derived.Test.YtjonlpdnhbnmmaaGreatU2
set_option linter.all false
namespace Go.Wm
open Go.RowKit Go.Proofs
attribute [local irreducible] RG CG EG WA Loc Det Alc CT Exit.then Exit.inBlock Code.wp bodyPost
abbrev eR : Rec → Value := fun x => Value.agg x.vs.toArray
abbrev eS : ByteArray → Value := fun x => Value.string x
def TolMap (l : List Told) (kv : List (Rec × Value)) : Prop := ∀ r, kget r kv = if toldP l r then some (.bool true) else none
def MetMap (S : List Rec) (kv : List (ByteArray × Value)) : Prop := ∀ s, kget s kv = if S.any (fun x => decide (x.key = s)) then some (.bool true) else none
theorem tol_nil : TolMap [] [] := fun r => rfl
theorem met_nil : MetMap [] [] := fun r => rfl
theorem tol_put {l : List Told} {kv : List (Rec × Value)} (h : TolMap l kv) {t : Told} (ht : t.off = t.recV.off) : TolMap (l ++ [t]) (kput t.recV (.bool true) kv) := fun r => by
  rw [kget_put, h r]
  unfold toldP
  rw [List.any_append]
  by_cases he : r = t.recV
  · subst he; simp [ht]
  · have : ¬ t.recV = r := fun h => he h.symm
    simp [he, this]
theorem tol_stay {l : List Told} {kv : List (Rec × Value)} (h : TolMap l kv) {t : Told} (ht : t.off ≠ t.recV.off) : TolMap (l ++ [t]) kv := fun r => by
  rw [h r]
  unfold toldP
  rw [List.any_append]
  have : (decide (t.off = r.off) && decide (t.recV = r)) = false := by
    simp
    rintro h1 rfl
    exact ht h1
  simp [this]
theorem met_put {S : List Rec} {kv : List (ByteArray × Value)} (h : MetMap S kv) (r : Rec) : MetMap (r :: S) (kput r.key (.bool true) kv) := fun s => by
  rw [kget_put, h s, List.any_cons]
  by_cases he : s = r.key
  · subst he; simp
  · have : ¬ r.key = s := fun h => he h.symm
    simp [he, this]
/-- Are all that are needed told, from the first on? -/
def allS (f : Rec → Bool) : List Rec → Bool
  | [] => true
  | r :: S => (!neededP r S || f r) && allS f S
theorem allS_spec (f : Rec → Bool) : ∀ l : List Rec, allS f l = true ↔ ∀ j, (h : j < l.length) → neededP l[j] (l.drop (j + 1)) = true → f l[j] = true
  | [] => by simp [allS]
  | r :: S => by
    simp only [allS, Bool.and_eq_true, allS_spec f S]
    constructor
    · rintro ⟨h1, h2⟩ j hj hn
      cases j with
      | zero =>
        simp only [List.getElem_cons_zero, Nat.zero_add, List.drop_succ_cons, List.drop_zero] at hn ⊢
        rw [hn] at h1
        simpa using h1
      | succ j => exact h2 j (by simpa using hj) (by simpa using hn)
    · intro h
      refine ⟨?_, fun j hj hn => h (j + 1) (by simpa using hj) hn⟩
      have := h 0 (by simp)
      simp only [List.getElem_cons_zero, Nat.zero_add, List.drop_succ_cons, List.drop_zero] at this
      cases e : neededP r S
      · rfl
      · simp [this e]
theorem allS_nd (f : Rec → Bool) (l : List Rec) : (nd l l.length).all f = allS f l := by
  rw [Bool.eq_iff_iff, allS_spec, List.all_eq_true]
  constructor
  · intro h j hj hn
    refine h _ ?_
    unfold nd
    rw [List.mem_filterMap]
    refine ⟨j, List.mem_range.2 hj, ?_⟩
    unfold ndF
    rw [List.getElem?_eq_getElem hj]
    simp [hn]
  · intro h r hr
    unfold nd at hr
    rw [List.mem_filterMap] at hr
    obtain ⟨j, hj, he⟩ := hr
    have hjl := List.mem_range.1 hj
    unfold ndF at he
    rw [List.getElem?_eq_getElem hjl] at he
    simp only at he
    split at he
    · rename_i hn
      cases he
      exact h j hjl hn
    · cases he
theorem allS_app {f : Rec → Bool} {a b : List Rec} (h : allS f b = false) : allS f (a ++ b) = false := by
  induction a with
  | nil => exact h
  | cons x a ih => simp [allS, ih]
set_option maxHeartbeats 2000000 in
theorem audAll_ct {k : PH} {a0 a a2 : Option Addr} {c0 c c2 : Nat} {l : List Told} {bs : List Batch} {gone : List Gone} (to : Int) (ht : Sl tTold k a0 c0 l) (hl : Sl tBatch k a c bs) (hg : Sl tGone k a2 c2 gone) (hb : bs.length ≤ 10000) :
    CT Tryz.prog 29 #[.slice a0 l.length c0, .slice a bs.length c, .slice a2 gone.length c2, .int .i64 to] k (fun _ v => v = errOf ((neededL bs gone to).all (toldP l)) 321) := by
  refine ct_of_body (l := [_, _, _, _]) Tryz.func29 rfl Tryz.ntmps29 (by simp) (fun _ _ _ _ h => h) fun F hF0 hFm => ?_
  have b1 := ht.cap; have b2 := ht.max; unfold maxLen at b2
  repeat (first | refine cg_seq ?_ | refine cg_region ?_ | refine rg_nil ?_ | refine eg_then ?_ | refine qsp ?_)
  refine rb rfl rfl rfl rfl (a_makeMap rfl) ?_; intro r1 k1 hr1 hN1 hle1 hk1
  repeat (first | refine cg_seq ?_ | refine cg_region ?_ | refine rg_nil ?_ | refine eg_then ?_ | refine qsp ?_ | refine qsn ?_ | refine cg_block ?_)
  refine cg_loop (fun (i : Nat) e k' => Le k k' ∧ (∃ kv, MapAt eR k' r1 kv ∧ TolMap (l.take i) kv) ∧ i ≤ l.length ∧ e = [(1, .is (.slice a bs.length c)), (2, .is (.slice a2 gone.length c2)), (3, .is (.int .i64 to)), (9, .is (.map (some r1))), (19, .is (.slice a0 l.length c0)), (20, .is (.int .i64 (l.length : Int))), (21, .is (.int .i64 (i : Int)))])
    (fun i => l.length - i) 0 ⟨hle1, ⟨[], MapAt.new eR hk1, tol_nil⟩, Nat.zero_le _, rfl⟩ ⟨rfl, rfl, rfl, rfl, rfl, rfl, rfl, trivial⟩ ?_
  rintro i e k2 ⟨hle, ⟨kv1, hm1, hs1⟩, hi, rfl⟩
  repeat (first | refine cg_seq ?_ | refine cg_region ?_ | refine rg_nil ?_ | refine eg_then ?_ | refine qsp ?_)
  refine cg_cond rfl (fun h => ?_) (fun h => ?_)
  · have hlt : i < l.length := by simpa using h
    obtain ⟨bx, ox, cx, rfl, ⟨rfl, hok⟩, hcx⟩ := (ht.le hle).el i l[i] (List.getElem?_eq_getElem hlt)
    obtain ⟨t, hti⟩ : ∃ t, l[i] = t := ⟨_, rfl⟩
    rw [hti] at hcx
    have htk : l.take (i + 1) = l.take i ++ [t] := by rw [List.take_succ_eq_append_getElem hlt, hti]
    repeat (first | refine cg_seq ?_ | refine cg_region ?_ | refine eg_then ?_ | refine qsi ?_ | refine qsg ?_ | refine cg_skip ?_ | refine cg_block ?_)
    refine rb rfl rfl rfl rfl (a_alloc rfl) ?_; intro b6 k6 hb6 hN6 hle6 hk6
    skip
    refine rw1 rfl rfl rfl rfl rfl rfl rfl hk6 rfl (.inl hN6) ?_ ?_; (simp [Tp.vs, Mark.vs, OpenT.vs, Gone.vs, Tx.cs, View.cs, Rec.vs, Batch.cs, Who.vs, Pl.vs, Told.vs, Fact.vs, Place.vs, Value.oneCell']); intro k7 ht7 hk7
    have c7 := cells_at (vs := t.vs) hk7 rfl
    have hle7 : Le k2 k7 := ht7 k2 hle6 hb6
    have n61 := hm1.ne hb6
    have hm1 := hm1.le hle7
    obtain ⟨p0, p1, p2, p3⟩ := Told.parts c7
    obtain ⟨q0, q1, q2, q3, q4⟩ := Rec.parts p3
    repeat (first | refine cg_seq ?_ | refine cg_region ?_ | refine rg_nil ?_ | refine eg_then ?_ | refine qsp ?_ | refine qsl ?_ | refine qsf ?_)
    cases q : (t.off == t.recV.off)
    · simp at q
      refine cg_cond_false rfl ?_
      repeat (first | refine cg_region ?_ | refine rg_nil ?_ | refine eg_then ?_ | refine qsp ?_ | refine qsa ?_ | refine cg_skip ?_ | refine eg_in_normal ?_)
      exact eg_again (i + 1) _ ⟨hle.trans hle7, ⟨kv1, hm1, by rw [htk]; exact tol_stay hs1 q⟩, hlt, rfl⟩ (by omega) ⟨rfl, rfl, rfl, rfl, rfl, rfl, rfl, trivial⟩
    · simp at q
      refine cg_cond_true rfl ?_
      have p3 := p3
      repeat (first | refine cg_region ?_ | refine qsp ?_ | refine qsg ?_ | refine qsf ?_)
      refine r_put (enc := eR) (x := t.recV) hm1 hN1 rfl rfl rfl rfl rfl rfl rfl ?_
      intro k8 ht8 hm8
      repeat (first | refine cg_region ?_ | refine rg_nil ?_ | refine eg_then ?_ | refine qsp ?_ | refine qsa ?_ | refine eg_in_normal ?_)
      exact eg_again (i + 1) _ ⟨ht8 k (hle.trans hle7) hr1, ⟨_, hm8, by rw [htk]; exact tol_put hs1 q⟩, hlt, rfl⟩ (by omega) ⟨rfl, rfl, rfl, rfl, rfl, rfl, rfl, trivial⟩
  · have hil : i = l.length := by simp at h; omega
    subst hil
    rw [List.take_length] at hs1
    repeat (first | refine cg_seq ?_ | refine cg_region ?_ | refine eg_then ?_ | refine cg_exit ?_ | refine eg_then_exit ?_ | refine eg_in_exit ?_)
    refine rb rfl rfl rfl rfl (a_makeMap rfl) ?_; intro r2 k3 hr2 hN2 hle3 hk3
    repeat (first | refine cg_seq ?_ | refine cg_region ?_ | refine rg_nil ?_ | refine eg_then ?_ | refine qsp ?_)
    refine rvh rfl rfl rfl rfl rfl rfl rfl (hle.trans hle3) (show_ct to hl hg hb) ?_
    rintro kb k4 _ hleb hnb hle4 hb4 ⟨a3, c3, rfl, hs3⟩
    have hbr2 : kb r2 = none := (hnb r2 _ hk3).trans (hle.none hr2)
    have hfl : (bs.filter (showB gone to)).length ≤ bs.length := List.length_filter_le _ _
    have hnl : (neededL bs gone to).all (toldP l) = allS (toldP l) (recsAll (bs.filter (showB gone to))) := allS_nd _ _
    obtain ⟨sh, hsh⟩ : ∃ sh, bs.filter (showB gone to) = sh := ⟨_, rfl⟩
    rw [hsh] at hs3 hfl hnl ⊢
    rw [hnl]
    have b3 := hs3.cap; have b4 := hs3.max; unfold maxLen at b4
    have n21 := hm1.ne hr2
    have hm1 := hm1.le (hle3.trans hle4)
    repeat (first | refine cg_seq ?_ | refine cg_region ?_ | refine rg_nil ?_ | refine eg_then ?_ | refine qsp ?_ | refine qsn ?_ | refine qss ?_ | refine cg_block ?_)
    refine cg_loop (fun (i : Nat) e k' => Le kb k' ∧ MapAt eR k' r1 kv1 ∧ (∃ kv, MapAt eS k' r2 kv ∧ MetMap (recsAll (sh.drop i)) kv) ∧ allS (toldP l) (recsAll (sh.drop i)) = true ∧ i ≤ sh.length ∧ e = [(9, .is (.map (some r1))), (12, .is (.map (some r2))), (13, .is (.slice a3 sh.length c3)), (14, .is (.int .i64 ((i : Int) - 1)))])
      (fun i => i) sh.length ⟨hb4, hm1, ⟨[], (MapAt.new eS hk3).le hle4, by rw [List.drop_length]; exact met_nil⟩, by rw [List.drop_length]; rfl, Nat.le_refl _, rfl⟩ ⟨rfl, rfl, rfl, rfl, trivial⟩ ?_
    rintro i e k5 ⟨hle5, hm5, ⟨kv2, hm52, hs2⟩, hal, hi, rfl⟩
    repeat (first | refine cg_seq ?_ | refine cg_region ?_ | refine rg_nil ?_ | refine eg_then ?_ | refine qsp ?_)
    refine cg_cond rfl (fun h => ?_) (fun h => ?_)
    · have hpos : 1 ≤ i := by simp at h; omega
      obtain ⟨j, rfl⟩ : ∃ j, i = j + 1 := ⟨i - 1, by omega⟩
      rw [show ((j + 1 : Nat) : Int) - 1 = (j : Int) by omega]
      have hlt : j < sh.length := by omega
      obtain ⟨b, hbj⟩ : ∃ b, sh[j] = b := ⟨_, rfl⟩
      obtain ⟨bx, ox, cx, rfl, ⟨ra, rc, rfl, hrec, hbok⟩, hcx⟩ := hs3.el j sh[j] (List.getElem?_eq_getElem hlt)
      rw [hbj] at hcx hrec
      have hcxb := hcx
      have hcx := hcx.le hle5
      have hdrop : recsAll (sh.drop j) = b.recs ++ recsAll (sh.drop (j + 1)) := by
        rw [List.drop_eq_getElem_cons hlt, hbj]; simp [recsAll]
      obtain ⟨S0, hS0⟩ : ∃ S0, recsAll (sh.drop (j + 1)) = S0 := ⟨_, rfl⟩
      rw [hS0] at hs2 hal hdrop
      obtain ⟨p0, p1, p2, p3, p4, p5, p6, p7, p8, p9⟩ := Batch.parts hcx
      have b5 := hrec.cap; have b6 := hrec.max; unfold maxLen at b6
      have bad : ∀ A r S, b.recs ++ S0 = A ++ r :: S → neededP r S = true → toldP l r = false → errOf (allS (toldP l) (recsAll sh)) 321 = .int .i64 321 := fun A r S h1 h2 h3 => by
        have e0 : recsAll sh = recsAll (sh.take j) ++ recsAll (sh.drop j) := by
          unfold recsAll
          rw [← List.flatMap_append, List.take_append_drop]
        have : allS (toldP l) (recsAll sh) = false := by
          rw [e0, hdrop, h1]
          refine allS_app (allS_app ?_)
          simp [allS, h2, h3]
        simp [errOf, this]
      repeat (first | refine cg_seq ?_ | refine cg_region ?_ | refine rg_nil ?_ | refine eg_then ?_ | refine qsp ?_ | refine qsn ?_ | refine qss ?_ | refine qsi ?_ | refine qsl ?_ | refine qsf ?_ | refine cg_skip ?_ | refine cg_block ?_)
      refine cg_loop (fun (m : Nat) e k' => Le kb k' ∧ MapAt eR k' r1 kv1 ∧ (∃ kv, MapAt eS k' r2 kv ∧ MetMap (b.recs.drop m ++ S0) kv) ∧ allS (toldP l) (b.recs.drop m ++ S0) = true ∧ m ≤ b.recs.length ∧ e = [(9, .is (.map (some r1))), (12, .is (.map (some r2))), (13, .is (.slice (some ⟨bx, ox, none⟩) sh.length c3)), (14, .is (.int .i64 (j : Int))), (15, .is (.int .i64 ((m : Int) - 1)))])
        (fun m => m) b.recs.length ⟨hle5, hm5, ⟨kv2, hm52, by rw [List.drop_length]; exact hs2⟩, by rw [List.drop_length]; exact hal, Nat.le_refl _, rfl⟩ ⟨rfl, rfl, rfl, rfl, rfl, trivial⟩ ?_
      rintro m e k6 ⟨hle6, hm6, ⟨kv3, hm63, hs3'⟩, hal', hmi, rfl⟩
      repeat (first | refine cg_seq ?_ | refine cg_region ?_ | refine rg_nil ?_ | refine eg_then ?_ | refine qsp ?_)
      refine cg_cond rfl (fun h => ?_) (fun h => ?_)
      · have hpos : 1 ≤ m := by simp at h; omega
        obtain ⟨q, rfl⟩ : ∃ q, m = q + 1 := ⟨m - 1, by omega⟩
        rw [show ((q + 1 : Nat) : Int) - 1 = (q : Int) by omega]
        have hqlt : q < b.recs.length := by omega
        obtain ⟨r, hrq⟩ : ∃ r, b.recs[q] = r := ⟨_, rfl⟩
        obtain ⟨by', oy, cy, hra, ⟨rfl, hrok⟩, hcy⟩ := (hrec.le hle6).el q b.recs[q] (List.getElem?_eq_getElem hqlt)
        subst hra
        rw [hrq] at hcy
        have hdr : b.recs.drop q ++ S0 = r :: (b.recs.drop (q + 1) ++ S0) := by
          rw [List.drop_eq_getElem_cons hqlt, hrq]; rfl
        have hfull : b.recs ++ S0 = b.recs.take q ++ r :: (b.recs.drop (q + 1) ++ S0) := by
          rw [← hdr, ← List.append_assoc, List.take_append_drop]
        have bad := bad _ r _ hfull
        obtain ⟨S, hS⟩ : ∃ S, b.recs.drop (q + 1) ++ S0 = S := ⟨_, rfl⟩
        rw [hS] at hs3' hal' bad hdr
        obtain ⟨p0, p1, p2, p3, p4, p5, p6, p7, p8, p9⟩ := Batch.parts (hcxb.le hle6)
        repeat (first | refine cg_seq ?_ | refine cg_region ?_ | refine eg_then ?_ | refine qsp ?_ | refine qsi ?_ | refine qsl ?_ | refine qsg ?_ | refine qsf ?_ | refine cg_skip ?_ | refine cg_block ?_)
        refine rb rfl rfl rfl rfl (a_alloc rfl) ?_; intro b7 k7 hb7 hN7 hle7 hk7
        skip
        refine rw1 rfl rfl rfl rfl rfl rfl rfl hk7 rfl (.inl hN7) ?_ ?_; (simp [Tp.vs, Mark.vs, OpenT.vs, Gone.vs, Tx.cs, View.cs, Rec.vs, Batch.cs, Who.vs, Pl.vs, Told.vs, Fact.vs, Place.vs, Value.oneCell']); intro k8 ht8 hk8
        have c8 := cells_at (vs := r.vs) hk8 rfl
        have hle8 : Le k6 k8 := ht8 k6 hle7 hb7
        have hm6 := hm6.le hle8
        have hm63 := hm63.le hle8
        obtain ⟨e0, e1, e2, e3, e4⟩ := Rec.parts c8
        have hlk := hs3' r.key
        repeat (first | refine cg_seq ?_ | refine cg_region ?_ | refine rg_nil ?_ | refine eg_then ?_ | refine qsp ?_ | refine qsl ?_ | refine qsf ?_)
        apply meetR (P := Tryz.prog) (F := F) (n := 90) (k := k8) [(79, .is (.map (some r2))), (81, .is (.string r.key)), (9, .is (.map (some r1))), (12, .is (.map (some r2))), (13, .is (.slice (some ⟨bx, ox, none⟩) sh.length c3)), (14, .is (.int .i64 (j : Int))), (15, .is (.int .i64 (q : Int))), (16, .is (.pointer (some ⟨b7, 0, none⟩))), (17, .is (.bool (!neededP r S)))] True
        · intro go
          cases q1 : decide (r.key = { data := #[] })
          · repeat (first | refine qsp ?_ | refine qsl ?_ | refine qsf ?_)
            refine rs rfl rfl (loc_det rfl (d_look (enc := eS) (x := r.key) hm63 rfl rfl rfl)) ?_
            rw [hlk]
            cases q2 : S.any (fun x => decide (x.key = r.key))
            · repeat (first | refine cg_seq ?_ | refine cg_region ?_ | refine rg_nil ?_ | refine eg_then ?_ | refine qsp ?_ | refine qsl ?_ | refine qsf ?_)
              have hn : neededP r S = !r.dead := by unfold neededP; rw [q1, q2]; rfl
              refine go _ trivial ?_
              exact ⟨rfl, rfl, rfl, rfl, rfl, rfl, rfl, rfl, by rw [hn, Bool.not_not]; rfl, trivial⟩
            · repeat (first | refine cg_seq ?_ | refine cg_region ?_ | refine rg_nil ?_ | refine eg_then ?_ | refine qsp ?_ | refine qsl ?_ | refine qsf ?_ | refine qso ?_)
              have hn : neededP r S = false := by unfold neededP; rw [q1, q2]; rfl
              refine go _ trivial ?_
              exact ⟨rfl, rfl, rfl, rfl, rfl, rfl, rfl, rfl, by rw [hn]; rfl, trivial⟩
          · repeat (first | refine cg_seq ?_ | refine cg_region ?_ | refine rg_nil ?_ | refine eg_then ?_ | refine qsp ?_ | refine qsl ?_ | refine qsf ?_ | refine qso ?_)
            have hn : neededP r S = true := by unfold neededP; rw [q1]; rfl
            refine go _ trivial ?_
            exact ⟨rfl, rfl, rfl, rfl, rfl, rfl, rfl, rfl, by rw [hn]; rfl, trivial⟩
        · intro _
          skip
          refine r_put (enc := eS) (x := r.key) hm63 hN2 rfl rfl rfl rfl rfl rfl rfl ?_
          intro k9 ht9 hm9
          have hle9 : Le kb k9 := ht9 kb (hle6.trans hle8) hbr2
          have hm69 := hm6.turn1 ht9 n21.symm
          have c9 : Cells k9 b7 0 r.vs := cells_at (turn1_get ht9 (by
            obtain ⟨_, _, g, _⟩ := hm63
            rintro rfl
            rw [hk8] at g
            cases g) hk8) rfl
          repeat (first | refine cg_seq ?_ | refine cg_region ?_ | refine rg_nil ?_ | refine eg_then ?_ | refine qsp ?_)
          have hmet : MetMap (b.recs.drop q ++ S0) (kput r.key (.bool true) kv3) := by rw [hdr]; exact met_put hs3' r
          cases hn : neededP r S
          · repeat (first | refine cg_region ?_ | refine rg_nil ?_ | refine eg_then ?_ | refine qsp ?_ | refine qss ?_ | refine qso ?_ | refine cg_cond_false rfl ?_ | refine cg_skip ?_ | refine eg_in_normal ?_)
            refine eg_again q _ ⟨hle9, hm69, ⟨_, hm9, hmet⟩, by rw [hdr]; simp [allS, hn, hal'], by omega, rfl⟩ (by omega) ⟨rfl, rfl, rfl, rfl, rfl, trivial⟩
          · have hto := hs1 r
            repeat (first | refine qsp ?_ | refine qsg ?_)
            refine rs rfl rfl (loc_det rfl (d_look (enc := eR) (x := r) hm69 rfl rfl rfl)) ?_
            rw [hto]
            cases htl : toldP l r
            · repeat (first | refine cg_seq ?_ | refine cg_region ?_ | refine rg_nil ?_ | refine eg_then ?_ | refine qsp ?_ | refine cg_cond_true rfl ?_ | refine cg_ret ?_ | refine eg_then_ret ?_ | refine eg_in_ret ?_)
              refine eg_return rfl rfl ?_
              exact (bad hn htl).symm
            · repeat (first | refine cg_region ?_ | refine rg_nil ?_ | refine eg_then ?_ | refine qsp ?_ | refine qss ?_ | refine cg_cond_false rfl ?_ | refine cg_skip ?_ | refine eg_in_normal ?_)
              refine eg_again q _ ⟨hle9, hm69, ⟨_, hm9, hmet⟩, by rw [hdr]; simp [allS, hn, hal', htl], by omega, rfl⟩ (by omega) ⟨rfl, rfl, rfl, rfl, rfl, trivial⟩
      · have hm0 : m = 0 := by simp at h; omega
        subst hm0
        rw [List.drop_zero] at hs3' hal'
        repeat (first | refine cg_region ?_ | refine rg_nil ?_ | refine eg_then ?_ | refine qsp ?_ | refine qss ?_ | refine eg_in_normal ?_ | refine cg_exit ?_ | refine eg_then_exit ?_ | refine eg_in_exit ?_)
        exact eg_again j _ ⟨hle6, hm6, ⟨kv3, hm63, by rw [hdrop]; exact hs3'⟩, by rw [hdrop]; exact hal', by omega, rfl⟩ (by omega) ⟨rfl, rfl, rfl, rfl, trivial⟩
    · have hi0 : i = 0 := by simp at h; omega
      subst hi0
      rw [List.drop_zero] at hal
      repeat (first | refine cg_seq ?_ | refine cg_region ?_ | refine rg_nil ?_ | refine eg_then ?_ | refine qsp ?_ | refine cg_ret ?_ | refine cg_exit ?_ | refine eg_then_exit ?_ | refine eg_in_exit ?_)
      refine eg_return rfl rfl ?_
      rw [hal]; rfl
end Go.Wm
