/-
  The example of layer 12, in plain Lean, and that short batches of the right form are taken. Conditions: none.
-/
import Derived.Test.YtjonlpdnhbnmmaaGreatY3
import Derived.Test.YtjonlpdnhbnmmaaGreatIns
import Derived.Test.YtjonlpdnhbnmmaaGreatX7
set_option linter.all false
namespace Go.Wm
open Go.RowKit Go.Proofs

theorem pair_of_adj {α : Type} {f : α → Int} : ∀ {l : List α}, (∀ i, (h : i < l.length) → 0 < i → f l[i - 1] < f l[i]) → l.Pairwise (fun x y => f x < f y) := by
  intro l h
  rw [List.pairwise_iff_getElem]
  intro i j hi hj hij
  induction j with
  | zero => omega
  | succ j ih =>
    have h1 := h (j + 1) hj (by omega)
    simp only [Nat.add_sub_cancel] at h1
    by_cases e : i = j
    · subst e; exact h1
    · have := ih (by omega) (by omega); omega
theorem opens_iff {l : List OpenT} : Opens l ↔ (∀ o ∈ l, (inO o.pid && inO o.first) = true) ∧ l.Pairwise (fun x y => x.pid < y.pid) := by
  refine ⟨fun h => ⟨fun o ho => ?_, pair_of_adj (f := OpenT.pid) fun i hi h0 => (h i hi).2 h0⟩, fun h i hi => ⟨h.1 _ (List.getElem_mem _), fun h0 => List.pairwise_iff_getElem.1 h.2 _ _ _ _ (by omega)⟩⟩
  obtain ⟨i, hi, rfl⟩ := List.getElem_of_mem ho
  exact (h i hi).1
theorem ended_iff {l : List Gone} : Ended l ↔ (∀ o ∈ l, okGone o = true) ∧ l.Pairwise (fun x y => x.last < y.last) := by
  refine ⟨fun h => ⟨fun o ho => ?_, pair_of_adj (f := Gone.last) fun i hi h0 => (h i hi).2 h0⟩, fun h i hi => ⟨h.1 _ (List.getElem_mem _), fun h0 => List.pairwise_iff_getElem.1 h.2 _ _ _ _ (by omega)⟩⟩
  obtain ⟨i, hi, rfl⟩ := List.getElem_of_mem ho
  exact (h i hi).1
theorem txP_iff {t : Tx} : txP t = true ↔ Opens t.openV ∧ Ended t.gone ∧ Ended t.done := by
  simp [txP]
theorem chk_form {b : Batch} (h : chkB b = 0) : FormP b := by
  unfold chkB at h
  split at h
  · assumption
  · omega
theorem behind_iff {t : Tx} {base : Int} : behindB t base = true ↔ (∀ o ∈ t.openV, o.first < base) ∧ (∀ g ∈ t.gone, g.last < base) ∧ (∀ g ∈ t.done, g.last < base) := by
  simp [behindB]
theorem putErr_iff {t : Tx} {b : Batch} : putErr t b = 0 ↔ txP t = true ∧ chkB b = 0 ∧ behindB t b.base = true := by
  unfold putErr
  by_cases h1 : txP t = true
  · by_cases h2 : chkB b = 0
    · by_cases h3 : behindB t b.base = true <;> simp [h1, h2, h3]
    · simp [h1, h2]
  · simp [h1]
theorem place_lt {l : List OpenT} {pid : Int} : ∀ o ∈ l.take (placeO l pid), o.pid < pid := by
  intro o ho
  have e : l.take (placeO l pid) = l.takeWhile fun o => decide (o.pid < pid) := by
    unfold placeO
    exact (List.prefix_iff_eq_take.1 (List.takeWhile_prefix _)).symm
  rw [e] at ho
  have h0 := @List.all_takeWhile _ (fun o : OpenT => decide (o.pid < pid)) l
  rw [List.all_eq_true] at h0
  simpa using h0 o ho
theorem place_ge {l : List OpenT} {pid : Int} (h : placeO l pid < l.length) : ¬ l[placeO l pid].pid < pid := by
  induction l with
  | nil => simp at h
  | cons x l ih =>
    by_cases hx : x.pid < pid
    · have e : placeO (x :: l) pid = placeO l pid + 1 := by simp [placeO, List.takeWhile_cons, hx]
      simp only [e] at h ⊢
      simpa using ih (by simpa using h)
    · have e : placeO (x :: l) pid = 0 := by simp [placeO, List.takeWhile_cons, hx]
      simp only [e]
      simpa using hx
theorem there_iff {l : List OpenT} {pid : Int} : thereO l pid = true ↔ ∃ h : placeO l pid < l.length, l[placeO l pid].pid = pid := by
  unfold thereO
  simp only [decide_eq_true_eq, Option.map_eq_some_iff]
  constructor
  · rintro ⟨a, h1, h2⟩
    obtain ⟨h, e⟩ := List.getElem?_eq_some_iff.1 h1
    exact ⟨h, by rw [e]; exact h2⟩
  · rintro ⟨h, e⟩
    exact ⟨_, List.getElem?_eq_getElem h, e⟩
/-- From where it would stand on, all are greater, if it is not there. -/
theorem place_gt {l : List OpenT} {pid : Int} (hp : l.Pairwise fun x y => x.pid < y.pid) (ht : ¬ thereO l pid = true) : ∀ o ∈ l.drop (placeO l pid), pid < o.pid := by
  intro o ho
  obtain ⟨i, hi, rfl⟩ := List.getElem_of_mem ho
  rw [List.length_drop] at hi
  have h0 : placeO l pid < l.length := by omega
  have h1 := place_ge h0
  have h2 : l[placeO l pid].pid ≠ pid := fun e => ht (there_iff.2 ⟨h0, e⟩)
  rw [List.getElem_drop]
  rcases Nat.eq_zero_or_pos i with rfl | hi0
  · simp only [Nat.add_zero]; omega
  · have := List.pairwise_iff_getElem.1 hp (placeO l pid) (placeO l pid + i) h0 (by omega) (by omega)
    omega
theorem len_less {t : Tx} {b : Batch} (ht : thereO t.openV b.pid = true) : (lessT t b).length + 1 = t.openV.length := by
  have := thereO_lt ht
  simp [lessT]; omega
theorem less_sub {t : Tx} {b : Batch} : (lessT t b).Sublist t.openV := by
  unfold lessT
  rw [← List.eraseIdx_eq_take_drop_succ]
  exact List.eraseIdx_sublist _ _
theorem len_opens (t : Tx) (b : Batch) : (opensT t b).openV.length = t.openV.length + 1 := by
  have := placeO_le t.openV b.pid
  simp [opensT]; omega
theorem mem_opens {t : Tx} {b : Batch} {o : OpenT} : o ∈ (opensT t b).openV ↔ o ∈ t.openV ∨ o = ⟨b.pid, b.base⟩ := by
  have e : (o ∈ t.openV) ↔ (o ∈ t.openV.take (placeO t.openV b.pid) ∨ o ∈ t.openV.drop (placeO t.openV b.pid)) := by
    rw [← List.mem_append, List.take_append_drop]
  rw [e]
  simp only [opensT, List.mem_append, List.mem_cons]
  constructor
  · rintro (h | h | h)
    · exact .inl (.inl h)
    · exact .inr h
    · exact .inl (.inr h)
  · rintro ((h | h) | h)
    · exact .inl h
    · exact .inr (.inr h)
    · exact .inr (.inl h)
theorem pid_ok {b : Batch} (h : chkB b = 0) (ht : b.txn = true) : 0 ≤ b.pid ∧ b.pid ≤ 1099511627776 := by
  have f := chk_form h
  by_cases e : b.pid = -1
  · have := (f.none e).2.2.1
    rw [ht] at this; cases this
  · exact f.some e
theorem opens_ok {t : Tx} {b : Batch} (h : putErr t b = 0) (ht : b.txn = true) (hn : ¬ thereO t.openV b.pid = true) : Opens (opensT t b).openV := by
  obtain ⟨h1, h2, h3⟩ := putErr_iff.1 h
  obtain ⟨g1, g2⟩ := opens_iff.1 (txP_iff.1 h1).1
  have f := chk_form h2
  refine opens_iff.2 ⟨fun o ho => ?_, ?_⟩
  · rcases mem_opens.1 ho with h | rfl
    · exact g1 o h
    · simp only [Bool.and_eq_true, inO_iff]
      exact ⟨pid_ok h2 ht, f.base⟩
  · refine List.pairwise_append.2 ⟨g2.sublist (List.take_sublist _ _), List.pairwise_cons.2 ⟨fun o ho => place_gt g2 hn o ho, g2.sublist (List.drop_sublist _ _)⟩, fun a ha c hc => ?_⟩
    rcases List.mem_cons.1 hc with rfl | hc
    · exact place_lt a ha
    · have := place_lt a ha
      have := place_gt g2 hn c hc
      omega
theorem gone_first {t : Tx} {b : Batch} (ht : placeO t.openV b.pid < t.openV.length) : (goneOf t b).first = t.openV[placeO t.openV b.pid].first := by
  simp [goneOf, List.getElem?_eq_getElem ht]
theorem gone_okB {t : Tx} {b : Batch} (h : putErr t b = 0) (hc : b.ctl ≠ 0) (ht : thereO t.openV b.pid = true) : okGone (goneOf t b) = true := by
  obtain ⟨h1, h2, h3⟩ := putErr_iff.1 h
  obtain ⟨g1, g2⟩ := opens_iff.1 (txP_iff.1 h1).1
  have f := chk_form h2
  obtain ⟨e1, e2⟩ := there_iff.1 ht
  have q1 := (behind_iff.1 h3).1 _ (List.getElem_mem e1)
  have q2 := g1 _ (List.getElem_mem e1)
  have q3 := pid_ok h2 (f.ctl hc).2.2.2.1
  simp only [Bool.and_eq_true, inO_iff] at q2
  have q4 := gone_first e1
  have q5 := f.seq
  have q6 := f.base
  have r1 : (goneOf t b).pid = b.pid := rfl
  have r2 : (goneOf t b).no = b.seq := rfl
  have r3 : (goneOf t b).last = b.base := rfl
  simp only [okGone, Bool.and_eq_true, decide_eq_true_eq, inO_iff, r1, r2, r3, q4]
  omega
theorem ended_snoc {l : List Gone} {g : Gone} (h : Ended l) (hg : okGone g = true) (hl : ∀ x ∈ l, x.last < g.last) : Ended (l ++ [g]) := by
  obtain ⟨h1, h2⟩ := ended_iff.1 h
  refine ended_iff.2 ⟨fun o ho => ?_, List.pairwise_append.2 ⟨h2, List.pairwise_singleton _ _, fun a ha c hc => ?_⟩⟩
  · rcases List.mem_append.1 ho with h | h
    · exact h1 o h
    · rw [List.mem_singleton.1 h]; exact hg
  · rw [List.mem_singleton.1 hc]; exact hl a ha
/-- What a batch makes of transactions that may be may be. -/
theorem put_ok {t : Tx} {b : Batch} (h : putErr t b = 0) : txP (putT t b) = true := by
  obtain ⟨h1, h2, h3⟩ := putErr_iff.1 h
  obtain ⟨p1, p2, p3⟩ := txP_iff.1 h1
  obtain ⟨b1, b2, b3⟩ := behind_iff.1 h3
  obtain ⟨g1, g2⟩ := opens_iff.1 p1
  unfold putT
  split
  · split
    · rename_i hc ht
      simp only [Bool.and_eq_true, Bool.not_eq_true'] at ht
      exact txP_iff.2 ⟨opens_ok h ht.1 (by simp [ht.2]), p2, p3⟩
    · exact h1
  · rename_i hc
    split
    · rename_i ht
      have hl : Opens (lessT t b) := opens_iff.2 ⟨fun o ho => g1 o (less_sub.subset ho), g2.sublist less_sub⟩
      split
      · exact txP_iff.2 ⟨hl, ended_snoc p2 (gone_okB h hc ht) b2, p3⟩
      · exact txP_iff.2 ⟨hl, p2, ended_snoc p3 (gone_okB h hc ht) b3⟩
    · exact h1
/-- How many are known: as many, or one more. -/
theorem put_len (t : Tx) (b : Batch) : (putT t b = t ∧ True) ∨ (b.ctl = 0 ∧ b.txn = true ∧ thereO t.openV b.pid = false ∧ putT t b = opensT t b) ∨ (b.ctl ≠ 0 ∧ thereO t.openV b.pid = true ∧ (putT t b = ⟨lessT t b, t.gone ++ [goneOf t b], t.done⟩ ∨ putT t b = ⟨lessT t b, t.gone, t.done ++ [goneOf t b]⟩)) := by
  unfold putT
  split
  · split
    · rename_i hc ht
      simp only [Bool.and_eq_true, Bool.not_eq_true'] at ht
      exact .inr (.inl ⟨hc, ht.1, ht.2, rfl⟩)
    · exact .inl ⟨rfl, trivial⟩
  · rename_i hc
    split
    · rename_i ht
      split
      · exact .inr (.inr ⟨hc, ht, .inl rfl⟩)
      · exact .inr (.inr ⟨hc, ht, .inr rfl⟩)
    · exact .inl ⟨rfl, trivial⟩
def sizeT (t : Tx) : Nat := t.openV.length + t.gone.length + t.done.length
theorem putT_size (t : Tx) (b : Batch) : sizeT (putT t b) ≤ sizeT t + 1 := by
  unfold sizeT
  rcases put_len t b with ⟨h, _⟩ | ⟨_, _, _, h⟩ | ⟨_, ht, h | h⟩
  · rw [h]; omega
  · rw [h, len_opens]
    show _ + t.gone.length + t.done.length ≤ _
    omega
  · have := len_less ht
    rw [h]; simp only [List.length_append, List.length_singleton]; omega
  · have := len_less ht
    rw [h]; simp only [List.length_append, List.length_singleton]; omega
/-- One step of all: a batch that may not be put is passed. -/
def stepT (t : Tx) (b : Batch) : Tx := if putErr t b = 0 then putT t b else t
def ofT (bs : List Batch) : Tx := bs.foldl stepT noTx
theorem of_snoc (bs : List Batch) (b : Batch) : ofT (bs ++ [b]) = stepT (ofT bs) b := by simp [ofT]
theorem step_size (t : Tx) (b : Batch) : sizeT (stepT t b) ≤ sizeT t + 1 := by
  unfold stepT
  split
  · exact putT_size t b
  · omega
theorem of_size (bs : List Batch) : sizeT (ofT bs) ≤ bs.length := by
  have : ∀ (l : List Batch) (t : Tx), sizeT (l.foldl stepT t) ≤ sizeT t + l.length := by
    intro l
    induction l with
    | nil => intro t; simp
    | cons b l ih => intro t; have := ih (stepT t b); have := step_size t b; simp only [List.foldl_cons, List.length_cons]; omega
  have h := this bs noTx
  have e : sizeT noTx = 0 := rfl
  unfold ofT
  omega
end Go.Wm
namespace Go.Wm
open Go.RowKit Go.Proofs

/-- How the next batch of a producer that ends a transaction ends it; 0: there is none. -/
def nextE (rest : List Batch) (p : Int) : Int := match rest.find? (fun c => decide (c.pid = p) && !decide (c.ctl = 0)) with
  | some c => c.ctl
  | none => 0
/-- What is known of a batch of a transaction, by how the next of its producer that ends one does. -/
structure J (c : Batch) (nx : Int) (t : Tx) : Prop where
  opn : nx = 0 → (∃ o ∈ t.openV, o.pid = c.pid ∧ o.first ≤ c.base) ∧ ∀ g ∈ t.gone, g.pid = c.pid → g.last ≤ c.base
  shut : nx ≠ 0 → ∀ o ∈ t.openV, o.pid = c.pid → c.base < o.first
  done : nx = 1 → ∀ g ∈ t.gone, ¬ (g.pid = c.pid ∧ g.first ≤ c.base ∧ c.base < g.last)
  gone : nx = 2 → ∃ g ∈ t.gone, g.pid = c.pid ∧ g.first ≤ c.base ∧ c.base < g.last
theorem ctl_cases {b : Batch} (h : chkB b = 0) : b.ctl = 0 ∨ b.ctl = 1 ∨ b.ctl = 2 := by
  by_cases e : b.ctl = 0
  · exact .inl e
  · exact .inr ((chk_form h).ctl e).1
/-- All that is known lies behind whatever lies behind all batches. -/
def Bnd (l : List Batch) (t : Tx) : Prop := ∀ m, (∀ c ∈ l, c.last < m) → behindB t m = true
def Inv (l : List Batch) (t : Tx) : Prop := ∀ i, (h : i < l.length) → l[i].ctl = 0 → l[i].txn = true → J l[i] (nextE (l.drop (i + 1)) l[i].pid) t
/-- What is shown of batches that rise, below what is stable: what is committed. -/
def wantB (l : List Batch) (i : Nat) (b : Batch) (to : Int) : Bool := (decide (b.ctl = 0) && decide (b.last < to)) && (!b.txn || decide (nextE (l.drop (i + 1)) b.pid = 1))
def wantN (l : List Batch) (to : Int) : Nat → List Batch
  | 0 => []
  | i + 1 => wantN l to i ++ (if h : i < l.length then (if wantB l i l[i] to = true then [l[i]] else []) else [])
end Go.Wm
namespace Go.Wm
open Go.RowKit Go.Proofs

def liveB (to : Int) (b : Batch) : Bool := decide (b.ctl = 0) && decide (b.last < to)
def trimL (start : Int) (l : List Gone) : List Gone := l.filter fun g => !decide (g.last < start)
def ahead (fr : Int) (b : Batch) : Bool := decide (fr ≤ b.base) && decide (chkB b = 0)
end Go.Wm
namespace Go.Wm
open Go.RowKit Go.Proofs
attribute [local irreducible] RG CG EG WA Loc Det Alc CT Exit.then Exit.inBlock Code.wp bodyPost
theorem of_take {bs : List Batch} {i : Nat} (h : i < bs.length) : ofT (bs.take (i + 1)) = stepT (ofT (bs.take i)) bs[i] := by
  rw [List.take_succ_eq_append_getElem h, of_snoc]
theorem of_bound {bs : List Batch} (hb : bs.length ≤ 1000000) (i : Nat) : (ofT (bs.take i)).openV.length ≤ 1000000 ∧ (ofT (bs.take i)).gone.length ≤ 1000000 ∧ (ofT (bs.take i)).done.length ≤ 1000000 := by
  have h := of_size (bs.take i)
  rw [List.length_take] at h
  unfold sizeT at h
  omega
set_option maxHeartbeats 1000000 in
theorem txOf_ct {k : PH} {a : Option Addr} {c : Nat} {bs : List Batch} (hl : Sl tBatch k a c bs) (hb : bs.length ≤ 1000000) :
    CT Tryz.prog 20 #[.slice a bs.length c] k (TxVal (ofT bs)) := by
  refine ct_of_body (l := [_]) Tryz.func20 rfl Tryz.ntmps20 (by simp) TxVal.mono fun F hF0 hFm => ?_
  have b1' := hl.cap; have b2' := hl.max; unfold maxLen at b2'
  repeat (first | refine cg_seq ?_ | refine cg_region ?_)
  refine rb rfl rfl rfl rfl (a_alloc rfl) ?_; intro b1 k1 hb1 hN1 hle1 hk1
  repeat (first | refine cg_seq ?_ | refine cg_region ?_ | refine rg_nil ?_ | refine eg_then ?_)
  refine rb rfl rfl rfl rfl (a_alloc rfl) ?_; intro b2 k2 hb2 hN2 hle2 hk2
  have hb12 : b1 ≠ b2 := fun e => by rw [← e, hk1] at hb2; cases hb2
  repeat (first | refine cg_seq ?_ | refine cg_region ?_ | refine rg_nil ?_ | refine eg_then ?_ | refine qsp ?_ | refine qsn ?_ | refine cg_block ?_)
  refine cg_loop (fun (i : Nat) e k' => ∃ h a0 c0 a1 c1 a2 c2 z1, Le k h ∧ Le h k' ∧ h b1 = none ∧ h b2 = none ∧ i ≤ bs.length ∧ k' b1 = some (.cells z1 25 (0, 0)) ∧ z1.size = 3 ∧ k' b2 = some (.cells ((ofT (bs.take i)).cs a0 c0 a1 c1 a2 c2).toArray 25 (0, 0)) ∧ TxAt h (ofT (bs.take i)) a0 c0 a1 c1 a2 c2 ∧
      e = [(0, .is (.slice a bs.length c)), (2, .is (.pointer (some ⟨b1, 0, none⟩))), (3, .is (.pointer (some ⟨b2, 0, none⟩))), (8, .is (.slice a bs.length c)), (9, .is (.int .i64 (bs.length : Int))), (10, .is (.int .i64 (i : Int)))])
    (fun i => bs.length - i) 0 ⟨k, none, 0, none, 0, none, 0, _, Le.refl _, hle1.trans hle2, hb1, hle1.none hb2, Nat.zero_le _, hle2 _ _ hk1, rfl, hk2, noTxAt _, rfl⟩ ⟨rfl, rfl, rfl, rfl, rfl, rfl, trivial⟩ ?_
  rintro i e k3 ⟨h, a0, c0, a1, c1, a2, c2, z1, hkh, hhk, hn1, hn2, hi, hk1, hz1, hk2, htx, rfl⟩
  have c2' := cells_at (vs := (ofT (bs.take i)).cs a0 c0 a1 c1 a2 c2) hk2 rfl
  repeat (first | refine cg_seq ?_ | refine cg_region ?_ | refine rg_nil ?_ | refine eg_then ?_ | refine qsp ?_)
  refine cg_cond rfl (fun hc => ?_) (fun hc => ?_)
  · have hlt : i < bs.length := by simpa using hc
    obtain ⟨bx, ox, cx, ea, ⟨ra, rc, ecx, hr, hok⟩, hcx⟩ := (hl.le (hkh.trans hhk)).el i bs[i] (List.getElem?_eq_getElem hlt)
    obtain ⟨bx', ox', cx', ea', ⟨ra', rc', ecx', hr', _⟩, hcx'⟩ := (hl.le hkh).el i bs[i] (List.getElem?_eq_getElem hlt)
    have hcxx := hcx'.le hhk
    rw [ecx'] at hcxx
    clear hcx hr ecx hcx'
    subst ea'
    clear ea
    repeat (first | refine cg_seq ?_ | refine cg_region ?_ | refine eg_then ?_ | refine qsi ?_ | refine qsg ?_ | refine cg_skip ?_ | refine cg_block ?_)
    refine rb rfl rfl rfl rfl (a_alloc rfl) ?_; intro b5 k5 hb5 hN5 hle5 hk5
    skip
    refine rw1 (vs := bs[i].cs ra' rc') rfl rfl rfl rfl rfl rfl rfl hk5 rfl (.inl hN5) ?_ ?_
    · simp [Batch.cs, Value.oneCell']
    intro k6 ht6 hk6
    have c6 := cells_at (vs := bs[i].cs ra' rc') hk6 rfl
    have hle6 : Le k3 k6 := ht6 k3 hle5 hb5
    have c2' := c2'.le hle6
    have hk1 := hle6 _ _ hk1
    have hk2 := hle6 _ _ hk2
    obtain ⟨q0, q1, q2⟩ := of_bound hb i
    repeat (first | refine cg_seq ?_ | refine cg_region ?_ | refine rg_nil ?_ | refine eg_then ?_ | refine qsg ?_)
    refine rvh (h := h) rfl rfl rfl rfl rfl rfl rfl (hhk.trans hle6) (txPut_ct htx hr' hok q0 q1 q2) ?_
    rintro h2 k7 v hh2 hold hle7 hh7 ⟨p0, d0, p1, d1, p2, d2, rfl, hput⟩
    have hk1 := hle7 _ _ hk1
    have hk2 := hle7 _ _ hk2
    have hm1 : h2 b1 = none := by rw [hold b1 _ (hle6 _ _ ‹k3 b1 = _›)]; exact hn1
    have hm2 : h2 b2 = none := by rw [hold b2 _ (hle6 _ _ ‹k3 b2 = _›)]; exact hn2
    repeat (first | refine qsp ?_)
    refine rb rfl rfl rfl rfl (a_alloc rfl) ?_; intro b8 k8 hb8 hN8 hle8 hk8
    skip
    refine rw1 (vs := (putR (ofT (bs.take i)) bs[i]).cs p0 d0 p1 d1 p2 d2) rfl rfl rfl rfl rfl rfl rfl hk8 rfl (.inl hN8) ?_ ?_
    · simp [Tx.cs, Value.oneCell']
    intro k9 ht9 hk9
    have c9 := cells_at (vs := (putR (ofT (bs.take i)) bs[i]).cs p0 d0 p1 d1 p2 d2) hk9 rfl
    have hle9 : Le k7 k9 := ht9 k7 hle8 hb8
    have hk1 := hle9 _ _ hk1
    have hk2 := hle9 _ _ hk2
    have hN2' := hN2
    repeat (first | refine cg_seq ?_ | refine cg_region ?_ | refine rg_nil ?_ | refine eg_then ?_ | refine qsp ?_)
    cases q : (putErr (ofT (bs.take i)) bs[i] == 0)
    · have q' : putErr (ofT (bs.take i)) bs[i] ≠ 0 := by simpa using q
      repeat (first | refine cg_region ?_ | refine rg_nil ?_ | refine eg_then ?_ | refine qsp ?_ | refine qsa ?_ | refine cg_cond_false rfl ?_ | refine cg_skip ?_ | refine eg_in_normal ?_)
      refine eg_again (i + 1) _ ⟨h, a0, c0, a1, c1, a2, c2, z1, hkh, (hhk.trans hle6).trans (hle7.trans hle9), hn1, hn2, hlt, hk1, hz1, ?_, ?_, rfl⟩ (by omega) ⟨rfl, rfl, rfl, rfl, rfl, rfl, trivial⟩
      · rw [of_take hlt, stepT, if_neg q']; exact hk2
      · rw [of_take hlt, stepT, if_neg q']; exact htx
    · have q' : putErr (ofT (bs.take i)) bs[i] = 0 := by simpa using q
      have eR : putR (ofT (bs.take i)) bs[i] = ofT (bs.take (i + 1)) := by rw [of_take hlt, stepT, if_pos q', putR, if_pos q']
      rw [eR] at c9 hput
      rw [eR]
      repeat (first | refine cg_region ?_ | refine qsg ?_ | refine cg_cond_true rfl ?_)
      refine rw1 (vs := (ofT (bs.take (i + 1))).cs p0 d0 p1 d1 p2 d2) rfl rfl rfl rfl rfl rfl rfl hk2 rfl (.inl hN2) ?_ ?_
      · simp [Tx.cs, Value.oneCell']
      intro k10 ht10 hk10
      repeat (first | refine cg_region ?_ | refine rg_nil ?_ | refine eg_then ?_ | refine qsp ?_ | refine qsa ?_ | refine eg_in_normal ?_)
      exact eg_again (i + 1) _ ⟨h2, p0, d0, p1, d1, p2, d2, z1, hkh.trans hh2, ht10 h2 (hh7.trans hle9) hm2, hm1, hm2, hlt, turn1_get ht10 hb12 hk1, hz1, hk10, hput, rfl⟩ (by omega) ⟨rfl, rfl, rfl, rfl, rfl, rfl, trivial⟩
  · have hil : i = bs.length := by simp at hc; omega
    subst hil
    rw [List.take_length] at c2' htx
    repeat (first | refine cg_seq ?_ | refine cg_region ?_ | refine eg_then ?_ | refine qsg ?_ | refine cg_exit ?_ | refine eg_then_exit ?_ | refine eg_in_exit ?_)
    refine rw1 (vs := (ofT bs).cs a0 c0 a1 c1 a2 c2) rfl rfl rfl rfl rfl rfl rfl hk1 (by rw [hz1]; rfl) (.inl hN1) ?_ ?_
    · simp [Tx.cs, Value.oneCell']
    intro k9 ht9 hk9
    have c9 := cells_at (vs := (ofT bs).cs a0 c0 a1 c1 a2 c2) hk9 rfl
    repeat (first | refine rg_nil ?_ | refine eg_then ?_ | refine cg_ret ?_)
    exact eg_returnC rfl rfl rfl c9 rfl ⟨a0, c0, a1, c1, a2, c2, rfl, htx.le (ht9 h hhk hn1)⟩
end Go.Wm
namespace Go.Wm
open Go.RowKit
/-- The new block, of which nothing is known; then what lies in it. -/
def XS (N d0 sz : Nat) (kr : PH) (ty : TypeId) (φ : PH → Value → Prop) : Nat → (Nat → Value) → PH → World → Prop := fun s tm k w => N ≤ w.heap.size ∧
  (s = 1 → ∃ b c, tm d0 = .pointer (some ⟨b, 0, none⟩) ∧ w.heap[b]? = some (.cells c ty (0, 0)) ∧ c.size = sz ∧ k b = none ∧ b < w.heap.size ∧ N ≤ b ∧ kr b = none) ∧
  (s = 2 → ∃ b u k0, tm d0 = .pointer (some ⟨b, 0, none⟩) ∧ w.heap[b]? = some (.cells u.cells ty (0, 0)) ∧ φ k0 u ∧ Le kr k0 ∧ (∀ i o, k0 i = some o → i < w.heap.size ∧ k i = some o) ∧ k b = none ∧ b < w.heap.size ∧ N ≤ b ∧ kr b = none)
section
variable {P : Program} {F : Fr} {n : Nat} {ops : Array Oper} {Q : Exit → Act → World → Prop} {rest : List Oper} {o : Oper} {e : Env} {k : PH}
theorem cg_sto {id : Nat} {l : List Oper} [hm : Mixed P] (m0 j0 j1 d0 sz : Nat) (ty : TypeId) (φ : PH → Value → Prop) (hok : okAny n l = true) (htail : tailOk m0 l = true) (hml : Nat.ble m0 l.length = true) (hch : chainOk (masks l []) [j0, j1] m0 = true) (hd0 : ((l.take m0)[j0]?).bind (·.dst) = some d0) (hdet : det e = true)
    (h : WC P F n l.toArray (masks l []) [j0, j1] k (XS F.w0.heap.size d0 sz k ty φ) (fun e' => ∀ k0 kq k' vs b u, Le k k0 → φ k0 u → Le k0 kq → kq b = none → Le kq k' → k' b = some (.cells u.cells ty (0, 0)) → F.w0.heap.size ≤ b → vs d0 = .pointer (some ⟨b, 0, none⟩) → (∀ t p, get e' t = some p → p.holds kq (vs t)) → RG P F n l.toArray Q (l.drop m0) (nameE vs e') k') 0 (l.take m0) e) :
    CG P F n Q (.region id l.toArray true) e k := by
  intro a w ha hs
  have hlen : (l.take m0).length = m0 := by
    have := Nat.le_of_ble_eq_true hml
    simp; omega
  have hsplit : l.take m0 ++ l.drop m0 = l := List.take_append_drop m0 l
  generalize hA : l.take m0 = A at *
  generalize hT : l.drop m0 = T at *
  subst hlen
  rw [← hsplit] at hok htail hch h ⊢
  refine region_chain (F := F) (k := k) hm.eq hok htail hch (fun s tm k w k' w' hb hag hX => ⟨Nat.le_trans hX.1 hb.size, fun h0 => ?stay1, fun h0 => ?stay2⟩) (fun s tm tm' k w hsm hX => ⟨hX.1, fun h0 => ?same1, fun h0 => ?same2⟩) (fun t q hg => by obtain ⟨v, rfl⟩ := det_get hdet hg; trivial) (ha.heap hdet) hs ⟨hs.size, fun h0 => by omega, fun h0 => by omega⟩
    (WC.mono (fun e' hK k' a' w' hle hag hst hX => ?main) A 0 e h)
  case stay1 =>
    obtain ⟨b, c, h1, h2, h3, h4, h5, h6, h7⟩ := hX.2.1 h0
    exact ⟨b, c, h1, by rw [hb.block b h5]; exact h2, h3, (hag b h5).trans h4, Nat.lt_of_lt_of_le h5 hb.size, h6, h7⟩
  case stay2 =>
    obtain ⟨b, u, k0, h1, h2, h3, h3', h4, h5, h6, h7, h8⟩ := hX.2.2 h0
    exact ⟨b, u, k0, h1, by rw [hb.block b h6]; exact h2, h3, h3', fun i o hi => ⟨Nat.lt_of_lt_of_le (h4 i o hi).1 hb.size, (hag i (h4 i o hi).1).trans (h4 i o hi).2⟩, (hag b h6).trans h5, Nat.lt_of_lt_of_le h6 hb.size, h7, h8⟩
  case same1 =>
    have e0 : tm' d0 = tm d0 := by
      obtain ⟨o0, ho0, hd⟩ := Option.bind_eq_some_iff.1 hd0
      exact hsm 0 j0 o0 d0 (by omega) rfl ho0 hd
    rw [e0]
    exact hX.2.1 h0
  case same2 =>
    have e0 : tm' d0 = tm d0 := by
      obtain ⟨o0, ho0, hd⟩ := Option.bind_eq_some_iff.1 hd0
      exact hsm 0 j0 o0 d0 (by omega) rfl ho0 hd
    rw [e0]
    exact hX.2.2 h0
  case main =>
    obtain ⟨b, u, k0, h1, h2, h3, h3', h4, h5, h6, h7, h8⟩ := hX.2.2 rfl
    have hlk : Le k' (upd k' b (.cells u.cells ty (0, 0))) := le_new h5 _
    have hst' : St F (upd k' b (.cells u.cells ty (0, 0))) w' := ⟨hst.os, hst.tape, hst.output, hst.size, hst.old, fun i o hi => ?sub, fun i hi hmu => ?keep⟩
    refine hK k0 k' (upd k' b (.cells u.cells ty (0, 0))) (fun t => a'.tmps.getD t undef) b u h3' h3 (fun i o hi => (h4 i o hi).2) h5 hlk (upd_same _ _ _) h7 h1 (fun t p hp => hag.get t p hp) a' w' ⟨hag.size, hag.defers, fun t q hq => ?_⟩ hst'
    case sub =>
      by_cases hib : i = b
      · subst hib
        rw [upd_same] at hi
        cases hi
        exact h2
      · rw [upd_other hib] at hi
        exact hst.sub i o hi
    case keep =>
      rw [upd_other (by omega)]
      exact hst.keep i hi hmu
    · rw [nameE_get] at hq
      cases hg : get e' t with
      | none => rw [hg] at hq; cases hq
      | some p =>
        rw [hg] at hq
        cases hq
        have := hag.get t p hg
        cases p with
        | is v => exact this
        | such φ => rfl
/-- The new block. -/
theorem effs_new {sz d0 : Nat} {kr : PH} {ty : TypeId} {φ : PH → Value → Prop} {z : Array Value} (hd : o.dst = some d0) (hf : Nat.blt d0 n = true) (hg : o.guard = none) (hkr : Le kr k) (hl : Alc P e k o (fun b => .pointer (some ⟨b, 0, none⟩)) (.cells z ty (0, 0))) (hz : z.size = sz) :
    EffS P F n ops (XS F.w0.heap.size d0 sz kr ty φ) 0 o e k (.such fun _ _ => True) := by
  refine ⟨fun _ _ _ _ h => h, hg, fun a w k1 hk hs hX hsz hlo => ?_⟩
  refine (ex_value (hl a.eval w (evs_of hlo) (hs.sub.mono hk))).mono ?_
  rintro v w' ⟨rfl, rfl⟩
  have hn : k1 w.heap.size = none := hs.sub.none (Nat.le_refl _)
  refine ⟨k1, Le.refl _, hs.below (below_alloc _ _), ⟨Nat.le_trans hX.1 (by simp), fun _ => ⟨w.heap.size, z, ?_, ?_, hz, hn, by simp, hX.1, (hkr.trans hk).none hn⟩, fun h => by omega⟩, trivial⟩
  · rw [hd]
    exact put_getD_same (by rw [hsz]; simpa [Nat.blt_eq] using hf)
  · exact sub_alloc hs.sub _ _ _ (upd_same _ _ _)
/-- The store. -/
theorem effs_sto {t : TypeId} {dv sz bs d0 : Nat} {kr : PH} {ty : TypeId} {φ : PH → Value → Prop} {z : Value} [hi : TyI P t sz bs z] (hd : o.dst = none) (hg : o.guard = none) (hkr : Le kr k) (hop : o.op = .store t (.tmp d0) (.tmp dv)) (hv : get e dv = some (.such φ)) (hφ : ∀ k u, φ k u → ∃ vs : List Value, u = .agg vs.toArray ∧ vs.length = sz ∧ ∀ x ∈ vs, x.oneCell' = true) :
    EffS P F n ops (XS F.w0.heap.size d0 sz kr ty φ) 1 o e k (.such fun _ _ => True) := by
  refine ⟨fun _ _ _ _ h => h, hg, fun a w k1 hk hs hX hsz hlo => ?_⟩
  obtain ⟨b, c, h1, h2, h3, h4, h5, h6, h7⟩ := hX.2.1 rfl
  have hdv : dv ∈ o.looksAt ops := by
    unfold Oper.looksAt
    refine List.mem_append.2 (.inl ?_)
    rw [List.mem_filterMap]
    exact ⟨.tmp dv, by simp [hop, Op.operands], rfl⟩
  have hu := hlo dv hdv _ hv
  obtain ⟨vs, ev, hl, h8⟩ := hφ _ _ hu
  have e1 : a.eval (.tmp d0) = .pointer (some ⟨b, 0, none⟩) := h1
  have e2 : a.eval (.tmp dv) = .agg vs.toArray := ev
  obtain ⟨inf, hi1, hi2, _⟩ := hi.eq
  have hst := run_storeCells_at P b 0 ty vs 0 c w h2 (by omega) h8
  simp only [Nat.add_zero, Nat.zero_add] at hst
  have hrow : (c.toList.take 0 ++ vs ++ c.toList.drop vs.length).toArray = vs.toArray := by
    rw [List.drop_eq_nil_of_le (by simp; omega)]; simp
  have hrun : (execOp a.eval o).run P w = .ok .skip (w.setRow b vs.toArray) := by
    rw [← hrow]
    simp [execOp, hop, e1, e2, Instr.storeAt, Instr.sureAddr, storeVar, Value.cells, run_size hi1, hi2, hl, hst]
  refine (ex_skip hrun).mono ?_
  rintro u w' ⟨rfl, rfl⟩
  have hsize : (w.setRow b vs.toArray).heap.size = w.heap.size := by simp [World.setRow]
  refine ⟨k1, Le.refl _, ⟨hs.os, hs.tape, hs.output, by rw [hsize]; exact hs.size, fun i hi hmu => ?_, fun i ob hb => ?_, hs.keep⟩, ⟨by rw [hsize]; exact hX.1, fun h => by omega, fun _ => ⟨b, .agg vs.toArray, k1, ?_, setRow_heap w b c _ _ _ h2, ev ▸ hu, hkr.trans hk, fun i ob hb => ⟨by rw [hsize]; exact hs.sub.lt hb, hb⟩, h4, by rw [hsize]; exact h5, h6, h7⟩⟩, trivial⟩
  · rw [setRow_other w b i _ (by omega)]
    exact hs.old i hi hmu
  · have : i ≠ b := fun e => by rw [e, h4] at hb; cases hb
    rw [setRow_other w b i _ this]
    exact hs.sub i ob hb
  · rw [hd]; exact h1
end
/-- What an operation yields is told less exactly. -/
theorem loc_isv {P : Program} {n : Nat} {ops : Array Oper} {o : Oper} {e : Env} {k : PH} {v : Value} {φ : PH → Value → Prop} (h : Loc P n ops o e k (.is v)) (hg : wantedE ops e o = some true) (hm : (PV.such φ).Mono) (hφ : ∀ k', Le k k' → φ k' v) : Loc P n ops o e k (.such φ) := by
  refine ⟨hm, fun a w k1 hk hs hsz hlo => ?_⟩
  have := h.2 a w k1 hk hs hsz hlo
  rw [if_pos (wanted_of hlo hg)] at this ⊢
  refine this.mono ?_
  rintro u w' ⟨k', h1, h2, h3, h4⟩
  cases h4
  exact ⟨k', h1, h2, h3, hφ k' (hk.trans (h2.le hs))⟩
theorem loc_mv {P : Program} {n : Nat} {ops : Array Oper} {o : Oper} {e : Env} {k : PH} {t : Nat} {φ : PH → Value → Prop} (hg : o.guard = none) (hop : o.op = .move (.tmp t) ∨ o.op = .assign (.tmp t)) (ht : get e t = some (.such φ)) (hm : (PV.such φ).Mono) : Loc P n ops o e k (.such φ) := by
  have hl : (o.looksAt ops).contains t = true := by
    refine List.contains_iff_mem.2 ?_
    unfold Oper.looksAt
    refine List.mem_append.2 (.inl ?_)
    rw [List.mem_filterMap]
    rcases hop with hop | hop <;> exact ⟨.tmp t, by simp [hop, Op.operands], rfl⟩
  refine loc_elim t ht hl hm fun v k1 hle h => ?_
  refine loc_isv (v := v) (loc_det (by simp [wantedE, hg]) (d_pure ?_)) (by simp [wantedE, hg]) hm fun k' hk => hm _ _ _ hk h
  rcases hop with hop | hop <;> rw [hop] <;> simp [peval, opv, get]
end Go.Wm
namespace Go.Wm
open Go.RowKit Go.Proofs
theorem sl_turnX {α : Type} {T : Ty α} {k k' : PH} {a : Option Addr} {c g : Nat} {xs : List α} {cur : Array Value} {et : TypeId} {fr : Nat × Nat} (hs : Sl T k a c xs) (ht : Turn1 k k' g) (hg : k g = some (.cells cur et fr)) (hx : ∀ cs x, T.rep k cs x → ∃ u, cs[0]? = some u ∧ u ∉ cur.toList) (hT : ∀ cs x, T.rep k cs x → T.rep k' cs x) : Sl T k' a c xs :=
  ⟨hs.cap, hs.max, hs.nil, hs.spot, fun i x hi => by
    obtain ⟨b, off, cs, ha, hr, c', et', fr', h1, h2⟩ := hs.el i x hi
    have hne : b ≠ g := fun e => by
      subst e
      obtain ⟨u, hu, hn⟩ := hx cs x hr
      rw [hg] at h1
      cases h1
      have := h2 0 u hu
      exact hn (by rw [← Array.getElem?_toList] at this; exact List.mem_of_getElem? this)
    exact ⟨b, off, cs, ha, hT cs x hr, c', et', fr', turn1_get ht hne h1, h2⟩⟩
attribute [local irreducible] RG CG EG WA Loc Det Alc CT Exit.then Exit.inBlock Code.wp bodyPost
def trimT (t : Tx) (start : Int) : Tx := ⟨t.openV, trimL start t.gone, trimL start t.done⟩
set_option maxHeartbeats 1000000 in
theorem txTrim_ct {k : PH} {t : Tx} {a0 a1 a2 : Option Addr} {c0 c1 c2 : Nat} (start : Int) (ht : TxAt k t a0 c0 a1 c1 a2 c2) (hg : t.gone.length ≤ 1000000) (hd : t.done.length ≤ 1000000) :
    CT Tryz.prog 18 #[.agg (t.cs a0 c0 a1 c1 a2 c2).toArray, .int .i64 start] k (TxVal (trimT t start)) := by
  refine ct_of_body (l := [_, _]) Tryz.func18 rfl Tryz.ntmps18 (by simp) TxVal.mono fun F hF0 hFm => ?_
  repeat (first | refine cg_seq ?_ | refine cg_region ?_)
  refine rb rfl rfl rfl rfl (a_box rfl rfl) ?_; intro b2 k2 hb2 hN2 hle2 hk2
  refine rb rfl rfl rfl rfl (a_box rfl rfl) ?_; intro b3 k3 hb3 hN3 hle3 hk3
  refine rb rfl rfl rfl rfl (a_alloc rfl) ?_; intro b4 k4 hb4 hN4 hle4 hk4
  have hle := hle2.trans (hle3.trans hle4)
  have ct := (cells_at (vs := t.cs a0 c0 a1 c1 a2 c2) hk2 rfl).le (hle3.trans hle4)
  obtain ⟨z0, z1, z2⟩ := Tx.parts ct
  have c3 := (cells_at (vs := [.int .i64 start]) hk3 rfl).le hle4
  have ht := ht.le hle
  repeat (first | refine cg_seq ?_ | refine cg_region ?_ | refine rg_nil ?_ | refine eg_then ?_ | refine qsp ?_)
  refine cg_fresh 11 [] (by kernel_rfl) (by kernel_rfl) rfl rfl rfl ?_
  dsimp only [List.take]
  repeat (first | refine qfp ?_ | refine qfl ?_ | refine qff ?_)
  refine fs_v rfl (loc_call rfl rfl rfl rfl (fun k k' v hle ⟨a, c, h1, h2⟩ => ⟨a, c, h1, h2.le hle⟩) (without_ct (g := 49) (cap := #[.pointer (some ⟨b3, 0, none⟩)]) (fun g => decide (g.last < start)) ht.g hg (fun k0 hk0 x cm hcm => ?_))) rfl ?_
  · obtain ⟨rfl, _⟩ := hcm
    exact trim1_ct x start (c3.le hk0)
  repeat (first | refine qfp ?_ | refine qfl ?_ | refine qff ?_)
  refine fs_v rfl (loc_call rfl rfl rfl rfl (fun k k' v hle ⟨a, c, h1, h2⟩ => ⟨a, c, h1, h2.le hle⟩) (without_ct (g := 49) (cap := #[.pointer (some ⟨b3, 0, none⟩)]) (fun g => decide (g.last < start)) ht.d hd (fun k0 hk0 x cm hcm => ?_))) rfl ?_
  · obtain ⟨rfl, _⟩ := hcm
    exact trim1_ct x start (c3.le hk0)
  refine fs_v (φ := TxVal (trimT t start)) rfl (loc_elim 12 rfl (by kernel_rfl) TxVal.mono ?_) rfl ?_
  · rintro v5 k5 hle5 ⟨a5, c5, rfl, h5⟩
    refine loc_elim 16 rfl (by kernel_rfl) TxVal.mono ?_
    rintro v6 k6 hle6 ⟨a6, c6, rfl, h6⟩
    exact loc_isv (loc_det rfl (d_lit (cells := (trimT t start).cs a0 c0 a5 c5 a6 c6) rfl rfl rfl)) rfl TxVal.mono fun k' hk => ⟨a0, c0, a5, c5, a6, c6, rfl, ⟨(ht.o.le (hle5.trans hle6)).le hk, (h5.le hle6).le hk, h6.le hk⟩⟩
  refine fs_nil ?_
  intro k7 vs7 hle7 hvs7 _ _
  obtain ⟨p0, d0, p1, d1, p2, d2, e7, h7⟩ := hvs7 17 _ rfl
  clear hvs7
  dsimp only [List.drop]
  simp only [nameE, nameP]
  rw [e7]
  refine rw1 (vs := (trimT t start).cs p0 d0 p1 d1 p2 d2) rfl rfl rfl rfl rfl rfl rfl (hle7 _ _ hk4) rfl (.inl hN4) ?_ ?_
  · simp [Tx.cs, Value.oneCell']
  intro k8 ht8 hk8
  have c8 := cells_at (vs := (trimT t start).cs p0 d0 p1 d1 p2 d2) hk8 rfl
  repeat (first | refine rg_nil ?_ | refine eg_then ?_ | refine cg_ret ?_)
  refine eg_returnC rfl rfl rfl c8 rfl ⟨p0, d0, p1, d1, p2, d2, rfl, ?_⟩
  have hk47 : k7 b4 = some (.cells #[.slice none 0 0, .slice none 0 0, .slice none 0 0] 25 (0, 0)) := hle7 _ _ hk4
  refine ⟨sl_turnX h7.o ht8 hk47 (fun cs x ⟨h, _⟩ => ⟨.int .i64 x.pid, by rw [h]; rfl, by simp⟩) (fun _ _ h => h), sl_turnX h7.g ht8 hk47 (fun cs x ⟨h, _⟩ => ⟨.int .i64 x.pid, by rw [h]; rfl, by simp⟩) (fun _ _ h => h), sl_turnX h7.d ht8 hk47 (fun cs x ⟨h, _⟩ => ⟨.int .i64 x.pid, by rw [h]; rfl, by simp⟩) (fun _ _ h => h)⟩
def dataB (base pid : Int) : Batch := ⟨base, base, base, 0, pid, 0, 0, true, 0, [⟨base, ByteArray.empty, ⟨#[118]⟩, false, 0⟩]⟩
set_option maxHeartbeats 400000 in
theorem data12_ct {k : PH} (base pid : Int) (hb : I64 base) : CT Tryz.prog 33 #[.int .i64 base, .int .i64 pid] k (fun k' v => ∃ a c, v = .agg ((dataB base pid).cs a c).toArray ∧ Sl tRec k' a c (dataB base pid).recs) := by
  refine ct_of_body (l := [_, _]) Tryz.func33 rfl Tryz.ntmps33 (by simp) (fun k k' v hle ⟨a, c, h1, h2⟩ => ⟨a, c, h1, h2.le hle⟩) fun F hF0 hFm => ?_
  repeat (first | refine cg_seq ?_ | refine cg_region ?_)
  refine rb rfl rfl rfl rfl (a_alloc rfl) ?_; intro b1 k1 hb1 hN1 hle1 hk1
  repeat (first | refine cg_seq ?_ | refine cg_region ?_ | refine rg_nil ?_ | refine eg_then ?_ | refine qsp ?_)
  refine rs rfl rfl (loc_det rfl (d_lit (cells := (⟨base, ByteArray.empty, ⟨#[118]⟩, false, 0⟩ : Rec).vs) rfl rfl rfl)) ?_
  refine rb rfl rfl rfl rfl (a_slice (cells := (⟨base, ByteArray.empty, ⟨#[118]⟩, false, 0⟩ : Rec).vs) rfl rfl rfl rfl (by kernel_rfl) rfl) ?_
  intro b2 k2 hb2 hN2 hle2 hk2
  have hb21 : b2 ≠ b1 := fun e => by rw [e, hk1] at hb2; cases hb2
  skip
  refine rs rfl rfl (loc_det rfl (d_lit (cells := (dataB base pid).cs (some ⟨b2, 0, none⟩) 1) rfl rfl rfl)) ?_
  refine rw1 (vs := (dataB base pid).cs (some ⟨b2, 0, none⟩) 1) rfl rfl rfl rfl rfl rfl rfl (hle2 _ _ hk1) rfl (.inl hN1) ?_ ?_
  · simp [Batch.cs, Value.oneCell']
  intro k3 ht3 hk3
  have c3 := cells_at (vs := (dataB base pid).cs (some ⟨b2, 0, none⟩) 1) hk3 rfl
  repeat (first | refine rg_nil ?_ | refine eg_then ?_ | refine cg_ret ?_)
  refine eg_returnC rfl rfl rfl c3 rfl ⟨_, _, rfl, ?_⟩
  exact sl_block (T := tRec) (css := [(⟨base, ByteArray.empty, ⟨#[118]⟩, false, 0⟩ : Rec).vs]) (turn1_get ht3 hb21 hk2) (Pieces.one (T := tRec) ⟨rfl, hb, Nat.zero_le _, show 1 ≤ maxLen by unfold maxLen; omega, trivial, by unfold I64; constructor <;> simp⟩) (Nat.le_refl _) (by unfold maxLen; omega) rfl rfl
end Go.Wm
namespace Go.Wm
open Go.RowKit Go.Proofs
theorem chk_short {b : Batch} (h : FormP b) (hn : b.recs.length ≤ 5) : chkB b = 0 := by
  have h1 := pre_len h
  have h2 := stampL_len h b.recs.length
  have h3 := flat_recs_len h (b.recs.take b.recs.length) fun r hr => h.few.1 r (List.mem_of_mem_take hr)
  rw [List.length_take] at h3
  have h4 : (bodyL b b.recs.length).length ≤ 1200 := by
    simp only [bodyL, List.length_append]
    omega
  have h5 : (batchL b).length ≤ 2048 := by
    unfold batchL
    rw [List.length_append, bigL_len, sealL_len]
    omega
  rw [chkB, if_pos h, if_pos h5]
def exL : List Batch := [dataB 0 7, dataB 1 8, dataB 2 7, endB 3 7 1, endB 4 8 2]
def tA : Tx := ⟨[⟨8, 1⟩], [], [⟨7, 0, 0, 3⟩]⟩
def uA : Tx := ⟨[], [⟨8, 0, 1, 4⟩], [⟨7, 0, 0, 3⟩]⟩
def oddT : Tx := ⟨[⟨-1, 0⟩], [], []⟩
theorem ex0 : chkB (dataB 0 7) = 0 := chk_short (by decide +kernel) (by decide)
theorem ex1 : chkB (dataB 1 8) = 0 := chk_short (by decide +kernel) (by decide)
theorem ex2 : chkB (dataB 2 7) = 0 := chk_short (by decide +kernel) (by decide)
theorem ex3 : chkB (endB 3 7 1) = 0 := chk_short (by decide +kernel) (by decide)
theorem ex4 : chkB (endB 4 8 2) = 0 := chk_short (by decide +kernel) (by decide)
theorem put_good {t : Tx} {b : Batch} (h1 : txP t = true) (h2 : chkB b = 0) (h3 : behindB t b.base = true) : putErr t b = 0 := putErr_iff.2 ⟨h1, h2, h3⟩
theorem step_ex {t t' : Tx} {b : Batch} (h1 : txP t = true) (h2 : chkB b = 0) (h3 : behindB t b.base = true) (h4 : putT t b = t') : stepT t b = t' := by
  rw [stepT, if_pos (put_good h1 h2 h3), h4]
theorem ex_of : ofT (exL.take 4) = tA := by
  show stepT (stepT (stepT (stepT noTx (dataB 0 7)) (dataB 1 8)) (dataB 2 7)) (endB 3 7 1) = tA
  rw [step_ex (t' := ⟨[⟨7, 0⟩], [], []⟩) (by decide +kernel) ex0 (by decide +kernel) (by decide +kernel), step_ex (t' := ⟨[⟨7, 0⟩, ⟨8, 1⟩], [], []⟩) (by decide +kernel) ex1 (by decide +kernel) (by decide +kernel),
    step_ex (t' := ⟨[⟨7, 0⟩, ⟨8, 1⟩], [], []⟩) (by decide +kernel) ex2 (by decide +kernel) (by decide +kernel), step_ex (t' := tA) (by decide +kernel) ex3 (by decide +kernel) (by decide +kernel)]
theorem ex_err : putErr tA (endB 4 8 2) = 0 := put_good (by decide +kernel) ex4 (by decide +kernel)
theorem ex_put : putR tA (endB 4 8 2) = uA := by rw [putR, if_pos ex_err]; decide +kernel
theorem ex_order : putErr tA (dataB 0 7) = 71 := by
  have h1 : txP tA = true := by decide +kernel
  have h2 : behindB tA (dataB 0 7).base = false := by decide +kernel
  rw [putErr, if_pos h1, if_pos ex0, if_neg (by rw [h2]; decide)]
theorem ex_show : exL.filter (showB uA.gone 5) = [dataB 0 7, dataB 2 7] := by decide +kernel
theorem ex_s1 : stabP tA 4 = 1 := by decide +kernel
theorem ex_s2 : stabP uA 5 = 5 := by decide +kernel
theorem ex_h1 : hiddenL uA 5 9 = [] := by decide +kernel
theorem ex_h2 : (hiddenL uA 4 9).length = 1 := by decide +kernel
theorem ex_okU : txP uA = true := by decide +kernel
theorem ex_odd : txP oddT = false := by decide +kernel
end Go.Wm
