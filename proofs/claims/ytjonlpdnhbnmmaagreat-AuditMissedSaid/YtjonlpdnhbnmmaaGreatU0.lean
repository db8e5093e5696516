/-
  What is said of lists of what was told (layer 32). Conditions: none.
-/
import Derived.Test.YtjonlpdnhbnmmaaGreatQ2
import Derived.Test.YtjonlpdnhbnmmaaGreatIns
import Derived.Test.YtjonlpdnhbnmmaaGreatX7
import Derived.Test.YtjonlpdnhbnmmaaGreatT1
import Derived.Test.YtjonlpdnhbnmmaaGreatCoB
set_option linter.all false
namespace Go.Wm
open Go.RowKit Go.Proofs

def liveB (to : Int) (b : Batch) : Bool := decide (b.ctl = 0) && decide (b.last < to)
def trimL (start : Int) (l : List Gone) : List Gone := l.filter fun g => !decide (g.last < start)
def ahead (fr : Int) (b : Batch) : Bool := decide (fr ≤ b.base) && decide (chkB b = 0)
end Go.Wm
namespace Go.Wm
open Go.RowKit Go.Proofs
attribute [local irreducible] RG CG EG WA Loc Det Alc CT Exit.then Exit.inBlock Code.wp bodyPost
theorem of_take {bs : List Batch} {i : Nat} (h : i < bs.length) : ofT (bs.take (i + 1)) = stepT (ofT (bs.take i)) bs[i] := by
  rw [List.take_succ_eq_append_getElem h, of_snoc]
theorem of_bound {bs : List Batch} (hb : bs.length ≤ 1000000) (i : Nat) : (ofT (bs.take i)).openV.length ≤ 1000000 ∧ (ofT (bs.take i)).gone.length ≤ 1000000 ∧ (ofT (bs.take i)).done.length ≤ 1000000 := by
  have h := of_size (bs.take i)
  rw [List.length_take] at h
  unfold sizeT at h
  omega
set_option maxHeartbeats 1000000 in
theorem txOf_ct {k : PH} {a : Option Addr} {c : Nat} {bs : List Batch} (hl : Sl tBatch k a c bs) (hb : bs.length ≤ 1000000) :
    CT Tryz.prog 20 #[.slice a bs.length c] k (TxVal (ofT bs)) := by
  refine ct_of_body (l := [_]) Tryz.func20 rfl Tryz.ntmps20 (by simp) TxVal.mono fun F hF0 hFm => ?_
  have b1' := hl.cap; have b2' := hl.max; unfold maxLen at b2'
  repeat (first | refine cg_seq ?_ | refine cg_region ?_)
  refine rb rfl rfl rfl rfl (a_alloc rfl) ?_; intro b1 k1 hb1 hN1 hle1 hk1
  repeat (first | refine cg_seq ?_ | refine cg_region ?_ | refine rg_nil ?_ | refine eg_then ?_)
  refine rb rfl rfl rfl rfl (a_alloc rfl) ?_; intro b2 k2 hb2 hN2 hle2 hk2
  have hb12 : b1 ≠ b2 := fun e => by rw [← e, hk1] at hb2; cases hb2
  repeat (first | refine cg_seq ?_ | refine cg_region ?_ | refine rg_nil ?_ | refine eg_then ?_ | refine qsp ?_ | refine qsn ?_ | refine cg_block ?_)
  refine cg_loop (fun (i : Nat) e k' => ∃ h a0 c0 a1 c1 a2 c2 z1, Le k h ∧ Le h k' ∧ h b1 = none ∧ h b2 = none ∧ i ≤ bs.length ∧ k' b1 = some (.cells z1 25 (0, 0)) ∧ z1.size = 3 ∧ k' b2 = some (.cells ((ofT (bs.take i)).cs a0 c0 a1 c1 a2 c2).toArray 25 (0, 0)) ∧ TxAt h (ofT (bs.take i)) a0 c0 a1 c1 a2 c2 ∧
      e = [(0, .is (.slice a bs.length c)), (2, .is (.pointer (some ⟨b1, 0, none⟩))), (3, .is (.pointer (some ⟨b2, 0, none⟩))), (8, .is (.slice a bs.length c)), (9, .is (.int .i64 (bs.length : Int))), (10, .is (.int .i64 (i : Int)))])
    (fun i => bs.length - i) 0 ⟨k, none, 0, none, 0, none, 0, _, Le.refl _, hle1.trans hle2, hb1, hle1.none hb2, Nat.zero_le _, hle2 _ _ hk1, rfl, hk2, noTxAt _, rfl⟩ ⟨rfl, rfl, rfl, rfl, rfl, rfl, trivial⟩ ?_
  rintro i e k3 ⟨h, a0, c0, a1, c1, a2, c2, z1, hkh, hhk, hn1, hn2, hi, hk1, hz1, hk2, htx, rfl⟩
  have c2' := cells_at (vs := (ofT (bs.take i)).cs a0 c0 a1 c1 a2 c2) hk2 rfl
  repeat (first | refine cg_seq ?_ | refine cg_region ?_ | refine rg_nil ?_ | refine eg_then ?_ | refine qsp ?_)
  refine cg_cond rfl (fun hc => ?_) (fun hc => ?_)
  · have hlt : i < bs.length := by simpa using hc
    obtain ⟨bx, ox, cx, ea, ⟨ra, rc, ecx, hr, hok⟩, hcx⟩ := (hl.le (hkh.trans hhk)).el i bs[i] (List.getElem?_eq_getElem hlt)
    obtain ⟨bx', ox', cx', ea', ⟨ra', rc', ecx', hr', _⟩, hcx'⟩ := (hl.le hkh).el i bs[i] (List.getElem?_eq_getElem hlt)
    have hcxx := hcx'.le hhk
    rw [ecx'] at hcxx
    clear hcx hr ecx hcx'
    subst ea'
    clear ea
    repeat (first | refine cg_seq ?_ | refine cg_region ?_ | refine eg_then ?_ | refine qsi ?_ | refine qsg ?_ | refine cg_skip ?_ | refine cg_block ?_)
    refine rb rfl rfl rfl rfl (a_alloc rfl) ?_; intro b5 k5 hb5 hN5 hle5 hk5
    skip
    refine rw1 (vs := bs[i].cs ra' rc') rfl rfl rfl rfl rfl rfl rfl hk5 rfl (.inl hN5) ?_ ?_
    · simp [Batch.cs, Value.oneCell']
    intro k6 ht6 hk6
    have c6 := cells_at (vs := bs[i].cs ra' rc') hk6 rfl
    have hle6 : Le k3 k6 := ht6 k3 hle5 hb5
    have c2' := c2'.le hle6
    have hk1 := hle6 _ _ hk1
    have hk2 := hle6 _ _ hk2
    obtain ⟨q0, q1, q2⟩ := of_bound hb i
    repeat (first | refine cg_seq ?_ | refine cg_region ?_ | refine rg_nil ?_ | refine eg_then ?_ | refine qsg ?_)
    refine rvh (h := h) rfl rfl rfl rfl rfl rfl rfl (hhk.trans hle6) (txPut_ct htx hr' hok q0 q1 q2) ?_
    rintro h2 k7 v hh2 hold hle7 hh7 ⟨p0, d0, p1, d1, p2, d2, rfl, hput⟩
    have hk1 := hle7 _ _ hk1
    have hk2 := hle7 _ _ hk2
    have hm1 : h2 b1 = none := by rw [hold b1 _ (hle6 _ _ ‹k3 b1 = _›)]; exact hn1
    have hm2 : h2 b2 = none := by rw [hold b2 _ (hle6 _ _ ‹k3 b2 = _›)]; exact hn2
    repeat (first | refine qsp ?_)
    refine rb rfl rfl rfl rfl (a_alloc rfl) ?_; intro b8 k8 hb8 hN8 hle8 hk8
    skip
    refine rw1 (vs := (putR (ofT (bs.take i)) bs[i]).cs p0 d0 p1 d1 p2 d2) rfl rfl rfl rfl rfl rfl rfl hk8 rfl (.inl hN8) ?_ ?_
    · simp [Tx.cs, Value.oneCell']
    intro k9 ht9 hk9
    have c9 := cells_at (vs := (putR (ofT (bs.take i)) bs[i]).cs p0 d0 p1 d1 p2 d2) hk9 rfl
    have hle9 : Le k7 k9 := ht9 k7 hle8 hb8
    have hk1 := hle9 _ _ hk1
    have hk2 := hle9 _ _ hk2
    have hN2' := hN2
    repeat (first | refine cg_seq ?_ | refine cg_region ?_ | refine rg_nil ?_ | refine eg_then ?_ | refine qsp ?_)
    cases q : (putErr (ofT (bs.take i)) bs[i] == 0)
    · have q' : putErr (ofT (bs.take i)) bs[i] ≠ 0 := by simpa using q
      repeat (first | refine cg_region ?_ | refine rg_nil ?_ | refine eg_then ?_ | refine qsp ?_ | refine qsa ?_ | refine cg_cond_false rfl ?_ | refine cg_skip ?_ | refine eg_in_normal ?_)
      refine eg_again (i + 1) _ ⟨h, a0, c0, a1, c1, a2, c2, z1, hkh, (hhk.trans hle6).trans (hle7.trans hle9), hn1, hn2, hlt, hk1, hz1, ?_, ?_, rfl⟩ (by omega) ⟨rfl, rfl, rfl, rfl, rfl, rfl, trivial⟩
      · rw [of_take hlt, stepT, if_neg q']; exact hk2
      · rw [of_take hlt, stepT, if_neg q']; exact htx
    · have q' : putErr (ofT (bs.take i)) bs[i] = 0 := by simpa using q
      have eR : putR (ofT (bs.take i)) bs[i] = ofT (bs.take (i + 1)) := by rw [of_take hlt, stepT, if_pos q', putR, if_pos q']
      rw [eR] at c9 hput
      rw [eR]
      repeat (first | refine cg_region ?_ | refine qsg ?_ | refine cg_cond_true rfl ?_)
      refine rw1 (vs := (ofT (bs.take (i + 1))).cs p0 d0 p1 d1 p2 d2) rfl rfl rfl rfl rfl rfl rfl hk2 rfl (.inl hN2) ?_ ?_
      · simp [Tx.cs, Value.oneCell']
      intro k10 ht10 hk10
      repeat (first | refine cg_region ?_ | refine rg_nil ?_ | refine eg_then ?_ | refine qsp ?_ | refine qsa ?_ | refine eg_in_normal ?_)
      exact eg_again (i + 1) _ ⟨h2, p0, d0, p1, d1, p2, d2, z1, hkh.trans hh2, ht10 h2 (hh7.trans hle9) hm2, hm1, hm2, hlt, turn1_get ht10 hb12 hk1, hz1, hk10, hput, rfl⟩ (by omega) ⟨rfl, rfl, rfl, rfl, rfl, rfl, trivial⟩
  · have hil : i = bs.length := by simp at hc; omega
    subst hil
    rw [List.take_length] at c2' htx
    repeat (first | refine cg_seq ?_ | refine cg_region ?_ | refine eg_then ?_ | refine qsg ?_ | refine cg_exit ?_ | refine eg_then_exit ?_ | refine eg_in_exit ?_)
    refine rw1 (vs := (ofT bs).cs a0 c0 a1 c1 a2 c2) rfl rfl rfl rfl rfl rfl rfl hk1 (by rw [hz1]; rfl) (.inl hN1) ?_ ?_
    · simp [Tx.cs, Value.oneCell']
    intro k9 ht9 hk9
    have c9 := cells_at (vs := (ofT bs).cs a0 c0 a1 c1 a2 c2) hk9 rfl
    repeat (first | refine rg_nil ?_ | refine eg_then ?_ | refine cg_ret ?_)
    exact eg_returnC rfl rfl rfl c9 rfl ⟨a0, c0, a1, c1, a2, c2, rfl, htx.le (ht9 h hhk hn1)⟩
end Go.Wm
namespace Go.Wm
open Go.RowKit
/-- The new block, of which nothing is known; then what lies in it. -/
def XS (N d0 sz : Nat) (kr : PH) (ty : TypeId) (φ : PH → Value → Prop) : Nat → (Nat → Value) → PH → World → Prop := fun s tm k w => N ≤ w.heap.size ∧
  (s = 1 → ∃ b c, tm d0 = .pointer (some ⟨b, 0, none⟩) ∧ w.heap[b]? = some (.cells c ty (0, 0)) ∧ c.size = sz ∧ k b = none ∧ b < w.heap.size ∧ N ≤ b ∧ kr b = none) ∧
  (s = 2 → ∃ b u k0, tm d0 = .pointer (some ⟨b, 0, none⟩) ∧ w.heap[b]? = some (.cells u.cells ty (0, 0)) ∧ φ k0 u ∧ Le kr k0 ∧ (∀ i o, k0 i = some o → i < w.heap.size ∧ k i = some o) ∧ k b = none ∧ b < w.heap.size ∧ N ≤ b ∧ kr b = none)
section
variable {P : Program} {F : Fr} {n : Nat} {ops : Array Oper} {Q : Exit → Act → World → Prop} {rest : List Oper} {o : Oper} {e : Env} {k : PH}
end
/-- What an operation yields is told less exactly. -/
theorem loc_isv {P : Program} {n : Nat} {ops : Array Oper} {o : Oper} {e : Env} {k : PH} {v : Value} {φ : PH → Value → Prop} (h : Loc P n ops o e k (.is v)) (hg : wantedE ops e o = some true) (hm : (PV.such φ).Mono) (hφ : ∀ k', Le k k' → φ k' v) : Loc P n ops o e k (.such φ) := by
  refine ⟨hm, fun a w k1 hk hs hsz hlo => ?_⟩
  have := h.2 a w k1 hk hs hsz hlo
  rw [if_pos (wanted_of hlo hg)] at this ⊢
  refine this.mono ?_
  rintro u w' ⟨k', h1, h2, h3, h4⟩
  cases h4
  exact ⟨k', h1, h2, h3, hφ k' (hk.trans (h2.le hs))⟩
theorem loc_mv {P : Program} {n : Nat} {ops : Array Oper} {o : Oper} {e : Env} {k : PH} {t : Nat} {φ : PH → Value → Prop} (hg : o.guard = none) (hop : o.op = .move (.tmp t) ∨ o.op = .assign (.tmp t)) (ht : get e t = some (.such φ)) (hm : (PV.such φ).Mono) : Loc P n ops o e k (.such φ) := by
  have hl : (o.looksAt ops).contains t = true := by
    refine List.contains_iff_mem.2 ?_
    unfold Oper.looksAt
    refine List.mem_append.2 (.inl ?_)
    rw [List.mem_filterMap]
    rcases hop with hop | hop <;> exact ⟨.tmp t, by simp [hop, Op.operands], rfl⟩
  refine loc_elim t ht hl hm fun v k1 hle h => ?_
  refine loc_isv (v := v) (loc_det (by simp [wantedE, hg]) (d_pure ?_)) (by simp [wantedE, hg]) hm fun k' hk => hm _ _ _ hk h
  rcases hop with hop | hop <;> rw [hop] <;> simp [peval, opv, get]
end Go.Wm
namespace Go.Wm
open Go.RowKit Go.Proofs
attribute [local irreducible] RG CG EG WA Loc Det Alc CT Exit.then Exit.inBlock Code.wp bodyPost
def trimT (t : Tx) (start : Int) : Tx := ⟨t.openV, trimL start t.gone, trimL start t.done⟩
def dataB (base pid : Int) : Batch := ⟨base, base, base, 0, pid, 0, 0, true, 0, [⟨base, ByteArray.empty, ⟨#[118]⟩, false, 0⟩]⟩
end Go.Wm
namespace Go.Wm
open Go.RowKit Go.Proofs
def exL : List Batch := [dataB 0 7, dataB 1 8, dataB 2 7, endB 3 7 1, endB 4 8 2]
def tA : Tx := ⟨[⟨8, 1⟩], [], [⟨7, 0, 0, 3⟩]⟩
def uA : Tx := ⟨[], [⟨8, 0, 1, 4⟩], [⟨7, 0, 0, 3⟩]⟩
def oddT : Tx := ⟨[⟨-1, 0⟩], [], []⟩
end Go.Wm
namespace Go.Wm
open Go.RowKit Go.Proofs
attribute [local irreducible] RG CG EG WA Loc Det Alc CT Exit.then Exit.inBlock Code.wp bodyPost
theorem i64_0 : I64 0 := ⟨by decide, by decide⟩
end Go.Wm
namespace Go.Wm
open Go.RowKit Go.Proofs
attribute [local irreducible] RG CG EG WA Loc Det Alc CT Exit.then Exit.inBlock Code.wp bodyPost
/-- Was a place told? -/
def atP (l : List Told) (tp : Tp) (off : Int) : Bool := l.any fun t => decide (t.tp = tp) && decide (t.off = off)
/-- Was one of a partition, with a greater offset, told? -/
def aboveP (l : List Told) (tp : Tp) (off : Int) : Bool := l.any fun t => decide (t.tp = tp) && decide (off < t.off)
theorem any_take_succ {α : Type} {p : α → Bool} {l : List α} {i : Nat} (h : i < l.length) : (l.take (i + 1)).any p = ((l.take i).any p || p l[i]) := by
  rw [List.take_succ_eq_append_getElem h, List.any_append]; simp
/-- Each is as it may be behind those ahead of it. -/
def Scan {α : Type} (p : List α → α → Bool) (l : List α) : Prop := ∀ i, (h : i < l.length) → p (l.take i) l[i] = true
instance {α : Type} (p : List α → α → Bool) (l : List α) : Decidable (Scan p l) := by unfold Scan; infer_instance
/-- Is one of those in order, behind these? -/
def ordOk (pre : List Told) (t : Told) : Bool := !(!atP pre t.tp t.off && aboveP pre t.tp t.off)
/-- Is one told once, behind these? -/
def onceOk (ms : List Mark) (pre : List Told) (t : Told) : Bool :=
  match markP ms t.tp with
  | none => true
  | some m => !(decide (m ≤ t.off) && atP pre t.tp t.off) && !(pre.any fun s => (decide (s.tp = t.tp) && decide (m ≤ s.off)) && decide (t.off < m))
/-- Was a record told? -/
def toldP (l : List Told) (r : Rec) : Bool := l.any fun t => decide (t.off = r.off) && decide (t.recV = r)
theorem onceOk_none {ms : List Mark} {pre : List Told} {t : Told} (h : markP ms t.tp = none) : onceOk ms pre t = true := by
  simp [onceOk, h]
theorem onceOk_some {ms : List Mark} {pre : List Told} {t : Told} {m : Int} (h : markP ms t.tp = some m) : onceOk ms pre t = (!(decide (m ≤ t.off) && atP pre t.tp t.off) && !(pre.any fun s => (decide (s.tp = t.tp) && decide (m ≤ s.off)) && decide (t.off < m))) := by
  simp [onceOk, h]
/-- Where a record was told. -/
def ofP (t : Told) : Place := ⟨t.tp, t.off⟩
theorem audOf_ct {k : PH} (t : Told) : CT Tryz.prog 56 #[.agg t.vs.toArray] k (fun _ v => v = .agg (ofP t).vs.toArray) := by
  refine ct_of_body (l := [_]) Tryz.func56 rfl Tryz.ntmps56 (by simp) (fun _ _ _ _ h => h) fun F hF0 hFm => ?_
  repeat (first | refine cg_seq ?_ | refine cg_region ?_)
  refine rb rfl rfl rfl rfl (a_box rfl rfl) ?_; intro b1 k1 hb1 hN1 hle1 hk1
  have c1 := cells_at (vs := t.vs) hk1 rfl
  obtain ⟨p0, p1, _⟩ := Told.parts c1
  skip
  refine rb rfl rfl rfl rfl (a_alloc rfl) ?_; intro b2 k2 hb2 hN2 hle2 hk2
  have p0 := p0.le hle2
  have p1 := p1.le hle2
  repeat (first | refine cg_seq ?_ | refine cg_region ?_ | refine rg_nil ?_ | refine eg_then ?_ | refine qsl ?_ | refine qsg ?_ | refine qsf ?_)
  refine rs rfl rfl (loc_det rfl (d_lit (cells := (ofP t).vs) rfl rfl rfl)) ?_
  refine rw1 rfl rfl rfl rfl rfl rfl rfl hk2 rfl (.inl hN2) ?_ ?_; (simp [Tp.vs, Mark.vs, OpenT.vs, Gone.vs, Tx.cs, View.cs, Rec.vs, Batch.cs, Who.vs, Pl.vs, Told.vs, Fact.vs, Place.vs, Value.oneCell']); intro k3 ht3 hk3
  repeat (first | refine rg_nil ?_ | refine eg_then ?_ | refine cg_ret ?_)
  exact eg_returnC rfl rfl rfl (cells_at (vs := (ofP t).vs) hk3 rfl) rfl rfl
/-- A record at an offset of a partition. -/
def oneP (off : Int) : Told := ⟨⟨⟨#[116]⟩, 0, 0⟩, off, off + 10, ⟨off, .empty, ⟨#[118]⟩, false, 0⟩⟩
theorem one_ct {k : PH} {off : Int} (h1 : -9223372036854775808 ≤ off) (h2 : off ≤ 9223372036854775797) : CT Tryz.prog 52 #[.int .i64 off] k (fun _ v => v = .agg (oneP off).vs.toArray) := by
  refine ct_of_body (l := [_]) Tryz.func52 rfl Tryz.ntmps52 (by simp) (fun _ _ _ _ h => h) fun F hF0 hFm => ?_
  repeat (first | refine cg_seq ?_ | refine cg_region ?_)
  refine rb rfl rfl rfl rfl (a_alloc rfl) ?_; intro b2 k2 hb2 hN2 hle2 hk2
  repeat (first | refine cg_seq ?_ | refine cg_region ?_ | refine rg_nil ?_ | refine eg_then ?_)
  refine rs rfl rfl (loc_det rfl (d_lit (cells := (Tp.mk ⟨#[116]⟩ 0 0).vs) rfl rfl rfl)) ?_
  repeat (first | refine qsp ?_ | refine qsa ?_)
  refine rs rfl rfl (loc_det rfl (d_lit (cells := (Rec.mk off .empty ⟨#[118]⟩ false 0).vs) rfl rfl rfl)) ?_
  refine rs rfl rfl (loc_det rfl (d_lit (cells := (oneP off).vs) rfl rfl rfl)) ?_
  refine rw1 rfl rfl rfl rfl rfl rfl rfl hk2 rfl (.inl hN2) ?_ ?_; (simp [Tp.vs, Mark.vs, OpenT.vs, Gone.vs, Tx.cs, View.cs, Rec.vs, Batch.cs, Who.vs, Pl.vs, Told.vs, Fact.vs, Place.vs, Value.oneCell']); intro k3 ht3 hk3
  repeat (first | refine rg_nil ?_ | refine eg_then ?_ | refine cg_ret ?_)
  exact eg_returnC rfl rfl rfl (cells_at (vs := (oneP off).vs) hk3 rfl) rfl rfl
/-- Is a record needed, ahead of others? -/
def neededP (r : Rec) (rest : List Rec) : Bool := decide (r.key = ⟨#[]⟩) || (!(rest.any fun x => decide (x.key = r.key)) && !r.dead)
/-- One as it was at home. -/
def homeT (t : Told) : Told := { t with off := t.fromV, recV := { t.recV with off := t.fromV } }
/-- Those of a partition, as they were at home. -/
def homeP (l : List Told) (tp : Tp) : List Told := (l.filter fun t => decide (t.tp = tp)).map homeT
theorem homeP_succ {l : List Told} {tp : Tp} {i : Nat} (h : i < l.length) : homeP (l.take (i + 1)) tp = homeP (l.take i) tp ++ (if l[i].tp = tp then [homeT l[i]] else []) := by
  rw [List.take_succ_eq_append_getElem h]
  simp only [homeP, List.filter_append, List.map_append]
  congr 1
  by_cases e : l[i].tp = tp <;> simp [e]
theorem homeP_len (l : List Told) (tp : Tp) (i : Nat) : (homeP (l.take i) tp).length ≤ l.length := by
  simp only [homeP, List.length_map]
  refine Nat.le_trans (List.length_filter_le _ _) ?_
  rw [List.length_take]; omega
theorem told_ok {k : PH} {a : Option Addr} {c : Nat} {l : List Told} (hl : Sl tTold k a c l) : ∀ t ∈ l, t.ok := by
  intro t ht
  obtain ⟨i, hi, rfl⟩ := List.getElem_of_mem ht
  obtain ⟨_, _, _, _, ⟨_, h⟩, _⟩ := hl.el i l[i] (List.getElem?_eq_getElem hi)
  exact h
theorem homeP_ok {l : List Told} {tp : Tp} (h : ∀ t ∈ l, t.ok) : ∀ t ∈ homeP l tp, t.ok := by
  intro t ht
  simp only [homeP, List.mem_map, List.mem_filter] at ht
  obtain ⟨s, ⟨hs, _⟩, rfl⟩ := ht
  obtain ⟨h1, h2, h3, h4⟩ := h s hs
  exact ⟨h1, h3, h3, h3, h4.2⟩
def recsAll (l : List Batch) : List Rec := l.flatMap (·.recs)
theorem recsP_succ {l : List Batch} {i : Nat} (h : i < l.length) : recsAll (l.take (i + 1)) = recsAll (l.take i) ++ l[i].recs := by
  unfold recsAll
  rw [List.take_succ_eq_append_getElem h, List.flatMap_append]; simp
theorem pieces_rec {k : PH} : ∀ {css : List (List Value)} {xs : List Rec}, Pieces tRec k css xs → css.flatten = xs.flatMap Rec.vs
  | [], [], _ => rfl
  | [], _ :: _, h => by have := h.1; simp at this
  | _ :: _, [], h => by have := h.1; simp at this
  | c :: css, x :: xs, h => by
    have h0 := h.2 0 c x rfl rfl
    have ht : Pieces tRec k css xs := ⟨by have := h.1; simpa using this, fun i cs y h1 h2 => h.2 (i + 1) cs y (by simpa using h1) (by simpa using h2)⟩
    rw [List.flatten_cons, List.flatMap_cons, pieces_rec ht, h0.1]
theorem recsP_len {l : List Batch} (h : ∀ b ∈ l, b.recs.length ≤ 100) : (recsAll l).length ≤ 100 * l.length := by
  induction l with
  | nil => simp [recsAll]
  | cons b l ih =>
    have h1 := h b (by simp)
    have h2 := ih fun x hx => h x (by simp [hx])
    simp only [recsAll, List.flatMap_cons, List.length_append, List.length_cons] at h2 ⊢
    omega
def ndF (l : List Rec) (j : Nat) : Option Rec := match l[j]? with
  | some r => if neededP r (l.drop (j + 1)) then some r else none
  | none => none
/-- The needed ones among the first i. -/
def nd (l : List Rec) (i : Nat) : List Rec := (List.range i).filterMap (ndF l)
theorem nd_succ {l : List Rec} {i : Nat} (h : i < l.length) : nd l (i + 1) = nd l i ++ (if neededP l[i] (l.drop (i + 1)) then [l[i]] else []) := by
  unfold nd
  rw [List.range_succ, List.filterMap_append]
  congr 1
  have e : ndF l i = if neededP l[i] (l.drop (i + 1)) then some l[i] else none := by
    unfold ndF; rw [List.getElem?_eq_getElem h]
  cases q : neededP l[i] (l.drop (i + 1)) <;> simp [e, q]
theorem nd_len (l : List Rec) (i : Nat) : (nd l i).length ≤ i := by
  unfold nd
  refine Nat.le_trans (List.length_filterMap_le _ _) ?_
  simp
theorem nd_mem {l : List Rec} {i : Nat} {r : Rec} (h : r ∈ nd l i) : r ∈ l := by
  unfold nd at h
  rw [List.mem_filterMap] at h
  obtain ⟨j, _, hj⟩ := h
  unfold ndF at hj
  split at hj
  · rename_i x hx
    split at hj
    · cases hj; exact List.mem_of_getElem? hx
    · cases hj
  · cases hj
theorem slMono32 {α : Type} {T : Ty α} {xs : List α} (k k' : PH) (v : Value) (hle : Le k k') : (∃ a c, v = .slice a xs.length c ∧ Sl T k a c xs) → ∃ a c, v = .slice a xs.length c ∧ Sl T k' a c xs := fun ⟨a, c, h1, h2⟩ => ⟨a, c, h1, h2.le hle⟩
def neededL (bs : List Batch) (gone : List Gone) (to : Int) : List Rec := nd (recsAll (bs.filter (showB gone to))) (recsAll (bs.filter (showB gone to))).length
def skipF (l : List Told) (f : Fact) : Bool := (decide (f.pid < 0) || decide (f.txn < 0)) || !atP l f.tp f.off
def badF (l : List Told) (i : Nat) (f : Fact) (k : Nat) (g : Fact) : Bool := (decide (g.pid = f.pid) && decide (g.txn = f.txn)) && ((decide (k = i) && !g.done) || !atP l g.tp g.off)
def WholeAt (l : List Told) (fs : List Fact) (i : Nat) (f : Fact) : Prop := skipF l f = true ∨ ∀ k, (h : k < fs.length) → badF l i f k fs[k] = false
instance (l : List Told) (fs : List Fact) (i : Nat) (f : Fact) : Decidable (WholeAt l fs i f) := by unfold WholeAt; infer_instance
def WholeR (l : List Told) (fs : List Fact) : Prop := ∀ i, (h : i < fs.length) → WholeAt l fs i fs[i]
instance (l : List Told) (fs : List Fact) : Decidable (WholeR l fs) := by unfold WholeR; infer_instance
end Go.Wm
