/-
  Whether transactions may be, the program's. Conditions: that what is handed in reads as data.
-/
import Derived.Test.YtjonlpdnhbnmmaaR2
import Derived.Test.YtjonlpdnhbnmmaaCoB
import Derived.Lib.Bytealg
set_option linter.all false
namespace Go.Wm
open Go.RowKit Go.Proofs
attribute [local irreducible] RG CG EG WA Loc Det Alc CT Exit.then Exit.inBlock Code.wp bodyPost

/-- A partition's transactions, handed over by value. -/
structure TxAt (k : PH) (t : Tx) (a0 : Option Addr) (c0 : Nat) (a1 : Option Addr) (c1 : Nat) (a2 : Option Addr) (c2 : Nat) : Prop where
  o : Sl tOpenT k a0 c0 t.openV
  g : Sl tGone k a1 c1 t.gone
  d : Sl tGone k a2 c2 t.done
theorem TxAt.le {k k' : PH} {t : Tx} {a0 : Option Addr} {c0 : Nat} {a1 : Option Addr} {c1 : Nat} {a2 : Option Addr} {c2 : Nat} (h : TxAt k t a0 c0 a1 c1 a2 c2) (hl : Le k k') : TxAt k' t a0 c0 a1 c1 a2 c2 := ⟨h.o.le hl, h.g.le hl, h.d.le hl⟩

set_option maxHeartbeats 1000000 in
theorem refCheck_ct {k : PH} {t : Tx} {a0 : Option Addr} {c0 : Nat} {a1 : Option Addr} {c1 : Nat} {a2 : Option Addr} {c2 : Nat} (ht : TxAt k t a0 c0 a1 c1 a2 c2) :
    CT Try.prog 42 #[.agg (t.cs a0 c0 a1 c1 a2 c2).toArray] k (fun _ v => v = errOf (txP t) 1) := by
  refine ct_of_body (l := [_]) Try.func42 rfl Try.ntmps42 (by simp) (fun _ _ _ _ h => h) fun F hF0 hFm => ?_
  have b1 := ht.o.cap; have b2 := ht.o.max; unfold maxLen at b2
  repeat (first | refine cg_seq ?_ | refine cg_region ?_)
  refine rb rfl rfl rfl rfl (a_box rfl rfl) ?_; intro b1 k1 hb1 hN1 hle1 hk1
  have cc := cells_at (vs := t.cs a0 c0 a1 c1 a2 c2) hk1 rfl
  have ht := ht.le hle1
  obtain ⟨z0, z1, z2⟩ := Tx.parts cc
  repeat (first | refine cg_seq ?_ | refine cg_region ?_ | refine rg_nil ?_ | refine eg_then ?_ | refine qsp ?_ | refine cg_block ?_)
  refine cg_loop (fun (i : Nat) e k' => k' = k1 ∧ i ≤ t.openV.length ∧ (∀ j, (h : j < t.openV.length) → j < i → (inO t.openV[j].pid && inO t.openV[j].first) = true ∧ (0 < j → t.openV[j - 1].pid < t.openV[j].pid)) ∧ e = [(1, .is (.pointer (some ⟨b1, 0, none⟩))), (3, .is (.int .i64 (i : Int)))])
    (fun i => t.openV.length - i) 0 ⟨rfl, Nat.zero_le _, fun j _ hj => by omega, rfl⟩ ⟨rfl, rfl, trivial⟩ ?_
  rintro i e k' ⟨rfl, hi, hno, rfl⟩
  repeat (first | refine cg_seq ?_ | refine cg_region ?_ | refine rg_nil ?_ | refine eg_then ?_ | refine qsp ?_ | refine qsn ?_ | refine qsl ?_ | refine qsf ?_)
  refine cg_cond rfl (fun h => ?_) (fun h => ?_)
  · have hlt : i < t.openV.length := by simpa using h
    obtain ⟨bx, ox, cx, rfl, ⟨rfl, hok⟩, hcx⟩ := ht.o.el i t.openV[i] (List.getElem?_eq_getElem hlt)
    obtain ⟨p0, p1⟩ := OpenT.parts hcx
    have bad : ¬ ((inO t.openV[i].pid && inO t.openV[i].first) = true ∧ (0 < i → t.openV[i - 1].pid < t.openV[i].pid)) → Value.int .i64 1 = errOf (txP t) 1 := fun hb => by
      have : ¬ Opens t.openV := fun ha => hb (ha i hlt)
      simp [errOf, txP, this]
    repeat (first | refine cg_seq ?_ | refine eg_then ?_ | refine cg_skip ?_ | refine cg_block ?_)
    refine cg_any (by kernel_rfl) rfl ?_
    repeat (first | refine qwp ?_ | refine qwi ?_ | refine qwl ?_ | refine qwf ?_)
    refine ws rfl (loc_call_is rfl rfl rfl rfl (in_ct t.openV[i].pid)) ?_
    repeat (first | refine qwp ?_)
    cases q1 : inO t.openV[i].pid
    · repeat (first | refine qwp ?_ | refine qwo ?_ | (refine wn rfl ?_; refine eg_then ?_))
      repeat (first | refine cg_seq ?_ | refine cg_region ?_ | refine rg_nil ?_ | refine eg_then ?_ | refine qsp ?_ | refine cg_cond_true rfl ?_ | refine cg_ret ?_ | refine eg_then_ret ?_ | refine eg_in_ret ?_)
      exact eg_return rfl rfl (bad (by simp [q1]))
    repeat (first | refine qwp ?_ | refine qwi ?_ | refine qwl ?_ | refine qwf ?_)
    refine ws rfl (loc_call_is rfl rfl rfl rfl (in_ct t.openV[i].first)) ?_
    repeat (first | refine qwp ?_)
    cases q2 : inO t.openV[i].first
    · repeat (first | refine qwp ?_ | refine qwo ?_ | (refine wn rfl ?_; refine eg_then ?_))
      repeat (first | refine cg_seq ?_ | refine cg_region ?_ | refine rg_nil ?_ | refine eg_then ?_ | refine qsp ?_ | refine cg_cond_true rfl ?_ | refine cg_ret ?_ | refine eg_then_ret ?_ | refine eg_in_ret ?_)
      exact eg_return rfl rfl (bad (by simp [q2]))
    repeat (first | refine qwp ?_)
    cases q7 : decide ((i : Int) > 0)
    · repeat (first | refine qwp ?_ | refine qwo ?_ | (refine wn rfl ?_; refine eg_then ?_))
      repeat (first | refine cg_region ?_ | refine rg_nil ?_ | refine eg_then ?_ | refine qsp ?_ | refine qsa ?_ | refine cg_cond_false rfl ?_ | refine cg_skip ?_ | refine eg_in_normal ?_)
      refine eg_again (i + 1) _ ⟨rfl, hlt, fun j hj hji => ?_, rfl⟩ (by omega) ⟨rfl, rfl, trivial⟩
      have : i = 0 := by simp at q7; omega
      have : j = 0 := by omega
      subst this; subst i
      exact ⟨by simp [q1, q2], by omega⟩
    have hi0 : 0 < i := by simp at q7; omega
    have hlt' : i - 1 < t.openV.length := by omega
    obtain ⟨by', oy, cy, ey, ⟨rfl, hok'⟩, hcy⟩ := ht.o.el (i - 1) t.openV[i - 1] (List.getElem?_eq_getElem hlt')
    cases ey
    obtain ⟨r0, r1⟩ := OpenT.parts hcy
    have hsub : ((i - 1 : Nat) : Int) = (i : Int) - 1 := by omega
    repeat (first | refine qwp ?_ | refine qws ?_ | refine qwl ?_ | refine qwf ?_)
    rw [← hsub]
    repeat (first | refine qwp ?_ | refine qwi ?_ | refine qwl ?_ | refine qwf ?_ | (refine wn rfl ?_; refine eg_then ?_))
    refine cg_cond rfl (fun h2 => ?_) (fun h2 => ?_)
    · repeat (first | refine cg_seq ?_ | refine cg_region ?_ | refine rg_nil ?_ | refine eg_then ?_ | refine qsp ?_ | refine cg_ret ?_ | refine eg_then_ret ?_ | refine eg_in_ret ?_)
      exact eg_return rfl rfl (bad (by rintro ⟨_, h3⟩; have := h3 hi0; simp at h2; omega))
    · repeat (first | refine cg_region ?_ | refine rg_nil ?_ | refine eg_then ?_ | refine qsp ?_ | refine qsa ?_ | refine cg_skip ?_ | refine eg_in_normal ?_)
      refine eg_again (i + 1) _ ⟨rfl, hlt, fun j hj hji => ?_, rfl⟩ (by omega) ⟨rfl, rfl, trivial⟩
      by_cases e : j = i
      · subst e
        exact ⟨by simp [q1, q2], fun _ => by simp at h2; omega⟩
      · exact hno j hj (by omega)
  · have hin : i = t.openV.length := by simp at h; omega
    have hop : Opens t.openV := fun j hj => hno j hj (by omega)
    have hd : txP t = (decide (Ended t.gone) && decide (Ended t.done)) := by unfold txP; rw [decide_eq_true hop, Bool.true_and]
    repeat (first | refine cg_seq ?_ | refine cg_region ?_ | refine eg_then ?_ | refine qsl ?_ | refine qsf ?_ | refine cg_exit ?_ | refine eg_then_exit ?_ | refine eg_in_exit ?_)
    refine rs rfl rfl (loc_call_is rfl rfl rfl rfl (ended_ct ht.g)) ?_
    repeat (first | refine qsp ?_)
    cases q1 : decide (Ended t.gone)
    · repeat (first | refine cg_seq ?_ | refine cg_region ?_ | refine rg_nil ?_ | refine eg_then ?_ | refine qsp ?_ | refine qso ?_ | refine cg_cond_true rfl ?_ | refine cg_ret ?_ | refine eg_then_ret ?_)
      refine eg_return rfl rfl ?_
      simp [hd, q1, errOf]
    repeat (first | refine qsl ?_ | refine qsf ?_)
    refine rs rfl rfl (loc_call_is rfl rfl rfl rfl (ended_ct ht.d)) ?_
    repeat (first | refine rg_nil ?_ | refine eg_then ?_ | refine qsp ?_)
    cases q2 : decide (Ended t.done)
    · repeat (first | refine cg_seq ?_ | refine cg_region ?_ | refine rg_nil ?_ | refine eg_then ?_ | refine qsp ?_ | refine cg_cond_true rfl ?_ | refine cg_ret ?_ | refine eg_then_ret ?_)
      refine eg_return rfl rfl ?_
      simp [hd, q2, errOf]
    · repeat (first | refine cg_seq ?_ | refine cg_region ?_ | refine rg_nil ?_ | refine eg_then ?_ | refine qsp ?_ | refine cg_cond_false rfl ?_ | refine cg_skip ?_ | refine cg_ret ?_)
      refine eg_return rfl rfl ?_
      simp [hd, q1, q2, errOf]

end Go.Wm
namespace Go.Wm
open Go.RowKit Go.Proofs
attribute [local irreducible] RG CG EG WA Loc Det Alc CT Exit.then Exit.inBlock Code.wp bodyPost

/-- A partition's mark. -/
def markP (l : List Mark) (tp : Tp) : Option Int := (l.find? fun m => decide (m.tp = tp)).map (·.off)
def leastM (a b : List Mark) : List Mark := a.filterMap fun m => (markP b m.tp).map fun n => ⟨m.tp, minI n m.off⟩
def belowM (a b : List Mark) : Bool := a.all fun m => match markP b m.tp with
  | none => false
  | some n => decide (m.off ≤ n)
end Go.Wm
namespace Go.Wm
open Go.RowKit Go.Proofs
attribute [local irreducible] RG CG EG WA Loc Det Alc CT Exit.then Exit.inBlock Code.wp bodyPost

def stableL (l : List View) : List Int := l.map fun v => stabP v.tx v.high
end Go.Wm
namespace Go.Wm
open Go.RowKit Go.Proofs

theorem cell_of {k : PH} {w : World} {b off : Nat} {vs : List Value} (h : Cells k b off vs) (hs : Sub k w) {j : Nat} {u : Value} (hj : vs[j]? = some u) : w.cell? ⟨b, off + j, none⟩ = some u := by
  obtain ⟨c, et, fr, h1, h2⟩ := h
  have := hs b _ h1
  have h3 := h2 j u hj
  simp [World.cell?, this, h3]
theorem ret_of {k : PH} {w w' : World} {v : Value} {e : Ending} {φ : PH → Value → Prop} (hs : Sub k w) (he : e = .returned v) (hb : Below w.heap.size w w') (hφ : φ k v) : Ret k w φ e w' :=
  ⟨v, k, he, hb, fun b _ => rfl, fun b o h => by
    have hw := hs b o h
    rw [hb.block b (Array.getElem?_eq_some_iff.1 hw).1]
    exact hw, hφ⟩
theorem upto_map {α : Type} (l : List α) (f : α → Int) : uptoN (fun j => ((l[j]?).map f).getD 0) l.length = l.map f := by
  apply List.ext_getElem
  · simp [uptoN]
  · intro i h1 h2
    simp [uptoN] at h1
    simp [uptoN, h1]
theorem mins_map {α : Type} (f : α → Int) : ∀ (l : List α) (h : Int), minsL h (l.map f) = foldMin (fun _ => true) f h l
  | [], h => rfl
  | x :: l, h => by
    show minsL (if f x < h then f x else h) (l.map f) = foldMin _ f (if true = true then minI h (f x) else h) l
    rw [mins_map f l]
    rfl

theorem txStable_ct {k : PH} {t : Tx} {a0 : Option Addr} {c0 : Nat} {a1 : Option Addr} {c1 : Nat} {a2 : Option Addr} {c2 : Nat} (high : Int) (ht : TxAt k t a0 c0 a1 c1 a2 c2) (hb : t.openV.length ≤ 1000000) :
    CT Try.prog 32 #[.agg (t.cs a0 c0 a1 c1 a2 c2).toArray, .int .i64 high] k (fun _ v => v = .int .i64 (stabP t high)) := by
  intro w k1 hle hs
  have ho := ht.o.le hle
  have hbase : ∃ b off, 0 < t.openV.length → a0 = some ⟨b, off, none⟩ ∧ b < w.heap.size := by
    by_cases h0 : 0 < t.openV.length
    · obtain ⟨b, off, cx, rfl, ⟨rfl, _⟩, hc⟩ := ho.el 0 t.openV[0] (List.getElem?_eq_getElem h0)
      obtain ⟨c, et, fr, h1, _⟩ := hc
      exact ⟨b, off, fun _ => ⟨rfl, (Array.getElem?_eq_some_iff.1 (hs b _ h1)).1⟩⟩
    · exact ⟨0, 0, fun h => absurd h h0⟩
  obtain ⟨b, off, ha⟩ := hbase
  have := (callsIn_wide (n := 5)).1 (stable_in Fence.wide 5 trivial trivial trivial rfl (by omega) b off t.openV.length c0 a0 (.slice a1 t.gone.length c1) (.slice a2 t.done.length c2) (fun j => ((t.openV[j]?).map (·.pid)).getD 0) (fun j => ((t.openV[j]?).map (·.first)).getD 0) high w (by omega) ha (fun j hj => by
    obtain ⟨rfl, _⟩ := ha (by omega)
    obtain ⟨b', off', cx, e, ⟨rfl, _⟩, hc⟩ := ho.el j t.openV[j] (List.getElem?_eq_getElem hj)
    cases e
    simp only [List.getElem?_eq_getElem hj, Option.map_some, Option.getD_some]
    exact ⟨cell_of (j := 0) hc hs rfl, cell_of (j := 1) hc hs rfl⟩))
  refine Calls.mono this ?_
  rintro e w' ⟨he, hbl⟩
  refine ret_of hs he hbl ?_
  rw [upto_map, mins_map]
  rfl
end Go.Wm
namespace Go.Wm
open Go.RowKit Go.Proofs
attribute [local irreducible] RG CG EG WA Loc Det Alc CT Exit.then Exit.inBlock Code.wp bodyPost

def fewOne (v : View) : Bool := (decide (v.tx.openV.length ≤ 60) && (decide (v.tx.gone.length ≤ 60) && decide (v.tx.done.length ≤ 60))) && decide (v.tx.done.length ≤ 12)
def fewV (l : List View) : Bool := (l.take 20).all fewOne && decide (l.length ≤ 8)
def MayAt (l : List View) (i : Nat) (h : i < l.length) : Prop := tpP l[i].tp = true ∧ (0 < i → tpLess l[i - 1].tp l[i].tp = true) ∧ txP l[i].tx = true ∧ 0 ≤ l[i].high ∧ l[i].high ≤ 1099511627776
instance (l : List View) (i : Nat) (h : i < l.length) : Decidable (MayAt l i h) := by unfold MayAt; infer_instance
/-- May views be? -/
def MayV (l : List View) : Prop := ∀ i, (h : i < l.length) → MayAt l i h
instance (l : List View) : Decidable (MayV l) := by unfold MayV; infer_instance
end Go.Wm
namespace Go.Wm
open Go.RowKit Go.Proofs
attribute [local irreducible] RG CG EG WA Loc Det Alc CT Exit.then Exit.inBlock Code.wp bodyPost

/-- One that is not below its mark. -/
def hit (pid no m : Int) (g : Gone) : Bool := (decide (g.pid = pid) && decide (g.no = no)) && decide (m ≤ g.last)
end Go.Wm
namespace Go.Wm
open Go.RowKit Go.Proofs
attribute [local irreducible] RG CG EG WA Loc Det Alc CT Exit.then Exit.inBlock Code.wp bodyPost

/-- The cells of numbers, side by side. -/
def curR (cur : List Int) : List Value := (cur.map fun n => [Value.int .i64 n]).flatten
def outL (l : List View) (m : List Int) (i : Nat) : List Int := (lowP l m).take i ++ m.drop i
end Go.Wm
namespace Go.Wm
open Go.RowKit Go.Proofs
section
variable {P : Program} {o : Oper} {e : Env} {k : PH}
end

attribute [local irreducible] RG CG EG WA Loc Det Alc CT Exit.then Exit.inBlock Code.wp bodyPost

theorem sl_flat {α : Type} {T : Ty α} {f : α → List Value} {k : PH} {b : Nat} {c : Array Value} {et : TypeId} {fr : Nat × Nat} {xs : List α} (h : k b = some (.cells c et fr)) (hc : c.toList = xs.flatMap f) (hr : ∀ x ∈ xs, T.rep k (f x) x) (hm : xs.length ≤ maxLen) : Sl T k (some ⟨b, 0, none⟩) xs.length xs :=
  sl_rows (css := xs.map f) h (by rw [hc]; simp [List.flatMap]) (by simp) (fun i cs x h1 h2 => by
    rw [List.getElem?_map, h2] at h1
    cases h1
    exact hr x (List.mem_of_getElem? h2)) hm
theorem sl_none {α : Type} (T : Ty α) (k : PH) : Sl T k none 0 [] := ⟨by simp, by simp [maxLen], fun _ => rfl, by simp, by simp⟩

def cmpInt (a b : Int) : Int := if a < b then -1 else if a > b then 1 else 0
def cmpStr (a b : ByteArray) : Int := Lib.compareBytes a.data.toList b.data.toList
def orL (l : List Int) : Int := (l.find? fun n => n != 0).getD 0
def ordTp (a b : Tp) : Int := orL [cmpStr a.topic b.topic, cmpInt a.part b.part, cmpInt a.home b.home]

theorem cmpInt_cases (a b : Int) : (cmpInt a b = -1 ∧ a < b) ∨ (cmpInt a b = 0 ∧ a = b) ∨ (cmpInt a b = 1 ∧ b < a) := by
  unfold cmpInt
  by_cases h : a < b
  · exact .inl ⟨by simp [h], h⟩
  · by_cases h2 : b < a
    · exact .inr (.inr ⟨by simp [h, h2], h2⟩)
    · exact .inr (.inl ⟨by simp [h, h2], by omega⟩)
theorem isNaN_ct {k : PH} (a : Int) : CT Try.prog 129 #[.int .i64 a] k (fun _ v => v = .bool false) := by
  refine ct_of_body (l := [_]) Try.func129 rfl Try.ntmps129 (by simp) (fun _ _ _ _ h => h) fun F hF0 hFm => ?_
  repeat (first | refine cg_seq ?_ | refine cg_region ?_ | refine rg_nil ?_ | refine eg_then ?_ | refine qsp ?_ | refine cg_ret ?_)
  refine eg_return rfl rfl ?_
  simp
set_option maxHeartbeats 400000 in
theorem cmpInt_ct {k : PH} (a b : Int) : CT Try.prog 111 #[.int .i64 a, .int .i64 b] k (fun _ v => v = .int .i64 (cmpInt a b)) := by
  refine ct_of_body (l := [_, _]) Try.func111 rfl Try.ntmps111 (by simp) (fun _ _ _ _ h => h) fun F hF0 hFm => ?_
  repeat (first | refine cg_seq ?_ | refine cg_region ?_ | refine rg_nil ?_ | refine eg_then ?_ | refine qsp ?_)
  refine rs rfl rfl (loc_call_is rfl rfl rfl rfl (isNaN_ct a)) ?_
  repeat (first | refine cg_seq ?_ | refine cg_region ?_ | refine rg_nil ?_ | refine eg_then ?_ | refine qsp ?_)
  refine rs rfl rfl (loc_call_is rfl rfl rfl rfl (isNaN_ct b)) ?_
  repeat (first | refine cg_seq ?_ | refine cg_region ?_ | refine rg_nil ?_ | refine eg_then ?_ | refine qsp ?_ | refine cg_cond_false rfl ?_ | refine cg_skip ?_)
  refine cg_cond rfl (fun h => ?_) (fun h => ?_)
  · repeat (first | refine cg_seq ?_ | refine cg_region ?_ | refine rg_nil ?_ | refine eg_then ?_ | refine qsp ?_ | refine cg_ret ?_ | refine eg_then_ret ?_)
    refine eg_return rfl rfl ?_
    have h : a < b := by simpa using h
    simp [cmpInt, h]
  · repeat (first | refine cg_seq ?_ | refine cg_region ?_ | refine rg_nil ?_ | refine eg_then ?_ | refine qsp ?_ | refine cg_skip ?_)
    have h : ¬ a < b := by simp at h; omega
    refine cg_cond rfl (fun h2 => ?_) (fun h2 => ?_)
    · repeat (first | refine cg_seq ?_ | refine cg_region ?_ | refine rg_nil ?_ | refine eg_then ?_ | refine qsp ?_ | refine cg_ret ?_ | refine eg_then_ret ?_)
      refine eg_return rfl rfl ?_
      have h2 : b < a := by simp at h2; omega
      simp [cmpInt, h, h2]
    · repeat (first | refine cg_seq ?_ | refine cg_region ?_ | refine rg_nil ?_ | refine eg_then ?_ | refine qsp ?_ | refine cg_skip ?_ | refine cg_ret ?_)
      refine eg_return rfl rfl ?_
      have h2 : ¬ b < a := by simp at h2; omega
      simp [cmpInt, h, h2]
end Go.Wm
namespace Go.Wm
open Go.RowKit Go.Proofs
attribute [local irreducible] RG CG EG WA Loc Det Alc CT Exit.then Exit.inBlock Code.wp bodyPost

def okR (r : Int) : Bool := !(decide (r < 33) || decide (r > 126))
def allOk (s : ByteArray) : Bool := decide (∀ i, (h : i < s.size) → okB s[i] = true)
end Go.Wm
namespace Go.Wm

def markAt (m : List Int) (p : Pl) : Int := m.getD p.view.toNat 0
/-- Is a transaction not below marks everywhere? -/
def heldP (m : List Int) (ps : List Pl) : Bool := ps.any fun p => decide (markAt m p ≤ p.last)
def goodP (m : List Int) (ps : List Pl) : Bool := !heldP m ps || ps.all fun p => decide (markAt m p ≤ p.first)
/-- Where a committed transaction stands. -/
def donePl (l : List View) (pid no : Int) : List Pl := l.zipIdx.flatMap fun q => (q.1.tx.done.filter fun g => decide (g.pid = pid) && decide (g.no = no)).map fun g => ⟨(q.2 : Int), g.first, g.last⟩
theorem donePl_mem {l : List View} {pid no : Int} {p : Pl} : p ∈ donePl l pid no ↔ ∃ i, ∃ hi : i < l.length, ∃ g ∈ l[i].tx.done, g.pid = pid ∧ g.no = no ∧ p = ⟨(i : Int), g.first, g.last⟩ := by
  unfold donePl
  simp only [List.mem_flatMap, List.mem_map, List.mem_filter, Bool.and_eq_true, decide_eq_true_eq]
  constructor
  · rintro ⟨⟨v, i⟩, hq, g, ⟨hg, h1, h2⟩, rfl⟩
    rw [List.mk_mem_zipIdx_iff_getElem?] at hq
    obtain ⟨hi, rfl⟩ := List.getElem?_eq_some_iff.1 hq
    exact ⟨i, hi, g, hg, h1, h2, rfl⟩
  · rintro ⟨i, hi, g, hg, h1, h2, rfl⟩
    exact ⟨(l[i], i), List.mk_mem_zipIdx_iff_getElem?.2 (List.getElem?_eq_getElem hi), g, ⟨hg, h1, h2⟩, rfl⟩
/-- The lists of places, of all transactions. -/
structure Places (l : List View) (T : List (List Pl)) : Prop where
  of : ∀ ps ∈ T, (∃ pid no, ps = donePl l pid no) ∨ ∃ i, ∃ hi : i < l.length, ∃ g ∈ l[i].tx.gone, ps = [⟨(i : Int), g.first, g.last⟩]
  done : ∀ i, (hi : i < l.length) → ∀ g ∈ l[i].tx.done, donePl l g.pid g.no ∈ T
  gone : ∀ i, (hi : i < l.length) → ∀ g ∈ l[i].tx.gone, ([⟨(i : Int), g.first, g.last⟩] : List Pl) ∈ T
theorem markAt_nat {m : List Int} {i : Nat} (h : i < m.length) (a b : Int) : markAt m ⟨(i : Int), a, b⟩ = m[i] := by
  simp [markAt, h]
theorem Places.range {l : List View} {T : List (List Pl)} (h : Places l T) : ∀ ps ∈ T, ∀ p ∈ ps, ∃ i, i < l.length ∧ p.view = (i : Int) := fun ps hps p hp => by
  rcases h.of ps hps with ⟨pid, no, rfl⟩ | ⟨i, hi, g, _, rfl⟩
  · obtain ⟨i, hi, g, _, _, _, rfl⟩ := donePl_mem.1 hp
    exact ⟨i, hi, rfl⟩
  · simp at hp
    subst hp
    exact ⟨i, hi, rfl⟩
theorem held_done {l : List View} {m : List Int} (hm : m.length = l.length) (pid no : Int) : heldP m (donePl l pid no) = !belowP l m pid no := by
  rw [Bool.eq_iff_iff, Bool.not_eq_true', belowP_false]
  unfold heldP
  rw [List.any_eq_true]
  constructor
  · rintro ⟨p, hp, h⟩
    obtain ⟨i, hi, g, hg, h1, h2, rfl⟩ := donePl_mem.1 hp
    rw [markAt_nat (by omega)] at h
    exact ⟨i, hi, by omega, g, hg, h1, h2, by simpa using h⟩
  · rintro ⟨i, hi, him, g, hg, h1, h2, h3⟩
    exact ⟨_, donePl_mem.2 ⟨i, hi, g, hg, h1, h2, rfl⟩, by rw [markAt_nat him]; simpa using h3⟩
theorem places_whole {l : List View} {T : List (List Pl)} {c : List Int} (h : Places l T) (hc : c.length = l.length) : WholeM l c ↔ ∀ ps ∈ T, goodP c ps = true := by
  constructor
  · rintro ⟨h1, h2⟩ ps hps
    unfold goodP
    rcases h.of ps hps with ⟨pid, no, rfl⟩ | ⟨i, hi, g, hg, rfl⟩
    · rw [held_done hc, Bool.not_not]
      cases hb : belowP l c pid no
      · simp only [Bool.false_or, List.all_eq_true]
        intro p hp
        obtain ⟨i, hi, g, hg, e1, e2, rfl⟩ := donePl_mem.1 hp
        rw [markAt_nat (by omega)]
        have := h1 i hi (by omega) g hg (by rw [e1, e2]; exact hb)
        simpa using this
      · rfl
    · have := h2 i hi (by omega) g hg
      simp only [heldP, List.any_cons, List.any_nil, Bool.or_false, List.all_cons, List.all_nil, Bool.and_true]
      rw [markAt_nat (by omega)]
      by_cases hl : c[i] ≤ g.last
      · simp [hl, this hl]
      · simp [hl]
  · intro hall
    refine ⟨fun i hi him g hg hb => ?_, fun i hi him g hg hl => ?_⟩
    · have := hall _ (h.done i hi g hg)
      unfold goodP at this
      rw [held_done hc, hb] at this
      simp only [Bool.not_false, Bool.not_true, Bool.false_or, List.all_eq_true] at this
      have := this _ (donePl_mem.2 ⟨i, hi, g, hg, rfl, rfl, rfl⟩)
      rw [markAt_nat him] at this
      simpa using this
    · have := hall _ (h.gone i hi g hg)
      simp only [goodP, heldP, List.any_cons, List.any_nil, Bool.or_false, List.all_cons, List.all_nil, Bool.and_true] at this
      rw [markAt_nat him] at this
      simpa [hl] using this

/-- Marks lowered by the places of one transaction. -/
def lowPl (m : List Int) (p : Pl) : List Int := m.set p.view.toNat (minI (markAt m p) p.first)
def lowPs (m : List Int) (ps : List Pl) : List Int := ps.foldl lowPl m
theorem lowPl_len (m : List Int) (p : Pl) : (lowPl m p).length = m.length := by simp [lowPl]
theorem lowPl_le (m : List Int) (p : Pl) : PW (lowPl m p) m := by
  refine ⟨lowPl_len m p, fun i hi hi' => ?_⟩
  simp only [lowPl, List.getElem_set]
  split
  · rename_i h
    subst h
    have : markAt m p = m[p.view.toNat] := by simp [markAt, hi']
    rw [this]
    exact minI_left _ _
  · exact Int.le_refl _
theorem lowPs_le : ∀ (ps : List Pl) (m : List Int), PW (lowPs m ps) m
  | [], m => PW.refl m
  | p :: ps, m => (lowPs_le ps (lowPl m p)).trans (lowPl_le m p)
theorem markAt_mono {a b : List Int} (h : PW a b) (p : Pl) : markAt a p ≤ markAt b p := by
  unfold markAt
  by_cases hi : p.view.toNat < a.length
  · have hb : p.view.toNat < b.length := by rw [← h.1]; exact hi
    have := h.2 _ hi hb
    simpa [List.getD_eq_getElem?_getD, hi, hb] using this
  · have hb : ¬ p.view.toNat < b.length := by rw [← h.1]; exact hi
    rw [List.getD_eq_getElem?_getD, List.getD_eq_getElem?_getD, List.getElem?_eq_none (by omega), List.getElem?_eq_none (by omega)]
    exact Int.le_refl _
theorem lowPl_at {m : List Int} {p : Pl} (h : p.view.toNat < m.length) : markAt (lowPl m p) p ≤ p.first := by
  have : markAt (lowPl m p) p = minI (markAt m p) p.first := by
    have e : markAt m p = m[p.view.toNat] := by simp [markAt, h]
    unfold lowPl
    rw [e]
    simp [markAt, h]
  rw [this]
  exact minI_right _ _
theorem lowPs_at : ∀ (ps : List Pl) (m : List Int), (∀ p ∈ ps, p.view.toNat < m.length) → ∀ p ∈ ps, markAt (lowPs m ps) p ≤ p.first
  | q :: ps, m, hr, p, hp => by
    show markAt (lowPs (lowPl m q) ps) p ≤ _
    rcases List.mem_cons.1 hp with rfl | hp
    · exact Int.le_trans (markAt_mono (lowPs_le ps _) _) (lowPl_at (hr _ (by simp)))
    · exact lowPs_at ps _ (fun x hx => by rw [lowPl_len]; exact hr x (by simp [hx])) p hp
theorem le_lowPl {c m : List Int} {p : Pl} (h : PW c m) (hc : markAt c p ≤ p.first) : PW c (lowPl m p) := by
  refine ⟨by rw [lowPl_len]; exact h.1, fun i hi hi' => ?_⟩
  simp only [lowPl, List.getElem_set]
  split
  · rename_i he
    subst he
    have h1 := markAt_mono h p
    have e : markAt c p = c[p.view.toNat] := by simp [markAt, hi]
    rw [e] at h1 hc
    exact le_minI h1 hc
  · exact h.2 i hi _
theorem le_lowPs : ∀ (ps : List Pl) {c m : List Int}, PW c m → (∀ p ∈ ps, markAt c p ≤ p.first) → PW c (lowPs m ps)
  | [], c, m, h, _ => h
  | p :: ps, c, m, h, hc => le_lowPs ps (le_lowPl h (hc p (by simp))) fun q hq => hc q (by simp [hq])

/-- What holds while the marks are lowered: R is still to be looked at. -/
structure Low (l : List View) (s : List Int) (T R : List (List Pl)) (m : List Int) : Prop where
  safe : PW m s
  top : ∀ c, WholeM l c → PW c s → PW c m
  out : ∀ ps ∈ T, ps ∈ R ∨ ∀ p ∈ ps, markAt m p ≤ p.first
  sub : ∀ ps ∈ R, ps ∈ T
theorem Low.start {l : List View} {s : List Int} {T : List (List Pl)} : Low l s T T s := ⟨PW.refl s, fun c _ h => h, fun ps h => .inl h, fun ps h => h⟩
theorem Low.step {l : List View} {s m : List Int} {T R R' : List (List Pl)} {ps : List Pl} (hT : Places l T) (hs : s.length = l.length) (h : Low l s T R m) (hps : ps ∈ R) (hh : heldP m ps = true) (hR : ∀ x ∈ R, x = ps ∨ x ∈ R') (hR' : ∀ x ∈ R', x ∈ R) : Low l s T R' (lowPs m ps) := by
  have hml : m.length = l.length := by rw [h.safe.1, hs]
  have hrng : ∀ p ∈ ps, p.view.toNat < m.length := fun p hp => by
    obtain ⟨i, hi, e⟩ := hT.range ps (h.sub ps hps) p hp
    rw [e]; simp; omega
  have hle := lowPs_le ps m
  refine ⟨hle.trans h.safe, fun c hw hcs => ?_, fun x hx => ?_, fun x hx => h.sub x (hR' x hx)⟩
  · have hcm := h.top c hw hcs
    refine le_lowPs ps hcm ?_
    have hcl : c.length = l.length := by rw [hcm.1, hml]
    have hg := (places_whole hT hcl).1 hw ps (h.sub ps hps)
    have hhc : heldP c ps = true := by
      unfold heldP at hh ⊢
      rw [List.any_eq_true] at hh ⊢
      obtain ⟨p, hp, hd⟩ := hh
      have := markAt_mono hcm p
      simp at hd
      exact ⟨p, hp, by simp; omega⟩
    unfold goodP at hg
    rw [hhc] at hg
    simp only [Bool.not_true, Bool.false_or, List.all_eq_true] at hg
    exact fun p hp => by simpa using hg p hp
  · rcases h.out x hx with hx | hx
    · rcases hR x hx with rfl | hx
      · exact .inr (lowPs_at _ m hrng)
      · exact .inl hx
    · exact .inr fun p hp => Int.le_trans (markAt_mono hle p) (hx p hp)
theorem Low.fin {l : List View} {s m : List Int} {T R : List (List Pl)} (hT : Places l T) (hs : s.length = l.length) (h : Low l s T R m) (hR : ∀ ps ∈ R, heldP m ps = false) : IsCut l s m := by
  have hml : m.length = l.length := by rw [h.safe.1, hs]
  refine ⟨hml, (places_whole hT hml).2 fun ps hps => ?_, h.safe, h.top⟩
  unfold goodP
  rcases h.out ps hps with hx | hx
  · rw [hR ps hx]; rfl
  · rw [Bool.or_eq_true, List.all_eq_true]
    exact .inr fun p hp => by simpa using hx p hp
end Go.Wm
namespace Go.Wm
open Go.RowKit Go.Proofs
attribute [local irreducible] RG CG EG WA Loc Det Alc CT Exit.then Exit.inBlock Code.wp bodyPost

set_option maxHeartbeats 1000000 in
theorem indexFuncGone_ct {k : PH} {a : Option Addr} {c : Nat} {l : List Gone} (hl : Sl tGone k a c l) {g : FuncId} [FnOk Try.prog g] {cap : Array Value} (f : Gone → Bool)
    (hf : ∀ m ∈ l, ∀ cm, tGone.rep k cm m → CT Try.prog g (#[] ++ [.agg cm.toArray].toArray ++ cap) k (fun _ v => v = .bool (f m))) :
    CT Try.prog 117 #[.slice a l.length c, .func (.func g) #[] cap] k (fun _ v => v = .int .i64 (idxF l f)) := by
  refine ct_of_body (l := [_, _]) Try.func117 rfl Try.ntmps117 (by simp) (fun _ _ _ _ h => h) fun F hF0 hFm => ?_
  have b1 := hl.cap; have b2 := hl.max; unfold maxLen at b2
  repeat (first | refine cg_seq ?_ | refine cg_region ?_ | refine rg_nil ?_ | refine eg_then ?_ | refine qsp ?_ | refine qsn ?_ | refine cg_block ?_)
  refine cg_loop (fun (i : Nat) e k' => k' = k ∧ i ≤ l.length ∧ (∀ x ∈ l.take i, f x = false) ∧ e = [(0, .is (.slice a l.length c)), (1, .is (.func (.func g) #[] cap)), (7, .is (.int .i64 (l.length : Int))), (8, .is (.int .i64 (i : Int)))])
    (fun i => l.length - i) 0 ⟨rfl, Nat.zero_le _, by simp, rfl⟩ ⟨rfl, rfl, rfl, rfl, trivial⟩ ?_
  rintro i e k1 ⟨rfl, hi, hno, rfl⟩
  repeat (first | refine cg_seq ?_ | refine cg_region ?_ | refine rg_nil ?_ | refine eg_then ?_ | refine qsp ?_)
  refine cg_cond rfl (fun h => ?_) (fun h => ?_)
  · have hlt : i < l.length := by simpa using h
    obtain ⟨bx, ox, cx, rfl, hrep, hcx⟩ := hl.el i l[i] (List.getElem?_eq_getElem hlt)
    have hcl := tGone.len hrep
    have hcall := hf l[i] (List.getElem_mem hlt) cx hrep
    repeat (first | refine cg_seq ?_ | refine cg_region ?_ | refine rg_nil ?_ | refine eg_then ?_ | refine qsp ?_ | refine qsi ?_ | refine cg_skip ?_ | refine cg_block ?_)
    refine rs rfl rfl (loc_det rfl (d_load_agg (vs := cx) rfl rfl rfl hcl hcx)) ?_
    refine rs rfl rfl (loc_call_is rfl rfl rfl rfl (hcall)) ?_
    repeat (first | refine rg_nil ?_ | refine eg_then ?_)
    by_cases hw : f l[i] = true
    · refine cg_cond_true (by simp [opv, get, Nat.beq, hw]) ?_
      repeat (first | refine cg_seq ?_ | refine cg_region ?_ | refine rg_nil ?_ | refine eg_then ?_ | refine qsp ?_ | refine cg_ret ?_ | refine eg_then_ret ?_ | refine eg_in_ret ?_)
      refine eg_return rfl rfl ?_
      rw [idxF_at hlt hw hno]
    · refine cg_cond_false (by simp [opv, get, Nat.beq, hw]) ?_
      repeat (first | refine cg_region ?_ | refine rg_nil ?_ | refine eg_then ?_ | refine qsp ?_ | refine qsa ?_ | refine cg_skip ?_ | refine eg_in_normal ?_)
      refine eg_again (i + 1) _ ⟨rfl, hlt, fun x hx => ?_, rfl⟩ (by omega) ⟨rfl, rfl, rfl, rfl, trivial⟩
      rw [List.take_succ_eq_append_getElem hlt] at hx
      rcases List.mem_append.1 hx with hx | hx
      · exact hno x hx
      · simp at hx; rw [hx]; simpa using hw
  · repeat (first | refine cg_seq ?_ | refine cg_region ?_ | refine rg_nil ?_ | refine eg_then ?_ | refine qsp ?_ | refine cg_ret ?_ | refine cg_exit ?_ | refine eg_then_exit ?_ | refine eg_in_exit ?_)
    refine eg_return rfl rfl ?_
    have : i = l.length := by simp at h; omega
    rw [this, List.take_length] at hno
    rw [idxF_no hno]

set_option maxHeartbeats 400000 in
theorem containsFuncGone_ct {k : PH} {a : Option Addr} {c : Nat} {l : List Gone} (hl : Sl tGone k a c l) {g : FuncId} [FnOk Try.prog g] {cap : Array Value} (f : Gone → Bool)
    (hf : ∀ m ∈ l, ∀ cm, tGone.rep k cm m → CT Try.prog g (#[] ++ [.agg cm.toArray].toArray ++ cap) k (fun _ v => v = .bool (f m))) :
    CT Try.prog 85 #[.slice a l.length c, .func (.func g) #[] cap] k (fun _ v => v = .bool (l.any f)) := by
  refine ct_of_body (l := [_, _]) Try.func85 rfl Try.ntmps85 (by simp) (fun _ _ _ _ h => h) fun F hF0 hFm => ?_
  have hcall := indexFuncGone_ct hl f hf
  repeat (first | refine cg_seq ?_ | refine cg_region ?_ | refine rg_nil ?_ | refine eg_then ?_ | refine qsp ?_)
  refine rs rfl rfl (loc_call_is rfl rfl rfl rfl (hcall)) ?_
  repeat (first | refine rg_nil ?_ | refine eg_then ?_ | refine qsp ?_ | refine cg_ret ?_)
  refine eg_return rfl rfl ?_
  rw [idxF_ge]


set_option maxHeartbeats 400000 in
theorem beyond_ct {k : PH} (n : Int) : CT Try.prog 84 #[.int .i64 n] k (fun _ v => v = .bool (!inO n)) := by
  refine ct_of_body (l := [_]) Try.func84 rfl Try.ntmps84 (by simp) (fun _ _ _ _ h => h) fun F hF0 hFm => ?_
  repeat (first | refine cg_seq ?_ | refine cg_region ?_ | refine rg_nil ?_ | refine eg_then ?_ | refine qsp ?_)
  cases q : decide (n < 0)
  · repeat (first | refine rg_nil ?_ | refine eg_then ?_ | refine qsp ?_ | refine cg_ret ?_)
    refine eg_return rfl rfl ?_
    have : 0 ≤ n := by simp at q; omega
    simp only [inO, this, decide_true, Bool.true_and]
    rw [Value.bool.injEq, Bool.eq_iff_iff]
    simp
  · repeat (first | refine rg_nil ?_ | refine eg_then ?_ | refine qsp ?_ | refine qso ?_ | refine cg_ret ?_)
    refine eg_return rfl rfl ?_
    have : ¬ 0 ≤ n := by simp at q; omega
    simp [inO, this]
set_option maxHeartbeats 400000 in
theorem txOrder_ct {k : PH} (o : OpenT) (n : Int) : CT Try.prog 76 #[.agg o.vs.toArray, .int .i64 n] k (fun _ v => v = .int .i64 (cmpInt o.pid n)) := by
  refine ct_of_body (l := [_, _]) Try.func76 rfl Try.ntmps76 (by simp) (fun _ _ _ _ h => h) fun F hF0 hFm => ?_
  repeat (first | refine cg_seq ?_ | refine cg_region ?_)
  refine rb rfl rfl rfl rfl (a_box rfl rfl) ?_; intro b2 k2 hb2 hN2 hle2 hk2
  have c2 := cells_at (vs := o.vs) hk2 rfl
  obtain ⟨p0, p1⟩ := OpenT.parts c2
  repeat (first | refine cg_seq ?_ | refine cg_region ?_ | refine rg_nil ?_ | refine eg_then ?_ | refine qsp ?_ | refine qsl ?_ | refine qsf ?_)
  refine rs rfl rfl (loc_call_is rfl rfl rfl rfl (cmpInt_ct o.pid n)) ?_
  repeat (first | refine rg_nil ?_ | refine eg_then ?_ | refine qsp ?_ | refine cg_ret ?_)
  exact eg_return rfl rfl rfl
set_option maxHeartbeats 1000000 in
theorem odd_ct {k : PH} (g : Gone) : CT Try.prog 86 #[.agg g.vs.toArray] k (fun _ v => v = .bool (!okGone g)) := by
  refine ct_of_body (l := [_]) Try.func86 rfl Try.ntmps86 (by simp) (fun _ _ _ _ h => h) fun F hF0 hFm => ?_
  repeat (first | refine cg_seq ?_ | refine cg_region ?_)
  refine rb rfl rfl rfl rfl (a_box rfl rfl) ?_; intro b2 k2 hb2 hN2 hle2 hk2
  have c2 := cells_at (vs := g.vs) hk2 rfl
  obtain ⟨p0, p1, p2, p3⟩ := Gone.parts c2
  have hd : okGone g = (inO g.pid && (decide (0 ≤ g.no) && (decide (g.no ≤ 1048576) && (decide (0 ≤ g.first) && (decide (g.first < g.last) && inO g.last))))) := rfl
  repeat (first | refine cg_seq ?_ | refine cg_region ?_ | refine rg_nil ?_ | refine eg_then ?_ | refine qsp ?_ | refine qsl ?_ | refine qsf ?_)
  refine rs rfl rfl (loc_call_is rfl rfl rfl rfl (beyond_ct g.pid)) ?_
  repeat (first | refine qsp ?_)
  cases q1 : inO g.pid
  · repeat (first | refine rg_nil ?_ | refine eg_then ?_ | refine qsp ?_ | refine qso ?_ | refine cg_ret ?_)
    exact eg_return rfl rfl (by simp [hd, q1])
  repeat (first | refine qsp ?_ | refine qsl ?_ | refine qsf ?_)
  cases q2 : decide (g.no < 0)
  rotate_left
  · repeat (first | refine rg_nil ?_ | refine eg_then ?_ | refine qsp ?_ | refine qso ?_ | refine cg_ret ?_)
    refine eg_return rfl rfl ?_
    have : ¬ 0 ≤ g.no := by simp at q2; omega
    simp [hd, this]
  repeat (first | refine qsp ?_ | refine qsl ?_ | refine qsf ?_)
  cases q3 : decide (g.no > 1048576)
  rotate_left
  · repeat (first | refine rg_nil ?_ | refine eg_then ?_ | refine qsp ?_ | refine qso ?_ | refine cg_ret ?_)
    refine eg_return rfl rfl ?_
    have : ¬ g.no ≤ 1048576 := by simp at q3; omega
    simp [hd, this]
  repeat (first | refine qsp ?_ | refine qsl ?_ | refine qsf ?_)
  cases q4 : decide (g.first < 0)
  rotate_left
  · repeat (first | refine rg_nil ?_ | refine eg_then ?_ | refine qsp ?_ | refine qso ?_ | refine cg_ret ?_)
    refine eg_return rfl rfl ?_
    have : ¬ 0 ≤ g.first := by simp at q4; omega
    simp [hd, this]
  repeat (first | refine qsp ?_ | refine qsl ?_ | refine qsf ?_)
  cases q5 : decide (g.first ≥ g.last)
  rotate_left
  · repeat (first | refine rg_nil ?_ | refine eg_then ?_ | refine qsp ?_ | refine qso ?_ | refine cg_ret ?_)
    refine eg_return rfl rfl ?_
    have : ¬ g.first < g.last := by simp at q5; omega
    simp [hd, this]
  repeat (first | refine qsl ?_ | refine qsf ?_)
  refine rs rfl rfl (loc_call_is rfl rfl rfl rfl (beyond_ct g.last)) ?_
  repeat (first | refine rg_nil ?_ | refine eg_then ?_ | refine qsp ?_ | refine cg_ret ?_)
  refine eg_return rfl rfl ?_
  simp at q2 q3 q4 q5
  simp [hd, q1, q2, q3, q4, q5]

end Go.Wm
namespace Go.Wm
open Go.RowKit Go.Proofs
attribute [local irreducible] RG CG EG WA Loc Det Alc CT Exit.then Exit.inBlock Code.wp bodyPost

theorem rises_iff : ∀ (l : List Int) (m : Int), risesFrom m l = true ↔ (∀ h : 0 < l.length, m < l[0]) ∧ ∀ i, (h : i + 1 < l.length) → l[i] < l[i + 1]
  | [], m => by simp [risesFrom]
  | x :: r, m => by
    simp only [risesFrom, Bool.and_eq_true, decide_eq_true_eq]
    rw [rises_iff r x]
    constructor
    · rintro ⟨h1, h2, h3⟩
      refine ⟨fun _ => h1, fun i h => ?_⟩
      cases i with
      | zero => exact h2 (by simp at h; omega)
      | succ i => exact h3 i (by simp at h; omega)
    · rintro ⟨h1, h2⟩
      refine ⟨h1 (by simp), fun h => h2 0 (by simp; omega), fun i h => ?_⟩
      have := h2 (i + 1) (by simp; omega)
      simpa using this
theorem ended_prog (l : List Gone) : decide (Ended l) = (!(l.any fun g => !okGone g) && risesFrom (-1) (l.map (·.last))) := by
  rw [Bool.eq_iff_iff]
  simp only [decide_eq_true_eq, Bool.and_eq_true, Bool.not_eq_true', List.any_eq_false, Bool.not_eq_true, Bool.not_eq_false', rises_iff]
  constructor
  · intro h
    refine ⟨fun g hg => ?_, fun h0 => ?_, fun i hi => ?_⟩
    · obtain ⟨i, hi, rfl⟩ := List.getElem_of_mem hg
      simp [(h i hi).1]
    · simp at h0
      have h1 := (h 0 h0).1
      simp only [okGone, Bool.and_eq_true, decide_eq_true_eq] at h1
      simp
      omega
    · simp at hi
      have := (h (i + 1) hi).2 (by omega)
      simpa using this
  · rintro ⟨h1, _, h3⟩ i hi
    refine ⟨by have := h1 l[i] (List.getElem_mem hi); simpa using this, fun h0 => ?_⟩
    obtain ⟨j, rfl⟩ : ∃ j, i = j + 1 := ⟨i - 1, by omega⟩
    have := h3 j (by simp; exact hi)
    simpa using this

theorem lasts_ct {k : PH} (a : Option Addr) (len c : Nat) : CT Try.prog 74 #[.slice a len c] k (fun k' v => ∃ Bs, v = .func (.func 110) #[] #[.pointer (some ⟨Bs, 0, none⟩)] ∧ Cells k' Bs 0 [.slice a len c]) := by
  refine ct_of_body (l := [_]) Try.func74 rfl Try.ntmps74 (by simp) (fun k k' v hle ⟨b, h1, h2⟩ => ⟨b, h1, h2.le hle⟩) fun F hF0 hFm => ?_
  repeat (first | refine cg_seq ?_ | refine cg_region ?_)
  refine rb rfl rfl rfl rfl (a_box rfl rfl) ?_; intro b1 k1 hb1 hN1 hle1 hk1
  have c1 := cells_at (vs := [.slice a len c]) hk1 rfl
  repeat (first | refine cg_seq ?_ | refine cg_region ?_ | refine rg_nil ?_ | refine eg_then ?_ | refine qsp ?_ | refine cg_ret ?_)
  exact eg_return rfl rfl ⟨b1, rfl, c1⟩
end Go.Wm
namespace Go.Wm
open Go.RowKit Go.Proofs
theorem rises_ct {k : PH} {a : Option Addr} {c Bs : Nat} {l : List Gone} (hl : Sl tGone k a c l) (hc : Cells k Bs 0 [.slice a l.length c]) (hb : l.length ≤ 1000000) :
    CT Try.prog 87 #[.func (.func 110) #[] #[.pointer (some ⟨Bs, 0, none⟩)]] k (fun _ v => v = .bool (risesFrom (-1) (l.map (·.last)))) := by
  intro w k1 hle hs
  have ho := hl.le hle
  have hbase : ∃ b off, 0 < l.length → a = some ⟨b, off, none⟩ ∧ b < w.heap.size := by
    by_cases h0 : 0 < l.length
    · obtain ⟨b, off, cx, rfl, ⟨rfl, _⟩, hc⟩ := ho.el 0 l[0] (List.getElem?_eq_getElem h0)
      obtain ⟨c, et, fr, h1, _⟩ := hc
      exact ⟨b, off, fun _ => ⟨rfl, (Array.getElem?_eq_some_iff.1 (hs b _ h1)).1⟩⟩
    · exact ⟨0, 0, fun h => absurd h h0⟩
  obtain ⟨b, off, ha⟩ := hbase
  have hBs : w.cell? ⟨Bs, 0, none⟩ = some (.slice a l.length c) := cell_of (j := 0) (off := 0) (hc.le hle) hs rfl
  have hB : Bs < w.heap.size := by
    obtain ⟨c', et, fr, h1, _⟩ := hc.le hle
    exact (Array.getElem?_eq_some_iff.1 (hs Bs _ h1)).1
  have := (callsIn_wide (n := 5)).1 (rises_in Fence.wide 5 trivial trivial rfl (by omega) Bs b off l.length c a (fun j => ((l[j]?).map (·.pid)).getD 0) (fun j => ((l[j]?).map (·.no)).getD 0) (fun j => ((l[j]?).map (·.first)).getD 0) (fun j => ((l[j]?).map (·.last)).getD 0) w (by omega) ha hB hBs (fun j hj => by
    obtain ⟨rfl, _⟩ := ha (by omega)
    obtain ⟨b', off', cx, e, ⟨rfl, _⟩, hc⟩ := ho.el j l[j] (List.getElem?_eq_getElem hj)
    cases e
    simp only [List.getElem?_eq_getElem hj, Option.map_some, Option.getD_some]
    exact ⟨cell_of (j := 0) hc hs rfl, cell_of (j := 1) hc hs rfl, cell_of (j := 2) hc hs rfl, cell_of (j := 3) hc hs rfl⟩))
  refine Calls.mono this ?_
  rintro e w' ⟨he, hbl⟩
  refine ret_of hs he hbl ?_
  rw [upto_map]
end Go.Wm
namespace Go.Wm
open Go.RowKit Go.Proofs
attribute [local irreducible] RG CG EG WA Loc Det Alc CT Exit.then Exit.inBlock Code.wp bodyPost

theorem cmpInt_ge (a b : Int) : decide (cmpInt a b ≥ 0) = !decide (a < b) := by
  rcases cmpInt_cases a b with ⟨h, h2⟩ | ⟨h, h2⟩ | ⟨h, h2⟩
  · rw [h]; simp [h2]
  · rw [h]; simp; omega
  · rw [h]; simp; omega

set_option maxHeartbeats 2000000 in
theorem txCheck_ct {k : PH} {t : Tx} {a0 : Option Addr} {c0 : Nat} {a1 : Option Addr} {c1 : Nat} {a2 : Option Addr} {c2 : Nat} (ht : TxAt k t a0 c0 a1 c1 a2 c2) (hg : t.gone.length ≤ 1000000) (hdn : t.done.length ≤ 1000000) :
    CT Try.prog 41 #[.agg (t.cs a0 c0 a1 c1 a2 c2).toArray] k (fun _ v => v = errOf (txP t) 1) := by
  refine ct_of_body (l := [_]) Try.func41 rfl Try.ntmps41 (by simp) (fun _ _ _ _ h => h) fun F hF0 hFm => ?_
  have b1 := ht.o.cap; have b2 := ht.o.max; unfold maxLen at b2
  repeat (first | refine cg_seq ?_ | refine cg_region ?_)
  refine rb rfl rfl rfl rfl (a_box rfl rfl) ?_; intro b1 k1 hb1 hN1 hle1 hk1
  have cc := cells_at (vs := t.cs a0 c0 a1 c1 a2 c2) hk1 rfl
  have ht := ht.le hle1
  obtain ⟨z0, z1, z2⟩ := Tx.parts cc
  repeat (first | refine cg_seq ?_ | refine cg_region ?_ | refine rg_nil ?_ | refine eg_then ?_ | refine qsp ?_ | refine qsn ?_ | refine qsl ?_ | refine qsf ?_ | refine cg_block ?_)
  refine cg_loop (fun (i : Nat) e k' => Le k1 k' ∧ i ≤ t.openV.length ∧ (∀ j, (h : j < t.openV.length) → j < i → (inO t.openV[j].pid && inO t.openV[j].first) = true ∧ (0 < j → t.openV[j - 1].pid < t.openV[j].pid)) ∧ e = [(1, .is (.pointer (some ⟨b1, 0, none⟩))), (8, .is (.slice a0 t.openV.length c0)), (9, .is (.int .i64 (t.openV.length : Int))), (10, .is (.int .i64 (i : Int)))])
    (fun i => t.openV.length - i) 0 ⟨Le.refl _, Nat.zero_le _, fun j _ hj => by omega, rfl⟩ ⟨rfl, rfl, rfl, rfl, trivial⟩ ?_
  rintro i e k' ⟨hle, hi, hno, rfl⟩
  repeat (first | refine cg_seq ?_ | refine cg_region ?_ | refine rg_nil ?_ | refine eg_then ?_ | refine qsp ?_)
  refine cg_cond rfl (fun h => ?_) (fun h => ?_)
  · have hlt : i < t.openV.length := by simpa using h
    obtain ⟨bx, ox, cx, rfl, ⟨rfl, hok⟩, hcx⟩ := ht.o.el i t.openV[i] (List.getElem?_eq_getElem hlt)
    have hcx1 := hcx.le hle
    have bad : ¬ ((inO t.openV[i].pid && inO t.openV[i].first) = true ∧ (0 < i → t.openV[i - 1].pid < t.openV[i].pid)) → Value.int .i64 1 = errOf (txP t) 1 := fun hb => by
      have : ¬ Opens t.openV := fun ha => hb (ha i hlt)
      simp [errOf, txP, this]
    repeat (first | refine cg_seq ?_ | refine cg_region ?_ | refine eg_then ?_ | refine qsp ?_ | refine qsi ?_ | refine qsg ?_ | refine cg_skip ?_ | refine cg_block ?_)
    refine rb rfl rfl rfl rfl (a_alloc rfl) ?_; intro b7 k7 hb7 hN7 hle7 hk7
    repeat (first | refine qsp ?_)
    refine rw1 rfl rfl rfl rfl rfl rfl rfl hk7 rfl (.inl hN7) ?_ ?_; (simp [Tp.vs, Mark.vs, OpenT.vs, Gone.vs, Tx.cs, View.cs, Rec.vs, Batch.cs, Who.vs, Pl.vs, Value.oneCell']); intro k8 ht8 hk8
    have c8 := cells_at (vs := t.openV[i].vs) hk8 rfl
    have hle8 : Le k' k8 := ht8 k' hle7 hb7
    have hl8 := hle.trans hle8
    have cc8 := cc.le hl8
    obtain ⟨p0, p1⟩ := OpenT.parts c8
    obtain ⟨z0, z1, z2⟩ := Tx.parts cc8
    repeat (first | refine cg_seq ?_ | refine rg_nil ?_ | refine eg_then ?_)
    refine cg_any (by kernel_rfl) rfl ?_
    repeat (first | refine qwl ?_ | refine qwf ?_)
    refine ws rfl (loc_call_is rfl rfl rfl rfl (beyond_ct t.openV[i].pid)) ?_
    repeat (first | refine qwp ?_)
    cases q1 : inO t.openV[i].pid
    · repeat (first | refine qwp ?_ | refine qwo ?_ | (refine wn rfl ?_; refine eg_then ?_))
      repeat (first | refine cg_seq ?_ | refine cg_region ?_ | refine rg_nil ?_ | refine eg_then ?_ | refine qsp ?_ | refine cg_cond_true rfl ?_ | refine cg_ret ?_ | refine eg_then_ret ?_ | refine eg_in_ret ?_)
      exact eg_return rfl rfl (bad (by simp [q1]))
    repeat (first | refine qwl ?_ | refine qwf ?_)
    refine ws rfl (loc_call_is rfl rfl rfl rfl (beyond_ct t.openV[i].first)) ?_
    repeat (first | refine qwp ?_)
    cases q2 : inO t.openV[i].first
    · repeat (first | refine qwp ?_ | refine qwo ?_ | (refine wn rfl ?_; refine eg_then ?_))
      repeat (first | refine cg_seq ?_ | refine cg_region ?_ | refine rg_nil ?_ | refine eg_then ?_ | refine qsp ?_ | refine cg_cond_true rfl ?_ | refine cg_ret ?_ | refine eg_then_ret ?_ | refine eg_in_ret ?_)
      exact eg_return rfl rfl (bad (by simp [q2]))
    repeat (first | refine qwp ?_)
    cases q7 : decide ((i : Int) > 0)
    · repeat (first | refine qwp ?_ | refine qwo ?_ | (refine wn rfl ?_; refine eg_then ?_))
      repeat (first | refine cg_region ?_ | refine rg_nil ?_ | refine eg_then ?_ | refine qsp ?_ | refine qsa ?_ | refine cg_cond_false rfl ?_ | refine cg_skip ?_ | refine eg_in_normal ?_)
      refine eg_again (i + 1) _ ⟨hl8, hlt, fun j hj hji => ?_, rfl⟩ (by omega) ⟨rfl, rfl, rfl, rfl, trivial⟩
      have : i = 0 := by simp at q7; omega
      have : j = 0 := by omega
      subst this; subst i
      exact ⟨by simp [q1, q2], by omega⟩
    have hi0 : 0 < i := by simp at q7; omega
    have hlt' : i - 1 < t.openV.length := by omega
    obtain ⟨by', oy, cy, ey, ⟨rfl, hok'⟩, hcy⟩ := ht.o.el (i - 1) t.openV[i - 1] (List.getElem?_eq_getElem hlt')
    cases ey
    have hcy1 := hcy.le hl8
    have hsub : ((i - 1 : Nat) : Int) = (i : Int) - 1 := by omega
    repeat (first | refine qwp ?_ | refine qws ?_ | refine qwl ?_ | refine qwf ?_)
    rw [← hsub]
    repeat (first | refine qwi ?_ | refine qwl ?_ | refine qwg ?_ | refine qwf ?_)
    refine ws rfl (loc_call_is rfl rfl rfl rfl (txOrder_ct t.openV[i - 1] t.openV[i].pid)) ?_
    repeat (first | refine qwp ?_ | (refine wn rfl ?_; refine eg_then ?_))
    rw [cmpInt_ge]
    skip
    cases q8 : decide (t.openV[i - 1].pid < t.openV[i].pid)
    · skip
      repeat (first | refine cg_seq ?_ | refine cg_region ?_ | refine rg_nil ?_ | refine eg_then ?_ | refine qsp ?_ | refine cg_cond_true rfl ?_ | refine cg_ret ?_ | refine eg_then_ret ?_ | refine eg_in_ret ?_)
      exact eg_return rfl rfl (bad (by rintro ⟨_, h3⟩; have := h3 hi0; simp at q8; omega))
    · skip
      repeat (first | refine cg_region ?_ | refine rg_nil ?_ | refine eg_then ?_ | refine qsp ?_ | refine qsa ?_ | refine cg_cond_false rfl ?_ | refine cg_skip ?_ | refine eg_in_normal ?_)
      refine eg_again (i + 1) _ ⟨hl8, hlt, fun j hj hji => ?_, rfl⟩ (by omega) ⟨rfl, rfl, rfl, rfl, trivial⟩
      by_cases e : j = i
      · subst e
        exact ⟨by simp [q1, q2], fun _ => by simp at q8; omega⟩
      · exact hno j hj (by omega)
  · have hin : i = t.openV.length := by simp at h; omega
    have hop : Opens t.openV := fun j hj => hno j hj (by omega)
    have hd : txP t = (decide (Ended t.gone) && decide (Ended t.done)) := by unfold txP; rw [decide_eq_true hop, Bool.true_and]
    have cc8 := cc.le hle
    obtain ⟨z0, z1, z2⟩ := Tx.parts cc8
    repeat (first | refine cg_seq ?_ | refine cg_region ?_ | refine eg_then ?_ | refine qsl ?_ | refine qsf ?_ | refine cg_exit ?_ | refine eg_then_exit ?_ | refine eg_in_exit ?_)
    refine rb rfl rfl rfl rfl (a_slice (cells := [.slice a1 t.gone.length c1, .slice a2 t.done.length c2]) rfl rfl rfl rfl (by kernel_rfl) rfl) ?_; intro b11 k11 hb11 hN11 hle11 hk11
    have hl11 := hle.trans hle11
    have hL : Sl (tSl tGone) k11 (some ⟨b11, 0, none⟩) 2 [t.gone, t.done] := sl_rows (T := tSl tGone) (xs := [t.gone, t.done]) (css := [[.slice a1 t.gone.length c1], [.slice a2 t.done.length c2]]) hk11 rfl rfl (fun i cs x h1 h2 => by
      rcases i with _ | _ | i <;> simp at h1 h2
      · subst h1; subst h2
        exact ⟨a1, c1, rfl, ht.g.le hl11⟩
      · subst h1; subst h2
        exact ⟨a2, c2, rfl, ht.d.le hl11⟩) (by simp [maxLen])
    repeat (first | refine rg_nil ?_ | refine eg_then ?_ | refine qsp ?_ | refine qsn ?_ | refine cg_block ?_)
    refine cg_loop (fun (i : Nat) e k' => Le k11 k' ∧ i ≤ 2 ∧ (∀ j, (h : j < [t.gone, t.done].length) → j < i → Ended [t.gone, t.done][j]) ∧ e = [(44, .is (.slice (some ⟨b11, 0, none⟩) 2 2)), (45, .is (.int .i64 2)), (46, .is (.int .i64 (i : Int)))])
      (fun i => 2 - i) 0 ⟨Le.refl _, Nat.zero_le _, fun j _ hj => by omega, rfl⟩ ⟨rfl, rfl, rfl, trivial⟩ ?_
    rintro i e k2 ⟨hle2, hi, hno, rfl⟩
    repeat (first | refine cg_seq ?_ | refine cg_region ?_ | refine rg_nil ?_ | refine eg_then ?_ | refine qsp ?_)
    refine cg_cond rfl (fun h => ?_) (fun h => ?_)
    · have hlt : i < 2 := by simp at h; omega
      have hli : i < [t.gone, t.done].length := by simpa using hlt
      obtain ⟨bx, ox, cx, ebx, ⟨al, cl, rfl, hsl⟩, hcx⟩ := (hL.le hle2).el i [t.gone, t.done][i] (List.getElem?_eq_getElem hli)
      cases ebx
      have hbl : [t.gone, t.done][i].length ≤ 1000000 := by
        have := List.getElem_mem hli
        simp only [List.mem_cons, List.not_mem_nil, or_false] at this
        rcases this with h | h <;> rw [h] <;> assumption
      have bad : ¬ Ended [t.gone, t.done][i] → Value.int .i64 1 = errOf (txP t) 1 := fun hb => by
        have : ¬ (Ended t.gone ∧ Ended t.done) := by
          rintro ⟨h1, h2⟩
          apply hb
          have := List.getElem_mem hli
          simp only [List.mem_cons, List.not_mem_nil, or_false] at this
          rcases this with h | h <;> rw [h] <;> assumption
        rw [hd]
        simp only [errOf, Bool.and_eq_true, decide_eq_true_eq]
        rw [if_neg this]
      obtain ⟨g, hgg⟩ : ∃ g, [t.gone, t.done][i] = g := ⟨_, rfl⟩
      rw [hgg] at hsl hcx hbl bad
      have hep := ended_prog g
      have hcall := containsFuncGone_ct hsl (g := 86) (cap := #[]) (fun g => !okGone g) (fun m hm cm hcm => by
        obtain ⟨rfl, _⟩ := hcm
        exact odd_ct m)
      repeat (first | refine cg_seq ?_ | refine cg_region ?_ | refine rg_nil ?_ | refine eg_then ?_ | refine qsp ?_ | refine qsi ?_ | refine qsl ?_ | refine cg_skip ?_ | refine cg_block ?_)
      refine rs rfl rfl (loc_call_is rfl rfl rfl rfl (hcall)) ?_
      repeat (first | refine qsp ?_)
      cases q1 : g.any (fun g => !okGone g)
      rotate_left
      · repeat (first | refine cg_seq ?_ | refine cg_region ?_ | refine rg_nil ?_ | refine eg_then ?_ | refine qsp ?_ | refine qso ?_ | refine cg_cond_true rfl ?_ | refine cg_ret ?_ | refine eg_then_ret ?_ | refine eg_in_ret ?_)
        exact eg_return rfl rfl (bad (fun he => by rw [decide_eq_true he, q1] at hep; simp at hep))
      repeat (first | refine qsp ?_)
      refine rv rfl rfl rfl (loc_call rfl rfl rfl rfl (fun k k' v hle ⟨b, h1, h2⟩ => ⟨b, h1, h2.le hle⟩) (lasts_ct al g.length cl)) ?_
      rintro k3 hle3 _ ⟨Bs, rfl, hcb⟩
      skip
      refine rs rfl rfl (loc_call_is rfl rfl rfl rfl (rises_ct (hsl.le hle3) hcb hbl)) ?_
      repeat (first | refine rg_nil ?_ | refine eg_then ?_ | refine qsp ?_)
      rw [q1] at hep
      simp only [Bool.not_false, Bool.true_and] at hep
      rw [← hep]
      by_cases he : Ended g
      · rw [decide_eq_true he]
        repeat (first | refine cg_region ?_ | refine rg_nil ?_ | refine eg_then ?_ | refine qsp ?_ | refine qsa ?_ | refine cg_cond_false rfl ?_ | refine cg_skip ?_ | refine eg_in_normal ?_)
        refine eg_again (i + 1) _ ⟨hle2.trans hle3, hlt, fun j hj hji => ?_, rfl⟩ (by omega) ⟨rfl, rfl, rfl, trivial⟩
        by_cases e : j = i
        · subst e
          rw [hgg]
          exact he
        · exact hno j hj (by omega)
      · rw [decide_eq_false he]
        repeat (first | refine cg_seq ?_ | refine cg_region ?_ | refine rg_nil ?_ | refine eg_then ?_ | refine qsp ?_ | refine cg_cond_true rfl ?_ | refine cg_ret ?_ | refine eg_then_ret ?_ | refine eg_in_ret ?_)
        exact eg_return rfl rfl (bad he)
    · have hi2 : i = 2 := by simp at h; omega
      subst hi2
      have e1 : Ended t.gone := hno 0 (by simp) (by omega)
      have e2 : Ended t.done := hno 1 (by simp) (by omega)
      repeat (first | refine cg_seq ?_ | refine cg_region ?_ | refine rg_nil ?_ | refine eg_then ?_ | refine qsp ?_ | refine cg_ret ?_ | refine cg_exit ?_ | refine eg_then_exit ?_ | refine eg_in_exit ?_)
      refine eg_return rfl rfl ?_
      simp [hd, e1, e2, errOf]
end Go.Wm
