/-
  A group that is changed, the program's: how it lies in memory, and how it is begun. Conditions: that what is handed in reads as data.
-/
import Derived.Test.YtbhgbfhgdccghaaGreatN4
import Derived.Test.YtbhgbfhgdccghaaGreatJ1
set_option linter.all false
namespace Go.Wm
open Go.RowKit Go.Proofs
def kCells (g : Group) (v : Value) (e : Int) : List Value := [.string g.name, .int .i64 g.gen, .int .i64 g.state, v, .int .i64 e]
/-- A text as a cell. -/
abbrev strV (s : ByteArray) : List Value := [.string s]
/-- What a member holds are rows of the call's own. -/
structure MemRow (N : Nat) (k : PH) (cs : List Value) (m : Member) : Prop where
  own : Row N k 53 3 (cs.getD 3 undef) m.own.length (m.own.flatMap Tp.vs)
  subs : Row N k 9 1 (cs.getD 2 undef) m.subs.length (m.subs.flatMap strV)
/-- Two members' partitions lie in two blocks. -/
def ownNe (cs cs' : List Value) : Prop := ∀ g, (cs.getD 3 undef).ownBlock = some g → (cs'.getD 3 undef).ownBlock ≠ some g
theorem ownNe.symm {cs cs' : List Value} (h : ownNe cs cs') : ownNe cs' cs := fun g h1 h2 => h g h2 h1
/-- Each member's partitions, and topics, are rows of the call's own. -/
structure OwnsAt (N : Nat) (k : PH) (css : List (List Value)) (l : List Member) : Prop where
  rows : ∀ (i : Nat) (cs : List Value) (m : Member), css[i]? = some cs → l[i]? = some m → MemRow N k cs m
  ne : css.Pairwise ownNe
theorem MemRow.le {N : Nat} {k k' : PH} {cs : List Value} {m : Member} (h : MemRow N k cs m) (hl : Le k k') : MemRow N k' cs m := ⟨h.own.le hl, h.subs.le hl⟩
theorem MemRow.turnY {N : Nat} {k k' : PH} {cs : List Value} {m : Member} {b : Nat} {c : Array Value} {et : TypeId} {fr : Nat × Nat} (h : MemRow N k cs m) (ht : Turn1 k k' b) (hb : k b = some (.cells c et fr)) (hne : 53 ≠ et) (hns : 9 ≠ et) : MemRow N k' cs m := ⟨h.own.turnY ht hb hne, h.subs.turnY ht hb hns⟩
theorem OwnsAt.le {N : Nat} {k k' : PH} {css : List (List Value)} {l : List Member} (h : OwnsAt N k css l) (hl : Le k k') : OwnsAt N k' css l := ⟨fun i cs m h1 h2 => (h.rows i cs m h1 h2).le hl, h.ne⟩
theorem OwnsAt.turnY {N : Nat} {k k' : PH} {css : List (List Value)} {l : List Member} {b : Nat} {c : Array Value} {et : TypeId} {fr : Nat × Nat} (h : OwnsAt N k css l) (ht : Turn1 k k' b) (hb : k b = some (.cells c et fr)) (hne : 53 ≠ et) (hns : 9 ≠ et) : OwnsAt N k' css l := ⟨fun i cs m h1 h2 => (h.rows i cs m h1 h2).turnY ht hb hne hns, h.ne⟩
theorem Row.two1 {N N' : Nat} {k : PH} {et et' sz sz' : Nat} {v v' : Value} {m m' : Nat} {xs xs' : List Value} (h : Row N k et sz v m xs) (h' : Row N' k et' sz' v' m' xs') (hne : et ≠ et') {g : Nat} (hg : v.ownBlock = some g) : v'.ownBlock ≠ some g := by
  obtain ⟨hl, (⟨rfl, rfl⟩ | ⟨g', cap, cur, rfl, hN, hk, h1, h2, h3, h4⟩)⟩ := h
  · simp [Value.ownBlock] at hg
  · simp [Value.ownBlock] at hg
    subst hg
    exact h'.owner1 hk (Ne.symm hne)
theorem OwnsAt.delV {N N' : Nat} {k : PH} {css : List (List Value)} {l : List Member} {v : Value} {m sz : Nat} {xs : List Value} {et : Nat} (h : OwnsAt N k css l) (hr : Row N' k et sz v m xs) (hne : 53 ≠ et) (hns : 9 ≠ et) : OwnsAt N (Wm.delV k v) css l := ⟨fun i cs x h1 h2 => ⟨(h.rows i cs x h1 h2).own.at fun g hg => delV_of ((h.rows i cs x h1 h2).own.two1 hr hne hg), (h.rows i cs x h1 h2).subs.at fun g hg => delV_of ((h.rows i cs x h1 h2).subs.two1 hr hns hg)⟩, h.ne⟩
theorem OwnsAt.snoc {N : Nat} {k : PH} {css : List (List Value)} {l : List Member} {cs : List Value} {m : Member} (h : OwnsAt N k css l) (hl : css.length = l.length) (hm : MemRow N k cs m) (hn : ∀ c ∈ css, ownNe c cs) : OwnsAt N k (css ++ [cs]) (l ++ [m]) := ⟨fun i c x h1 h2 => by
  by_cases hi : i < css.length
  · rw [List.getElem?_append_left hi] at h1
    rw [List.getElem?_append_left (by omega)] at h2
    exact h.rows i c x h1 h2
  · rw [List.getElem?_append_right (by omega)] at h1
    rw [List.getElem?_append_right (by omega), ← hl] at h2
    cases hj : i - css.length with
    | zero =>
      rw [hj] at h1 h2
      simp at h1 h2
      rw [← h1, ← h2]; exact hm
    | succ j => rw [hj] at h1; simp at h1, List.pairwise_append.2 ⟨h.ne, List.pairwise_singleton _ _, fun a ha b hb => by simp at hb; subst hb; exact hn a ha⟩⟩
/-- The group that is changed lies in block bk, its members in a row of the call's own; what the members hold is known in KK. -/
structure KeepAt (N : Nat) (KK k : PH) (bk : Nat) (v : Value) (g : Group) (e : Int) : Prop where
  at' : k bk = some (.cells (kCells g v e).toArray 59 (0, 0))
  nb : N ≤ bk
  le : Le KK k
  kb : KK bk = none
  ap : Apart KK v
  row : ∃ css, Pieces tMember KK css g.l ∧ Row N k 44 6 v g.l.length css.flatten ∧ OwnsAt N KK css g.l
/-- The same, but for what is said of the rows that the members hold. -/
structure KeepAt0 (N : Nat) (KK k : PH) (bk : Nat) (v : Value) (g : Group) (e : Int) : Prop where
  at' : k bk = some (.cells (kCells g v e).toArray 59 (0, 0))
  nb : N ≤ bk
  le : Le KK k
  kb : KK bk = none
  ap : Apart KK v
  row : ∃ css, Pieces tMember KK css g.l ∧ Row N k 44 6 v g.l.length css.flatten
theorem KeepAt.to0 {N : Nat} {KK k : PH} {bk : Nat} {v : Value} {g : Group} {e : Int} (h : KeepAt N KK k bk v g e) : KeepAt0 N KK k bk v g e := by
  obtain ⟨css, h1, h2, _⟩ := h.row
  exact ⟨h.at', h.nb, h.le, h.kb, h.ap, css, h1, h2⟩
theorem KeepAt0.sl {N : Nat} {KK k : PH} {bk : Nat} {v : Value} {g : Group} {e : Int} (h : KeepAt0 N KK k bk v g e) : ∃ a c, v = .slice a g.l.length c ∧ Sl tMember k a c g.l := by
  obtain ⟨css, h1, h2⟩ := h.row
  exact h2.sls (T := tMember) (h1.le h.le)
theorem KeepAt0.up {N : Nat} {KK k k' : PH} {bk : Nat} {v : Value} {g : Group} {e : Int} (h : KeepAt0 N KK k bk v g e) (hl : Le k k') : KeepAt0 N KK k' bk v g e := by
  obtain ⟨css, h1, h2⟩ := h.row
  exact ⟨hl _ _ h.at', h.nb, h.le.trans hl, h.kb, h.ap, css, h1, h2.le hl⟩
theorem KeepAt.sl {N : Nat} {KK k : PH} {bk : Nat} {v : Value} {g : Group} {e : Int} (h : KeepAt N KK k bk v g e) : ∃ a c, v = .slice a g.l.length c ∧ Sl tMember k a c g.l := by
  obtain ⟨css, h1, h2, _⟩ := h.row
  exact h2.sls (T := tMember) (h1.le h.le)
theorem KeepAt.up {N : Nat} {KK k k' : PH} {bk : Nat} {v : Value} {g : Group} {e : Int} (h : KeepAt N KK k bk v g e) (hl : Le k k') : KeepAt N KK k' bk v g e := by
  obtain ⟨css, h1, h2, h3⟩ := h.row
  exact ⟨hl _ _ h.at', h.nb, h.le.trans hl, h.kb, h.ap, css, h1, h2.le hl, h3⟩
/-- All that is known but the group that is changed. -/
def keepH (k : PH) (bk : Nat) (v : Value) : PH := delV (delB k bk) v
theorem le_keepH {h k : PH} {bk : Nat} {v : Value} (hl : Le h k) (hb : h bk = none) (ha : Apart h v) : Le h (keepH k bk v) := le_delV (le_delB hl hb) ha
theorem keepH_le (k : PH) (bk : Nat) (v : Value) : Le (keepH k bk v) k := (delV_le _ _).trans (delB_le _ _)
theorem keepH_b (k : PH) (bk : Nat) (v : Value) : keepH k bk v bk = none := by
  cases h : keepH k bk v bk with
  | none => rfl
  | some o => have := delV_le (delB k bk) v bk o h; rw [delB_own] at this; cases this
theorem keepH_v (k : PH) (bk : Nat) (v : Value) : Apart (keepH k bk v) v := fun g hg => delV_own hg
theorem KeepAt.base {N : Nat} {KK k : PH} {bk : Nat} {v : Value} {g : Group} {e : Int} (h : KeepAt N KK k bk v g e) : KeepAt N (keepH k bk v) k bk v g e := by
  obtain ⟨css, h1, h2, h3⟩ := h.row
  exact ⟨h.at', h.nb, keepH_le _ _ _, keepH_b _ _ _, keepH_v _ _ _, css, h1.le (le_keepH h.le h.kb h.ap), h2, h3.le (le_keepH h.le h.kb h.ap)⟩
/-- What was known ahead of the call that began it is known beside it. -/
theorem KeepAt.old {N : Nat} {KK k k0 : PH} {bk : Nat} {v : Value} {g : Group} {e : Int} (h : KeepAt N KK k bk v g e) (hl : Le k0 k) (hn : ∀ b, N ≤ b → k0 b = none) : Le k0 (keepH k bk v) := by
  obtain ⟨css, h1, h2, _⟩ := h.row
  exact le_keepH hl (hn _ h.nb) (h2.apart hn)
/-- What is in reach is not so large that its copies are not. -/
def SmallG (g : Group) : Prop := g.l.length * 96 ≤ 140737488355328 ∧ ∀ m ∈ g.l, m.subs.length * 16 ≤ 140737488355328 ∧ m.own.length * 32 ≤ 140737488355328
/-- What a call that makes a row has told, in a heap that has the new blocks. -/
theorem made_sl {α : Type} {T : Ty α} {N et : Nat} {kq k h : PH} {v : Value} {l : List α} (hT : ∀ k1 k2 cs x, T.rep k1 cs x → T.rep k2 cs x) (hm : Made N kq (fun M k v => ∃ css, Pieces T kq css l ∧ Row M k et T.sz v l.length css.flatten) k v) (hh : ∀ g, N ≤ g → kq g = none → h g = k g) : ∃ a c, v = .slice a l.length c ∧ Sl T h a c l := by
  obtain ⟨M, hN, hn, css, h1, h2⟩ := hm
  have h3 : Row M h et T.sz v l.length css.flatten := h2.at fun g hg => by
    obtain ⟨hM, _⟩ := h2.block hg
    exact hh g (Nat.le_trans hN hM) (hn g hM)
  exact h3.sls (T := T) ⟨h1.1, fun i cs x e1 e2 => hT _ _ _ _ (h1.2 i cs x e1 e2)⟩
theorem made_le {α : Type} {T : Ty α} {N et : Nat} {kq k k' : PH} {v : Value} {l : List α} (hm : Made N kq (fun M k v => ∃ css, Pieces T kq css l ∧ Row M k et T.sz v l.length css.flatten) k v) (hl : ∀ g o, N ≤ g → k g = some o → k' g = some o) : Made N kq (fun M k v => ∃ css, Pieces T kq css l ∧ Row M k et T.sz v l.length css.flatten) k' v := by
  obtain ⟨M, hN, hn, css, h1, h2⟩ := hm
  refine ⟨M, hN, hn, css, h1, h2.at fun g hg => ?_⟩
  obtain ⟨hM, ob, hob⟩ := h2.block hg
  rw [hob, hl g ob (Nat.le_trans hN hM) hob]
theorem made_one {α : Type} {T : Ty α} {N et : Nat} {kq k : PH} {v : Value} {l : List α} (hm : Made N kq (fun M k v => ∃ css, Pieces T kq css l ∧ Row M k et T.sz v l.length css.flatten) k v) : v.oneCell' = true := by
  obtain ⟨M, hN, hn, css, h1, h2⟩ := hm
  exact h2.oneV1
theorem made_rowF {α : Type} {T : Ty α} {f : α → List Value} (hf : ∀ k cs x, T.rep k cs x → cs = f x) {N N0 et : Nat} {kq k : PH} {v : Value} {l : List α} (hm : Made N kq (fun M k v => ∃ css, Pieces T kq css l ∧ Row M k et T.sz v l.length css.flatten) k v) (h0 : N0 ≤ N) : Row N0 k et T.sz v l.length (l.flatMap f) := by
  obtain ⟨M, hN, hn, css, h1, h2⟩ := hm
  have e : css = l.map f := by
    apply List.ext_getElem?
    intro i
    rw [List.getElem?_map]
    cases h3 : css[i]? with
    | none =>
      have : css.length ≤ i := List.getElem?_eq_none_iff.1 h3
      rw [List.getElem?_eq_none (by rw [← h1.1]; exact this)]; rfl
    | some cs =>
      have hi : i < l.length := by rw [← h1.1]; exact (List.getElem?_eq_some_iff.1 h3).1
      rw [List.getElem?_eq_getElem hi, hf _ _ _ (h1.2 i cs _ h3 (List.getElem?_eq_getElem hi))]; rfl
  rw [e, ← List.flatMap_def] at h2
  exact h2.N_le (Nat.le_trans h0 hN)
theorem made_row {N N0 et : Nat} {kq k : PH} {v : Value} {l : List Tp} (hm : Made N kq (fun M k v => ∃ css, Pieces tTp kq css l ∧ Row M k et 3 v l.length css.flatten) k v) (h0 : N0 ≤ N) : Row N0 k et 3 v l.length (l.flatMap Tp.vs) := made_rowF (T := tTp) (fun _ _ _ h => h.1) hm h0
theorem made_rowS {N N0 et : Nat} {kq k : PH} {v : Value} {l : List ByteArray} (hm : Made N kq (fun M k v => ∃ css, Pieces tStr kq css l ∧ Row M k et 1 v l.length css.flatten) k v) (h0 : N0 ≤ N) : Row N0 k et 1 v l.length (l.flatMap strV) := made_rowF (T := tStr) (f := strV) (fun _ _ _ h => h.1) hm h0
abbrev PStr (N : Nat) (kq : PH) (l : List ByteArray) : PH → Value → Prop := Made N kq (fun M k v => ∃ css, Pieces tStr kq css l ∧ Row M k 9 1 v l.length css.flatten)
abbrev PTp (N : Nat) (kq : PH) (l : List Tp) : PH → Value → Prop := Made N kq (fun M k v => ∃ css, Pieces tTp kq css l ∧ Row M k 53 3 v l.length css.flatten)
theorem no_win {b : Bool} (h : b = true) (h2 : b = false) : False := by rw [h] at h2; cases h2
attribute [local irreducible] RG CG EG WA Loc Det Alc CT Exit.then Exit.inBlock Code.wp bodyPost
set_option maxHeartbeats 8000000 in
theorem keep_ctn {k : PH} {g : Group} {a : Option Addr} {c : Nat} (hl : Sl tMember k a c g.l) (hok : g.ok) (hsm : SmallG g) : CTN Tryz.prog 24 #[.agg (g.cs a c).toArray] k (fun N k' u => ∃ bk KK v, u = .pointer (some ⟨bk, 0, none⟩) ∧ KeepAt N KK k' bk v g (chkG g)) := by
  refine ctn_of_body (l := [_]) Tryz.func24 rfl Tryz.ntmps24 (by simp) (fun N k k' v hle ⟨bk, KK, v', h1, h2⟩ => ⟨bk, KK, v', h1, h2.up hle⟩) fun F hF0 hFm => ?_
  have b1 := hl.cap; have b2 := hl.max; unfold maxLen at b2
  repeat (first | refine cg_seq ?_ | refine cg_region ?_)
  refine rb rfl rfl rfl rfl (a_box rfl rfl) ?_; intro b1' k1 hb1 hN1 hle1 hk1
  have hl := hl.le hle1
  have cg1 := cells_at (vs := g.cs a c) hk1 rfl
  repeat (first | refine cg_seq ?_ | refine rg_nil ?_ | refine eg_then ?_ | refine qsp ?_)
  refine cg_fresh 4 [] (by kernel_rfl) (by kernel_rfl) rfl rfl rfl ?_
  dsimp only [List.take]
  repeat (first | refine qfg ?_)
  refine fs_s rfl (loc_call_is rfl rfl rfl rfl (check_ct hl hok)) rfl ?_
  skip
  refine fs_s rfl (loc_det rfl (d_lit (cells := kCells g (.slice a g.l.length c) (chkG g)) rfl rfl rfl)) rfl ?_
  refine fs_nil ?_
  intro k2 vs hle2 _ _ _
  dsimp only [List.drop, nameE, nameP]
  refine rb rfl rfl rfl rfl (a_box rfl rfl) ?_; intro bk k3 hbk hNk hle3 hk3
  repeat (first | refine cg_seq ?_ | refine cg_region ?_ | refine rg_nil ?_ | refine eg_then ?_ | refine qsp ?_ | refine qsf ?_)
  refine rw0 rfl rfl rfl rfl rfl rfl rfl rfl hk3 (by show _ < 5; omega) (.inl hNk) ?_; intro k4 ht4 hk4
  have hle4 : Le k2 k4 := ht4 k2 hle3 hbk
  have hk4 : k4 bk = some (.cells (kCells g (.slice none 0 0) (chkG g)).toArray 59 (0, 0)) := hk4
  have cg4 := cg1.le (hle2.trans hle4)
  obtain ⟨p0, p1, p2, p3⟩ := Group.parts cg4
  clear cg1
  have hl2 := hl.le hle2
  repeat (first | refine cg_seq ?_ | refine cg_region ?_ | refine rg_nil ?_ | refine eg_then ?_ | refine qsp ?_ | refine qsn ?_ | refine qsl ?_ | refine qsf ?_ | refine cg_block ?_)
  refine cg_loop (fun (i : Nat) e k' => ∃ v KK css, Le k2 KK ∧ Le KK k' ∧ KK bk = none ∧ Apart KK v ∧ Pieces tMember KK css (g.l.take i) ∧ Row F.w0.heap.size k' 44 6 v (g.l.take i).length css.flatten ∧ OwnsAt F.w0.heap.size KK css (g.l.take i) ∧ k' bk = some (.cells (kCells g v (chkG g)).toArray 59 (0, 0)) ∧ i ≤ g.l.length ∧
      e = [(3, .is (.pointer (some ⟨bk, 0, none⟩))), (16, .is (.slice a g.l.length c)), (17, .is (.int .i64 (g.l.length : Int))), (18, .is (.int .i64 (i : Int)))])
    (fun i => g.l.length - i) 0 ⟨.slice none 0 0, k2, [], Le.refl _, hle4, hbk, apart_nil _ _ _, Pieces.nil _ _, row_nil _ _ _ _, ⟨fun i cs m h => by simp at h, List.Pairwise.nil⟩, hk4, Nat.zero_le _, rfl⟩ ⟨rfl, rfl, rfl, rfl, trivial⟩ ?_
  rintro i e k5 ⟨v, KK, css, hKK, hle5, hKb, hap, hpc, hrow, hows, hk5, hi, rfl⟩
  repeat (first | refine cg_seq ?_ | refine cg_region ?_ | refine rg_nil ?_ | refine eg_then ?_ | refine qsp ?_)
  refine cg_cond rfl (fun h => ?_) (fun h => ?_)
  rotate_left
  · have hil : i = g.l.length := by have := of_decide_eq_false h; omega
    rw [hil, List.take_length] at hpc hrow hows
    repeat (first | refine cg_seq ?_ | refine cg_region ?_ | refine rg_nil ?_ | refine eg_then ?_ | refine qsp ?_ | refine cg_ret ?_ | refine cg_exit ?_ | refine eg_then_exit ?_ | refine eg_in_exit ?_)
    refine eg_return rfl rfl ⟨bk, KK, v, rfl, hk5, hNk, hle5, hKb, hap, css, hpc, hrow, hows⟩
  have hlt : i < g.l.length := by have := of_decide_eq_true h; omega
  obtain ⟨bx, ox, cx, ea, ⟨a0, c0, a1, c1, rfl, ⟨hsub, hown⟩, hmok⟩, hcx⟩ := hl2.el i g.l[i] (List.getElem?_eq_getElem hlt)
  have hle25 : Le k2 k5 := hKK.trans hle5
  have hcx5 := hcx.le hle25
  have hsm' := hsm.2 g.l[i] (List.getElem_mem hlt)
  have htk := List.take_succ_eq_append_getElem hlt
  obtain ⟨m, hm⟩ : ∃ m, g.l[i] = m := ⟨_, rfl⟩
  rw [hm] at hcx5 hsub hown hmok hsm' htk
  subst ea
  repeat (first | refine cg_seq ?_ | refine cg_region ?_ | refine eg_then ?_ | refine qsi ?_ | refine qsg ?_ | refine cg_skip ?_ | refine cg_block ?_)
  refine rb rfl rfl rfl rfl (a_alloc rfl) ?_; intro b6 k6 hb6 hN6 hle6 hk6
  skip
  refine rw1 (vs := m.cs a0 c0 a1 c1) rfl rfl rfl rfl rfl rfl rfl hk6 rfl (.inl hN6) ?_ ?_
  · exact Member.one k2 _ m ⟨a0, c0, a1, c1, rfl, ⟨hsub, hown⟩, hmok⟩
  intro k7 ht7 hk7
  have hle7 : Le k5 k7 := ht7 k5 hle6 hb6
  have h5d : Le k5 (delB k7 b6) := le_delB hle7 hb6
  have n6k : bk ≠ b6 := fun e => by rw [← e, hk5] at hb6; cases hb6
  clear hcx hcx5 hk6 ht7
  repeat (first | refine cg_seq ?_ | refine rg_nil ?_ | refine eg_then ?_)
  have hsubd := hsub.le (hle25.trans h5d)
  have hownd := hown.le (hle25.trans h5d)
  refine cg_sto1 8 7 b6 (0 + 2) 44 (m.cs a0 c0 a1 c1).toArray (PStr (b6 + 1) (delB k7 b6) m.subs) hk7 hN6 (by kernel_rfl) (by kernel_rfl) rfl (by kernel_rfl) rfl ?_
  dsimp only [List.take]
  repeat (first | refine qcf ?_)
  refine wc_i1 (v := .slice a0 m.subs.length c0) rfl (loci_load1 (off := 0 + 2) (b := b6) ?_ rfl rfl rfl rfl) rfl ?_
  · rintro k' w ⟨s, tm, hs1, hw, hX⟩
    match s, hs1 with
    | 0, _ => exact ⟨_, _, _, hX.2.2.1 rfl, rfl⟩
    | 1, _ => exact (no_win hw (by kernel_rfl)).elim
  skip
  refine wc_iv (φ := PStr (b6 + 1) (delB k7 b6) m.subs) rfl (loci_ctn (fun k' w ⟨s, tm, _, _, hX⟩ => hX.1) rfl rfl rfl rfl (Le.refl _) (fun M k k' v hle ⟨css, h1, h2⟩ => ⟨css, h1, h2.le hle⟩) (cloneStr_ct hsubd hsm'.1)) rfl ?_
  repeat (first | refine qcf ?_)
  refine wc_i1 (v := .slice a1 m.own.length c1) rfl (loci_load1 (off := 0 + 3) (b := b6) ?_ rfl rfl rfl rfl) rfl ?_
  · rintro k' w ⟨s, tm, hs1, hw, hX⟩
    match s, hs1 with
    | 0, _ => exact ⟨_, _, _, hX.2.2.1 rfl, rfl⟩
    | 1, _ =>
      obtain ⟨u, k0, h1, _⟩ := hX.2.2.2 rfl
      exact ⟨_, _, _, h1, rfl⟩
  skip
  refine wc_iv (φ := PTp (b6 + 1) (delB k7 b6) m.own) rfl (loci_ctn (fun k' w ⟨s, tm, _, _, hX⟩ => hX.1) rfl rfl rfl rfl (Le.refl _) (fun M k k' v hle ⟨css, h1, h2⟩ => ⟨css, h1, h2.le hle⟩) (cloneTp_ct hownd hsm'.2)) rfl ?_
  repeat (first | refine qcf ?_)
  refine wc_e 0 rfl (effs_st1 (dv := 24) (b := b6) (off := 0 + 2) rfl (Le.refl _) rfl rfl rfl rfl (fun k u h => made_one (T := tStr) h) (by show _ < 6; omega) hN6) ?_
  refine wc_nil ?_
  intro k0 k8 vs u hle0 hφ hle8 hb8 hvs
  have hv27 : PTp (b6 + 1) (delB k7 b6) m.own k8 (vs 27) := hvs 27 _ rfl
  clear hvs
  dsimp only [List.drop, set]
  simp only [nameE, nameP]
  generalize vs 27 = w at hv27 ⊢
  have hle58 : Le k5 k8 := h5d.trans (hle0.trans hle8)
  have hw1 := made_one (T := tTp) hv27
  have hu8 : PStr (b6 + 1) (delB k7 b6) m.subs k8 u := made_le (T := tStr) hφ fun g o _ h => hle8 g o h
  have hk9e : upd k8 b6 (.cells ((m.cs a0 c0 a1 c1).toArray.setIfInBounds (0 + 2) u) 44 (0, 0)) b6 = some (.cells ((m.cs a0 c0 a1 c1).toArray.setIfInBounds (0 + 2) u) 44 (0, 0)) := upd_same _ _ _
  have hle59 : Le k5 (upd k8 b6 (.cells ((m.cs a0 c0 a1 c1).toArray.setIfInBounds (0 + 2) u) 44 (0, 0))) := hle58.upd hb6
  have hup : ∀ g o, b6 + 1 ≤ g → k8 g = some o → upd k8 b6 (.cells ((m.cs a0 c0 a1 c1).toArray.setIfInBounds (0 + 2) u) 44 (0, 0)) g = some o := fun g o hg h => (upd_other (by omega)).trans h
  have hu9 := made_le (T := tStr) hu8 hup
  have hv9 := made_le (T := tTp) hv27 hup
  generalize upd k8 b6 (.cells ((m.cs a0 c0 a1 c1).toArray.setIfInBounds (0 + 2) u) 44 (0, 0)) = k9 at hk9e hle59 hu9 hv9 ⊢
  repeat (first | refine qsf ?_)
  refine rw0 rfl rfl rfl rfl rfl rfl hw1 rfl hk9e (by show _ < 6; omega) (.inl hN6) ?_; intro k10 ht10 hk10
  have hle10 : Le k5 k10 := ht10 k5 hle59 hb6
  have hup2 : ∀ g o, b6 + 1 ≤ g → k9 g = some o → k10 g = some o := fun g o hg h => turn1_get ht10 (by omega) h
  have hu10 := made_le (T := tStr) hu9 hup2
  have hv10 := made_le (T := tTp) hv9 hup2
  clear hu9 hv9 hu8 hv27 hφ hup hup2 hk9e hle59 ht10 hle58
  have hrow10 := hrow.le hle10
  have hk10b := hle10 _ _ hk5
  have hvb := hrow10.owner1 hk10b (by decide)
  have hv6 : v.ownBlock ≠ some b6 := fun e => by obtain ⟨_, ob, hob⟩ := hrow.block e; rw [hob] at hb6; cases hb6
  have hnew : ∀ g, b6 + 1 ≤ g → delB k7 b6 g = none → keepH k10 bk v g = k10 g := fun g _ hg => by
    have n1 : g ≠ bk := fun e => by
      have := h5d _ _ hk5
      rw [← e, hg] at this; cases this
    have n2 : v.ownBlock ≠ some g := fun e => by
      obtain ⟨_, ob, hob⟩ := hrow.block e
      have := h5d _ _ hob
      rw [hg] at this; cases this
    unfold keepH
    rw [delV_of n2]
    unfold delB
    rw [if_neg n1]
  obtain ⟨au, cu, rfl, hsu⟩ := made_sl (T := tStr) (fun _ _ _ _ h => h) hu10 hnew
  have hwr : Row F.w0.heap.size k10 53 3 w m.own.length (m.own.flatMap Tp.vs) := made_row hv10 (by omega)
  have hur : Row F.w0.heap.size k10 9 1 (.slice au m.subs.length cu) m.subs.length (m.subs.flatMap strV) := made_rowS hu10 (by omega)
  have hwne : ∀ c ∈ css, ∀ g, (c.getD 3 undef).ownBlock = some g → w.ownBlock ≠ some g := fun c hc gg h1 h2 => by
    obtain ⟨p, hp, rfl⟩ := List.getElem_of_mem hc
    have hpl : p < (g.l.take i).length := by rw [← hpc.1]; exact hp
    obtain ⟨_, ob, hob⟩ := (hows.rows p _ _ (List.getElem?_eq_getElem hp) (List.getElem?_eq_getElem hpl)).own.block h1
    have hob := hle5 _ _ hob
    obtain ⟨M, hM1, hM2, cs3, _, hr3⟩ := hv10
    have h5 := hM2 gg (hr3.block h2).1
    rw [h5d _ _ hob] at h5; cases h5
  obtain ⟨ao, co, rfl, hso⟩ := made_sl (T := tTp) (fun _ _ _ _ h => h) hv10 hnew
  have hk10m : k10 b6 = some (.cells (m.cs au cu ao co).toArray 44 (0, 0)) := hk10
  clear hk10 hu10 hv10
  have hrep : tMember.rep (keepH k10 bk v) (m.cs au cu ao co) m := ⟨au, cu, ao, co, rfl, ⟨hsu, hso⟩, hmok⟩
  have hKH : Le KK (keepH k10 bk v) := le_keepH (hle5.trans hle10) hKb hap
  have dk6 : delV k10 v b6 = _ := (delV_of hv6).trans hk10m
  have dkb : delV k10 v bk = _ := (delV_of hvb).trans hk10b
  have c6 := cells_at (vs := m.cs au cu ao co) dk6 rfl
  have ck := (cells_at (vs := kCells g v (chkG g)) dkb rfl).one (i := 3) rfl
  have hnb : g.l.length * 96 ≤ 140737488355328 := hsm.1
  have hti : (g.l.take i).length = i := by rw [List.length_take]; omega
  repeat (first | refine rg_nil ?_ | refine eg_then ?_)
  refine cg_grow 12 8 v hrow10 (by kernel_rfl) (by kernel_rfl) rfl (by kernel_rfl) rfl ?_
  dsimp only [List.take]
  repeat (first | refine qcp ?_ | refine qcl ?_ | refine qcg ?_ | refine qcf ?_)
  refine wc_v rfl (loc_alloc rfl (a_slice (cells := m.cs au cu ao co) rfl rfl rfl rfl (by kernel_rfl) rfl)) rfl ?_
  refine wc_e 0 rfl (eff_grow2 (j := 1) (news := m.cs au cu ao co) rfl rfl rfl rfl rfl (fun k1 u _ ⟨b, hu, hkb, _⟩ => ⟨b, 0, 1, hu, cells_at hkb rfl⟩) rfl (by simp [Member.cs, Value.oneCell']) (by kernel_rfl) rfl (by unfold maxLen; omega) (by omega)) ?_
  repeat (first | refine qcp ?_ | refine qcf ?_)
  refine wc_nil ?_
  intro k11 vs hle11 hvs
  obtain ⟨hrow11, hap11⟩ : Row F.w0.heap.size k11 44 6 (vs 38) ((g.l.take i).length + 1) (css.flatten ++ m.cs au cu ao co) ∧ Apart (delV k10 v) (vs 38) := hvs 38 _ rfl
  clear hvs
  dsimp only [List.drop, set, argEnv, nameE, nameP]
  generalize vs 38 = v' at hrow11 hap11 ⊢
  have hk11 := hle11 _ _ dkb
  refine rw0 rfl rfl rfl rfl rfl rfl hrow11.oneV1 rfl hk11 (by show _ < 5; omega) (.inl hNk) ?_; intro k12 ht12 hk12
  have hrow12 := hrow11.turnY ht12 hk11 (by decide)
  have hKH : Le KK (keepH k10 bk v) := le_keepH (hle5.trans hle10) hKb hap
  have hkeep : ∀ gg, gg ≠ bk → v.ownBlock ≠ some gg → keepH k10 bk v gg = k10 gg := fun gg h1 h2 => by
    unfold keepH
    rw [delV_of h2]
    unfold delB
    rw [if_neg h1]
  have hows12 := (hows.le hKH).snoc (cs := m.cs au cu ao co) (m := m) hpc.1 ⟨hwr.at fun gg hg => hkeep gg (fun e => hwr.owner1 hk10b (by decide) (by rw [← e]; exact hg)) (hwr.two1 hrow10 (by decide) hg), hur.at fun gg hg => hkeep gg (fun e => hur.owner1 hk10b (by decide) (by rw [← e]; exact hg)) (hur.two1 hrow10 (by decide) hg)⟩ (fun c hc g h1 => hwne c hc g h1)
  have hHd : Le (keepH k10 bk v) (delV k10 v) := le_delV (keepH_le _ _ _) (keepH_v _ _ _)
  have hle12 := ht12 _ (hHd.trans hle11) (keepH_b _ _ _)
  have hap12 : Apart (keepH k10 bk v) v' := fun g hg => by
    cases hc : keepH k10 bk v g with
    | none => rfl
    | some ob => have := hap11 g hg; rw [hHd _ _ hc] at this; cases this
  repeat (first | refine cg_region ?_ | refine rg_nil ?_ | refine eg_then ?_ | refine qsp ?_ | refine qsa ?_ | refine eg_in_normal ?_)
  refine eg_again (i + 1) _ ⟨v', keepH k10 bk v, css ++ [m.cs au cu ao co], hKK.trans hKH, hle12, keepH_b _ _ _, hap12, ?_, ?_, by rw [htk]; exact hows12, hk12, hlt, rfl⟩ (by omega) ⟨rfl, rfl, rfl, rfl, trivial⟩
  · rw [htk]; exact (hpc.le hKH).append (Pieces.one hrep)
  · rw [htk]; simpa using hrow12
end Go.Wm
