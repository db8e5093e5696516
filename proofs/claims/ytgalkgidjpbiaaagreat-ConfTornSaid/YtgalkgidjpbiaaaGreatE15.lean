/-
  How bytes that are handed in read. Conditions: none.
-/
import Derived.Test.YtgalkgidjpbiaaaGreatE9
import Derived.Test.YtgalkgidjpbiaaaGreatR6
import Derived.Test.YtgalkgidjpbiaaaGreatD6
import Derived.Test.YtgalkgidjpbiaaaGreatV1
import Derived.Test.YtgalkgidjpbiaaaGreatL1
import Derived.Test.YtgalkgidjpbiaaaGreatS0
import Derived.Test.YtgalkgidjpbiaaaGreatIns
import Derived.Test.YtgalkgidjpbiaaaGreatD7
import Derived.Test.YtgalkgidjpbiaaaGreatCrP
import Derived.Test.YtgalkgidjpbiaaaGreatCoB
set_option linter.all false
namespace Go.Wm
open Go.RowKit Go.Proofs
attribute [local irreducible] RG CG EG WA Loc Det Alc CT Exit.then Exit.inBlock Code.wp bodyPost
theorem noStep_ok : noStep.ok := ⟨i64_zero, small_max (by simp [noStep, ByteArray.size]), small_max (by simp [noStep, ByteArray.size]), i64_zero, i64_zero, i64_zero⟩
/-- Three numbers, as far as they are read. -/
def triV (x : RdS) : List Value := [.int .i64 x.1.a, .int .i64 x.1.b, .int .i64 x.1.c]
def keepR (x y : RdS) : Prop := x.1.kind = y.1.kind ∧ x.1.name = y.1.name ∧ x.1.topic = y.1.topic
theorem keepR.trans {x y z : RdS} (h : keepR x y) (h' : keepR y z) : keepR x z := ⟨h.1.trans h'.1, h.2.1.trans h'.2.1, h.2.2.trans h'.2.2⟩
end Go.Wm
namespace Go.Wm
open Go.RowKit Go.Proofs
attribute [local irreducible] RG CG EG WA Loc Det Alc CT Exit.then Exit.inBlock Code.wp bodyPost
/-- The form's line: what is used, by its letter. -/
def patU (u : Bool × Bool × Bool × Bool × Bool) : ByteArray := ⟨#[if u.1 then 110 else 32, if u.2.1 then 116 else 32, if u.2.2.1 then 97 else 32, if u.2.2.2.1 then 98 else 32, if u.2.2.2.2 then 99 else 32]⟩
def useN (u : Bool × Bool × Bool × Bool × Bool) (i : Nat) : Bool := match i with
  | 0 => u.1
  | 1 => u.2.1
  | 2 => u.2.2.1
  | 3 => u.2.2.2.1
  | _ => u.2.2.2.2
end Go.Wm
namespace Go.Wm
open Go.RowKit Go.Proofs
attribute [local irreducible] RG CG EG WA Loc Det Alc CT Exit.then Exit.inBlock Code.wp bodyPost
def loadVal (q : Step × Int × Int) : Value := .tuple #[.agg q.1.vs.toArray, .int .i64 q.2.1, .int .i64 q.2.2]
def LoadV (bs : List Nat) (p : Int) (v : Value) : Prop := v = loadVal (loadR bs p) ∧ (loadR bs p).1.ok
theorem loadV_no {bs : List Nat} {p : Int} {e : Int} (h : loadR bs p = (noStep, 0, e)) : LoadV bs p (.tuple #[.agg noStep.vs.toArray, .int .i64 0, .int .i64 e]) := by
  unfold LoadV; rw [h]; exact ⟨rfl, noStep_ok⟩
theorem getR_lt {bs : List Nat} (hb : Bytes bs) (p : Int) : (getR bs p 4).1 < 4294967296 := by
  unfold getR
  split
  · decide
  split
  · decide
  · have h1 := fromL_lt ((bs.drop p.toNat).take 4) fun x hx => hb x (List.mem_of_mem_drop (List.mem_of_mem_take hx))
    have h2 : 256 ^ ((bs.drop p.toNat).take 4).length ≤ 4294967296 := Nat.le_trans (Nat.pow_le_pow_right (by decide) (show _ ≤ 4 by rw [List.length_take]; omega)) (by decide)
    exact Nat.lt_of_lt_of_le h1 h2
theorem getR_in {bs : List Nat} {p : Int} (h : (getR bs p 4).2 = 0) : 0 ≤ p ∧ p.toNat + 4 ≤ bs.length := by
  unfold getR at h
  split at h
  · simp at h
  split at h
  · simp at h
  · omega
theorem openR_bytes {bs : List Nat} (hb : Bytes bs) : Bytes (openR bs).1 ∧ (openR bs).1.length ≤ bs.length := by
  unfold openR
  split
  · exact ⟨fun x hx => by simp at hx, by simp⟩
  split
  · exact ⟨fun x hx => hb x (List.mem_of_mem_take hx), by rw [List.length_take]; omega⟩
  · exact ⟨fun x hx => by simp at hx, by simp⟩
set_option maxHeartbeats 4000000 in
theorem load_ct {k : PH} {a : Option Addr} {c : Nat} {bs : List Nat} {p : Int} (h : Sl tU8 k a c bs) (hp : I64 p) (hl : bs.length ≤ 1000000) : CT Tryz.prog 15 #[.slice a bs.length c, .int .i64 p] k (fun _ v => LoadV bs p v) := by
  refine ct_of_body (l := [_, _]) Tryz.func15 rfl Tryz.ntmps15 (by simp) (fun _ _ _ _ h => h) fun F hF0 hFm => ?_
  have hby := sl_bytes h
  have b1' := h.cap; have b2' := h.max; unfold maxLen at b2'
  repeat (first | refine cg_seq ?_ | refine cg_region ?_)
  refine rb rfl rfl rfl rfl (a_alloc rfl) ?_; intro b1 k1 hb1 hN1 hle1 hk1
  have hk1 : k1 b1 = some (.cells noStep.vs.toArray 35 (0, 0)) := hk1
  have h1 := h.le hle1
  repeat (first | refine cg_seq ?_ | refine cg_region ?_ | refine rg_nil ?_ | refine eg_then ?_ | refine qsp ?_)
  refine rs rfl rfl (loc_call_is rfl rfl rfl rfl (get_ct (w := 4) h1 hp (by omega) (by omega) (by omega))) ?_
  repeat (first | refine cg_seq ?_ | refine cg_region ?_ | refine rg_nil ?_ | refine eg_then ?_ | refine qsp ?_)
  have hgl := getR_lt hby p
  have hgi : (getR bs p 4).2 = 0 → _ := getR_in
  have hld : loadR bs p = if (getR bs p 4).2 ≠ 0 then (noStep, 0, (getR bs p 4).2) else if (getR bs p 4).1 < 5 ∨ 4092 < (getR bs p 4).1 then (noStep, 0, 11) else if bs.length < p.toNat + 4 + (getR bs p 4).1 then (noStep, 0, 10) else bodyR (openR ((bs.drop (p.toNat + 4)).take (getR bs p 4).1)) (p + 4 + ((getR bs p 4).1 : Nat)) := rfl
  generalize getR bs p 4 = g at hgl hgi hld ⊢
  obtain ⟨n, e0⟩ := g
  dsimp only at hgl hgi hld ⊢
  cases q0 : (e0 != 0)
  case true =>
    repeat (first | refine cg_seq ?_ | refine cg_region ?_ | refine cg_cond_true rfl ?_)
    refine rs rfl rfl (loc_det rfl (d_lit (cells := noStep.vs) rfl rfl rfl)) ?_
    repeat (first | refine qsp ?_)
    refine rw1 (vs := noStep.vs) rfl rfl rfl rfl rfl rfl rfl hk1 rfl (.inl hN1) ?_ ?_
    · simp [noStep, Step.vs, Value.oneCell']
    intro k9 ht9 hk9
    repeat (first | refine rg_nil ?_ | refine eg_then ?_ | refine qsp ?_ | refine cg_ret ?_ | refine eg_then_ret ?_)
    refine eg_returnC3 rfl rfl rfl rfl rfl (cells_step hk9) rfl (loadV_no ?_)
    rw [hld, if_pos (by simpa using q0)]
  have q0 : e0 = 0 := by simpa using q0
  subst q0
  obtain ⟨p0, p4⟩ := hgi rfl
  obtain ⟨m, rfl⟩ : ∃ m : Nat, p = (m : Int) := ⟨p.toNat, by omega⟩
  rw [Int.toNat_natCast] at p4
  rw [if_neg (by simp), Int.toNat_natCast] at hld
  repeat (first | refine cg_seq ?_ | refine cg_region ?_ | refine eg_then ?_ | refine qsp ?_ | refine cg_cond_false rfl ?_ | refine cg_skip ?_)
  refine rs rfl rfl (loc_det rfl (d_cmp rfl rfl rfl rfl)) ?_
  repeat (first | refine qsp ?_)
  cases q1 : decide ((n : Int) < 5)
  case true =>
    have q1 := of_decide_eq_true q1
    repeat (first | refine cg_seq ?_ | refine cg_region ?_ | refine rg_nil ?_ | refine eg_then ?_ | refine qsp ?_ | refine qso ?_ | refine cg_cond_true rfl ?_)
    refine rs rfl rfl (loc_det rfl (d_lit (cells := noStep.vs) rfl rfl rfl)) ?_
    skip
    refine rw1 (vs := noStep.vs) rfl rfl rfl rfl rfl rfl rfl hk1 rfl (.inl hN1) ?_ ?_
    · simp [noStep, Step.vs, Value.oneCell']
    intro k9 ht9 hk9
    repeat (first | refine rg_nil ?_ | refine eg_then ?_ | refine qsp ?_ | refine cg_ret ?_ | refine eg_then_ret ?_)
    refine eg_returnC3 rfl rfl rfl rfl rfl (cells_step hk9) rfl (loadV_no ?_)
    rw [hld, if_pos (.inl (by omega))]
  have q1 := of_decide_eq_false q1
  repeat (first | refine qsp ?_)
  refine rs rfl rfl (loc_det rfl (d_cmp rfl rfl rfl rfl)) ?_
  repeat (first | refine rg_nil ?_ | refine eg_then ?_ | refine qsp ?_)
  cases q2 : decide ((n : Int) > 4092)
  case true =>
    have q2 := of_decide_eq_true q2
    repeat (first | refine cg_seq ?_ | refine cg_region ?_ | refine cg_cond_true rfl ?_)
    refine rs rfl rfl (loc_det rfl (d_lit (cells := noStep.vs) rfl rfl rfl)) ?_
    skip
    refine rw1 (vs := noStep.vs) rfl rfl rfl rfl rfl rfl rfl hk1 rfl (.inl hN1) ?_ ?_
    · simp [noStep, Step.vs, Value.oneCell']
    intro k9 ht9 hk9
    repeat (first | refine rg_nil ?_ | refine eg_then ?_ | refine qsp ?_ | refine cg_ret ?_ | refine eg_then_ret ?_)
    refine eg_returnC3 rfl rfl rfl rfl rfl (cells_step hk9) rfl (loadV_no ?_)
    rw [hld, if_pos (.inr (by omega))]
  have q2 := of_decide_eq_false q2
  rw [if_neg (by omega)] at hld
  repeat (first | refine cg_seq ?_ | refine cg_region ?_ | refine eg_then ?_ | refine qsp ?_ | refine qsa ?_ | refine cg_cond_false rfl ?_ | refine cg_skip ?_)
  rw [show (m : Int) + 4 = ((m + 4 : Nat) : Int) by omega]
  refine rs rfl rfl (loc_det rfl (d_suf h1 rfl rfl rfl p4)) ?_
  have hs4 := h1.drop p4
  have hrl : (bs.drop (m + 4)).length = bs.length - (m + 4) := by rw [List.length_drop]
  generalize hsa : shiftA c (m + 4) tU8.sz a = a' at hs4
  have hsa' : shiftA c (m + 4) 1 a = a' := hsa
  try rw [hsa']
  try rw [hsa]
  repeat (first | refine cg_seq ?_ | refine cg_region ?_ | refine rg_nil ?_ | refine eg_then ?_ | refine qsp ?_ | refine qsn ?_)
  refine rs rfl rfl (loc_det rfl (d_conv rfl rfl)) ?_
  rw [wrapi (by unfold I64; omega)]
  repeat (first | refine rg_nil ?_ | refine eg_then ?_ | refine qsp ?_)
  cases q3 : decide ((((bs.drop (m + 4)).length : Nat) : Int) < (n : Int))
  case true =>
    have q3 := of_decide_eq_true q3
    repeat (first | refine cg_seq ?_ | refine cg_region ?_ | refine cg_cond_true rfl ?_)
    refine rs rfl rfl (loc_det rfl (d_lit (cells := noStep.vs) rfl rfl rfl)) ?_
    skip
    refine rw1 (vs := noStep.vs) rfl rfl rfl rfl rfl rfl rfl hk1 rfl (.inl hN1) ?_ ?_
    · simp [noStep, Step.vs, Value.oneCell']
    intro k9 ht9 hk9
    repeat (first | refine rg_nil ?_ | refine eg_then ?_ | refine qsp ?_ | refine cg_ret ?_ | refine eg_then_ret ?_)
    refine eg_returnC3 rfl rfl rfl rfl rfl (cells_step hk9) rfl (loadV_no ?_)
    rw [hld, if_pos (by omega)]
  have q3 := of_decide_eq_false q3
  rw [if_neg (by omega)] at hld
  repeat (first | refine cg_seq ?_ | refine cg_region ?_ | refine eg_then ?_ | refine qsp ?_ | refine cg_cond_false rfl ?_ | refine cg_skip ?_)
  refine rs rfl rfl (loc_det rfl (d_pre hs4 rfl rfl rfl (by omega))) ?_
  have hs5 := hs4.take n
  have hb5 := sl_bytes hs5
  generalize hseg : (bs.drop (m + 4)).take n = seg at hs5 hb5 hld ⊢
  have hsegl : seg.length = n := by rw [← hseg, List.length_take]; omega
  refine rvn rfl rfl rfl rfl rfl rfl rfl (open_ctn hs5 (by omega)) ?_
  rintro N2 k2 v2 hN2 _ hle2 ⟨u, rfl, hrow⟩
  obtain ⟨ob, ol⟩ := openR_bytes hb5
  generalize openR seg = o at hrow hld ob ol ⊢
  obtain ⟨body, e1⟩ := o
  dsimp only at hrow ob ol ⊢
  obtain ⟨a6, c6, rfl, hs6⟩ := hrow.sl ob
  have hk1 : k2 b1 = some (.cells noStep.vs.toArray 35 (0, 0)) := hle2 _ _ hk1
  unfold bodyR at hld
  dsimp only at hld
  repeat (first | refine cg_seq ?_ | refine cg_region ?_ | refine rg_nil ?_ | refine eg_then ?_ | refine qsp ?_)
  cases q4 : (e1 != 0)
  case true =>
    repeat (first | refine cg_seq ?_ | refine cg_region ?_ | refine cg_cond_true rfl ?_)
    refine rs rfl rfl (loc_det rfl (d_lit (cells := noStep.vs) rfl rfl rfl)) ?_
    repeat (first | refine qsp ?_)
    refine rw1 (vs := noStep.vs) rfl rfl rfl rfl rfl rfl rfl hk1 rfl (.inl hN1) ?_ ?_
    · simp [noStep, Step.vs, Value.oneCell']
    intro k9 ht9 hk9
    repeat (first | refine rg_nil ?_ | refine eg_then ?_ | refine qsp ?_ | refine cg_ret ?_ | refine eg_then_ret ?_)
    refine eg_returnC3 rfl rfl rfl rfl rfl (cells_step hk9) rfl (loadV_no ?_)
    rw [hld, if_pos (by simpa using q4)]
  have q4 : e1 = 0 := by simpa using q4
  rw [if_neg (by simp [q4])] at hld
  repeat (first | refine cg_seq ?_ | refine cg_region ?_ | refine eg_then ?_ | refine qsp ?_ | refine cg_cond_false rfl ?_ | refine cg_skip ?_)
  refine rv rfl rfl rfl (loc_call rfl rfl rfl rfl (fun k k' v hle h => h) (read_ct hs6 (by omega))) ?_
  rintro k3 hle3 v3 ⟨s, ok, rfl, hsok, hrd⟩
  have hk1 : k3 b1 = some (.cells noStep.vs.toArray 35 (0, 0)) := hle3 _ _ hk1
  repeat (first | refine qsp ?_)
  refine rw1 (vs := s.vs) rfl rfl rfl rfl rfl rfl rfl hk1 rfl (.inl hN1) ?_ ?_
  · simp [Step.vs, Value.oneCell']
  intro k4 ht4 hk1
  have c4 := cells_step hk1
  cases ok
  · repeat (first | refine cg_seq ?_ | refine cg_region ?_ | refine rg_nil ?_ | refine eg_then ?_ | refine qsp ?_ | refine qso ?_ | refine cg_cond_true rfl ?_)
    rw [if_neg (by simp)] at hrd
    rw [hrd] at hld
    skip
    refine rs rfl rfl (loc_det rfl (d_lit (cells := noStep.vs) rfl rfl rfl)) ?_
    skip
    refine rw1 (vs := noStep.vs) rfl rfl rfl rfl rfl rfl rfl hk1 rfl (.inl hN1) ?_ ?_
    · simp [noStep, Step.vs, Value.oneCell']
    intro k9 ht9 hk9
    repeat (first | refine rg_nil ?_ | refine eg_then ?_ | refine qsp ?_ | refine cg_ret ?_ | refine eg_then_ret ?_)
    refine eg_returnC3 rfl rfl rfl rfl rfl (cells_step hk9) rfl (loadV_no ?_)
    exact hld
  rw [if_pos rfl] at hrd
  rw [hrd] at hld
  dsimp only at hld
  repeat (first | refine cg_seq ?_ | refine cg_region ?_ | refine rg_nil ?_ | refine eg_then ?_ | refine qsp ?_ | refine qsg ?_)
  refine rs rfl rfl (loc_call_is rfl rfl rfl rfl (formed_ct s hsok)) ?_
  repeat (first | refine rg_nil ?_ | refine eg_then ?_ | refine qsp ?_)
  cases q5 : formS s
  · repeat (first | refine cg_seq ?_ | refine cg_region ?_ | refine cg_cond_true rfl ?_)
    rw [q5, if_neg (by simp)] at hld
    skip
    refine rs rfl rfl (loc_det rfl (d_lit (cells := noStep.vs) rfl rfl rfl)) ?_
    skip
    refine rw1 (vs := noStep.vs) rfl rfl rfl rfl rfl rfl rfl hk1 rfl (.inl hN1) ?_ ?_
    · simp [noStep, Step.vs, Value.oneCell']
    intro k9 ht9 hk9
    repeat (first | refine rg_nil ?_ | refine eg_then ?_ | refine qsp ?_ | refine cg_ret ?_ | refine eg_then_ret ?_)
    refine eg_returnC3 rfl rfl rfl rfl rfl (cells_step hk9) rfl (loadV_no ?_)
    exact hld
  · rw [q5, if_pos rfl] at hld
    repeat (first | refine cg_seq ?_ | refine cg_region ?_ | refine eg_then ?_ | refine qsp ?_ | refine qsa ?_ | refine qsg ?_ | refine cg_cond_false rfl ?_ | refine cg_skip ?_)
    refine rs rfl rfl (loc_det rfl (d_conv rfl rfl)) ?_
    rw [wrapi (by unfold I64; omega)]
    repeat (first | refine qsa ?_)
    refine rw1 (vs := s.vs) rfl rfl rfl rfl rfl rfl rfl hk1 rfl (.inl hN1) ?_ ?_
    · simp [Step.vs, Value.oneCell']
    intro k9 ht9 hk9
    repeat (first | refine rg_nil ?_ | refine eg_then ?_ | refine qsp ?_ | refine cg_ret ?_)
    refine eg_returnC3 rfl rfl rfl rfl rfl (cells_step hk9) rfl ?_
    unfold LoadV
    rw [hld]
    exact ⟨rfl, hsok⟩
end Go.Wm
namespace Go.Wm
open Go.RowKit Go.Proofs
attribute [local irreducible] RG CG EG WA Loc Det Alc CT Exit.then Exit.inBlock Code.wp bodyPost
def ReplV (bs : List Nat) (N : Nat) (k : PH) (v : Value) : Prop := ∃ x n, Repl bs noConf 0 x n ∧ DoV x n N k v
theorem ReplV.mono {bs : List Nat} : ∀ N k k' v, Le k k' → ReplV bs N k v → ReplV bs N k' v := fun N k k' v hle ⟨x, n, h1, h2⟩ => ⟨x, n, h1, DoV.mono _ _ _ _ hle h2⟩
theorem loadR_next {b : List Nat} {g : Int} (h : (loadR b g).2.2 = 0) : 0 ≤ g ∧ g < (loadR b g).2.1 ∧ (loadR b g).2.1 ≤ b.length := by
  unfold loadR at h ⊢
  split at h
  · rename_i h1; exact absurd h h1
  rename_i h1
  have hg := getR_in (Decidable.not_not.1 h1)
  rw [if_neg h1]
  split at h
  · simp at h
  rename_i h2
  rw [if_neg h2]
  split at h
  · simp at h
  rename_i h3
  rw [if_neg h3]
  unfold bodyR at h ⊢
  split at h
  · rename_i h4; exact absurd h h4
  rename_i h4
  rw [if_neg h4]
  cases hr : readS (openR ((b.drop (g.toNat + 4)).take (getR b g 4).1)).1 with
  | none => rw [hr] at h; simp at h
  | some s =>
    rw [hr] at h
    dsimp only at h ⊢
    split at h
    · rename_i h5
      rw [if_pos h5]
      refine ⟨hg.1, ?_, ?_⟩ <;> dsimp only <;> omega
    · simp at h
set_option maxHeartbeats 4000000 in
theorem replay_ctn {k : PH} {a : Option Addr} {c : Nat} {bs : List Nat} (h : Sl tU8 k a c bs) (hl : bs.length ≤ 500000) : CTN Tryz.prog 10 #[.slice a bs.length c] k (ReplV bs) := by
  refine ctn_of_body (l := [_]) Tryz.func10 rfl Tryz.ntmps10 (by simp) ReplV.mono fun F hF0 hFm => ?_
  repeat (first | refine cg_seq ?_ | refine cg_region ?_)
  refine rb rfl rfl rfl rfl (a_alloc rfl) ?_; intro b2 k2 hb2 hN2 hle2 hk2
  have hk2 : k2 b2 = some (.cells (noConf.cs none 0 none 0 none 0 none 0).toArray 29 (0, 0)) := hk2
  repeat (first | refine rg_nil ?_ | refine eg_then ?_ | refine qsp ?_ | refine cg_block ?_)
  refine cg_loop (fun (x : Conf × Int) e k' => ∃ a0 c0 a1 c1 a2 c2 a3 c3, 0 ≤ x.2 ∧ x.2 ≤ bs.length ∧ (∀ y m, Repl bs x.1 x.2 y m → Repl bs noConf 0 y m) ∧ x.1.upto x.2.toNat ∧ Le k k' ∧ k' b2 = some (.cells (x.1.cs a0 c0 a1 c1 a2 c2 a3 c3).toArray 29 (0, 0)) ∧ OwnL F.w0.heap.size k' x.1 a0 c0 a1 c1 a2 c2 a3 c3 ∧
      e = [(0, .is (.slice a bs.length c)), (2, .is (.pointer (some ⟨b2, 0, none⟩))), (3, .is (.int .i64 x.2))])
    (fun x => bs.length - x.2.toNat) (noConf, 0) ⟨none, 0, none, 0, none, 0, none, 0, Int.le_refl _, by simp only; omega, fun y m hr => hr, noConf_upto _, hle2, hk2, noOwn _ _, rfl⟩ ⟨rfl, rfl, rfl, trivial⟩ ?_
  clear hk2
  rintro ⟨y, g⟩ e k7 ⟨a0, c0, a1, c1, a2, c2, a3, c3, hg0, hgl, hrep, hyu, hk7, hkb, HO, rfl⟩
  dsimp only at hg0 hgl hrep hyu hkb HO ⊢
  have hyf : y.few := ⟨by have := hyu.1; omega, by have := hyu.2.1; omega, by have := hyu.2.2.1; omega, by have := hyu.2.2.2; omega⟩
  repeat (first | refine cg_seq ?_ | refine cg_region ?_ | refine qsp ?_ | refine cg_block ?_)
  refine rv rfl rfl rfl (loc_call rfl rfl rfl rfl (fun k k' v hle h => h) (load_ct (h.le hk7) (by unfold I64; omega) (by omega))) ?_
  rintro k8 hle8 v8 ⟨rfl, hsok⟩
  have hn1 : (loadR bs g).2.2 ≠ 0 → Repl bs y g y g := fun h => .stopL h
  have hn2 : (loadR bs g).2.2 = 0 → (doC y (loadR bs g).1).2 ≠ 0 → Repl bs y g y g := fun h h' => .stopD h h'
  have hn3 : (loadR bs g).2.2 = 0 → (doC y (loadR bs g).1).2 = 0 → ∀ x n, Repl bs (doC y (loadR bs g).1).1 (loadR bs g).2.1 x n → Repl bs y g x n := fun h h' x n h'' => .go h h' h''
  have hnx : (loadR bs g).2.2 = 0 → _ := loadR_next
  generalize loadR bs g = ld at hsok hn1 hn2 hn3 hnx ⊢
  obtain ⟨s, next, e8⟩ := ld
  dsimp only at hsok hn1 hn2 hn3 hnx ⊢
  unfold loadVal
  dsimp only
  have hkb := hle8 _ _ hkb
  have HO := HO.le hle8
  repeat (first | refine qsp ?_)
  refine rb rfl rfl rfl rfl (a_alloc rfl) ?_; intro b9 k9 hb9 hN9 hle9 hk9
  refine rw1 (vs := s.vs) rfl rfl rfl rfl rfl rfl rfl hk9 rfl (.inl hN9) ?_ ?_
  · exact Step.one k s.vs s ⟨rfl, hsok⟩
  intro k10 ht10 hk10
  have hle10 : Le k8 k10 := ht10 k8 hle9 hb9
  have cs := cells_at (vs := s.vs) hk10 rfl
  have hkb := hle10 _ _ hkb
  have HO := HO.le hle10
  have hle710 : Le k k10 := hk7.trans (hle8.trans hle10)
  have cy := cells_at (vs := y.cs a0 c0 a1 c1 a2 c2 a3 c3) hkb rfl
  have hb2k : k b2 = none := hb2
  repeat (first | refine cg_seq ?_ | refine cg_region ?_ | refine rg_nil ?_ | refine eg_then ?_ | refine qsp ?_)
  cases q1 : (e8 != 0)
  case true =>
    repeat (first | refine cg_seq ?_ | refine cg_region ?_ | refine qsp ?_ | refine qsg ?_ | refine cg_cond_true rfl ?_)
    refine rw1 (vs := y.cs a0 c0 a1 c1 a2 c2 a3 c3) rfl rfl rfl rfl rfl rfl rfl hkb rfl (.inl hN2) ?_ ?_
    · simp [Conf.cs, Value.oneCell']
    intro k12 ht12 hk12
    have HZ := HO.turn ht12 hkb (by decide) (by decide) (by decide) (by decide)
    have c12 := cells_at (vs := y.cs a0 c0 a1 c1 a2 c2 a3 c3) hk12 rfl
    repeat (first | refine rg_nil ?_ | refine eg_then ?_ | refine qsp ?_ | refine cg_ret ?_ | refine eg_then_ret ?_ | refine eg_in_ret ?_)
    exact eg_returnC2 rfl rfl rfl rfl c12 rfl ⟨y, g, hrep _ _ (hn1 (by simpa using q1)), doV_mk rfl HZ⟩
  have q1 : e8 = 0 := by simpa using q1
  obtain ⟨_, n1, n2⟩ := hnx q1
  have hyu' := do_upto (s := s) hyu
  obtain ⟨z, hz⟩ : ∃ z, doC y s = z := ⟨_, rfl⟩
  have hdo := do_ctn (s := s) HO.cf hyf hsok
  rw [hz] at hdo hyu' hn2 hn3
  repeat (first | refine cg_seq ?_ | refine cg_region ?_ | refine eg_then ?_ | refine qsg ?_ | refine cg_cond_false rfl ?_ | refine cg_skip ?_)
  refine rvn rfl rfl rfl rfl rfl rfl rfl hdo ?_
  rintro N11 k11 v11 hN11 hnew11 hle11 ⟨d0, f0, d1, f1, d2, f2, d3, f3, rfl, HZ⟩
  have hkb := hle11 _ _ hkb
  have HO := HO.le hle11
  repeat (first | refine qsp ?_)
  refine rb rfl rfl rfl rfl (a_alloc rfl) ?_; intro b13 k13 hb13 hN13 hle13 hk13
  refine rw1 (vs := z.1.cs d0 f0 d1 f1 d2 f2 d3 f3) rfl rfl rfl rfl rfl rfl rfl hk13 rfl (.inl hN13) ?_ ?_
  · simp [Conf.cs, Value.oneCell']
  intro k14 ht14 hk14
  have hle14 : Le k11 k14 := ht14 k11 hle13 hb13
  have hkb := hle14 _ _ hkb
  have HO := HO.le hle14
  have HZ := (HZ.N_le hN11).le hle14
  have hle714 : Le k k14 := hle710.trans (hle11.trans hle14)
  have cy := cells_at (vs := y.cs a0 c0 a1 c1 a2 c2 a3 c3) hkb rfl
  have cz := cells_at (vs := z.1.cs d0 f0 d1 f1 d2 f2 d3 f3) hk14 rfl
  repeat (first | refine cg_seq ?_ | refine cg_region ?_ | refine rg_nil ?_ | refine eg_then ?_ | refine qsp ?_)
  cases q2 : (z.2 != 0)
  · have q2' : z.2 = 0 := by simpa using q2
    repeat (first | refine cg_region ?_ | refine eg_then ?_ | refine qsp ?_ | refine qsg ?_ | refine cg_cond_false rfl ?_ | refine cg_skip ?_)
    refine rw1 (vs := z.1.cs d0 f0 d1 f1 d2 f2 d3 f3) rfl rfl rfl rfl rfl rfl rfl hkb rfl (.inl hN2) ?_ ?_
    · simp [Conf.cs, Value.oneCell']
    intro k15 ht15 hk15
    have HZ := HZ.turn ht15 hkb (by decide) (by decide) (by decide) (by decide)
    repeat (first | refine rg_nil ?_ | refine qsp ?_ | refine eg_in_normal ?_)
    refine eg_again (z.1, next) _ ⟨d0, f0, d1, f1, d2, f2, d3, f3, by simp only; omega, n2, fun x n hr => hrep _ _ (hn3 q1 q2' x n hr), ?_, ht15 k hle714 hb2k, hk15, HZ, rfl⟩ (by simp only; omega) ⟨rfl, rfl, rfl, trivial⟩
    have e1 : g.toNat + 1 ≤ next.toNat := by omega
    exact ⟨Nat.le_trans hyu'.1 e1, Nat.le_trans hyu'.2.1 e1, Nat.le_trans hyu'.2.2.1 e1, Nat.le_trans hyu'.2.2.2 e1⟩
  · have q2' : ¬ z.2 = 0 := by simpa using q2
    repeat (first | refine cg_seq ?_ | refine cg_region ?_ | refine qsp ?_ | refine qsg ?_ | refine cg_cond_true rfl ?_)
    refine rw1 (vs := y.cs a0 c0 a1 c1 a2 c2 a3 c3) rfl rfl rfl rfl rfl rfl rfl hkb rfl (.inl hN2) ?_ ?_
    · simp [Conf.cs, Value.oneCell']
    intro k15 ht15 hk15
    have HO := HO.turn ht15 hkb (by decide) (by decide) (by decide) (by decide)
    have c15 := cells_at (vs := y.cs a0 c0 a1 c1 a2 c2 a3 c3) hk15 rfl
    repeat (first | refine rg_nil ?_ | refine eg_then ?_ | refine qsp ?_ | refine cg_ret ?_ | refine eg_then_ret ?_ | refine eg_in_ret ?_)
    exact eg_returnC2 rfl rfl rfl rfl c15 rfl ⟨y, g, hrep _ _ (hn2 q1 q2'), doV_mk rfl HO⟩
end Go.Wm
namespace Go.Wm
open Go.RowKit
/-- Behind the q-th append the slot d q holds the row of m q elements, of whose own block nothing else is known. -/
def XR (N et sz qe : Nat) (d m : Nat → Nat) (xs : Nat → List Value) : Nat → (Nat → Value) → PH → World → Prop := fun s tm k w =>
  N ≤ w.heap.size ∧ ∀ q, s = q + 1 → q ≤ qe → Row N (wPH w) et sz (tm (d q)) (m q) (xs q) ∧ LackV (tm (d q)) k w
/-- What is appended: j elements, whose cells are news, or none. -/
def Apn (k : PH) (u : Value) (j : Nat) (news : List Value) : Prop := (∃ bx ox c, u = .slice (some ⟨bx, ox, none⟩) j c ∧ Cells k bx ox news) ∨ (j = 0 ∧ news = [] ∧ ∃ a c, u = .slice a 0 c)
theorem Apn.le {k k' : PH} {u : Value} {j : Nat} {news : List Value} (h : Apn k u j news) (hl : Le k k') : Apn k' u j news := by
  rcases h with ⟨bx, ox, c, h1, h2⟩ | h
  · exact .inl ⟨bx, ox, c, h1, h2.le hl⟩
  · exact .inr h
section
variable {P : Program} {F : Fr} {n : Nat} {ops : Array Oper} {Q : Exit → Act → World → Prop} {rest : List Oper} {o : Oper} {e : Env} {k : PH}
/-- What the second operand of an append holds. -/
def YApn (e : Env) (k : PH) (y : Operand) (j : Nat) (news : List Value) : Prop := (∃ u, opv e y = some u ∧ Apn k u j news) ∨ ∃ ty φ, y = .tmp ty ∧ get e ty = some (.such φ) ∧ ∀ k1 u, Le k k1 → φ k1 u → Apn k1 u j news
end
end Go.Wm
namespace Go.Wm
open Go.RowKit Go.Proofs
attribute [local irreducible] RG CG EG WA Loc Det Alc CT Exit.then Exit.inBlock Code.wp bodyPost
/-- The lists behind a topic's drop. -/
def dropR (x : Conf) (p : Nat) (nm : ByteArray) : Conf := { x with topics := x.topics.take p ++ x.topics.drop (p + 1), rules := x.rules.filter fun y => !decide (y.topic = nm), ways := x.ways.filter fun y => !decide (y.topic = nm) }
end Go.Wm
namespace Go.Wm
open Go.RowKit Go.Proofs
attribute [local irreducible] RG CG EG WA Loc Det Alc CT Exit.then Exit.inBlock Code.wp bodyPost
def hiA (a : Option Addr) (c p sz : Nat) : Option Addr := a.map fun d => ⟨d.block, if c = p then d.off else d.off + p * sz, none⟩
theorem Own.base {α : Type} {T : Ty α} {N : Nat} {k : PH} {et : Nat} {a : Option Addr} {n c : Nat} {l : List α} (h : Own T N k et (.slice a n c) l) : (a = none ∧ c = 0) ∨ ∃ b off, a = some ⟨b, off, none⟩ := by
  obtain ⟨css, _, _, hr⟩ := h
  rcases hr with ⟨e, _⟩ | ⟨g, cap, cur, e, _⟩
  · simp only [Value.slice.injEq] at e
    exact .inl ⟨e.1, e.2.2⟩
  · simp only [Value.slice.injEq] at e
    exact .inr ⟨g, 0, e.1⟩
end Go.Wm
namespace Go.Wm
open Go.RowKit Go.Proofs
theorem Row.delV {N : Nat} {k : PH} {et sz : Nat} {u v : Value} {m : Nat} {xs : List Value} (h : Row N k et sz u m xs) (hv : ∀ g, v.ownBlock = some g → g < N) : Row N (Wm.delV k v) et sz u m xs :=
  h.at fun g hg => by
    obtain ⟨hN, _⟩ := h.block hg
    exact delV_of fun hc => by have := hv g hc; omega
theorem Own.delVT {N : Nat} {k : PH} {v u : Value} {l : List Topic} (h : Own tTopic N k 72 u l) (hv : ∀ g, v.ownBlock = some g → g < N) : Own tTopic N (Wm.delV k v) 72 u l := by
  obtain ⟨css, h1, h2⟩ := h
  exact ⟨css, ⟨h1.1, h1.2⟩, h2.delV hv⟩
theorem Own.delVR {N : Nat} {k : PH} {v u : Value} {l : List Rule} (h : Own tRule N k 74 u l) (hv : ∀ g, v.ownBlock = some g → g < N) : Own tRule N (Wm.delV k v) 74 u l := by
  obtain ⟨css, h1, h2⟩ := h
  exact ⟨css, ⟨h1.1, h1.2⟩, h2.delV hv⟩
theorem Own.delVQ {N : Nat} {k : PH} {v u : Value} {l : List Rate} (h : Own tRate N k 76 u l) (hv : ∀ g, v.ownBlock = some g → g < N) : Own tRate N (Wm.delV k v) 76 u l := by
  obtain ⟨css, h1, h2⟩ := h
  exact ⟨css, ⟨h1.1, h1.2⟩, h2.delV hv⟩
theorem Own.delVW {N : Nat} {k : PH} {v u : Value} {l : List Way} (h : Own tWay N k 78 u l) (hv : ∀ g, v.ownBlock = some g → g < N) : Own tWay N (Wm.delV k v) 78 u l := by
  obtain ⟨css, h1, h2⟩ := h
  exact ⟨css, ⟨h1.1, h1.2⟩, h2.delV hv⟩
theorem OwnL.delV {N : Nat} {k : PH} {v : Value} {x : Conf} {a0 : Option Addr} {c0 : Nat} {a1 : Option Addr} {c1 : Nat} {a2 : Option Addr} {c2 : Nat} {a3 : Option Addr} {c3 : Nat} (H : OwnL N k x a0 c0 a1 c1 a2 c2 a3 c3) (hv : ∀ g, v.ownBlock = some g → g < N) : OwnL N (Wm.delV k v) x a0 c0 a1 c1 a2 c2 a3 c3 :=
  ⟨H.t.delVT hv, H.r.delVR hv, H.q.delVQ hv, H.w.delVW hv⟩
theorem Row.turnT {N : Nat} {k k' : PH} {b et et' sz : Nat} {v : Value} {m : Nat} {xs : List Value} {c : Array Value} {fr : Nat × Nat} (h : Row N k et sz v m xs) (ht : Turn1 k k' b) (hb : k b = some (.cells c et' fr)) (hne : et ≠ et') : Row N k' et sz v m xs := by
  obtain ⟨hl, (⟨rfl, rfl⟩ | ⟨g, cap, cur, rfl, hN, hk, h1, h2, h3, h4⟩)⟩ := h
  · exact ⟨hl, .inl ⟨rfl, rfl⟩⟩
  · have hgb : g ≠ b := fun hc => by rw [hc, hb] at hk; cases hk; exact hne rfl
    exact ⟨hl, .inr ⟨g, cap, cur, rfl, hN, turn1_get ht hgb hk, h1, h2, h3, h4⟩⟩
theorem Apart.le {h k : PH} {v : Value} (ha : Apart k v) (hl : Le h k) : Apart h v := fun g hg => hl.none (ha g hg)
theorem Apart.delV (k : PH) (v : Value) : Apart (Wm.delV k v) v := fun g hg => delV_own hg
theorem Row.old {N M : Nat} {k : PH} {et sz : Nat} {v : Value} {m : Nat} {xs : List Value} (h : Row N k et sz v m xs) (hnew : ∀ b, M ≤ b → k b = none) : ∀ g, v.ownBlock = some g → g < M := fun g hg => by
  obtain ⟨_, ob, hob⟩ := h.block hg
  apply Decidable.byContradiction
  intro hc
  rw [hnew g (by omega)] at hob
  cases hob
theorem do_form {x : Conf} {s : Step} (h : (doC x s).2 = 0) : formS s = true := by
  unfold doC at h
  split at h
  · simp at h
  · rename_i h1
    cases q : formS s
    · rw [q] at h1; simp at h1
    · rfl
theorem saveL_le {s : Step} (hok : I64 s.a ∧ I64 s.b ∧ I64 s.c) (h : formS s = true) : 9 ≤ (saveL s).length ∧ (saveL s).length ≤ 187 := by
  have := stepL_len hok h
  rw [saveL_len]; omega
theorem Ran.len {c x : Conf} {l : List Step} (h : Ran c l x) : (l.flatMap saveL).length ≤ 187 * l.length := by
  induction h with
  | nil => simp
  | cons a b c' _ ih =>
    have := saveL_le a b
    simp only [List.flatMap_cons, List.length_append, List.length_cons]; omega
theorem saveL_bytes (s : Step) : Bytes (saveL s) := (bigL_bytes _ _ _).append ((stepL_bytes s).append (bigL_bytes _ _ _))
theorem flat_bytes (l : List Step) : Bytes (l.flatMap saveL) := fun x hx => by
  obtain ⟨s, _, hs⟩ := List.mem_flatMap.1 hx
  exact saveL_bytes s x hs
theorem loadR_end (b : List Nat) : (loadR b (b.length : Int)).2.2 ≠ 0 := by
  have : getR b (b.length : Int) 4 = (0, 10) := by unfold getR; rw [if_neg (by omega), if_pos (by rw [Int.toNat_natCast]; omega)]
  unfold loadR
  rw [this, if_pos (by simp)]
  simp
/-- What steps that were done make of their own bytes. -/
theorem Ran.all {x : Conf} {l : List Step} (h : Ran noConf l x) : Repl (l.flatMap saveL) noConf 0 x ((l.flatMap saveL).length : Int) := by
  have := h.repl [] [] x ((l.flatMap saveL).length : Int) (by
    simp only [List.nil_append, List.append_nil, List.length_nil, Nat.zero_add]
    exact .stopL (loadR_end _))
  simpa using this
end Go.Wm
namespace Go.Wm
open Go.RowKit Go.Proofs
theorem Ran.mem {c x : Conf} {l : List Step} (h : Ran c l x) : ∀ s ∈ l, (I64 s.a ∧ I64 s.b ∧ I64 s.c) ∧ formS s = true := by
  induction h with
  | nil => simp
  | cons a b _ _ ih =>
    intro s hs
    rcases List.mem_cons.1 hs with rfl | hs
    · exact ⟨a, b⟩
    · exact ih s hs
def lenS (ss : List Step) (j : Nat) : Nat := ((ss.take j).flatMap saveL).length
def endsL (ss : List Step) : List Int := (List.range (ss.length + 1)).map fun j => (lenS ss j : Int)
theorem flat_split {ss : List Step} {j : Nat} (h : j < ss.length) : ss.flatMap saveL = (ss.take j).flatMap saveL ++ (saveL ss[j] ++ (ss.drop (j + 1)).flatMap saveL) := by
  have e : ss = ss.take j ++ ss[j] :: ss.drop (j + 1) := by rw [← List.drop_eq_getElem_cons h, List.take_append_drop]
  conv => lhs; rw [e]
  rw [List.flatMap_append, List.flatMap_cons]
theorem lenS_succ {ss : List Step} {j : Nat} (h : j < ss.length) : lenS ss (j + 1) = lenS ss j + (saveL ss[j]).length := by
  unfold lenS; rw [List.take_succ_eq_append_getElem h, List.flatMap_append, List.length_append]
  simp only [List.flatMap_cons, List.flatMap_nil, List.append_nil]
theorem lenS_all (ss : List Step) : lenS ss ss.length = (ss.flatMap saveL).length := by unfold lenS; rw [List.take_length]
theorem ends_snoc (ss : List Step) (s : Step) : endsL (ss ++ [s]) = endsL ss ++ [(((ss ++ [s]).flatMap saveL).length : Int)] := by
  unfold endsL
  rw [List.length_append, List.length_singleton, List.range_succ, List.map_append]
  congr 1
  · apply List.map_congr_left
    intro j hj
    have : j ≤ ss.length := by have := List.mem_range.1 hj; omega
    unfold lenS; rw [List.take_append_of_le_length this]
  · simp [lenS, List.take_of_length_le]
/-- What is cut off: the steps ahead of that are done, and no other one. -/
theorem torn_cut {ss : List Step} {x c : Conf} {j m : Nat} (hr : Ran noConf ss x) (hj : j < ss.length) (hc : Ran noConf (ss.take j) c) (h1 : lenS ss j ≤ m) (h2 : m < lenS ss (j + 1)) :
    Repl ((ss.flatMap saveL).take m) noConf 0 c (lenS ss j : Int) := by
  obtain ⟨hn, hf⟩ := hr.mem _ (List.getElem_mem hj)
  rw [lenS_succ hj] at h2
  have e : (ss.flatMap saveL).take m = [] ++ ((ss.take j).flatMap saveL ++ (saveL ss[j]).take (m - lenS ss j)) := by
    rw [flat_split hj, List.take_append, List.take_of_length_le (by exact h1), List.take_append_of_le_length (by show m - lenS ss j ≤ _; omega)]
    rfl
  rw [e]
  refine hc.repl [] _ c _ ?_
  rw [List.nil_append, List.length_nil, Nat.zero_add]
  exact .stopL (loadR_cut hn hf _ (by omega))
/-- What is spoilt: likewise. -/
theorem torn_spoilt {ss : List Step} {x c : Conf} {j m b : Nat} (hr : Ran noConf ss x) (hj : j < ss.length) (hc : Ran noConf (ss.take j) c) (h1 : lenS ss j ≤ m) (h2 : m < lenS ss (j + 1)) (hb : b < 256) (hne : (ss.flatMap saveL)[m]? ≠ some b) :
    Repl ((ss.flatMap saveL).set m b) noConf 0 c (lenS ss j : Int) := by
  obtain ⟨hn, hf⟩ := hr.mem _ (List.getElem_mem hj)
  rw [lenS_succ hj] at h2
  have hl : ((ss.take j).flatMap saveL).length = lenS ss j := rfl
  have e : (ss.flatMap saveL).set m b = [] ++ ((ss.take j).flatMap saveL ++ ((saveL ss[j]).set (m - lenS ss j) b ++ (ss.drop (j + 1)).flatMap saveL)) := by
    rw [flat_split hj, List.set_append_right _ _ (by omega), List.set_append_left _ _ (by rw [hl]; omega), hl]
    rfl
  rw [e]
  refine hc.repl [] _ c _ ?_
  rw [List.nil_append, List.length_nil, Nat.zero_add]
  refine .stopL (loadR_spoilt hn hf _ _ hb (by omega) ?_)
  rw [flat_split hj, List.getElem?_append_right (by omega), hl, List.getElem?_append_left (by omega)] at hne
  exact hne
/-- All configurations, one behind each step. -/
def AllP (ss : List Step) (cs : List Conf) : Prop := cs.length = ss.length + 1 ∧ ∀ j x, cs[j]? = some x → Ran noConf (ss.take j) x
theorem allP_nil : AllP [] [noConf] := ⟨rfl, fun j x h => by
  match j, h with
  | 0, h => cases h; exact .nil⟩
theorem AllP.snoc {ss : List Step} {cs : List Conf} {s : Step} {x : Conf} (h : AllP ss cs) (hr : Ran noConf (ss ++ [s]) x) : AllP (ss ++ [s]) (cs ++ [x]) := by
  refine ⟨by rw [List.length_append, List.length_append, h.1]; rfl, fun j y hj => ?_⟩
  by_cases hlt : j < cs.length
  · rw [List.getElem?_append_left hlt] at hj
    rw [List.take_append_of_le_length (by have := h.1; omega)]
    exact h.2 j y hj
  · rw [List.getElem?_append_right (by omega)] at hj
    have hj0 : j - cs.length = 0 := by
      apply Decidable.byContradiction; intro hc
      rw [List.getElem?_eq_none (by simp; omega)] at hj; cases hj
    rw [hj0] at hj
    cases hj
    rw [List.take_of_length_le (by rw [List.length_append]; have := h.1; simp; omega)]
    exact hr
/-- A configuration's cells, with no bound on its version. -/
def tCf : Ty Conf where
  sz := 5
  rep := fun h cs x => ∃ a0 c0 a1 c1 a2 c2 a3 c3, cs = x.cs a0 c0 a1 c1 a2 c2 a3 c3 ∧ CfAt h x a0 c0 a1 c1 a2 c2 a3 c3
  len := fun ⟨_, _, _, _, _, _, _, _, h, _⟩ => by rw [h]; rfl
  mono := fun hl ⟨a0, c0, a1, c1, a2, c2, a3, c3, h1, h2⟩ => ⟨a0, c0, a1, c1, a2, c2, a3, c3, h1, h2.le hl⟩
theorem Row.turnB {N : Nat} {k k' : PH} {b et sz : Nat} {v : Value} {m : Nat} {xs : List Value} (h : Row N k et sz v m xs) (ht : Turn1 k k' b) (hne : v.ownBlock ≠ some b) : Row N k' et sz v m xs :=
  h.at fun g hg => by
    obtain ⟨_, ob, hob⟩ := h.block hg
    rw [hob]
    exact turn1_get ht (fun hc => hne (by rw [hg, hc])) hob
theorem row_one {N : Nat} {k : PH} {b et sz : Nat} {cells : List Value} (hN : N ≤ b) (hk : k b = some (.cells cells.toArray et (0, 0))) (hl : cells.length = sz) : Row N k et sz (.slice (some ⟨b, 0, none⟩) 1 1) 1 cells :=
  ⟨by rw [hl, Nat.one_mul], .inr ⟨b, 1, cells.toArray, rfl, hN, hk, Nat.le_refl _, by unfold maxLen; omega, by simp [hl], by rw [Nat.one_mul, ← hl]; exact List.take_length⟩⟩
theorem disj_fresh {k : PH} {v : Value} {b m c : Nat} {et sz N n : Nat} {xs : List Value} (h : Row N k et sz v n xs) (hb : k b = none) : Disj v (.slice (some ⟨b, 0, none⟩) m c) := fun g hg hc => by
  obtain ⟨_, ob, hob⟩ := h.block hg
  simp [Value.ownBlock] at hc
  subst hc
  rw [hb] at hob
  cases hob
end Go.Wm
namespace Go.Wm
open Go.RowKit Go.Proofs Go.ChangeShapes Go.WideShapes
theorem wf_u8 {n : Int} (h : (Lit.int .u8 n).wf = true) : ∃ m : Nat, n = (m : Int) ∧ m < 256 := by
  simp [Lit.wf, IntKind.min, IntKind.max, IntKind.signed, IntKind.bits] at h
  exact ⟨n.toNat, by omega, by omega⟩
theorem rd_u8 {P : Program} {t : TypeId} (h : P.underlying t = some (.int .u8)) (h1 : P.cellsOf t = 1) : Rd P t tU8 where
  one := h1
  rd := fun hr => by
    obtain ⟨n, rfl, _, hw⟩ := DataW.trod_int h hr
    obtain ⟨m, rfl, hm⟩ := wf_u8 hw
    exact ⟨m, rfl, hm⟩
instance : Rd Tryz.prog 5 tU8 := rd_u8 Tryz.underlying5 (by kernel_rfl)
instance : Rd Tryz.prog 22 (tSl tU8) := rd_slice Tryz.underlying22 (by kernel_rfl) (by decide)
theorem garg_u8 {P : Program} {t : TypeId} (ht : P.underlying t = some (.int .u8)) {H : Type} {enc : TypeId × Value → H} {W : World} {base : Nat} {v : Value} {d : DataW H} {p : List MemPlace} (hv : Value.okWide P W .any base t v) (hr : DataW.Trod enc P W 0 (fun _ => true) true t v d p) :
    ∃ x : Nat, v = .int .u8 (x : Int) ∧ x < 256 := by
  obtain ⟨x, rfl⟩ := okWide_int ht hv
  obtain ⟨n, hn⟩ := hr
  obtain ⟨a, e0, hw⟩ := DataW.trod_int ht hn
  simp [Value.cells] at e0
  subst e0
  obtain ⟨m, rfl, hm⟩ := wf_u8 hw.2
  exact ⟨m, rfl, hm⟩
end Go.Wm
