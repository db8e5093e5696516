/-
  A batch's bytes, the document's. Conditions: that what is handed in reads as data, and that the batch has form. A batch's bytes, the program's, and whether a batch may be. Conditions: that what is handed in reads as data.
-/
import Derived.Test.YtfejamdfhbamcaaO6
import Derived.Test.YtfejamdfhbamcaaAry
set_option linter.all false
namespace Go.Wm
open Go.RowKit Go.Proofs
attribute [local irreducible] RG CG EG WA Loc Det Alc CT Exit.then Exit.inBlock Code.wp bodyPost

def headI (b : Batch) : List Int := [b.base, b.last - b.base, b.fromV, b.epoch, b.pid, b.gen, b.seq]
def varsL (l : List Int) : List Nat := l.flatMap fun n => varL (zigN n)
def markN (b : Batch) : Nat := b.ctl.toNat + (if b.txn then 4 else 0)
def preL (b : Batch) : List Nat := varsL (headI b) ++ [markN b] ++ varL (zigN (b.recs.length : Int))
def stampL (b : Batch) (i : Nat) : List Nat := match b.recs, i with | r :: _, _ + 1 => varL (zigN r.stamp) | _, _ => []
def stamp0 (b : Batch) : Int := match b.recs with | r :: _ => r.stamp | [] => 0
/-- The body, with so many records. -/
def bodyL (b : Batch) (i : Nat) : List Nat := preL b ++ stampL b i ++ (b.recs.take i).flatMap fun r => recL r b.base (stamp0 b)
def batchL (b : Batch) : List Nat := bigL (sealL (bodyL b b.recs.length)).length 4 4 ++ sealL (bodyL b b.recs.length)
theorem vars_snoc (l : List Int) (n : Int) : varsL (l ++ [n]) = varsL l ++ varL (zigN n) := by simp [varsL]
theorem vars_bytes (l : List Int) : Bytes (varsL l) := fun x hx => by
  unfold varsL at hx
  obtain ⟨n, _, h⟩ := List.mem_flatMap.1 hx
  exact varL_bytes _ x h
theorem vars_len : ∀ (l : List Int), (∀ n ∈ l, I64 n) → (varsL l).length ≤ 10 * l.length
  | [], _ => by simp [varsL]
  | n :: l, h => by
    have h1 := vars_len l fun x hx => h x (by simp [hx])
    have h2 := varL_ten (zigN_lt (h n (by simp)))
    show (varL (zigN n) ++ varsL l).length ≤ _
    rw [List.length_append, List.length_cons]
    omega
theorem rec_len {r : Rec} {base stamp : Int} (h : recOk r = true) (hb : inO base = true) (hs : inO stamp = true) : (recL r base stamp).length ≤ 200 := by
  obtain ⟨o1, o2, o3, o4⟩ := recOk_parts h
  have i1 := inO_iff.1 o1
  have i2 := inO_iff.1 o2
  have i3 := inO_iff.1 hb
  have i4 := inO_iff.1 hs
  have hv1 := varL_ten (zigN_lt (n := r.off - base) (by unfold I64; omega))
  have hv2 := varL_ten (zigN_lt (n := r.stamp - stamp) (by unfold I64; omega))
  have ht1 : (textL r.key).length ≤ 74 := by
    unfold textL
    have := varL_ten (zigN_lt (n := (r.key.size : Int)) (by unfold I64; omega))
    rw [List.length_append, strB_len]; omega
  have ht2 : (textL r.val).length ≤ 74 := by
    unfold textL
    have := varL_ten (zigN_lt (n := (r.val.size : Int)) (by unfold I64; omega))
    rw [List.length_append, strB_len]; omega
  simp only [recL, List.length_append, List.length_cons, List.length_nil]
  omega
theorem rec_bytes (r : Rec) (base stamp : Int) : Bytes (recL r base stamp) :=
  ((((varL_bytes _).append (varL_bytes _)).append fun x hx => by simp at hx; rw [hx]; split <;> decide).append ((varL_bytes _).append (strB_bytes _))).append ((varL_bytes _).append (strB_bytes _))
theorem recsP_all {hi : Int} : ∀ {l : List Rec} {lo : Int}, recsP hi lo l = true → (∀ r ∈ l, recOk r = true) ∧ (l ≠ [] → (l.length : Int) ≤ hi - lo)
  | [], lo, _ => ⟨by simp, by simp⟩
  | r :: l, lo, h => by
    simp only [recsP, Bool.and_eq_true, decide_eq_true_eq] at h
    obtain ⟨⟨h1, h2, h3⟩, h4⟩ := h
    obtain ⟨g1, g2⟩ := recsP_all h4
    refine ⟨fun x hx => ?_, fun _ => ?_⟩
    · rcases List.mem_cons.1 hx with rfl | hx
      · exact h1
      · exact g1 x hx
    · by_cases e : l = []
      · subst e; simp; omega
      · have := g2 e
        simp only [List.length_cons]
        omega
theorem FormP.few {b : Batch} (h : FormP b) : (∀ r ∈ b.recs, recOk r = true) ∧ b.recs.length ≤ 16 := by
  by_cases hc : b.ctl = 0
  · obtain ⟨g1, g2⟩ := recsP_all (h.recs hc)
    refine ⟨g1, ?_⟩
    by_cases e : b.recs = []
    · rw [e]; simp
    · have := g2 e
      have := h.span.2.1
      omega
  · have : b.recs = [] := List.length_eq_zero_iff.1 (h.ctl hc).2.2.1
    rw [this]
    simp
theorem FormP.head {b : Batch} (h : FormP b) : ∀ n ∈ headI b, I64 n := fun n hn => by
  have h1 := h.base; have h2 := h.last; have h3 := h.fromV; have h4 := h.epoch; have h5 := h.gen; have h6 := h.seq
  have h7 : -1 ≤ b.pid ∧ b.pid ≤ 1099511627776 := by
    by_cases e : b.pid = -1
    · omega
    · have := h.some e; omega
  simp only [headI, List.mem_cons, List.not_mem_nil, or_false] at hn
  unfold I64
  rcases hn with rfl | rfl | rfl | rfl | rfl | rfl | rfl <;> omega
theorem FormP.mark {b : Batch} (h : FormP b) : 0 ≤ b.ctl ∧ b.ctl ≤ 2 ∧ markN b ≤ 6 := by
  have : 0 ≤ b.ctl ∧ b.ctl ≤ 2 := by
    by_cases e : b.ctl = 0
    · omega
    · rcases (h.ctl e).1 with h | h <;> omega
  refine ⟨this.1, this.2, ?_⟩
  unfold markN
  split <;> omega
theorem pre_bytes {b : Batch} (h : FormP b) : Bytes (preL b) := ((vars_bytes _).append fun x hx => by simp at hx; have := h.mark.2.2; omega).append (varL_bytes _)
theorem pre_len {b : Batch} (h : FormP b) : (preL b).length ≤ 81 := by
  have h1 := vars_len _ h.head
  have h2 := varL_ten (zigN_lt (n := (b.recs.length : Int)) (by have := h.few.2; unfold I64; omega))
  simp only [preL, List.length_append, List.length_cons, List.length_nil]
  have : (headI b).length = 7 := rfl
  omega
theorem stamp_in {b : Batch} (h : FormP b) : inO (stamp0 b) = true := by
  unfold stamp0
  split
  · rename_i r l e
    exact (recOk_parts (h.few.1 r (by rw [e]; simp))).2.1
  · rfl
theorem stampL_len {b : Batch} (h : FormP b) (i : Nat) : (stampL b i).length ≤ 10 := by
  unfold stampL
  split
  · rename_i r l n e
    have := inO_iff.1 (recOk_parts (h.few.1 r (by rw [e]; simp))).2.1
    exact varL_ten (zigN_lt (by unfold I64; omega))
  · simp
theorem stampL_bytes (b : Batch) (i : Nat) : Bytes (stampL b i) := by
  unfold stampL
  split
  · exact varL_bytes _
  · intro x hx; cases hx
theorem flat_recs_len {b : Batch} (h : FormP b) : ∀ l : List Rec, (∀ r ∈ l, recOk r = true) → (l.flatMap fun r => recL r b.base (stamp0 b)).length ≤ 200 * l.length
  | [], _ => by simp
  | r :: l, hl => by
    have h1 := flat_recs_len h l fun x hx => hl x (by simp [hx])
    have h2 := rec_len (hl r (by simp)) (inO_iff.2 h.base) (stamp_in h)
    rw [List.flatMap_cons, List.length_append, List.length_cons]
    omega
theorem body_len {b : Batch} (h : FormP b) (i : Nat) : (bodyL b i).length ≤ 4000 := by
  have h1 := pre_len h
  have h2 := stampL_len h i
  have h3 := flat_recs_len h (b.recs.take i) fun r hr => h.few.1 r (List.mem_of_mem_take hr)
  have h4 := h.few.2
  rw [List.length_take] at h3
  simp only [bodyL, List.length_append]
  omega
theorem body_bytes {b : Batch} (h : FormP b) (i : Nat) : Bytes (bodyL b i) := ((pre_bytes h).append (stampL_bytes b i)).append fun x hx => by
  obtain ⟨r, _, h⟩ := List.mem_flatMap.1 hx
  exact rec_bytes _ _ _ x h
theorem body_zero (b : Batch) : bodyL b 0 = preL b := by
  unfold bodyL stampL
  cases b.recs <;> simp
theorem recs_cons {b : Batch} (h : 0 < b.recs.length) : ∃ r l, b.recs = r :: l ∧ b.recs[0] = r := by
  obtain ⟨r, l, hb⟩ := List.exists_cons_of_length_pos h
  exact ⟨r, l, hb, by simp [hb]⟩
theorem stamp_zero {b : Batch} (h : 0 < b.recs.length) : b.recs[0].stamp = stamp0 b := by
  obtain ⟨r, l, hb, e⟩ := recs_cons h
  rw [e]
  unfold stamp0
  rw [hb]
def midL (b : Batch) (i : Nat) : List Nat := if i = 0 then preL b ++ varL (zigN (stamp0 b)) else bodyL b i
theorem seal_bytes {bs : List Nat} (h : Bytes bs) : Bytes (sealL bs) := h.append (bigL_bytes _ _ _)
end Go.Wm
namespace Go.Wm
open Go.RowKit Go.Proofs
attribute [local irreducible] RG CG EG WA Loc Det Alc CT Exit.then Exit.inBlock Code.wp bodyPost

def loopL (b : Batch) (i : Nat) : List Nat := preL b ++ varL (zigN (stamp0 b)) ++ (b.recs.take i).flatMap fun r => recL r b.base (stamp0 b)
theorem loop_zero (b : Batch) : loopL b 0 = preL b ++ varL (zigN (stamp0 b)) := by simp [loopL]
theorem loop_succ {b : Batch} {i : Nat} (h : i < b.recs.length) : loopL b i ++ recL b.recs[i] b.base (stamp0 b) = loopL b (i + 1) := by
  unfold loopL
  rw [List.take_succ_eq_append_getElem h, List.flatMap_append, List.append_assoc (preL b ++ varL (zigN (stamp0 b)))]
  simp
theorem loop_body {b : Batch} (h : 0 < b.recs.length) : loopL b b.recs.length = bodyL b b.recs.length := by
  obtain ⟨r, l, hb, e⟩ := recs_cons h
  unfold loopL bodyL stampL
  rw [← stamp_zero h, e]
  simp only [hb, List.length_cons]
theorem loop_len {b : Batch} (h : FormP b) (i : Nat) : (loopL b i).length ≤ 4000 := by
  have h1 := pre_len h
  have h0 := inO_iff.1 (stamp_in h)
  have h2 := varL_ten (zigN_lt (n := stamp0 b) (by unfold I64; omega))
  have h3 := flat_recs_len h (b.recs.take i) fun r hr => h.few.1 r (List.mem_of_mem_take hr)
  have h4 := h.few.2
  rw [List.length_take] at h3
  simp only [loopL, List.length_append]
  omega
set_option maxHeartbeats 4000000 in
theorem write_ct {k : PH} {b : Batch} {a0 : Option Addr} {c0 : Nat} (hr : Sl tRec k a0 c0 b.recs) (hok : b.ok) (hf : FormP b) : CTN Try.prog 164 #[.agg (b.cs a0 c0).toArray] k (fun N k' v => BRow N k' v (batchL b)) := by
  refine ctn_of_body (l := [_]) Try.func164 rfl Try.ntmps164 (by simp) (fun N k k' v hle h => h.le hle) fun F hF0 hFm => ?_
  have b1 := hr.cap; have b2 := hr.max; unfold maxLen at b2
  have hfew := hf.few
  have hbase := hf.base
  have hlast := hf.last
  have hmark := hf.mark
  have hhead := hf.head
  have hvl := vars_len _ hhead
  have h7 : (headI b).length = 7 := rfl
  repeat (first | refine cg_seq ?_ | refine cg_region ?_)
  refine rb rfl rfl rfl rfl (a_box rfl rfl) ?_; intro bb k4 hbb hNb hle4 hkb
  have cb := cells_at (vs := b.cs a0 c0) hkb rfl
  obtain ⟨p0, p1, p2, p3, p4, p5, p6, p7, p8, p9⟩ := Batch.parts cb
  repeat (first | refine cg_seq ?_ | refine cg_region ?_ | refine rg_nil ?_ | refine eg_then ?_ | refine qsp ?_ | refine qss ?_ | refine qsl ?_ | refine qsf ?_)
  refine rs rfl rfl (loc_det rfl (d_arr7 rfl rfl rfl rfl rfl rfl rfl rfl)) ?_
  repeat (first | refine rg_nil ?_ | refine eg_then ?_ | refine qsp ?_ | refine cg_block ?_)
  refine cg_loop (fun (i : Nat) e k' => ∃ v, Le k4 k' ∧ BRow F.w0.heap.size k' v (varsL ((headI b).take i)) ∧ Apart k4 v ∧ i ≤ 7 ∧ e = [(1, .is (.pointer (some ⟨bb, 0, none⟩))), (3, .is v), (29, .is (.agg #[.int .i64 b.base, .int .i64 (b.last - b.base), .int .i64 b.fromV, .int .i64 b.epoch, .int .i64 b.pid, .int .i64 b.gen, .int .i64 b.seq])), (30, .is (.int .i64 (i : Int)))])
    (fun i => 7 - i) 0 ⟨.slice none 0 0, Le.refl _, row_nil _ _ _ _, apart_nil _ _ _, by omega, rfl⟩ ⟨rfl, rfl, rfl, rfl, trivial⟩ ?_
  rintro i e k1 ⟨v, hle, hrow, hap, hi, rfl⟩
  repeat (first | refine cg_seq ?_ | refine cg_region ?_ | refine rg_nil ?_ | refine eg_then ?_ | refine qsp ?_)
  refine cg_cond rfl (fun h => ?_) (fun h => ?_)
  · have hlt : i < 7 := by simp at h; omega
    have hyok := hhead _ (List.getElem_mem (show i < (headI b).length by omega))
    have hvi := vars_len ((headI b).take i) fun n hn => hhead n (List.mem_of_mem_take hn)
    rw [List.length_take] at hvi
    obtain ⟨av, cv, rfl, hs⟩ := BRow.sl hrow (vars_bytes _)
    have hix : (#[Value.int .i64 b.base, .int .i64 (b.last - b.base), .int .i64 b.fromV, .int .i64 b.epoch, .int .i64 b.pid, .int .i64 b.gen, .int .i64 b.seq] : Array Value)[i]? = some (.int .i64 ((headI b)[i]'(by omega))) := by
      rw [show (#[Value.int .i64 b.base, .int .i64 (b.last - b.base), .int .i64 b.fromV, .int .i64 b.epoch, .int .i64 b.pid, .int .i64 b.gen, .int .i64 b.seq] : Array Value) = ((headI b).map (Value.int .i64)).toArray from rfl, List.getElem?_toArray, List.getElem?_map, List.getElem?_eq_getElem (by omega)]
      rfl
    repeat (first | refine cg_seq ?_ | refine cg_region ?_ | refine eg_then ?_ | refine cg_skip ?_ | refine cg_block ?_)
    refine rs rfl rfl (loc_det rfl (d_ixA rfl rfl rfl hlt hix)) ?_
    repeat (first | refine cg_region ?_ | refine rg_nil ?_ | refine eg_then ?_ | refine qsp ?_)
    refine rvn rfl rfl rfl rfl rfl rfl rfl (putVar_ct (n := (headI b)[i]) hs (by omega) hyok) ?_
    rintro N2 k2 v2 hN2 hf2 hle2 hrow2
    repeat (first | refine cg_region ?_ | refine rg_nil ?_ | refine eg_then ?_ | refine qsp ?_ | refine qsa ?_ | refine eg_in_normal ?_)
    refine eg_again (i + 1) _ ⟨v2, hle.trans hle2, ?_, fun g hg => hle.none (hf2 g (hrow2.block hg).1), by omega, rfl⟩ (by omega) ⟨rfl, rfl, rfl, rfl, trivial⟩
    rw [List.take_succ_eq_append_getElem (by omega), vars_snoc]
    exact hrow2.N_le hN2
  · have hil : i = 7 := by simp at h; omega
    subst hil
    rw [show (headI b).take 7 = headI b from rfl] at hrow
    obtain ⟨p0, p1, p2, p3, p4, p5, p6, p7, p8, p9⟩ := Batch.parts (cb.le hle)
    obtain ⟨ctl, hctl⟩ : ∃ c : Nat, b.ctl = (c : Int) := ⟨b.ctl.toNat, by omega⟩
    rw [hctl] at p8
    repeat (first | refine cg_seq ?_ | refine cg_region ?_ | refine eg_then ?_ | refine qsl ?_ | refine qsf ?_ | refine cg_exit ?_ | refine eg_then_exit ?_ | refine eg_in_exit ?_)
    refine rs rfl rfl (loc_det rfl (d_conv rfl rfl)) ?_
    rw [wrap8, Nat.mod_eq_of_lt (show ctl < 256 by omega)]
    repeat (first | refine cg_seq ?_ | refine cg_region ?_ | refine rg_nil ?_ | refine eg_then ?_ | refine qsp ?_ | refine qsl ?_ | refine qsf ?_)
    have hvbb : v.ownBlock ≠ some bb := fun hg => by
      have := hap _ hg
      rw [hkb] at this; cases this
    apply meet (P := Try.prog) (F := F) (n := 91) (k := k1) [(1, .is (.pointer (some ⟨bb, 0, none⟩))), (3, .is v), (6, .is (.int .u8 (markN b : Int)))] True
    · intro go
      have hmk : markN b = ctl + (if b.txn then 4 else 0) := by
        unfold markN
        rw [hctl]
        rfl
      cases qt : b.txn
      · rw [qt] at hmk
        have : markN b = ctl := by simpa using hmk
        repeat (first | refine cg_seq ?_ | refine eg_then ?_ | refine cg_cond_false rfl ?_ | refine cg_skip ?_)
        exact go _ trivial ⟨rfl, rfl, by rw [this]; rfl, trivial⟩
      · rw [qt] at hmk
        have : markN b = ctl ||| 4 := by
          have h3 : ctl = 0 ∨ ctl = 1 ∨ ctl = 2 := by omega
          rw [hmk]
          rcases h3 with rfl | rfl | rfl <;> rfl
        repeat (first | refine cg_region ?_ | refine qsp ?_ | refine cg_cond_true rfl ?_)
        refine rs rfl rfl (loc_det rfl (d_orN (b := 4) rfl rfl rfl rfl (show ctl < 2 ^ 8 by omega) (by decide))) ?_
        rw [← this]
        repeat (first | refine cg_seq ?_ | refine rg_nil ?_ | refine eg_then ?_ | refine qsp ?_)
        exact go _ trivial ⟨rfl, rfl, rfl, trivial⟩
    intro _
    obtain ⟨p0, p1, p2, p3, p4, p5, p6, p7, p8, p9⟩ := Batch.parts ((cb.le hle).delV hvbb)
    have hdel : Le k4 (delV k1 v) := le_delV hle hap
    have hb6 : Bytes (varsL (headI b) ++ [markN b]) := (vars_bytes _).append fun x hx => by simp at hx; omega
    refine cg_grow 8 3 v hrow (by kernel_rfl) (by kernel_rfl) rfl (by kernel_rfl) rfl ?_
    dsimp only [List.take]
    repeat (first | refine qcp ?_)
    refine wc_v rfl (loc_alloc rfl (a_slice rfl rfl rfl rfl (by kernel_rfl) rfl)) rfl ?_
    refine wc_e 0 rfl (eff_grow (j := 1) (news := [Value.int .u8 ((markN b : Nat) : Int)]) rfl rfl rfl rfl rfl (fun k1 u _ ⟨b, hu, hkb, _⟩ => ⟨b, 0, 1, hu, cells_at hkb rfl⟩) rfl (by simp [Value.oneCell']) rfl rfl (by unfold maxLen; omega) (by omega)) ?_
    repeat (first | refine qcn ?_ | refine qcl ?_ | refine qcf ?_)
    refine wc_iv (φ := Made F.w0.heap.size (delV k1 v) fun N k' v => BRow N k' v (preL b)) rfl (LocI.elim 47 rfl (by kernel_rfl) (made_mono fun M k k' v hle h => h.le hle) ?_) rfl ?_
    · rintro v5 k5 hle5 hrow5
      have hrow5 : BRow F.w0.heap.size k5 v5 (varsL (headI b) ++ [markN b]) := by
        unfold BRow
        rw [u8_snoc, List.length_append]
        exact hrow5
      obtain ⟨a3, c3, rfl, h3⟩ := BRow.sl hrow5 hb6
      exact loci_ctn xg_size rfl rfl rfl rfl hle5 (fun M k k' v hle h => h.le hle) (putVar_ct (n := (b.recs.length : Int)) h3 (by simp only [List.length_append, List.length_cons, List.length_nil]; omega) (by unfold I64; omega))
    refine wc_nil ?_
    intro k6 vs hle6 hvs
    obtain ⟨M, hM1, hM2, hrow6⟩ := hvs 51 _ rfl
    dsimp only [List.drop, nameE, nameP]
    generalize vs 51 = v6 at hrow6 ⊢
    clear hvs
    have hle46 := hdel.trans hle6
    have hap6 : Apart k4 v6 := fun g hg => hdel.none (hM2 g (hrow6.block hg).1)
    have hrow6 := hrow6.N_le hM1
    obtain ⟨p0, p1, p2, p3, p4, p5, p6, p7, p8, p9⟩ := Batch.parts (cb.le hle46)
    have hpl := pre_len hf
    repeat (first | refine cg_seq ?_ | refine cg_region ?_ | refine rg_nil ?_ | refine eg_then ?_ | refine qsp ?_ | refine qsn ?_ | refine qsl ?_ | refine qsf ?_)
    refine cg_join (fun e' k' => ∃ v, BRow F.w0.heap.size k' v (bodyL b b.recs.length) ∧ e' = [(3, .is v)]) ?_ ?_
    · refine cg_cond rfl (fun h0 => ?_) (fun h0 => ?_)
      · have hpos : 0 < b.recs.length := by simpa using h0
        have hr6 := (hr.le hle4).le hle46
        obtain ⟨bx, ox, cx, rfl, ⟨rfl, hyok⟩, hcy⟩ := hr6.el 0 b.recs[0] (List.getElem?_eq_getElem hpos)
        obtain ⟨s0, s1, s2, s3, s4⟩ := Rec.parts hcy
        rw [stamp_zero hpos] at s4
        have hsr := inO_iff.1 (stamp_in hf)
        obtain ⟨a5, c5, rfl, h5⟩ := BRow.sl hrow6 (pre_bytes hf)
        repeat (first | refine cg_seq ?_ | refine cg_region ?_ | refine rg_nil ?_ | refine eg_then ?_ | refine qsp ?_ | refine qsi ?_ | refine qsl ?_ | refine qsf ?_)
        refine rvn rfl rfl rfl rfl rfl rfl rfl (putVar_ct (n := stamp0 b) h5 (by omega) (by unfold I64; omega)) ?_
        rintro N7 k7 v7 hN7 hf7 hle7 hrow7
        have hle47 := hle46.trans hle7
        have hap7 : Apart k4 v7 := fun g hg => hle46.none (hf7 g (hrow7.block hg).1)
        have hrow7 := hrow7.N_le hN7
        obtain ⟨p0, p1, p2, p3, p4, p5, p6, p7, p8, p9⟩ := Batch.parts (cb.le hle47)
        repeat (first | refine cg_seq ?_ | refine cg_region ?_ | refine rg_nil ?_ | refine eg_then ?_ | refine qsp ?_ | refine qsn ?_ | refine qsl ?_ | refine qsf ?_ | refine cg_block ?_)
        refine cg_loop (fun (i : Nat) e k' => ∃ v, Le k4 k' ∧ BRow F.w0.heap.size k' v (loopL b i) ∧ Apart k4 v ∧ i ≤ b.recs.length ∧ e = [(1, .is (.pointer (some ⟨bb, 0, none⟩))), (3, .is v), (7, .is (.int .i64 (stamp0 b))), (65, .is (.slice (some ⟨bx, ox, none⟩) b.recs.length c0)), (66, .is (.int .i64 (b.recs.length : Int))), (67, .is (.int .i64 (i : Int)))])
          (fun i => b.recs.length - i) 0 (e0 := [(1, .is (.pointer (some ⟨bb, 0, none⟩))), (3, .is v7), (7, .is (.int .i64 (stamp0 b))), (65, .is (.slice (some ⟨bx, ox, none⟩) b.recs.length c0)), (66, .is (.int .i64 (b.recs.length : Int))), (67, .is (.int .i64 ((0 : Nat) : Int)))]) ⟨v7, hle47, by rw [loop_zero]; exact hrow7, hap7, Nat.zero_le _, rfl⟩ ⟨rfl, rfl, rfl, rfl, rfl, rfl, trivial⟩ ?_
        clear p0 p1 p2 p3 p4 p5 p6 p7 p8 p9 hap7 hrow7 hle47 s0 s1 s2 s3 s4 hcy h5 hrow6
        rintro i e k8 ⟨v8, hle8, hrow8, hap8, hi, rfl⟩
        repeat (first | refine cg_seq ?_ | refine cg_region ?_ | refine rg_nil ?_ | refine eg_then ?_ | refine qsp ?_)
        refine cg_cond rfl (fun h => ?_) (fun h => ?_)
        · have hlt : i < b.recs.length := by simpa using h
          have hrok := hfew.1 _ (List.getElem_mem hlt)
          obtain ⟨_, _, _, ey, ⟨rfl, hxok⟩, hcx⟩ := (hr.le hle4).el i b.recs[i] (List.getElem?_eq_getElem hlt)
          cases ey
          have hcx := hcx.le hle8
          repeat (first | refine cg_seq ?_ | refine cg_region ?_ | refine eg_then ?_ | refine qsi ?_ | refine qsg ?_ | refine cg_skip ?_ | refine cg_block ?_)
          refine rb rfl rfl rfl rfl (a_alloc rfl) ?_; intro b9 k9 hb9 hN9 hle9 hk9
          skip
          refine rw1 rfl rfl rfl rfl rfl rfl rfl hk9 rfl (.inl hN9) ?_ ?_; (simp [Did.vs, ProdT.cs, Rec.vs, Batch.cs, Tp.vs, Member.cs, Group.cs, Value.oneCell']); intro k10 ht10 hk10
          have hle10 : Le k8 k10 := ht10 k8 hle9 hb9
          have hpp := cb.le (hle8.trans hle10)
          obtain ⟨p0, p1, p2, p3, p4, p5, p6, p7, p8, p9⟩ := Batch.parts hpp
          have c10 := cells_at (vs := b.recs[i].vs) hk10 rfl
          repeat (first | refine cg_seq ?_ | refine cg_region ?_ | refine rg_nil ?_ | refine eg_then ?_ | refine qsp ?_ | refine qsl ?_ | refine qsg ?_ | refine qsf ?_)
          refine rvn rfl rfl rfl rfl rfl rfl rfl (recPut_ct hxok hrok (inO_iff.2 hbase) (stamp_in hf)) ?_
          rintro N11 k11 _ hN11 hf11 hle11 ⟨v11, rfl, hrow11⟩
          obtain ⟨ax, cx', rfl, hsx⟩ := BRow.sl hrow11 (rec_bytes _ _ _)
          have hrl := rec_len hrok (inO_iff.2 hbase) (stamp_in hf)
          have hml := loop_len hf i
          repeat (first | refine cg_region ?_ | refine rg_nil ?_ | refine eg_then ?_ | refine qsp ?_)
          refine rapsB rfl rfl rfl rfl rfl rfl rfl (hrow8.le (hle10.trans hle11)) hsx (Le.refl _) (by omega) ?_
          intro v12 k12 hrow12 ht12
          obtain ⟨hle12, hap12⟩ := ht12 k4 (hle8.trans (hle10.trans hle11)) hap8
          rw [loop_succ hlt] at hrow12
          repeat (first | refine cg_region ?_ | refine rg_nil ?_ | refine eg_then ?_ | refine qsp ?_ | refine qsa ?_ | refine eg_in_normal ?_)
          exact eg_again (i + 1) _ ⟨v12, hle12, hrow12, hap12, hlt, rfl⟩ (by omega) ⟨rfl, rfl, rfl, rfl, rfl, rfl, trivial⟩
        · have hil : i = b.recs.length := by simp at h; omega
          subst hil
          rw [loop_body hpos] at hrow8
          repeat (first | refine cg_exit ?_ | refine eg_then_exit ?_ | refine eg_in_exit ?_)
          exact eg_join _ ⟨v8, hrow8, rfl⟩ ⟨rfl, trivial⟩
      · have hzero : b.recs.length = 0 := by simp at h0; rw [h0]; rfl
        repeat (first | refine cg_skip ?_)
        refine eg_join _ ⟨v6, ?_, rfl⟩ ⟨rfl, trivial⟩
        rw [hzero, body_zero]
        exact hrow6
    · rintro e' k7 ⟨v7, hrow7, rfl⟩
      have hbl := body_len hf b.recs.length
      have hbb := body_bytes hf b.recs.length
      have hsl := sealL_len (bodyL b b.recs.length)
      obtain ⟨a8, c8, rfl, h8⟩ := BRow.sl hrow7 hbb
      repeat (first | refine cg_seq ?_ | refine cg_region ?_ | refine eg_then ?_ | refine qsp ?_)
      refine rvn rfl rfl rfl rfl rfl rfl rfl (seal_ct h8 (by omega)) ?_
      rintro N9 k9 v9 hN9 hf9 hle9 hrow9
      obtain ⟨a9, c9, rfl, h9⟩ := BRow.sl hrow9 (seal_bytes hbb)
      repeat (first | refine cg_seq ?_ | refine cg_region ?_ | refine rg_nil ?_ | refine eg_then ?_ | refine qsp ?_ | refine qsn ?_)
      refine rs rfl rfl (loc_det rfl (d_conv rfl rfl)) ?_
      rw [wrap64 (by omega)]
      refine rvn rfl rfl rfl rfl rfl rfl rfl (put4_ct (bs := []) (n := (sealL (bodyL b b.recs.length)).length) (sl_nilB _) (by simp) (by omega)) ?_
      rintro N10 k10 v10 hN10 hf10 hle10 hrow10
      rw [List.nil_append] at hrow10
      repeat (first | refine qsp ?_)
      refine rapsB rfl rfl rfl rfl rfl rfl rfl (hrow10.N_le hN10) (h9.le hle10) (Le.refl _) (by rw [bigL_len]; omega) ?_
      intro v11 k11 hrow11 ht11
      repeat (first | refine rg_nil ?_ | refine eg_then ?_ | refine qsp ?_ | refine cg_ret ?_)
      exact eg_return rfl rfl hrow11
/-- Whether a batch may be. -/
def chkB (b : Batch) : Int := if FormP b then (if (batchL b).length ≤ 2048 then 0 else 2) else 1
theorem batchL_bytes {b : Batch} (h : FormP b) : Bytes (batchL b) := (bigL_bytes _ _ _).append (seal_bytes (body_bytes h _))
set_option maxHeartbeats 1000000 in
theorem batchPut_ct {k : PH} {b : Batch} {a0 : Option Addr} {c0 : Nat} (hr : Sl tRec k a0 c0 b.recs) (hok : b.ok) : CT Try.prog 91 #[.agg (b.cs a0 c0).toArray] k (fun k' v => ∃ a c bs, v = .tuple #[.slice a bs.length c, .int .i64 (chkB b)] ∧ Sl tU8 k' a c bs ∧ bs = if chkB b = 0 then batchL b else []) := by
  refine ct_of_body (l := [_]) Try.func91 rfl Try.ntmps91 (by simp) (fun k k' v hle ⟨a, c, bs, h1, h2, h3⟩ => ⟨a, c, bs, h1, h2.le hle, h3⟩) fun F hF0 hFm => ?_
  repeat (first | refine cg_seq ?_ | refine cg_region ?_)
  refine rb rfl rfl rfl rfl (a_box rfl rfl) ?_; intro bb k4 hbb hNb hle4 hkb
  have cb := cells_at (vs := b.cs a0 c0) hkb rfl
  have hr := hr.le hle4
  repeat (first | refine cg_seq ?_ | refine cg_region ?_ | refine rg_nil ?_ | refine eg_then ?_ | refine qsp ?_ | refine qsg ?_)
  refine rs rfl rfl (loc_call_is rfl rfl rfl rfl (formed_ct hr hok)) ?_
  by_cases hf : FormP b
  rotate_left
  · rw [decide_eq_false hf]
    have hc : chkB b = 1 := by rw [chkB, if_neg hf]
    repeat (first | refine cg_seq ?_ | refine cg_region ?_ | refine rg_nil ?_ | refine eg_then ?_ | refine qsp ?_ | refine cg_cond_true rfl ?_ | refine cg_ret ?_ | refine eg_then_ret ?_)
    refine eg_return2 rfl rfl rfl ⟨none, 0, [], by rw [hc]; rfl, sl_nilB _, by rw [hc]; rfl⟩
  rw [decide_eq_true hf]
  repeat (first | refine cg_seq ?_ | refine cg_region ?_ | refine rg_nil ?_ | refine eg_then ?_ | refine qsp ?_ | refine qsg ?_ | refine cg_cond_false rfl ?_ | refine cg_skip ?_)
  refine rvn rfl rfl rfl rfl rfl rfl rfl (write_ct hr hok hf) ?_
  rintro N5 k5 v5 hN5 hf5 hle5 hrow5
  obtain ⟨a5, c5, rfl, h5⟩ := BRow.sl hrow5 (batchL_bytes hf)
  repeat (first | refine cg_seq ?_ | refine cg_region ?_ | refine rg_nil ?_ | refine eg_then ?_ | refine qsp ?_ | refine qsn ?_)
  refine cg_cond rfl (fun h => ?_) (fun h => ?_)
  · have hc : chkB b = 2 := by rw [chkB, if_pos hf, if_neg (by simp at h; omega)]
    repeat (first | refine cg_seq ?_ | refine cg_region ?_ | refine rg_nil ?_ | refine eg_then ?_ | refine qsp ?_ | refine cg_ret ?_ | refine eg_then_ret ?_)
    refine eg_return2 rfl rfl rfl ⟨none, 0, [], by rw [hc]; rfl, sl_nilB _, by rw [hc]; rfl⟩
  · have hc : chkB b = 0 := by rw [chkB, if_pos hf, if_pos (by simp at h; omega)]
    repeat (first | refine cg_seq ?_ | refine cg_region ?_ | refine rg_nil ?_ | refine eg_then ?_ | refine qsp ?_ | refine cg_skip ?_ | refine cg_ret ?_)
    refine eg_return2 rfl rfl rfl ⟨a5, c5, batchL b, by rw [hc], h5, by rw [hc]; rfl⟩
set_option maxHeartbeats 1000000 in
theorem batchChk_ct {k : PH} {b : Batch} {a0 : Option Addr} {c0 : Nat} (hr : Sl tRec k a0 c0 b.recs) (hok : b.ok) : CT Try.prog 36 #[.agg (b.cs a0 c0).toArray] k (fun _ v => v = .int .i64 (chkB b)) := by
  refine ct_of_body (l := [_]) Try.func36 rfl Try.ntmps36 (by simp) (fun _ _ _ _ h => h) fun F hF0 hFm => ?_
  repeat (first | refine cg_seq ?_ | refine cg_region ?_)
  refine rb rfl rfl rfl rfl (a_box rfl rfl) ?_; intro bb k4 hbb hNb hle4 hkb
  have cb := cells_at (vs := b.cs a0 c0) hkb rfl
  have hr := hr.le hle4
  repeat (first | refine cg_seq ?_ | refine cg_region ?_ | refine rg_nil ?_ | refine eg_then ?_ | refine qsp ?_ | refine qsg ?_)
  refine rv rfl rfl rfl (loc_call rfl rfl rfl rfl (fun k k' v hle ⟨a, c, bs, h1, h2, h3⟩ => ⟨a, c, bs, h1, h2.le hle, h3⟩) (batchPut_ct hr hok)) ?_
  rintro k5 hle5 _ ⟨a5, c5, bs, rfl, _, _⟩
  repeat (first | refine cg_seq ?_ | refine cg_region ?_ | refine rg_nil ?_ | refine eg_then ?_ | refine qsp ?_ | refine cg_ret ?_)
  exact eg_return rfl rfl rfl
end Go.Wm
