/-
  Whether a batch has form, the program's and the document's. Conditions: that what is handed in reads as data. Whether a batch has form, the program's. Conditions: that what is handed in reads as data.
-/
import Derived.Test.YtfejamdfhbamcaaO5
import Derived.Test.YtfejamdfhbamcaaCoB
set_option linter.all false
namespace Go.Wm
open Go.RowKit Go.Proofs
attribute [local irreducible] RG CG EG WA Loc Det Alc CT Exit.then Exit.inBlock Code.wp bodyPost

/-- Records that rise from behind lo to hi. -/
def recsP (hi : Int) : Int → List Rec → Bool
  | _, [] => true
  | lo, r :: rs => (recOk r && (decide (lo < r.off) && decide (r.off ≤ hi))) && recsP hi r.off rs
structure FormP (b : Batch) : Prop where
  base : 0 ≤ b.base ∧ b.base ≤ 1099511627776
  last : 0 ≤ b.last ∧ b.last ≤ 1099511627776
  fromV : 0 ≤ b.fromV ∧ b.fromV ≤ 1099511627776
  span : b.base ≤ b.last ∧ b.last - b.base < 16 ∧ b.fromV + (b.last - b.base) ≤ 1099511627776
  epoch : 0 ≤ b.epoch ∧ b.epoch ≤ 1048576
  gen : 0 ≤ b.gen ∧ b.gen ≤ 1048576
  seq : 0 ≤ b.seq ∧ b.seq ≤ 1048576
  seqs : b.seq + (b.last - b.base) ≤ 1048576
  none : b.pid = -1 → b.gen = 0 ∧ b.seq = 0 ∧ b.txn = false ∧ b.ctl = 0
  some : b.pid ≠ -1 → 0 ≤ b.pid ∧ b.pid ≤ 1099511627776
  ctl : b.ctl ≠ 0 → (b.ctl = 1 ∨ b.ctl = 2) ∧ b.last - b.base = 0 ∧ b.recs.length = 0 ∧ b.txn = true ∧ 0 ≤ b.pid
  recs : b.ctl = 0 → recsP b.last (b.base - 1) b.recs = true
theorem formP_iff (b : Batch) : FormP b ↔ (0 ≤ b.base ∧ b.base ≤ 1099511627776) ∧ (0 ≤ b.last ∧ b.last ≤ 1099511627776) ∧ (0 ≤ b.fromV ∧ b.fromV ≤ 1099511627776) ∧ (b.base ≤ b.last ∧ b.last - b.base < 16 ∧ b.fromV + (b.last - b.base) ≤ 1099511627776) ∧ (0 ≤ b.epoch ∧ b.epoch ≤ 1048576) ∧ (0 ≤ b.gen ∧ b.gen ≤ 1048576) ∧
    (0 ≤ b.seq ∧ b.seq ≤ 1048576) ∧ b.seq + (b.last - b.base) ≤ 1048576 ∧ (b.pid = -1 → b.gen = 0 ∧ b.seq = 0 ∧ b.txn = false ∧ b.ctl = 0) ∧ (b.pid ≠ -1 → 0 ≤ b.pid ∧ b.pid ≤ 1099511627776) ∧ (b.ctl ≠ 0 → (b.ctl = 1 ∨ b.ctl = 2) ∧ b.last - b.base = 0 ∧ b.recs.length = 0 ∧ b.txn = true ∧ 0 ≤ b.pid) ∧ (b.ctl = 0 → recsP b.last (b.base - 1) b.recs = true) :=
  ⟨fun ⟨h1, h2, h3, h4, h5, h6, h7, h8, h9, h10, h11, h12⟩ => ⟨h1, h2, h3, h4, h5, h6, h7, h8, h9, h10, h11, h12⟩, fun ⟨h1, h2, h3, h4, h5, h6, h7, h8, h9, h10, h11, h12⟩ => ⟨h1, h2, h3, h4, h5, h6, h7, h8, h9, h10, h11, h12⟩⟩
instance (b : Batch) : Decidable (FormP b) := decidable_of_iff _ (formP_iff b).symm
def inR (n m : Int) : Bool := decide (0 ≤ n) && decide (n ≤ m)
theorem inR_t {n m : Int} (h : inR n m = true) : 0 ≤ n ∧ n ≤ m := by simpa [inR] using h
theorem recs_ok {k : PH} {a : Option Addr} {c : Nat} {l : List Rec} (hl : Sl tRec k a c l) : ∀ m ∈ l, m.ok := fun m hm => by
  obtain ⟨i, hi, rfl⟩ := List.getElem_of_mem hm
  obtain ⟨_, _, _, _, ⟨_, h⟩, _⟩ := hl.el i l[i] (List.getElem?_eq_getElem hi)
  exact h
def loAt (lo : Int) (l : List Rec) (i : Nat) : Int := if i = 0 then lo else ((l[i - 1]?).map (·.off)).getD lo
theorem loAt_succ {lo : Int} {l : List Rec} {i : Nat} (h : i < l.length) : loAt lo l (i + 1) = l[i].off := by
  simp [loAt, h]
theorem recsP_drop {hi : Int} {l : List Rec} {i : Nat} (h : i < l.length) (x : Int) : recsP hi x (l.drop i) = ((recOk l[i] && (decide (x < l[i].off) && decide (l[i].off ≤ hi))) && recsP hi l[i].off (l.drop (i + 1))) := by
  rw [List.drop_eq_getElem_cons h]
  rfl
end Go.Wm
namespace Go.Wm
open Go.RowKit Go.Proofs
attribute [local irreducible] RG CG EG WA Loc Det Alc CT Exit.then Exit.inBlock Code.wp bodyPost

set_option maxHeartbeats 400000 in
theorem slMin_ct {k : PH} {a : Option Addr} {c : Nat} {l : List Int} (hl : Sl tInt k a c l) (hn : l ≠ []) : CT Try.prog 165 #[.slice a l.length c] k (fun _ v => ∃ m, v = .int .i64 m ∧ m ∈ l ∧ ∀ x ∈ l, m ≤ x) := by
  refine ct_of_body (l := [_]) Try.func165 rfl Try.ntmps165 (by simp) (fun _ _ _ _ h => h) fun F hF0 hFm => ?_
  have b1 := hl.cap; have b2 := hl.max; unfold maxLen at b2
  have hpos : 0 < l.length := List.length_pos_iff.2 hn
  obtain ⟨bx, ox, cx, rfl, ⟨rfl, hxok⟩, hcx⟩ := hl.el 0 l[0] (List.getElem?_eq_getElem hpos)
  repeat (first | refine cg_seq ?_ | refine cg_region ?_ | refine rg_nil ?_ | refine eg_then ?_ | refine qsp ?_ | refine qsn ?_)
  rw [show decide ((l.length : Int) < 1) = false by simp; omega]
  repeat (first | refine cg_seq ?_ | refine cg_region ?_ | refine rg_nil ?_ | refine eg_then ?_ | refine qsp ?_ | refine qsi ?_ | refine qsl ?_ | refine cg_cond_false rfl ?_ | refine cg_skip ?_ | refine cg_block ?_)
  refine cg_loop (fun (i : Nat) e k' => ∃ m, k' = k ∧ 1 ≤ i ∧ i ≤ l.length ∧ m ∈ l ∧ (∀ j, (h : j < l.length) → j < i → m ≤ l[j]) ∧ e = [(0, .is (.slice (some ⟨bx, ox, none⟩) l.length c)), (3, .is (.int .i64 m)), (4, .is (.int .i64 (i : Int)))])
    (fun i => l.length - i) 1 ⟨l[0], rfl, by omega, hpos, List.getElem_mem hpos, (fun j hj hj1 => (by have h0 : j = 0 := (by omega); subst h0; exact Int.le_refl _)), rfl⟩ ⟨rfl, rfl, rfl, trivial⟩ ?_
  rintro i e k1 ⟨m, rfl, hi1, hi, hm, hall, rfl⟩
  repeat (first | refine cg_seq ?_ | refine cg_region ?_ | refine rg_nil ?_ | refine eg_then ?_ | refine qsp ?_ | refine qsn ?_)
  refine cg_cond rfl (fun h => ?_) (fun h => ?_)
  · have hlt : i < l.length := by simpa using h
    obtain ⟨_, _, _, ey, ⟨rfl, hyok⟩, hcy⟩ := hl.el i l[i] (List.getElem?_eq_getElem hlt)
    cases ey
    repeat (first | refine cg_seq ?_ | refine cg_region ?_ | refine eg_then ?_ | refine qsp ?_ | refine qsi ?_ | refine qsl ?_ | refine cg_skip ?_ | refine cg_block ?_)
    refine rs rfl rfl (loc_det rfl (d_min rfl rfl rfl)) ?_
    repeat (first | refine cg_region ?_ | refine rg_nil ?_ | refine eg_then ?_ | refine qsp ?_ | refine qsa ?_ | refine eg_in_normal ?_)
    refine eg_again (i + 1) _ ⟨_, rfl, by omega, hlt, ?_, fun j hj hji => ?_, rfl⟩ (by omega) ⟨rfl, rfl, rfl, trivial⟩
    · split
      · exact List.getElem_mem hlt
      · exact hm
    · by_cases e : j = i
      · subst e
        split <;> omega
      · have := hall j hj (by omega)
        split <;> omega
  · have hil : i = l.length := by simp at h; omega
    repeat (first | refine cg_seq ?_ | refine cg_region ?_ | refine rg_nil ?_ | refine eg_then ?_ | refine qsp ?_ | refine cg_ret ?_ | refine cg_exit ?_ | refine eg_then_exit ?_ | refine eg_in_exit ?_)
    refine eg_return rfl rfl ⟨m, rfl, hm, fun x hx => ?_⟩
    obtain ⟨j, hj, rfl⟩ := List.getElem_of_mem hx
    exact hall j hj (by omega)
set_option maxHeartbeats 400000 in
theorem slMax_ct {k : PH} {a : Option Addr} {c : Nat} {l : List Int} (hl : Sl tInt k a c l) (hn : l ≠ []) : CT Try.prog 166 #[.slice a l.length c] k (fun _ v => ∃ m, v = .int .i64 m ∧ m ∈ l ∧ ∀ x ∈ l, x ≤ m) := by
  refine ct_of_body (l := [_]) Try.func166 rfl Try.ntmps166 (by simp) (fun _ _ _ _ h => h) fun F hF0 hFm => ?_
  have b1 := hl.cap; have b2 := hl.max; unfold maxLen at b2
  have hpos : 0 < l.length := List.length_pos_iff.2 hn
  obtain ⟨bx, ox, cx, rfl, ⟨rfl, hxok⟩, hcx⟩ := hl.el 0 l[0] (List.getElem?_eq_getElem hpos)
  repeat (first | refine cg_seq ?_ | refine cg_region ?_ | refine rg_nil ?_ | refine eg_then ?_ | refine qsp ?_ | refine qsn ?_)
  rw [show decide ((l.length : Int) < 1) = false by simp; omega]
  repeat (first | refine cg_seq ?_ | refine cg_region ?_ | refine rg_nil ?_ | refine eg_then ?_ | refine qsp ?_ | refine qsi ?_ | refine qsl ?_ | refine cg_cond_false rfl ?_ | refine cg_skip ?_ | refine cg_block ?_)
  refine cg_loop (fun (i : Nat) e k' => ∃ m, k' = k ∧ 1 ≤ i ∧ i ≤ l.length ∧ m ∈ l ∧ (∀ j, (h : j < l.length) → j < i → l[j] ≤ m) ∧ e = [(0, .is (.slice (some ⟨bx, ox, none⟩) l.length c)), (3, .is (.int .i64 m)), (4, .is (.int .i64 (i : Int)))])
    (fun i => l.length - i) 1 ⟨l[0], rfl, by omega, hpos, List.getElem_mem hpos, (fun j hj hj1 => (by have h0 : j = 0 := (by omega); subst h0; exact Int.le_refl _)), rfl⟩ ⟨rfl, rfl, rfl, trivial⟩ ?_
  rintro i e k1 ⟨m, rfl, hi1, hi, hm, hall, rfl⟩
  repeat (first | refine cg_seq ?_ | refine cg_region ?_ | refine rg_nil ?_ | refine eg_then ?_ | refine qsp ?_ | refine qsn ?_)
  refine cg_cond rfl (fun h => ?_) (fun h => ?_)
  · have hlt : i < l.length := by simpa using h
    obtain ⟨_, _, _, ey, ⟨rfl, hyok⟩, hcy⟩ := hl.el i l[i] (List.getElem?_eq_getElem hlt)
    cases ey
    repeat (first | refine cg_seq ?_ | refine cg_region ?_ | refine eg_then ?_ | refine qsp ?_ | refine qsi ?_ | refine qsl ?_ | refine cg_skip ?_ | refine cg_block ?_)
    refine rs rfl rfl (loc_det rfl (d_max rfl rfl rfl)) ?_
    repeat (first | refine cg_region ?_ | refine rg_nil ?_ | refine eg_then ?_ | refine qsp ?_ | refine qsa ?_ | refine eg_in_normal ?_)
    refine eg_again (i + 1) _ ⟨_, rfl, by omega, hlt, ?_, fun j hj hji => ?_, rfl⟩ (by omega) ⟨rfl, rfl, rfl, trivial⟩
    · split
      · exact List.getElem_mem hlt
      · exact hm
    · by_cases e : j = i
      · subst e
        split <;> omega
      · have := hall j hj (by omega)
        split <;> omega
  · have hil : i = l.length := by simp at h; omega
    repeat (first | refine cg_seq ?_ | refine cg_region ?_ | refine rg_nil ?_ | refine eg_then ?_ | refine qsp ?_ | refine cg_ret ?_ | refine cg_exit ?_ | refine eg_then_exit ?_ | refine eg_in_exit ?_)
    refine eg_return rfl rfl ⟨m, rfl, hm, fun x hx => ?_⟩
    obtain ⟨j, hj, rfl⟩ := List.getElem_of_mem hx
    exact hall j hj (by omega)
def allR (m : Int) (l : List Int) : Bool := l.all fun n => inR n m
set_option maxHeartbeats 400000 in
theorem within_ct {k : PH} {a : Option Addr} {c : Nat} {l : List Int} (m : Int) (hl : Sl tInt k a c l) (hn : l ≠ []) : CT Try.prog 92 #[.int .i64 m, .slice a l.length c] k (fun _ v => v = .bool (allR m l)) := by
  refine ct_of_body (l := [_, _]) Try.func92 rfl Try.ntmps92 (by simp) (fun _ _ _ _ h => h) fun F hF0 hFm => ?_
  repeat (first | refine cg_seq ?_ | refine cg_region ?_ | refine rg_nil ?_ | refine eg_then ?_ | refine qsp ?_)
  refine rv rfl rfl rfl (loc_call rfl rfl rfl rfl (fun _ _ _ _ h => h) (slMin_ct hl hn)) ?_
  rintro k1 hle1 _ ⟨x, rfl, hx, hxa⟩
  have hl := hl.le hle1
  repeat (first | refine qsp ?_)
  cases q1 : decide (x ≥ 0)
  · repeat (first | refine rg_nil ?_ | refine eg_then ?_ | refine qsp ?_ | refine qso ?_ | refine cg_ret ?_)
    refine eg_return rfl rfl ?_
    rw [Value.bool.injEq, eq_comm]
    unfold allR
    rw [List.all_eq_false]
    exact ⟨x, hx, by simp [inR]; simp at q1; omega⟩
  have q1 : x ≥ 0 := of_decide_eq_true q1
  repeat (first | refine qsp ?_)
  refine rv rfl rfl rfl (loc_call rfl rfl rfl rfl (fun _ _ _ _ h => h) (slMax_ct hl hn)) ?_
  rintro k2 hle2 _ ⟨y, rfl, hy, hya⟩
  repeat (first | refine rg_nil ?_ | refine eg_then ?_ | refine qsp ?_ | refine cg_ret ?_)
  refine eg_return rfl rfl ?_
  rw [Value.bool.injEq, Bool.eq_iff_iff, decide_eq_true_eq]
  unfold allR
  rw [List.all_eq_true]
  constructor
  · intro h z hz
    have h1 := hxa z hz
    have h2 := hya z hz
    simp [inR]
    omega
  · intro h
    have := inR_t (h y hy)
    omega
theorem three_t {a b c m : Int} (h : allR m [a, b, c] = true) : (0 ≤ a ∧ a ≤ m) ∧ (0 ≤ b ∧ b ≤ m) ∧ (0 ≤ c ∧ c ≤ m) := by
  simp only [allR, List.all_cons, List.all_nil, Bool.and_true, Bool.and_eq_true] at h
  exact ⟨inR_t h.1, inR_t h.2.1, inR_t h.2.2⟩
theorem three_f {a b c m : Int} (h : allR m [a, b, c] = false) : ¬ ((0 ≤ a ∧ a ≤ m) ∧ (0 ≤ b ∧ b ≤ m) ∧ (0 ≤ c ∧ c ≤ m)) := fun ⟨h1, h2, h3⟩ => by
  simp [allR, inR, h1, h2, h3] at h
theorem sl3 {k : PH} {b : Nat} {et : TypeId} {fr : Nat × Nat} {x y z : Int} (h : k b = some (.cells #[.int .i64 x, .int .i64 y, .int .i64 z] et fr)) (hx : I64 x) (hy : I64 y) (hz : I64 z) : Sl tInt k (some ⟨b, 0, none⟩) 3 [x, y, z] :=
  sl_rows (xs := [x, y, z]) (css := [[.int .i64 x], [.int .i64 y], [.int .i64 z]]) h rfl rfl (fun i cs v h1 h2 => by
    match i, h1, h2 with
    | 0, h1, h2 => simp at h1 h2; rw [← h1, ← h2]; exact ⟨rfl, hx⟩
    | 1, h1, h2 => simp at h1 h2; rw [← h1, ← h2]; exact ⟨rfl, hy⟩
    | 2, h1, h2 => simp at h1 h2; rw [← h1, ← h2]; exact ⟨rfl, hz⟩) (by simp [maxLen])
set_option maxHeartbeats 4000000 in
theorem formed_ct {k : PH} {b : Batch} {a0 : Option Addr} {c0 : Nat} (hr : Sl tRec k a0 c0 b.recs) (hok : b.ok) : CT Try.prog 163 #[.agg (b.cs a0 c0).toArray] k (fun _ v => v = .bool (decide (FormP b))) := by
  refine ct_of_body (l := [_]) Try.func163 rfl Try.ntmps163 (by simp) (fun _ _ _ _ h => h) fun F hF0 hFm => ?_
  have no : ¬ FormP b → Value.bool false = .bool (decide (FormP b)) := fun h => by rw [decide_eq_false h]
  have b1 := hr.cap; have b2 := hr.max; unfold maxLen at b2
  obtain ⟨o1, o2, o3, o4, o5, o6, o7, _, o8, _⟩ := hok
  repeat (first | refine cg_seq ?_ | refine cg_region ?_)
  refine rb rfl rfl rfl rfl (a_box rfl rfl) ?_; intro bb kb hbb hNb hleb hkb
  have cb := cells_at (vs := b.cs a0 c0) hkb rfl
  obtain ⟨p0, p1, p2, p3, p4, p5, p6, p7, p8, p9⟩ := Batch.parts cb
  have hr := hr.le hleb
  repeat (first | refine cg_seq ?_ | refine cg_region ?_ | refine rg_nil ?_ | refine eg_then ?_ | refine qsp ?_ | refine qsl ?_ | refine qsf ?_)
  refine rb rfl rfl rfl rfl (a_slice rfl rfl rfl rfl (by kernel_rfl) rfl) ?_; intro b4 k4 hb4 hN4 hle4 hk4
  refine rs rfl rfl (loc_call_is rfl rfl rfl rfl (within_ct 1099511627776 (sl3 hk4 o1 o2 o3) (by simp))) ?_
  obtain ⟨p0, p1, p2, p3, p4, p5, p6, p7, p8, p9⟩ := Batch.parts (cb.le hle4)
  repeat (first | refine qsp ?_)
  cases q1 : allR 1099511627776 [b.base, b.last, b.fromV]
  · repeat (first | refine cg_seq ?_ | refine cg_region ?_ | refine rg_nil ?_ | refine eg_then ?_ | refine qsp ?_ | refine qso ?_ | refine cg_cond_true rfl ?_ | refine cg_ret ?_ | refine eg_then_ret ?_)
    exact eg_return rfl rfl (no fun h => three_f q1 ⟨h.base, h.last, h.fromV⟩)
  obtain ⟨q1, q2, q3⟩ := three_t q1
  repeat (first | refine qsl ?_ | refine qsf ?_)
  refine rbg rfl rfl rfl rfl (a_slice rfl rfl rfl rfl (by kernel_rfl) rfl) ?_; intro b5 k5 hb5 hN5 hle5 hk5
  refine rs rfl rfl (loc_call_is rfl rfl rfl rfl (within_ct 1048576 (sl3 hk5 o4 o6 o7) (by simp))) ?_
  obtain ⟨p0, p1, p2, p3, p4, p5, p6, p7, p8, p9⟩ := Batch.parts (cb.le (hle4.trans hle5))
  have hr := hr.le (hle4.trans hle5)
  unfold I64 at o1 o2 o3 o4 o5 o6 o7 o8
  cases q7 : allR 1048576 [b.epoch, b.gen, b.seq]
  · repeat (first | refine cg_seq ?_ | refine cg_region ?_ | refine rg_nil ?_ | refine eg_then ?_ | refine qsp ?_ | refine cg_cond_true rfl ?_ | refine cg_ret ?_ | refine eg_then_ret ?_)
    exact eg_return rfl rfl (no fun h => three_f q7 ⟨h.epoch, h.gen, h.seq⟩)
  obtain ⟨q7, q8, q9⟩ := three_t q7
  clear hle4 hle5 hleb
  have hleb : Le k5 k5 := Le.refl _
  generalize k5 = kb at *
  repeat (first | refine cg_seq ?_ | refine cg_region ?_ | refine rg_nil ?_ | refine eg_then ?_ | refine qsp ?_ | refine qss ?_ | refine qsl ?_ | refine qsf ?_ | refine cg_cond_false rfl ?_ | refine cg_skip ?_ | refine cg_block ?_)
  cases q4 : decide (b.last - b.base < 0)
  rotate_left
  · repeat (first | refine cg_seq ?_ | refine cg_region ?_ | refine rg_nil ?_ | refine eg_then ?_ | refine qsp ?_ | refine qso ?_ | refine cg_cond_true rfl ?_ | refine cg_ret ?_ | refine eg_then_ret ?_ | refine eg_in_ret ?_)
    exact eg_return rfl rfl (no fun h => by have := h.span.1; simp at q4; omega)
  have q4 : b.base ≤ b.last := by simp at q4; omega
  repeat (first | refine qsp ?_)
  cases q5 : decide (b.last - b.base ≥ 16)
  rotate_left
  · repeat (first | refine cg_seq ?_ | refine cg_region ?_ | refine rg_nil ?_ | refine eg_then ?_ | refine qsp ?_ | refine qso ?_ | refine cg_cond_true rfl ?_ | refine cg_ret ?_ | refine eg_then_ret ?_ | refine eg_in_ret ?_)
    exact eg_return rfl rfl (no fun h => by have := h.span.2.1; simp at q5; omega)
  have q5 : b.last - b.base < 16 := by simp at q5; omega
  repeat (first | refine qsp ?_ | refine qsa ?_ | refine qsl ?_ | refine qsf ?_)
  cases q6 : decide (b.fromV + (b.last - b.base) > 1099511627776)
  rotate_left
  · repeat (first | refine cg_seq ?_ | refine cg_region ?_ | refine rg_nil ?_ | refine eg_then ?_ | refine qsp ?_ | refine qso ?_ | refine cg_cond_true rfl ?_ | refine cg_ret ?_ | refine eg_then_ret ?_ | refine eg_in_ret ?_)
    exact eg_return rfl rfl (no fun h => by have := h.span.2.2; simp at q6; omega)
  have q6 : b.fromV + (b.last - b.base) ≤ 1099511627776 := by simp at q6; omega
  repeat (first | refine rg_nil ?_ | refine eg_then ?_ | refine qsp ?_ | refine qsa ?_ | refine qsl ?_ | refine qsf ?_)
  refine cg_cond rfl (fun q10 => ?_) (fun q10 => ?_)
  · repeat (first | refine cg_seq ?_ | refine cg_region ?_ | refine rg_nil ?_ | refine eg_then ?_ | refine qsp ?_ | refine cg_ret ?_ | refine eg_then_ret ?_ | refine eg_in_ret ?_)
    exact eg_return rfl rfl (no fun h => by have := h.seqs; simp at q10; omega)
  have q10 : b.seq + (b.last - b.base) ≤ 1048576 := by simp at q10; omega
  repeat (first | refine cg_seq ?_ | refine cg_region ?_ | refine qsp ?_ | refine qsl ?_ | refine qsf ?_)
  cases q11 : decide (b.pid < -1)
  rotate_left
  · repeat (first | refine cg_seq ?_ | refine cg_region ?_ | refine rg_nil ?_ | refine eg_then ?_ | refine qsp ?_ | refine qso ?_ | refine cg_cond_true rfl ?_ | refine cg_ret ?_ | refine eg_then_ret ?_ | refine eg_in_ret ?_)
    exact eg_return rfl rfl (no fun h => by simp at q11; have := h.some (by omega); omega)
  have q11 : -1 ≤ b.pid := by simp at q11; omega
  repeat (first | refine rg_nil ?_ | refine eg_then ?_ | refine qsp ?_ | refine qsl ?_ | refine qsf ?_)
  refine cg_cond rfl (fun q12 => ?_) (fun q12 => ?_)
  · repeat (first | refine cg_seq ?_ | refine cg_region ?_ | refine rg_nil ?_ | refine eg_then ?_ | refine qsp ?_ | refine cg_ret ?_ | refine eg_then_ret ?_ | refine eg_in_ret ?_)
    exact eg_return rfl rfl (no fun h => by simp at q12; have := h.some (by omega); omega)
  have q12 : b.pid ≤ 1099511627776 := by simp at q12; omega
  have hsome : b.pid ≠ -1 → 0 ≤ b.pid ∧ b.pid ≤ 1099511627776 := fun h => by omega
  repeat (first | refine cg_seq ?_ | refine cg_region ?_ | refine qsp ?_ | refine qsl ?_ | refine qsf ?_)
  cases q13 : (b.pid == -1)
  · have q13' : b.pid ≠ -1 := by simpa using q13
    have hnone : b.pid = -1 → b.gen = 0 ∧ b.seq = 0 ∧ b.txn = false ∧ b.ctl = 0 := fun h => absurd h q13'
    repeat (first | refine cg_seq ?_ | refine cg_region ?_ | refine rg_nil ?_ | refine eg_then ?_ | refine qsp ?_ | refine qsl ?_ | refine qsf ?_ | refine qso ?_ | refine cg_cond_false rfl ?_ | refine cg_skip ?_ | refine cg_block ?_ | refine eg_in_normal ?_)
    cases q20 : (b.ctl == 0)
    · have q20' : b.ctl ≠ 0 := by simpa using q20
      have hnr : b.ctl = 0 → recsP b.last (b.base - 1) b.recs = true := fun h => absurd h q20'
      repeat (first | refine cg_seq ?_ | refine cg_region ?_ | refine rg_nil ?_ | refine eg_then ?_ | refine qsp ?_ | refine cg_cond_false rfl ?_)
      cases q21 : (b.ctl == 1)
      · have q21' : b.ctl ≠ 1 := by simpa using q21
        repeat (first | refine cg_region ?_ | refine rg_nil ?_ | refine eg_then ?_ | refine qsp ?_ | refine cg_cond_false rfl ?_)
        cases q22 : (b.ctl == 2)
        · have q22' : b.ctl ≠ 2 := by simpa using q22
          repeat (first | refine cg_seq ?_ | refine cg_region ?_ | refine rg_nil ?_ | refine eg_then ?_ | refine qsp ?_ | refine cg_cond_false rfl ?_ | refine cg_skip ?_ | refine eg_in_normal ?_ | refine cg_ret ?_)
          exact eg_return rfl rfl (no fun h => by have := (h.ctl q20').1; omega)
        have q22' : b.ctl = 2 := by simpa using q22
        have q23 : b.ctl = 1 ∨ b.ctl = 2 := .inr q22'
        repeat (first | refine cg_seq ?_ | refine cg_region ?_ | refine qsp ?_ | refine cg_cond_true rfl ?_)
        cases q24 : (b.last - b.base == 0)
        · have q24' : ¬ b.last - b.base = 0 := by simpa using q24
          repeat (first | refine rg_nil ?_ | refine eg_then ?_ | refine qsp ?_ | refine qso ?_ | refine cg_ret ?_ | refine eg_then_ret ?_ | refine eg_in_ret ?_)
          exact eg_return rfl rfl (no fun h => q24' (h.ctl q20').2.1)
        have q24' : b.last - b.base = 0 := by simpa using q24
        repeat (first | refine qsp ?_ | refine qsn ?_ | refine qsl ?_ | refine qsf ?_)
        cases q25 : ((b.recs.length : Int) == 0)
        · have q25' : ¬ b.recs.length = 0 := by intro e; rw [e] at q25; cases q25
          repeat (first | refine rg_nil ?_ | refine eg_then ?_ | refine qsp ?_ | refine qso ?_ | refine cg_ret ?_ | refine eg_then_ret ?_ | refine eg_in_ret ?_)
          exact eg_return rfl rfl (no fun h => q25' (h.ctl q20').2.2.1)
        have q25' : b.recs.length = 0 := by simp at q25; simp [q25]
        repeat (first | refine rg_nil ?_ | refine eg_then ?_ | refine qsp ?_ | refine qsl ?_ | refine qsf ?_ | refine cg_ret ?_ | refine eg_then_ret ?_ | refine eg_in_ret ?_)
        refine eg_return rfl rfl ?_
        rw [Value.bool.injEq, Bool.eq_iff_iff, decide_eq_true_eq]
        exact ⟨fun h => ⟨q1, q2, q3, ⟨q4, q5, q6⟩, q7, q8, q9, q10, hnone, hsome, fun _ => ⟨q23, q24', q25', h, by
          by_cases hp : b.pid = -1
          · exact absurd (hnone hp).2.2.2 q20'
          · exact (hsome hp).1⟩, hnr⟩, fun h => (h.ctl q20').2.2.2.1⟩
      have q21' : b.ctl = 1 := by simpa using q21
      have q23 : b.ctl = 1 ∨ b.ctl = 2 := .inl q21'
      repeat (first | refine cg_seq ?_ | refine cg_region ?_ | refine eg_then ?_ | refine qsp ?_ | refine cg_cond_true rfl ?_ | refine cg_skip ?_)
      cases q24 : (b.last - b.base == 0)
      · have q24' : ¬ b.last - b.base = 0 := by simpa using q24
        repeat (first | refine rg_nil ?_ | refine eg_then ?_ | refine qsp ?_ | refine qso ?_ | refine cg_ret ?_ | refine eg_then_ret ?_ | refine eg_in_ret ?_)
        exact eg_return rfl rfl (no fun h => q24' (h.ctl q20').2.1)
      have q24' : b.last - b.base = 0 := by simpa using q24
      repeat (first | refine qsp ?_ | refine qsn ?_ | refine qsl ?_ | refine qsf ?_)
      cases q25 : ((b.recs.length : Int) == 0)
      · have q25' : ¬ b.recs.length = 0 := by intro e; rw [e] at q25; cases q25
        repeat (first | refine rg_nil ?_ | refine eg_then ?_ | refine qsp ?_ | refine qso ?_ | refine cg_ret ?_ | refine eg_then_ret ?_ | refine eg_in_ret ?_)
        exact eg_return rfl rfl (no fun h => q25' (h.ctl q20').2.2.1)
      have q25' : b.recs.length = 0 := by simp at q25; simp [q25]
      repeat (first | refine rg_nil ?_ | refine eg_then ?_ | refine qsp ?_ | refine qsl ?_ | refine qsf ?_ | refine cg_ret ?_ | refine eg_then_ret ?_ | refine eg_in_ret ?_)
      refine eg_return rfl rfl ?_
      rw [Value.bool.injEq, Bool.eq_iff_iff, decide_eq_true_eq]
      exact ⟨fun h => ⟨q1, q2, q3, ⟨q4, q5, q6⟩, q7, q8, q9, q10, hnone, hsome, fun _ => ⟨q23, q24', q25', h, by
        by_cases hp : b.pid = -1
        · exact absurd (hnone hp).2.2.2 q20'
        · exact (hsome hp).1⟩, hnr⟩, fun h => (h.ctl q20').2.2.2.1⟩
    have q20' : b.ctl = 0 := by simpa using q20
    repeat (first | refine cg_seq ?_ | refine cg_region ?_ | refine rg_nil ?_ | refine eg_then ?_ | refine qsp ?_ | refine qsn ?_ | refine qsl ?_ | refine qsf ?_ | refine cg_cond_true rfl ?_ | refine cg_block ?_)
    refine cg_loop (fun (i : Nat) e k' => Le kb k' ∧ i ≤ b.recs.length ∧ recsP b.last (b.base - 1) b.recs = recsP b.last (loAt (b.base - 1) b.recs i) (b.recs.drop i) ∧ (-1 ≤ loAt (b.base - 1) b.recs i ∧ loAt (b.base - 1) b.recs i ≤ 1099511627776) ∧ e = [(1, .is (.pointer (some ⟨bb, 0, none⟩))), (4, .is (.int .i64 (loAt (b.base - 1) b.recs i + 1))), (90, .is (.slice a0 b.recs.length c0)), (91, .is (.int .i64 (b.recs.length : Int))), (92, .is (.int .i64 (i : Int)))])
      (fun i => b.recs.length - i) 0 ⟨by assumption, Nat.zero_le _, rfl, ⟨by simp [loAt]; omega, by simp [loAt]; omega⟩, rfl⟩ ⟨rfl, by rw [show loAt (b.base - 1) b.recs 0 + 1 = b.base by simp [loAt]]; rfl, rfl, rfl, rfl, trivial⟩ ?_
    rintro i e k1 ⟨hle, hi, hrec, hlo, rfl⟩
    repeat (first | refine cg_seq ?_ | refine cg_region ?_ | refine rg_nil ?_ | refine eg_then ?_ | refine qsp ?_)
    refine cg_cond rfl (fun h => ?_) (fun h => ?_)
    · have hlt : i < b.recs.length := by simpa using h
      have hd := recsP_drop (hi := b.last) hlt (loAt (b.base - 1) b.recs i)
      have bad : (recOk b.recs[i] && (decide (loAt (b.base - 1) b.recs i < b.recs[i].off) && decide (b.recs[i].off ≤ b.last))) = false → ¬ FormP b := fun hb h => by
        have := h.recs q20'
        rw [hrec, hd, hb] at this
        cases this
      obtain ⟨bx, ox, cx, rfl, ⟨rfl, hxok⟩, hcx⟩ := (hr.le hle).el i b.recs[i] (List.getElem?_eq_getElem hlt)
      repeat (first | refine cg_seq ?_ | refine cg_region ?_ | refine eg_then ?_ | refine qsi ?_ | refine qsg ?_ | refine cg_skip ?_ | refine cg_block ?_)
      refine rb rfl rfl rfl rfl (a_alloc rfl) ?_; intro b7 k7 hb7 hN7 hle7 hk7
      skip
      refine rw1 rfl rfl rfl rfl rfl rfl rfl hk7 rfl (.inl hN7) ?_ ?_; (simp [Did.vs, ProdT.cs, Rec.vs, Batch.cs, Tp.vs, Member.cs, Group.cs, Value.oneCell']); intro k8 ht8 hk8
      have c8 := cells_at (vs := b.recs[i].vs) hk8 rfl
      have hle8 : Le k1 k8 := ht8 k1 hle7 hb7
      obtain ⟨r0, r1, r2, r3, r4⟩ := Rec.parts c8
      have p1 := p1.le (hle.trans hle8)
      have c8' := cells_at (vs := b.recs[i].vs) hk8 rfl
      repeat (first | refine cg_seq ?_ | refine cg_region ?_ | refine rg_nil ?_ | refine eg_then ?_ | refine qsg ?_)
      refine rs rfl rfl (loc_call_is rfl rfl rfl rfl (recCheck_ct hxok)) ?_
      obtain ⟨r0, r1, r2, r3, r4⟩ := Rec.parts c8
      have p1 := p1
      cases t1 : recOk b.recs[i]
      · repeat (first | refine cg_seq ?_ | refine cg_region ?_ | refine rg_nil ?_ | refine eg_then ?_ | refine qsp ?_ | refine qso ?_ | refine cg_cond_true rfl ?_ | refine cg_ret ?_ | refine eg_then_ret ?_ | refine eg_in_ret ?_)
        exact eg_return rfl rfl (no (bad (by rw [t1]; rfl)))
      have t1i := inO_iff.1 (recOk_parts t1).1
      repeat (first | refine qsp ?_ | refine qsl ?_ | refine qsf ?_)
      cases t2 : decide (b.recs[i].off < loAt (b.base - 1) b.recs i + 1)
      rotate_left
      · repeat (first | refine cg_seq ?_ | refine cg_region ?_ | refine rg_nil ?_ | refine eg_then ?_ | refine qsp ?_ | refine qso ?_ | refine cg_cond_true rfl ?_ | refine cg_ret ?_ | refine eg_then_ret ?_ | refine eg_in_ret ?_)
        refine eg_return rfl rfl (no (bad ?_))
        have : ¬ loAt (b.base - 1) b.recs i < b.recs[i].off := by simp at t2; omega
        simp [this]
      repeat (first | refine rg_nil ?_ | refine eg_then ?_ | refine qsp ?_ | refine qsl ?_ | refine qsf ?_)
      cases t3 : decide (b.recs[i].off > b.last)
      rotate_left
      · repeat (first | refine cg_seq ?_ | refine cg_region ?_ | refine rg_nil ?_ | refine eg_then ?_ | refine qsp ?_ | refine cg_cond_true rfl ?_ | refine cg_ret ?_ | refine eg_then_ret ?_ | refine eg_in_ret ?_)
        refine eg_return rfl rfl (no (bad ?_))
        have : ¬ b.recs[i].off ≤ b.last := by simp at t3; omega
        simp [this]
      repeat (first | refine cg_region ?_ | refine rg_nil ?_ | refine eg_then ?_ | refine qsp ?_ | refine qsa ?_ | refine qsl ?_ | refine qsf ?_ | refine cg_cond_false rfl ?_ | refine cg_skip ?_ | refine eg_in_normal ?_)
      have t2' : loAt (b.base - 1) b.recs i < b.recs[i].off := by simp at t2; omega
      have t3' : b.recs[i].off ≤ b.last := by simp at t3; omega
      refine eg_again (i + 1) _ ⟨hle.trans hle8, hlt, ?_, by rw [loAt_succ hlt]; omega, rfl⟩ (by omega) ⟨rfl, by rw [loAt_succ hlt]; rfl, rfl, rfl, rfl, trivial⟩
      rw [hrec, hd, t1, decide_eq_true t2', decide_eq_true t3', loAt_succ hlt]
      rfl
    · have hil : i = b.recs.length := by simp at h; omega
      repeat (first | refine cg_seq ?_ | refine cg_region ?_ | refine rg_nil ?_ | refine eg_then ?_ | refine qsp ?_ | refine cg_ret ?_ | refine eg_then_ret ?_ | refine eg_in_ret ?_ | refine cg_exit ?_ | refine eg_then_exit ?_ | refine eg_in_exit ?_)
      refine eg_return rfl rfl ?_
      rw [decide_eq_true]
      refine ⟨q1, q2, q3, ⟨q4, q5, q6⟩, q7, q8, q9, q10, hnone, hsome, fun h => absurd q20' h, fun _ => ?_⟩
      rw [hrec, hil, List.drop_length]
      rfl
  have q13' : b.pid = -1 := by simpa using q13
  repeat (first | refine qsp ?_ | refine qsa ?_ | refine qsl ?_ | refine qsf ?_)
  cases q14 : (b.gen + b.seq != 0)
  rotate_left
  · repeat (first | refine cg_seq ?_ | refine cg_region ?_ | refine rg_nil ?_ | refine eg_then ?_ | refine qsp ?_ | refine qso ?_ | refine cg_cond_true rfl ?_ | refine cg_ret ?_ | refine eg_then_ret ?_ | refine eg_in_ret ?_)
    exact eg_return rfl rfl (no fun h => by have := h.none q13'; simp at q14; omega)
  have q14' : b.gen + b.seq = 0 := by simpa using q14
  repeat (first | refine qsp ?_ | refine qsl ?_ | refine qsf ?_)
  cases q15 : b.txn
  rotate_left
  · repeat (first | refine cg_seq ?_ | refine cg_region ?_ | refine rg_nil ?_ | refine eg_then ?_ | refine qsp ?_ | refine qso ?_ | refine cg_cond_true rfl ?_ | refine cg_ret ?_ | refine eg_then_ret ?_ | refine eg_in_ret ?_)
    exact eg_return rfl rfl (no fun h => by have := (h.none q13').2.2.1; rw [q15] at this; cases this)
  repeat (first | refine rg_nil ?_ | refine eg_then ?_ | refine qsp ?_ | refine qsl ?_ | refine qsf ?_)
  cases q16 : (b.ctl != 0)
  rotate_left
  · repeat (first | refine cg_seq ?_ | refine cg_region ?_ | refine rg_nil ?_ | refine eg_then ?_ | refine qsp ?_ | refine cg_cond_true rfl ?_ | refine cg_ret ?_ | refine eg_then_ret ?_ | refine eg_in_ret ?_)
    exact eg_return rfl rfl (no fun h => by have := (h.none q13').2.2.2; simp at q16; exact q16 this)
  have q16' : b.ctl = 0 := by simpa using q16
  have hnone : b.pid = -1 → b.gen = 0 ∧ b.seq = 0 ∧ b.txn = false ∧ b.ctl = 0 := fun _ => ⟨by omega, by omega, q15, q16'⟩
  repeat (first | refine cg_seq ?_ | refine cg_region ?_ | refine rg_nil ?_ | refine eg_then ?_ | refine qsp ?_ | refine qsl ?_ | refine qsf ?_ | refine cg_cond_false rfl ?_ | refine cg_skip ?_ | refine cg_block ?_ | refine eg_in_normal ?_)
  cases q20 : (b.ctl == 0)
  · have q20' : b.ctl ≠ 0 := by simpa using q20
    have hnr : b.ctl = 0 → recsP b.last (b.base - 1) b.recs = true := fun h => absurd h q20'
    repeat (first | refine cg_seq ?_ | refine cg_region ?_ | refine rg_nil ?_ | refine eg_then ?_ | refine qsp ?_ | refine cg_cond_false rfl ?_)
    cases q21 : (b.ctl == 1)
    · have q21' : b.ctl ≠ 1 := by simpa using q21
      repeat (first | refine cg_region ?_ | refine rg_nil ?_ | refine eg_then ?_ | refine qsp ?_ | refine cg_cond_false rfl ?_)
      cases q22 : (b.ctl == 2)
      · have q22' : b.ctl ≠ 2 := by simpa using q22
        repeat (first | refine cg_seq ?_ | refine cg_region ?_ | refine rg_nil ?_ | refine eg_then ?_ | refine qsp ?_ | refine cg_cond_false rfl ?_ | refine cg_skip ?_ | refine eg_in_normal ?_ | refine cg_ret ?_)
        exact eg_return rfl rfl (no fun h => by have := (h.ctl q20').1; omega)
      have q22' : b.ctl = 2 := by simpa using q22
      have q23 : b.ctl = 1 ∨ b.ctl = 2 := .inr q22'
      repeat (first | refine cg_seq ?_ | refine cg_region ?_ | refine qsp ?_ | refine cg_cond_true rfl ?_)
      cases q24 : (b.last - b.base == 0)
      · have q24' : ¬ b.last - b.base = 0 := by simpa using q24
        repeat (first | refine rg_nil ?_ | refine eg_then ?_ | refine qsp ?_ | refine qso ?_ | refine cg_ret ?_ | refine eg_then_ret ?_ | refine eg_in_ret ?_)
        exact eg_return rfl rfl (no fun h => q24' (h.ctl q20').2.1)
      have q24' : b.last - b.base = 0 := by simpa using q24
      repeat (first | refine qsp ?_ | refine qsn ?_ | refine qsl ?_ | refine qsf ?_)
      cases q25 : ((b.recs.length : Int) == 0)
      · have q25' : ¬ b.recs.length = 0 := by intro e; rw [e] at q25; cases q25
        repeat (first | refine rg_nil ?_ | refine eg_then ?_ | refine qsp ?_ | refine qso ?_ | refine cg_ret ?_ | refine eg_then_ret ?_ | refine eg_in_ret ?_)
        exact eg_return rfl rfl (no fun h => q25' (h.ctl q20').2.2.1)
      have q25' : b.recs.length = 0 := by simp at q25; simp [q25]
      repeat (first | refine rg_nil ?_ | refine eg_then ?_ | refine qsp ?_ | refine qsl ?_ | refine qsf ?_ | refine cg_ret ?_ | refine eg_then_ret ?_ | refine eg_in_ret ?_)
      refine eg_return rfl rfl ?_
      rw [Value.bool.injEq, Bool.eq_iff_iff, decide_eq_true_eq]
      exact ⟨fun h => ⟨q1, q2, q3, ⟨q4, q5, q6⟩, q7, q8, q9, q10, hnone, hsome, fun _ => ⟨q23, q24', q25', h, by
        by_cases hp : b.pid = -1
        · exact absurd (hnone hp).2.2.2 q20'
        · exact (hsome hp).1⟩, hnr⟩, fun h => (h.ctl q20').2.2.2.1⟩
    have q21' : b.ctl = 1 := by simpa using q21
    have q23 : b.ctl = 1 ∨ b.ctl = 2 := .inl q21'
    repeat (first | refine cg_seq ?_ | refine cg_region ?_ | refine eg_then ?_ | refine qsp ?_ | refine cg_cond_true rfl ?_ | refine cg_skip ?_)
    cases q24 : (b.last - b.base == 0)
    · have q24' : ¬ b.last - b.base = 0 := by simpa using q24
      repeat (first | refine rg_nil ?_ | refine eg_then ?_ | refine qsp ?_ | refine qso ?_ | refine cg_ret ?_ | refine eg_then_ret ?_ | refine eg_in_ret ?_)
      exact eg_return rfl rfl (no fun h => q24' (h.ctl q20').2.1)
    have q24' : b.last - b.base = 0 := by simpa using q24
    repeat (first | refine qsp ?_ | refine qsn ?_ | refine qsl ?_ | refine qsf ?_)
    cases q25 : ((b.recs.length : Int) == 0)
    · have q25' : ¬ b.recs.length = 0 := by intro e; rw [e] at q25; cases q25
      repeat (first | refine rg_nil ?_ | refine eg_then ?_ | refine qsp ?_ | refine qso ?_ | refine cg_ret ?_ | refine eg_then_ret ?_ | refine eg_in_ret ?_)
      exact eg_return rfl rfl (no fun h => q25' (h.ctl q20').2.2.1)
    have q25' : b.recs.length = 0 := by simp at q25; simp [q25]
    repeat (first | refine rg_nil ?_ | refine eg_then ?_ | refine qsp ?_ | refine qsl ?_ | refine qsf ?_ | refine cg_ret ?_ | refine eg_then_ret ?_ | refine eg_in_ret ?_)
    refine eg_return rfl rfl ?_
    rw [Value.bool.injEq, Bool.eq_iff_iff, decide_eq_true_eq]
    exact ⟨fun h => ⟨q1, q2, q3, ⟨q4, q5, q6⟩, q7, q8, q9, q10, hnone, hsome, fun _ => ⟨q23, q24', q25', h, by
      by_cases hp : b.pid = -1
      · exact absurd (hnone hp).2.2.2 q20'
      · exact (hsome hp).1⟩, hnr⟩, fun h => (h.ctl q20').2.2.2.1⟩
  have q20' : b.ctl = 0 := by simpa using q20
  repeat (first | refine cg_seq ?_ | refine cg_region ?_ | refine rg_nil ?_ | refine eg_then ?_ | refine qsp ?_ | refine qsn ?_ | refine qsl ?_ | refine qsf ?_ | refine cg_cond_true rfl ?_ | refine cg_block ?_)
  refine cg_loop (fun (i : Nat) e k' => Le kb k' ∧ i ≤ b.recs.length ∧ recsP b.last (b.base - 1) b.recs = recsP b.last (loAt (b.base - 1) b.recs i) (b.recs.drop i) ∧ (-1 ≤ loAt (b.base - 1) b.recs i ∧ loAt (b.base - 1) b.recs i ≤ 1099511627776) ∧ e = [(1, .is (.pointer (some ⟨bb, 0, none⟩))), (4, .is (.int .i64 (loAt (b.base - 1) b.recs i + 1))), (90, .is (.slice a0 b.recs.length c0)), (91, .is (.int .i64 (b.recs.length : Int))), (92, .is (.int .i64 (i : Int)))])
    (fun i => b.recs.length - i) 0 ⟨by assumption, Nat.zero_le _, rfl, ⟨by simp [loAt]; omega, by simp [loAt]; omega⟩, rfl⟩ ⟨rfl, by rw [show loAt (b.base - 1) b.recs 0 + 1 = b.base by simp [loAt]]; rfl, rfl, rfl, rfl, trivial⟩ ?_
  rintro i e k1 ⟨hle, hi, hrec, hlo, rfl⟩
  repeat (first | refine cg_seq ?_ | refine cg_region ?_ | refine rg_nil ?_ | refine eg_then ?_ | refine qsp ?_)
  refine cg_cond rfl (fun h => ?_) (fun h => ?_)
  · have hlt : i < b.recs.length := by simpa using h
    have hd := recsP_drop (hi := b.last) hlt (loAt (b.base - 1) b.recs i)
    have bad : (recOk b.recs[i] && (decide (loAt (b.base - 1) b.recs i < b.recs[i].off) && decide (b.recs[i].off ≤ b.last))) = false → ¬ FormP b := fun hb h => by
      have := h.recs q20'
      rw [hrec, hd, hb] at this
      cases this
    obtain ⟨bx, ox, cx, rfl, ⟨rfl, hxok⟩, hcx⟩ := (hr.le hle).el i b.recs[i] (List.getElem?_eq_getElem hlt)
    repeat (first | refine cg_seq ?_ | refine cg_region ?_ | refine eg_then ?_ | refine qsi ?_ | refine qsg ?_ | refine cg_skip ?_ | refine cg_block ?_)
    refine rb rfl rfl rfl rfl (a_alloc rfl) ?_; intro b7 k7 hb7 hN7 hle7 hk7
    skip
    refine rw1 rfl rfl rfl rfl rfl rfl rfl hk7 rfl (.inl hN7) ?_ ?_; (simp [Did.vs, ProdT.cs, Rec.vs, Batch.cs, Tp.vs, Member.cs, Group.cs, Value.oneCell']); intro k8 ht8 hk8
    have c8 := cells_at (vs := b.recs[i].vs) hk8 rfl
    have hle8 : Le k1 k8 := ht8 k1 hle7 hb7
    obtain ⟨r0, r1, r2, r3, r4⟩ := Rec.parts c8
    have p1 := p1.le (hle.trans hle8)
    have c8' := cells_at (vs := b.recs[i].vs) hk8 rfl
    repeat (first | refine cg_seq ?_ | refine cg_region ?_ | refine rg_nil ?_ | refine eg_then ?_ | refine qsg ?_)
    refine rs rfl rfl (loc_call_is rfl rfl rfl rfl (recCheck_ct hxok)) ?_
    obtain ⟨r0, r1, r2, r3, r4⟩ := Rec.parts c8
    have p1 := p1
    cases t1 : recOk b.recs[i]
    · repeat (first | refine cg_seq ?_ | refine cg_region ?_ | refine rg_nil ?_ | refine eg_then ?_ | refine qsp ?_ | refine qso ?_ | refine cg_cond_true rfl ?_ | refine cg_ret ?_ | refine eg_then_ret ?_ | refine eg_in_ret ?_)
      exact eg_return rfl rfl (no (bad (by rw [t1]; rfl)))
    have t1i := inO_iff.1 (recOk_parts t1).1
    repeat (first | refine qsp ?_ | refine qsl ?_ | refine qsf ?_)
    cases t2 : decide (b.recs[i].off < loAt (b.base - 1) b.recs i + 1)
    rotate_left
    · repeat (first | refine cg_seq ?_ | refine cg_region ?_ | refine rg_nil ?_ | refine eg_then ?_ | refine qsp ?_ | refine qso ?_ | refine cg_cond_true rfl ?_ | refine cg_ret ?_ | refine eg_then_ret ?_ | refine eg_in_ret ?_)
      refine eg_return rfl rfl (no (bad ?_))
      have : ¬ loAt (b.base - 1) b.recs i < b.recs[i].off := by simp at t2; omega
      simp [this]
    repeat (first | refine rg_nil ?_ | refine eg_then ?_ | refine qsp ?_ | refine qsl ?_ | refine qsf ?_)
    cases t3 : decide (b.recs[i].off > b.last)
    rotate_left
    · repeat (first | refine cg_seq ?_ | refine cg_region ?_ | refine rg_nil ?_ | refine eg_then ?_ | refine qsp ?_ | refine cg_cond_true rfl ?_ | refine cg_ret ?_ | refine eg_then_ret ?_ | refine eg_in_ret ?_)
      refine eg_return rfl rfl (no (bad ?_))
      have : ¬ b.recs[i].off ≤ b.last := by simp at t3; omega
      simp [this]
    repeat (first | refine cg_region ?_ | refine rg_nil ?_ | refine eg_then ?_ | refine qsp ?_ | refine qsa ?_ | refine qsl ?_ | refine qsf ?_ | refine cg_cond_false rfl ?_ | refine cg_skip ?_ | refine eg_in_normal ?_)
    have t2' : loAt (b.base - 1) b.recs i < b.recs[i].off := by simp at t2; omega
    have t3' : b.recs[i].off ≤ b.last := by simp at t3; omega
    refine eg_again (i + 1) _ ⟨hle.trans hle8, hlt, ?_, by rw [loAt_succ hlt]; omega, rfl⟩ (by omega) ⟨rfl, by rw [loAt_succ hlt]; rfl, rfl, rfl, rfl, trivial⟩
    rw [hrec, hd, t1, decide_eq_true t2', decide_eq_true t3', loAt_succ hlt]
    rfl
  · have hil : i = b.recs.length := by simp at h; omega
    repeat (first | refine cg_seq ?_ | refine cg_region ?_ | refine rg_nil ?_ | refine eg_then ?_ | refine qsp ?_ | refine cg_ret ?_ | refine eg_then_ret ?_ | refine eg_in_ret ?_ | refine cg_exit ?_ | refine eg_then_exit ?_ | refine eg_in_exit ?_)
    refine eg_return rfl rfl ?_
    rw [decide_eq_true]
    refine ⟨q1, q2, q3, ⟨q4, q5, q6⟩, q7, q8, q9, q10, hnone, hsome, fun h => absurd q20' h, fun _ => ?_⟩
    rw [hrec, hil, List.drop_length]
    rfl
end Go.Wm
