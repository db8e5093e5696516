/-
  Bytes and numbers of seven bits a byte: what is written. Conditions: that what is handed in reads as data.
-/
import Derived.Test.YtfejamdfhbamcaaDat
import Derived.Test.YtfejamdfhbamcaaCoB
import Derived.Test.YtfejamdfhbamcaaStr
set_option linter.all false
namespace Go.Wm
open Go.RowKit Go.Proofs
attribute [local irreducible] RG CG EG WA Loc Det Alc CT Exit.then Exit.inBlock Code.wp bodyPost

/-- A byte. -/
def tU8 : Ty Nat where
  sz := 1
  rep := fun _ cs x => cs = [.int .u8 (x : Int)] ∧ x < 256
  len := fun h => by rw [h.1]; rfl
  mono := fun _ h => h
abbrev u8V (x : Nat) : List Value := [.int .u8 (x : Int)]
/-- Bytes in a row of the call's own. -/
abbrev BRow (N : Nat) (k : PH) (v : Value) (bs : List Nat) : Prop := Row N k 5 1 v bs.length (bs.flatMap u8V)
def Bytes (bs : List Nat) : Prop := ∀ x ∈ bs, x < 256
theorem Bytes.append {a b : List Nat} (ha : Bytes a) (hb : Bytes b) : Bytes (a ++ b) := fun x hx => (List.mem_append.1 hx).elim (ha x) (hb x)
theorem BRow.sl {N : Nat} {k : PH} {v : Value} {bs : List Nat} (h : BRow N k v bs) (hb : Bytes bs) : ∃ a c, v = .slice a bs.length c ∧ Sl tU8 k a c bs := Row.sl (T := tU8) h fun x hx => ⟨rfl, hb x hx⟩
theorem pieces_u8 {k : PH} {css : List (List Value)} {bs : List Nat} (h : Pieces tU8 k css bs) : css.flatten = bs.flatMap u8V := by
  have : css = bs.map u8V := by
    apply List.ext_getElem (by rw [h.1]; simp)
    intro i h1 h2
    simp only [List.length_map] at h2
    have := (h.2 i css[i] bs[i] (List.getElem?_eq_getElem h1) (List.getElem?_eq_getElem h2)).1
    rw [this]
    simp
  rw [this, List.flatMap]
theorem sl_bytes {k : PH} {a : Option Addr} {c : Nat} {bs : List Nat} (h : Sl tU8 k a c bs) : Bytes bs := fun x hx => by
  obtain ⟨i, hi, rfl⟩ := List.getElem_of_mem hx
  obtain ⟨_, _, _, _, ⟨_, h⟩, _⟩ := h.el i bs[i] (List.getElem?_eq_getElem hi)
  exact h
theorem u8_one (k : PH) (cs : List Value) (x : Nat) (h : tU8.rep k cs x) : ∀ u ∈ cs, u.oneCell' = true := by
  rw [h.1]
  simp [Value.oneCell']

/-- A number's code. -/
def zigN (n : Int) : Nat := if n < 0 then (2 * (-(n + 1)) + 1).toNat else (2 * n).toNat
theorem zigN_lt {n : Int} (h : I64 n) : zigN n < 18446744073709551616 := by
  unfold zigN I64 at *
  split <;> omega
def varL (z : Nat) : List Nat := if h : z < 128 then [z] else (128 + z % 128) :: varL (z / 128)
termination_by z
decreasing_by omega
theorem varL_lt {z : Nat} (h : z < 128) : varL z = [z] := by rw [varL, dif_pos h]
theorem varL_ge {z : Nat} (h : ¬ z < 128) : varL z = (128 + z % 128) :: varL (z / 128) := by rw [varL, dif_neg h]
theorem varL_bytes (z : Nat) : Bytes (varL z) := by
  induction z using Nat.strongRecOn with
  | _ z ih =>
    by_cases h : z < 128
    · rw [varL_lt h]
      intro x hx
      simp at hx
      omega
    · rw [varL_ge h]
      intro x hx
      rcases List.mem_cons.1 hx with rfl | hx
      · omega
      · exact ih (z / 128) (by omega) x hx
theorem varL_len (m : Nat) : ∀ z, z < 128 ^ (m + 1) → (varL z).length ≤ m + 1 := by
  induction m with
  | zero =>
    intro z h
    rw [varL_lt (by omega)]
    simp
  | succ m ih =>
    intro z h
    by_cases hz : z < 128
    · rw [varL_lt hz]; simp
    · rw [varL_ge hz]
      have := ih (z / 128) (by rw [Nat.div_lt_iff_lt_mul (by decide)]; rw [Nat.pow_succ] at h; exact h)
      simp only [List.length_cons]
      omega
theorem varL_ten {z : Nat} (h : z < 18446744073709551616) : (varL z).length ≤ 10 := varL_len 9 z (by omega)
set_option maxHeartbeats 400000 in
theorem refCopy_ct {k : PH} {a : Option Addr} {c : Nat} {bs : List Nat} (h : Sl tU8 k a c bs) (hb : bs.length ≤ 1000000000) :
    CTN Try.prog 198 #[.slice a bs.length c] k (fun N k' v => BRow N k' v bs) := by
  refine ctn_of_body (l := [_]) Try.func198 rfl Try.ntmps198 (by simp) (fun N k k' v hle h => h.le hle) fun F hF0 hFm => ?_
  repeat (first | refine cg_seq ?_ | refine cg_region ?_ | refine rg_nil ?_ | refine eg_then ?_ | refine qsp ?_)
  refine raps2 (T := tU8) (sz := 1) (m := 0) (olds := []) rfl rfl rfl rfl rfl rfl rfl rfl (row_nil _ _ _ _) h (Le.refl _) u8_one rfl rfl (by unfold maxLen; omega) (by omega) ?_
  intro v k3 css hp hrow ht
  rw [pieces_u8 hp] at hrow
  repeat (first | refine rg_nil ?_ | refine eg_then ?_ | refine qsp ?_ | refine cg_ret ?_)
  exact eg_return rfl rfl (by simpa using hrow)
theorem wrap64 {n : Nat} (h : n < 18446744073709551616) : IntKind.u64.wrap (n : Int) = (n : Int) := by
  rw [wrap_nat rfl]
  show ((n % 18446744073709551616 : Nat) : Int) = n
  rw [Nat.mod_eq_of_lt h]
theorem wrapi {n : Int} (h : I64 n) : IntKind.i64.wrap n = n := by
  rw [IntKind.wrap_i64]
  unfold I64 at h
  omega
theorem wrap8 (n : Nat) : IntKind.u8.wrap (n : Int) = ((n % 256 : Nat) : Int) := wrap_nat rfl n
theorem u8_snoc (bs : List Nat) (x : Nat) : (bs ++ [x]).flatMap u8V = bs.flatMap u8V ++ [.int .u8 (x : Int)] := by simp

section
variable {F : Fr} {n : Nat} {ops : Array Oper} {Q : Exit → Act → World → Prop} {rest : List Oper} {o : Oper} {e : Env} {k : PH}
/-- A byte more. -/
theorem rapB {d : Nat} {x y : Operand} {v : Value} {bs : List Nat} {q b c : Nat} (hd : o.dst = some d) (hf : Nat.blt d n = true) (hdet : det e = true) (hg : o.guard = none)
    (hop : o.op = .call { callee := .builtin .append, args := #[x, y], argTypes := #[39, 39] }) (hx : opv e x = some v) (hy : opv e y = some (.slice (some ⟨b, 0, none⟩) 1 c))
    (hrow : BRow F.w0.heap.size k v bs) (hc : Cells k b 0 [.int .u8 (q : Int)]) (hb : bs.length ≤ 1000000000)
    (h : ∀ v' k', BRow F.w0.heap.size k' v' (bs ++ [q]) → Turn k k' v v' → RG Try.prog F n ops Q rest ((d, .is v') :: e) k') : RG Try.prog F n ops Q (o :: rest) e k := by
  refine rap hd hf hdet hg hop hx hy hrow hc rfl (by simp [Value.oneCell']) rfl rfl (by unfold maxLen; omega) (by omega) ?_
  intro v' k' hr ht
  refine h v' k' ?_ ht
  unfold BRow
  rw [u8_snoc, List.length_append]
  exact hr
/-- Bytes that are read behind others. -/
theorem rapsB {h : PH} {d : Nat} {x y : Operand} {v : Value} {bs cs : List Nat} {a : Option Addr} {c : Nat} (hd : o.dst = some d) (hf : Nat.blt d n = true) (hdet : det e = true) (hg : o.guard = none)
    (hop : o.op = .call { callee := .builtin .append, args := #[x, y], argTypes := #[39, 39] }) (hx : opv e x = some v) (hy : opv e y = some (.slice a cs.length c))
    (hrow : BRow F.w0.heap.size k v bs) (hs : Sl tU8 h a c cs) (hle : Le h k) (hb : bs.length + cs.length ≤ 1000000000)
    (hh : ∀ v' k', BRow F.w0.heap.size k' v' (bs ++ cs) → Turn k k' v v' → RG Try.prog F n ops Q rest ((d, .is v') :: e) k') : RG Try.prog F n ops Q (o :: rest) e k := by
  refine raps2 (T := tU8) (sz := 1) hd hf hdet hg hop hx hy rfl hrow hs hle u8_one rfl rfl (by unfold maxLen; omega) (by omega) ?_
  intro v' k' css hp hr ht
  rw [pieces_u8 hp] at hr
  refine hh v' k' ?_ ht
  unfold BRow
  rw [List.flatMap_append, List.length_append]
  exact hr
end
set_option maxHeartbeats 1000000 in
theorem refPutVar_ct {k : PH} {a : Option Addr} {c : Nat} {bs : List Nat} {n : Int} (h : Sl tU8 k a c bs) (hb : bs.length ≤ 100000000) (hn : I64 n) :
    CTN Try.prog 154 #[.slice a bs.length c, .int .i64 n] k (fun N k' v => BRow N k' v (bs ++ varL (zigN n))) := by
  refine ctn_of_body (l := [_, _]) Try.func154 rfl Try.ntmps154 (by simp) (fun N k k' v hle h => h.le hle) fun F hF0 hFm => ?_
  repeat (first | refine cg_seq ?_ | refine cg_region ?_ | refine rg_nil ?_ | refine eg_then ?_ | refine qsp ?_)
  refine rs rfl rfl (loc_det rfl (d_conv rfl rfl)) ?_
  refine rs rfl rfl (loc_det rfl (d_mulk rfl rfl rfl)) ?_
  repeat (first | refine cg_seq ?_ | refine cg_region ?_ | refine rg_nil ?_ | refine eg_then ?_ | refine qsp ?_)
  apply meetR (P := Try.prog) (F := F) (n := 36) (k := k) [(18, .is (.slice a bs.length c)), (5, .is (.int .u64 (zigN n : Int)))] True
  · intro go
    refine cg_cond rfl (fun h1 => ?_) (fun h1 => ?_)
    · have hneg : n < 0 := by simpa using h1
      have hI := hn
      unfold I64 at hI
      repeat (first | refine cg_region ?_ | refine qsp ?_ | refine qsa ?_)
      refine rs rfl rfl (loc_det rfl (d_negk rfl rfl)) ?_
      rw [wrapi (n := 0 - (n + 1)) (by unfold I64; omega)]
      refine rs rfl rfl (loc_det rfl (d_conv rfl rfl)) ?_
      refine rs rfl rfl (loc_det rfl (d_mulk rfl rfl rfl)) ?_
      refine rs rfl rfl (loc_det rfl (d_addk rfl rfl rfl)) ?_
      have hz : IntKind.u64.wrap (IntKind.u64.wrap (2 * IntKind.u64.wrap (0 - (n + 1))) + 1) = (zigN n : Int) := by
        obtain ⟨q, hq⟩ : ∃ q : Nat, 0 - (n + 1) = (q : Int) := ⟨(0 - (n + 1)).toNat, by omega⟩
        rw [hq, wrap64 (by omega), show (2 * (q : Int)) = ((2 * q : Nat) : Int) by simp, wrap64 (by omega), show (((2 * q : Nat) : Int) + 1) = ((2 * q + 1 : Nat) : Int) by simp, wrap64 (by omega)]
        unfold zigN
        rw [if_pos hneg]
        omega
      rw [hz]
      repeat (first | refine cg_seq ?_ | refine cg_region ?_ | refine rg_nil ?_ | refine eg_then ?_ | refine qsp ?_)
      exact go _ trivial ⟨rfl, rfl, trivial⟩
    · have hpos : ¬ n < 0 := by simpa using h1
      have hI := hn
      unfold I64 at hI
      have hz : IntKind.u64.wrap (2 * IntKind.u64.wrap n) = (zigN n : Int) := by
        obtain ⟨q, rfl⟩ : ∃ q : Nat, n = (q : Int) := ⟨n.toNat, by omega⟩
        rw [wrap64 (by omega), show (2 * (q : Int)) = ((2 * q : Nat) : Int) by simp, wrap64 (by omega)]
        unfold zigN
        rw [if_neg hpos]
        omega
      rw [hz]
      repeat (first | refine cg_seq ?_ | refine cg_region ?_ | refine eg_then ?_ | refine qsp ?_ | refine cg_skip ?_)
      exact go _ trivial ⟨rfl, rfl, trivial⟩
  intro _
  refine rvn rfl rfl rfl rfl rfl rfl rfl (refCopy_ct h (by omega)) ?_
  rintro N1 k1 v1 hN hf1 hle1 hrow1
  repeat (first | refine cg_seq ?_ | refine rg_nil ?_ | refine eg_then ?_ | refine qsp ?_ | refine cg_block ?_)
  have hN1 : F.w0.heap.size ≤ N1 := hN
  refine cg_loop (fun (x : Nat × List Nat) e k' => ∃ v, Le k k' ∧ BRow F.w0.heap.size k' v (bs ++ x.2) ∧ Apart k v ∧ x.1 < 18446744073709551616 ∧ varL (zigN n) = x.2 ++ varL x.1 ∧ e = [(5, .is (.int .u64 (x.1 : Int))), (6, .is v)])
    (fun x => x.1) (zigN n, []) ⟨v1, hle1, by simpa using hrow1.N_le hN1, hrow1.apart hf1, zigN_lt hn, rfl, rfl⟩ ⟨rfl, rfl, trivial⟩ ?_
  rintro ⟨z, pre⟩ e k2 ⟨v, hle, hrow, hap, hz, hzz, rfl⟩
  have hpl : pre.length ≤ 10 := by
    have := varL_ten (zigN_lt hn)
    rw [hzz, List.length_append] at this
    simp only at this
    omega
  repeat (first | refine cg_seq ?_ | refine cg_region ?_ | refine qsp ?_)
  refine rs rfl rfl (loc_det rfl (d_cmp rfl rfl rfl rfl)) ?_
  repeat (first | refine rg_nil ?_ | refine eg_then ?_)
  refine cg_cond rfl (fun h => ?_) (fun h => ?_)
  · have hge : ¬ z < 128 := by simp at h; omega
    have hvz := varL_ge hge
    repeat (first | refine cg_seq ?_ | refine cg_region ?_ | refine eg_then ?_ | refine qsp ?_ | refine cg_skip ?_ | refine cg_block ?_)
    refine rs rfl rfl (loc_det rfl (d_remN rfl rfl rfl (by decide))) ?_
    refine rs rfl rfl (loc_det rfl (d_addk rfl rfl rfl)) ?_
    rw [show ((128 : Int) + ((z % 128 : Nat) : Int)) = ((128 + z % 128 : Nat) : Int) by omega, wrap64 (by omega)]
    refine rs rfl rfl (loc_det rfl (d_conv rfl rfl)) ?_
    rw [wrap8, Nat.mod_eq_of_lt (show 128 + z % 128 < 256 by omega)]
    refine rb rfl rfl rfl rfl (a_slice rfl rfl rfl rfl (by kernel_rfl) rfl) ?_; intro b3 k3 hb3 hN3 hle3 hk3
    have c3 := cells_at (vs := [Value.int .u8 ((128 + z % 128 : Nat) : Int)]) hk3 rfl
    refine rapB rfl rfl rfl rfl rfl rfl rfl (hrow.le hle3) c3 (by rw [List.length_append]; simp only; omega) ?_
    intro v4 k4 hrow4 ht4
    obtain ⟨hle4, hap4⟩ := ht4 k (hle.trans hle3) hap
    repeat (first | refine cg_region ?_ | refine rg_nil ?_ | refine eg_then ?_ | refine qsp ?_)
    refine rs rfl rfl (loc_det rfl (d_quoN rfl rfl rfl rfl (by decide) hz)) ?_
    repeat (first | refine rg_nil ?_ | refine qsp ?_ | refine eg_in_normal ?_)
    refine eg_again (z / 128, pre ++ [128 + z % 128]) _ ⟨v4, hle4, by simpa using hrow4, hap4, by simp only; omega, by rw [hzz]; simp only; rw [hvz, List.append_assoc]; rfl, rfl⟩ (by simp only; omega) ⟨rfl, rfl, trivial⟩
  · have hlt : z < 128 := by simp at h; omega
    repeat (first | refine cg_seq ?_ | refine cg_region ?_ | refine eg_then ?_ | refine qsp ?_ | refine cg_exit ?_ | refine eg_then_exit ?_ | refine eg_in_exit ?_)
    refine rs rfl rfl (loc_det rfl (d_conv rfl rfl)) ?_
    simp only at hz hzz
    rw [wrap8, Nat.mod_eq_of_lt (show z < 256 by omega)]
    refine rb rfl rfl rfl rfl (a_slice rfl rfl rfl rfl (by kernel_rfl) rfl) ?_; intro b3 k3 hb3 hN3 hle3 hk3
    have c3 := cells_at (vs := [Value.int .u8 (z : Int)]) hk3 rfl
    refine rapB rfl rfl rfl rfl rfl rfl rfl (hrow.le hle3) c3 (by rw [List.length_append]; simp only; omega) ?_
    intro v4 k4 hrow4 ht4
    repeat (first | refine rg_nil ?_ | refine eg_then ?_ | refine qsp ?_ | refine cg_ret ?_)
    refine eg_return rfl rfl ?_
    rw [hzz, varL_lt hlt, ← List.append_assoc]
    exact hrow4
end Go.Wm
