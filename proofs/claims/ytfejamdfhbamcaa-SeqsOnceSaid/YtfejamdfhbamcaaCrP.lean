/-
  Sums of bytes in plain Lean: a table of 16 serves. Conditions: none.
-/
import Derived.Test.YtfejamdfhbamcaaCoA
import Derived.Test.YtfejamdfhbamcaaCoB
import Derived.Test.YtfejamdfhbamcaaDat
import Derived.Lib.AppendStr
set_option linter.all false
namespace Go.Wm
variable [Dfr]
open Go.RowKit

theorem wrap_uns {kd : IntKind} (h : kd.signed = false) (n : Int) : kd.wrap n = n % (2 ^ kd.bits : Int) := by simp [IntKind.wrap, h]
theorem wrap_nat {kd : IntKind} (h : kd.signed = false) (n : Nat) : kd.wrap (n : Int) = ((n % 2 ^ kd.bits : Nat) : Int) := by
  rw [wrap_uns h]; simp
theorem ofInt_nat (B n : Nat) : BitVec.ofInt B (n : Int) = BitVec.ofNat B n := by simp
section
variable {P : Program} {o : Oper} {e : Env} {k : PH} {t t' : TypeId} {x y : Operand}
/-- Of a kind without a sign. -/
theorem d_xorN {kd : IntKind} {a b : Nat} (hs : kd.signed = false) (hop : o.op = .binOp .xor t x y t') (hx : opv e x = some (.int kd (a : Int))) (hy : opv e y = some (.int kd (b : Int))) (ha : a < 2 ^ kd.bits) (hb : b < 2 ^ kd.bits) : Det P e k o (.int kd ((a ^^^ b : Nat) : Int)) := by
  intro ev w hev _
  rw [hop] at hev
  have e1 := hev x (by simp [Op.operands]) _ hx
  have e2 := hev y (by simp [Op.operands]) _ hy
  have hlt : a ^^^ b < 2 ^ kd.bits := Nat.xor_lt_two_pow ha hb
  have h6 : (Op.intBits .xor kd (a : Int) (b : Int)).run P w = .ok (.int kd ((a ^^^ b : Nat) : Int)) w := by
    show Result.ok (Value.int kd (kd.wrap (((BitVec.ofInt kd.bits (a : Int) ^^^ BitVec.ofInt kd.bits (b : Int)).toNat : Nat) : Int))) w = _
    rw [ofInt_nat, ofInt_nat, BitVec.toNat_xor, BitVec.toNat_ofNat, BitVec.toNat_ofNat, Nat.mod_eq_of_lt ha, Nat.mod_eq_of_lt hb, wrap_nat hs, Nat.mod_eq_of_lt hlt]
  simp [execOp, hop, e1, e2, eqGuard, binOp, h6]
theorem d_andN {kd : IntKind} {a b : Nat} (hs : kd.signed = false) (hop : o.op = .binOp .and t x y t') (hx : opv e x = some (.int kd (a : Int))) (hy : opv e y = some (.int kd (b : Int))) (ha : a < 2 ^ kd.bits) (hb : b < 2 ^ kd.bits) : Det P e k o (.int kd ((a &&& b : Nat) : Int)) := by
  intro ev w hev _
  rw [hop] at hev
  have e1 := hev x (by simp [Op.operands]) _ hx
  have e2 := hev y (by simp [Op.operands]) _ hy
  have hlt : a &&& b < 2 ^ kd.bits := Nat.lt_of_le_of_lt Nat.and_le_left ha
  have h6 : (Op.intBits .and kd (a : Int) (b : Int)).run P w = .ok (.int kd ((a &&& b : Nat) : Int)) w := by
    show Result.ok (Value.int kd (kd.wrap (((BitVec.ofInt kd.bits (a : Int) &&& BitVec.ofInt kd.bits (b : Int)).toNat : Nat) : Int))) w = _
    rw [ofInt_nat, ofInt_nat, BitVec.toNat_and, BitVec.toNat_ofNat, BitVec.toNat_ofNat, Nat.mod_eq_of_lt ha, Nat.mod_eq_of_lt hb, wrap_nat hs, Nat.mod_eq_of_lt hlt]
  simp [execOp, hop, e1, e2, eqGuard, binOp, h6]
theorem d_orN {kd : IntKind} {a b : Nat} (hs : kd.signed = false) (hop : o.op = .binOp .or t x y t') (hx : opv e x = some (.int kd (a : Int))) (hy : opv e y = some (.int kd (b : Int))) (ha : a < 2 ^ kd.bits) (hb : b < 2 ^ kd.bits) : Det P e k o (.int kd ((a ||| b : Nat) : Int)) := by
  intro ev w hev _
  rw [hop] at hev
  have e1 := hev x (by simp [Op.operands]) _ hx
  have e2 := hev y (by simp [Op.operands]) _ hy
  have hlt : a ||| b < 2 ^ kd.bits := Nat.or_lt_two_pow ha hb
  have h6 : (Op.intBits .or kd (a : Int) (b : Int)).run P w = .ok (.int kd ((a ||| b : Nat) : Int)) w := by
    show Result.ok (Value.int kd (kd.wrap (((BitVec.ofInt kd.bits (a : Int) ||| BitVec.ofInt kd.bits (b : Int)).toNat : Nat) : Int))) w = _
    rw [ofInt_nat, ofInt_nat, BitVec.toNat_or, BitVec.toNat_ofNat, BitVec.toNat_ofNat, Nat.mod_eq_of_lt ha, Nat.mod_eq_of_lt hb, wrap_nat hs, Nat.mod_eq_of_lt hlt]
  simp [execOp, hop, e1, e2, eqGuard, binOp, h6]
theorem d_shlN {kd ky : IntKind} {a b : Nat} (hs : kd.signed = false) (hop : o.op = .binOp .shl t x y t') (hx : opv e x = some (.int kd (a : Int))) (hy : opv e y = some (.int ky (b : Int))) (hb : b ≤ kd.bits) : Det P e k o (.int kd ((a * 2 ^ b % 2 ^ kd.bits : Nat) : Int)) := by
  intro ev w hev _
  rw [hop] at hev
  have e1 := hev x (by simp [Op.operands]) _ hx
  have e2 := hev y (by simp [Op.operands]) _ hy
  have h0 : ¬ ((b : Int) < 0) := by omega
  have h1 : min (b : Int).toNat kd.bits = b := by simp; exact Nat.min_eq_left hb
  have h6 : (Op.shift .shl kd (a : Int) ky (b : Int)).run P w = .ok (.int kd ((a * 2 ^ b % 2 ^ kd.bits : Nat) : Int)) w := by
    unfold Op.shift
    rw [if_neg h0]
    show Result.ok (Value.int kd (kd.wrap ((a : Int) * 2 ^ (min (b : Int).toNat kd.bits)))) w = _
    rw [h1, show ((a : Int) * 2 ^ b) = ((a * 2 ^ b : Nat) : Int) by simp, wrap_nat hs]
  simp [execOp, hop, e1, e2, eqGuard, binOp, h6]
theorem d_shrN {kd ky : IntKind} {a b : Nat} (hop : o.op = .binOp .shr t x y t') (hx : opv e x = some (.int kd (a : Int))) (hy : opv e y = some (.int ky (b : Int))) (hb : b ≤ kd.bits) : Det P e k o (.int kd ((a / 2 ^ b : Nat) : Int)) := by
  intro ev w hev _
  rw [hop] at hev
  have e1 := hev x (by simp [Op.operands]) _ hx
  have e2 := hev y (by simp [Op.operands]) _ hy
  have h0 : ¬ ((b : Int) < 0) := by omega
  have h1 : min (b : Int).toNat kd.bits = b := by simp; exact Nat.min_eq_left hb
  have h6 : (Op.shift .shr kd (a : Int) ky (b : Int)).run P w = .ok (.int kd ((a / 2 ^ b : Nat) : Int)) w := by
    unfold Op.shift
    rw [if_neg h0]
    show Result.ok (Value.int kd ((a : Int).fdiv (2 ^ (min (b : Int).toNat kd.bits)))) w = _
    rw [h1]
    congr 2
    rw [Int.fdiv_eq_ediv_of_nonneg _ (by exact Int.pow_nonneg (by decide))]
    simp
  simp [execOp, hop, e1, e2, eqGuard, binOp, h6]
/-- A whole number, shifted to the right by 63: its sign. -/
theorem d_sign {ky : IntKind} {a : Int} (ha : -9223372036854775808 ≤ a ∧ a ≤ 9223372036854775807) (hop : o.op = .binOp .shr t x y t') (hx : opv e x = some (.int .i64 a)) (hy : opv e y = some (.int ky 63)) : Det P e k o (.int .i64 (if a < 0 then -1 else 0)) := by
  intro ev w hev _
  rw [hop] at hev
  have e1 := hev x (by simp [Op.operands]) _ hx
  have e2 := hev y (by simp [Op.operands]) _ hy
  have h6 : (Op.shift .shr .i64 a ky 63).run P w = .ok (.int .i64 (if a < 0 then -1 else 0)) w := by
    show Result.ok (Value.int .i64 (a.fdiv 9223372036854775808)) w = _
    congr 2
    rw [Int.fdiv_eq_ediv_of_nonneg _ (by decide)]
    split <;> omega
  simp [execOp, hop, e1, e2, eqGuard, binOp, h6]
theorem d_mulk {kd : IntKind} {a b : Int} (hop : o.op = .binOp .mul t x y t') (hx : opv e x = some (.int kd a)) (hy : opv e y = some (.int kd b)) : Det P e k o (.int kd (kd.wrap (a * b))) := by
  intro ev w hev _
  rw [hop] at hev
  have e1 := hev x (by simp [Op.operands]) _ hx
  have e2 := hev y (by simp [Op.operands]) _ hy
  simp [execOp, hop, e1, e2, eqGuard, binOp, Op.intArith]
theorem d_negk {kd : IntKind} {a : Int} (hop : o.op = .unOp .neg t x) (hx : opv e x = some (.int kd a)) : Det P e k o (.int kd (kd.wrap (0 - a))) := by
  intro ev w hev _
  rw [hop] at hev
  have e1 := hev x (by simp [Op.operands]) _ hx
  simp [execOp, hop, e1, Op.unary, Op.intArith]
/-- All bits turned. -/
theorem d_notN {kd : IntKind} {a : Nat} (hs : kd.signed = false) (hop : o.op = .unOp .xor t x) (hx : opv e x = some (.int kd (a : Int))) (ha : a < 2 ^ kd.bits) : Det P e k o (.int kd (((2 ^ kd.bits - 1) ^^^ a : Nat) : Int)) := by
  intro ev w hev _
  rw [hop] at hev
  have e1 := hev x (by simp [Op.operands]) _ hx
  have hpos : 0 < 2 ^ kd.bits := Nat.two_pow_pos _
  have hb : 2 ^ kd.bits - 1 < 2 ^ kd.bits := by omega
  have hlt : (2 ^ kd.bits - 1) ^^^ a < 2 ^ kd.bits := Nat.xor_lt_two_pow hb ha
  have hm : kd.max = ((2 ^ kd.bits - 1 : Nat) : Int) := by
    unfold IntKind.max
    rw [hs]
    simp only [Bool.false_eq_true, if_false]
    rw [Int.ofNat_sub hpos]
    simp
  have h6 : (Op.intBits .xor kd kd.max (a : Int)).run P w = .ok (.int kd (((2 ^ kd.bits - 1) ^^^ a : Nat) : Int)) w := by
    rw [hm]
    show Result.ok (Value.int kd (kd.wrap (((BitVec.ofInt kd.bits ((2 ^ kd.bits - 1 : Nat) : Int) ^^^ BitVec.ofInt kd.bits (a : Int)).toNat : Nat) : Int))) w = _
    rw [ofInt_nat, ofInt_nat, BitVec.toNat_xor, BitVec.toNat_ofNat, BitVec.toNat_ofNat, Nat.mod_eq_of_lt ha, Nat.mod_eq_of_lt hb, wrap_nat hs, Nat.mod_eq_of_lt hlt]
  simp [execOp, hop, e1, Op.unary, hs, h6]
/-- A whole number becomes one of another kind. -/
theorem d_conv {src dst : TypeId} {d : TypeDesc} {kd kx : IntKind} {a : Int} [hs : TyU P src d] [hd : TyU P dst (.int kd)] (hop : o.op = .convert src dst x) (hx : opv e x = some (.int kx a)) : Det P e k o (.int kd (kd.wrap a)) := by
  intro ev w hev _
  rw [hop] at hev
  have e1 := hev x (by simp [Op.operands]) _ hx
  have : (convert src dst (.int kx a)).run P w = .ok (.int kd (kd.wrap a)) w := by
    simp [convert, run_underlying hs.eq, run_underlying hd.eq, Conv.intToInt]
  simp [execOp, hop, e1, this]
/-- A place in an array. -/
theorem d_idxA {et : TypeId} {ix : Operand} {b off L i sz bs : Nat} {z : Value} {kd : IntKind} [h : TyU P t (.array L et)] [hi : TyI P et sz bs z] (hop : o.op = .indexAddr t x ix) (hx : opv e x = some (.pointer (some ⟨b, off, none⟩)))
    (hy : opv e ix = some (.int kd (i : Int))) (hlt : i < L) : Det P e k o (.pointer (some ⟨b, off + i * sz, none⟩)) := by
  intro ev w hev _
  rw [hop] at hev
  obtain ⟨inf, hi1, hi2, _⟩ := hi.eq
  have h3 : (i : Int) < (L : Int) := by omega
  simp [execOp, hop, hev x (by simp [Op.operands]) _ hx, hev ix (by simp [Op.operands]) _ hy, Instr.indexAt, Instr.sureAddr, asIntOf, run_underlying h.eq, h3, run_size hi1, hi2, addr_add, Nat.not_le.2 hlt, hlt]
end
end Go.Wm
namespace Go.Wm
variable [Dfr]
open Go.RowKit

section
variable {P : Program} {F : Fr} {n : Nat} {ops : Array Oper} {Q : Exit → Act → World → Prop} {rest : List Oper} {o : Oper} {e : Env} {k : PH}
/-- Whole numbers of one kind, held against each other. -/
theorem d_cmp {op : BinOp} {t t' : TypeId} {x y : Operand} {kd : IntKind} {a b : Int} {r : Bool} (hop : o.op = .binOp op t x y t') (hx : opv e x = some (.int kd a)) (hy : opv e y = some (.int kd b)) (hr : cmpI op a b = some r) : Det P e k o (.bool r) := by
  intro ev w hev _
  rw [hop] at hev
  have h1 := hev x (by simp [Op.operands]) _ hx
  have h2 := hev y (by simp [Op.operands]) _ hy
  cases op <;> simp only [cmpI] at hr <;> cases hr <;> simp [execOp, hop, h1, h2, eqGuard, binOp, Op.intCmp, pure, Sem.run, bind, Sem.bind]
end
end Go.Wm
namespace Go.Wm
open Go.RowKit Go.Proofs
attribute [local irreducible] RG CG EG WA Loc Det Alc CT Exit.then Exit.inBlock Code.wp bodyPost

/-- A byte. -/
def tU8 : Ty Nat where
  sz := 1
  rep := fun _ cs x => cs = [.int .u8 (x : Int)] ∧ x < 256
  len := fun h => by rw [h.1]; rfl
  mono := fun _ h => h
abbrev u8V (x : Nat) : List Value := [.int .u8 (x : Int)]
/-- Bytes in a row of the call's own. -/
abbrev BRow (N : Nat) (k : PH) (v : Value) (bs : List Nat) : Prop := Row N k 5 1 v bs.length (bs.flatMap u8V)
def Bytes (bs : List Nat) : Prop := ∀ x ∈ bs, x < 256
theorem Bytes.append {a b : List Nat} (ha : Bytes a) (hb : Bytes b) : Bytes (a ++ b) := fun x hx => (List.mem_append.1 hx).elim (ha x) (hb x)
theorem BRow.sl {N : Nat} {k : PH} {v : Value} {bs : List Nat} (h : BRow N k v bs) (hb : Bytes bs) : ∃ a c, v = .slice a bs.length c ∧ Sl tU8 k a c bs := Row.sl (T := tU8) h fun x hx => ⟨rfl, hb x hx⟩
theorem pieces_u8 {k : PH} {css : List (List Value)} {bs : List Nat} (h : Pieces tU8 k css bs) : css.flatten = bs.flatMap u8V := by
  have : css = bs.map u8V := by
    apply List.ext_getElem (by rw [h.1]; simp)
    intro i h1 h2
    simp only [List.length_map] at h2
    have := (h.2 i css[i] bs[i] (List.getElem?_eq_getElem h1) (List.getElem?_eq_getElem h2)).1
    rw [this]
    simp
  rw [this, List.flatMap]
theorem sl_bytes {k : PH} {a : Option Addr} {c : Nat} {bs : List Nat} (h : Sl tU8 k a c bs) : Bytes bs := fun x hx => by
  obtain ⟨i, hi, rfl⟩ := List.getElem_of_mem hx
  obtain ⟨_, _, _, _, ⟨_, h⟩, _⟩ := h.el i bs[i] (List.getElem?_eq_getElem hi)
  exact h
theorem u8_one (k : PH) (cs : List Value) (x : Nat) (h : tU8.rep k cs x) : ∀ u ∈ cs, u.oneCell' = true := by
  rw [h.1]
  simp [Value.oneCell']

/-- A number's code. -/
def zigN (n : Int) : Nat := if n < 0 then (2 * (-(n + 1)) + 1).toNat else (2 * n).toNat
theorem zigN_lt {n : Int} (h : I64 n) : zigN n < 18446744073709551616 := by
  unfold zigN I64 at *
  split <;> omega
def varL (z : Nat) : List Nat := if h : z < 128 then [z] else (128 + z % 128) :: varL (z / 128)
termination_by z
decreasing_by omega
theorem varL_lt {z : Nat} (h : z < 128) : varL z = [z] := by rw [varL, dif_pos h]
theorem varL_ge {z : Nat} (h : ¬ z < 128) : varL z = (128 + z % 128) :: varL (z / 128) := by rw [varL, dif_neg h]
theorem varL_bytes (z : Nat) : Bytes (varL z) := by
  induction z using Nat.strongRecOn with
  | _ z ih =>
    by_cases h : z < 128
    · rw [varL_lt h]
      intro x hx
      simp at hx
      omega
    · rw [varL_ge h]
      intro x hx
      rcases List.mem_cons.1 hx with rfl | hx
      · omega
      · exact ih (z / 128) (by omega) x hx
theorem varL_len (m : Nat) : ∀ z, z < 128 ^ (m + 1) → (varL z).length ≤ m + 1 := by
  induction m with
  | zero =>
    intro z h
    rw [varL_lt (by omega)]
    simp
  | succ m ih =>
    intro z h
    by_cases hz : z < 128
    · rw [varL_lt hz]; simp
    · rw [varL_ge hz]
      have := ih (z / 128) (by rw [Nat.div_lt_iff_lt_mul (by decide)]; rw [Nat.pow_succ] at h; exact h)
      simp only [List.length_cons]
      omega
theorem varL_ten {z : Nat} (h : z < 18446744073709551616) : (varL z).length ≤ 10 := varL_len 9 z (by omega)
theorem wrap64 {n : Nat} (h : n < 18446744073709551616) : IntKind.u64.wrap (n : Int) = (n : Int) := by
  rw [wrap_nat rfl]
  show ((n % 18446744073709551616 : Nat) : Int) = n
  rw [Nat.mod_eq_of_lt h]
theorem wrapi {n : Int} (h : I64 n) : IntKind.i64.wrap n = n := by
  rw [IntKind.wrap_i64]
  unfold I64 at h
  omega
theorem wrap8 (n : Nat) : IntKind.u8.wrap (n : Int) = ((n % 256 : Nat) : Int) := wrap_nat rfl n
theorem u8_snoc (bs : List Nat) (x : Nat) : (bs ++ [x]).flatMap u8V = bs.flatMap u8V ++ [.int .u8 (x : Int)] := by simp

section
variable {F : Fr} {n : Nat} {ops : Array Oper} {Q : Exit → Act → World → Prop} {rest : List Oper} {o : Oper} {e : Env} {k : PH}
/-- A byte more. -/
theorem rapB {d : Nat} {x y : Operand} {v : Value} {bs : List Nat} {q b c : Nat} (hd : o.dst = some d) (hf : Nat.blt d n = true) (hdet : det e = true) (hg : o.guard = none)
    (hop : o.op = .call { callee := .builtin .append, args := #[x, y], argTypes := #[39, 39] }) (hx : opv e x = some v) (hy : opv e y = some (.slice (some ⟨b, 0, none⟩) 1 c))
    (hrow : BRow F.w0.heap.size k v bs) (hc : Cells k b 0 [.int .u8 (q : Int)]) (hb : bs.length ≤ 1000000000)
    (h : ∀ v' k', BRow F.w0.heap.size k' v' (bs ++ [q]) → Turn k k' v v' → RG Try.prog F n ops Q rest ((d, .is v') :: e) k') : RG Try.prog F n ops Q (o :: rest) e k := by
  refine rap hd hf hdet hg hop hx hy hrow hc rfl (by simp [Value.oneCell']) rfl rfl (by unfold maxLen; omega) (by omega) ?_
  intro v' k' hr ht
  refine h v' k' ?_ ht
  unfold BRow
  rw [u8_snoc, List.length_append]
  exact hr
/-- Bytes that are read behind others. -/
theorem rapsB {h : PH} {d : Nat} {x y : Operand} {v : Value} {bs cs : List Nat} {a : Option Addr} {c : Nat} (hd : o.dst = some d) (hf : Nat.blt d n = true) (hdet : det e = true) (hg : o.guard = none)
    (hop : o.op = .call { callee := .builtin .append, args := #[x, y], argTypes := #[39, 39] }) (hx : opv e x = some v) (hy : opv e y = some (.slice a cs.length c))
    (hrow : BRow F.w0.heap.size k v bs) (hs : Sl tU8 h a c cs) (hle : Le h k) (hb : bs.length + cs.length ≤ 1000000000)
    (hh : ∀ v' k', BRow F.w0.heap.size k' v' (bs ++ cs) → Turn k k' v v' → RG Try.prog F n ops Q rest ((d, .is v') :: e) k') : RG Try.prog F n ops Q (o :: rest) e k := by
  refine raps2 (T := tU8) (sz := 1) hd hf hdet hg hop hx hy rfl hrow hs hle u8_one rfl rfl (by unfold maxLen; omega) (by omega) ?_
  intro v' k' css hp hr ht
  rw [pieces_u8 hp] at hr
  refine hh v' k' ?_ ht
  unfold BRow
  rw [List.flatMap_append, List.length_append]
  exact hr
end
end Go.Wm
namespace Go.Wm
variable [Dfr]
open Go.RowKit
section
variable {P : Program} {F : Fr} {n : Nat} {ops : Array Oper} {Q : Exit → Act → World → Prop} {rest : List Oper} {o : Oper} {e : Env} {k : PH}
/-- A row that has grown, whatever it is known of the worlds. -/
theorem row_step {w w' : World} {et sz m m' : Nat} {v v' : Value} {xs xs' : List Value} (hs : St F k w) (hrow : Row F.w0.heap.size k et sz v m xs) (h1 : Row F.w0.heap.size (wPH w') et sz v' m' xs')
    (hsame : w'.os = w.os ∧ w'.tape = w.tape ∧ w'.output = w.output ∧ w.heap.size ≤ w'.heap.size) (hold : ∀ i, i < w.heap.size → v.ownBlock ≠ some i → w'.heap[i]? = w.heap[i]?) (hown : ∀ g, v'.ownBlock = some g → v.ownBlock = some g ∨ w.heap.size ≤ g) :
    ∃ k', Row F.w0.heap.size k' et sz v' m' xs' ∧ Turn k k' v v' ∧ St F k' w' := by
  have hb : ∀ b o, k b = some o → b < w.heap.size := fun b o h => hs.sub.lt h
  have hvN : ∀ g, v.ownBlock = some g → F.w0.heap.size ≤ g := fun g hg => (hrow.block hg).1
  have hv'N : ∀ g, v'.ownBlock = some g → F.w0.heap.size ≤ g := fun g hg => (h1.block hg).1
  refine ⟨fun b => if v'.ownBlock = some b then w'.heap[b]? else if v.ownBlock = some b then none else k b, h1.at fun g hg => by simp [hg, wPH], fun h hle hap => ⟨fun b ob hbo => ?_, fun g hg => ?_⟩, ?_⟩
  · have n1 : v.ownBlock ≠ some b := fun e => by rw [hap b e] at hbo; cases hbo
    have n2 : v'.ownBlock ≠ some b := fun e => by
      rcases hown b e with e | e
      · exact n1 e
      · have := hb b ob (hle b ob hbo); omega
    simp only [n1, n2, if_false]
    exact hle b ob hbo
  · rcases hown g hg with e | e
    · exact hap g e
    · cases hh : h g with
      | none => rfl
      | some ob => have := hb g ob (hle g ob hh); omega
  · refine ⟨hsame.1.trans hs.os, hsame.2.1.trans hs.tape, hsame.2.2.1.trans hs.output, Nat.le_trans hs.size hsame.2.2.2, fun b hlt hmu => ?_, fun b ob hbo => ?_, fun b hlt hmu => ?_⟩
    · have n1 : v.ownBlock ≠ some b := fun e => by have := hvN b e; omega
      rw [hold b (Nat.lt_of_lt_of_le hlt hs.size) n1]
      exact hs.old b hlt hmu
    · by_cases e1 : v'.ownBlock = some b
      · simpa [e1] using hbo
      · by_cases e2 : v.ownBlock = some b
        · simp [e1, e2] at hbo
        · simp only [e1, e2, if_false] at hbo
          rw [hold b (hb b ob hbo) e2]
          exact hs.sub b ob hbo
    · have n1 : v.ownBlock ≠ some b := fun e => by have := hvN b e; omega
      have n2 : v'.ownBlock ≠ some b := fun e => by have := hv'N b e; omega
      simp only [n1, n2, if_false]
      exact hs.keep b hlt hmu
theorem app_str {N : Nat} {t u ty et : TypeId} {v : Value} {m : Nat} {xs : List Value} [ht : TyU P t (.slice et)] [hu : TyU P u .string] [hi : TyI P et 1 1 (.int .u8 0)] (w : World) (s : ByteArray)
    (hrow : Row N (wPH w) et 1 v m xs) (hN : N ≤ w.heap.size) (hm : m + s.size ≤ 140737488355328) :
    ∃ v' w', (Builtin.append_ #[t, u] ty #[v, .string s]).run P w = .ok v' w' ∧ Row N (wPH w') et 1 v' (m + s.size) (xs ++ Lib.strCells s) ∧ (w'.os = w.os ∧ w'.tape = w.tape ∧ w'.output = w.output ∧ w.heap.size ≤ w'.heap.size) ∧
      (∀ i, i < w.heap.size → v.ownBlock ≠ some i → w'.heap[i]? = w.heap[i]?) ∧ ∀ g, v'.ownBlock = some g → v.ownBlock = some g ∨ w.heap.size ≤ g := by
  obtain ⟨i, hi1, hi2, hi3, hi4⟩ := hi.eq
  have hown : w.ownsRow N et 1 v m xs := hrow
  obtain ⟨v', w', hr, h1, h2, h3⟩ := Lib.run_append_own_string (P := P) w N t u ty et i ht.eq hu.eq hi1 hi4 hi2 hi3 v m xs hown s (by unfold maxLen; omega) hm hN
  refine ⟨v', w', hr, h1, ⟨h2.os, h2.tape, h2.output, h2.size⟩, fun i hi hne => h2.block i hi (fun e => hne e.symm), fun g hg => ?_⟩
  rcases hrow.2 with ⟨rfl, rfl⟩ | ⟨g0, cap, cur, rfl, hgN, hgw, hmc, hcm, hcs, htake⟩
  · by_cases hz : s.size = 0
    · have := h3.2 ⟨rfl, hz⟩
      rw [this] at hg
      cases hg
    · have hr2 := run_append_nil_string (P := P) w t u ty et i (.int .u8 0) ht.eq hu.eq hi1 hi4 s (by omega) (by omega) (by rw [hi3]; omega)
      rw [hr2] at hr
      cases hr
      exact .inr (by simp [Value.ownBlock] at hg; omega)
  · have hgw' : w.heap[g0]? = some (.cells cur et (0, 0)) := hgw
    by_cases hroom : m + s.size ≤ cap
    · have hr2 := Lib.run_append_room_string (P := P) w t u ty et i ht.eq hu.eq hi1 hi2 g0 m cap cur hgw' s hroom (by omega)
      rw [hr2] at hr
      cases hr
      exact .inl hg
    · have holds : ∀ j u, xs[j]? = some u → w.cell? ((⟨g0, 0, none⟩ : Addr).add j) = some u := hown.cells (g := g0) rfl
      have hr2 := Lib.run_append_grow_string (P := P) w t u ty et i (.int .u8 0) ht.eq hu.eq hi1 hi4 ⟨g0, 0, none⟩ m cap xs (by rw [hi2]; exact hrow.1) holds s (by omega) (by omega) (by rw [hi3]; exact growslice_fits (by omega) (by omega))
      rw [hr2] at hr
      cases hr
      exact .inr (by simp [Value.ownBlock] at hg; omega)
/-- 'append(b, s...)'. -/
theorem rapS {t u et : TypeId} {d : Nat} {x y : Operand} {v : Value} {m : Nat} {s : ByteArray} {xs : List Value} (hd : o.dst = some d) (hf : Nat.blt d n = true) (hdet : det e = true) (hg : o.guard = none) [ht : TyU P t (.slice et)] [hu : TyU P u .string] [hi : TyI P et 1 1 (.int .u8 0)]
    (hop : o.op = .call { callee := .builtin .append, args := #[x, y], argTypes := #[t, u] }) (hx : opv e x = some v) (hy : opv e y = some (.string s))
    (hrow : Row F.w0.heap.size k et 1 v m xs) (hm : m + s.size ≤ 140737488355328)
    (h : ∀ v' k', Row F.w0.heap.size k' et 1 v' (m + s.size) (xs ++ Lib.strCells s) → Turn k k' v v' → RG P F n ops Q rest ((d, .is v') :: e) k') : RG P F n ops Q (o :: rest) e k := by
  intro a w ha hs
  unfold wpList
  rw [if_pos (by simp [Region.wanted, hg])]
  have ev := evs_of (ops := ops) (o := o) (ag_looks ha)
  rw [hop] at ev
  have e1 := ev x (by simp [Op.operands, Call.operands]) _ hx
  have e2 := ev y (by simp [Op.operands, Call.operands]) _ hy
  have hroww : Row F.w0.heap.size (wPH w) et 1 v m xs := hrow.le hs.sub
  obtain ⟨v', w', hr, h1, h2, h3, h4⟩ := app_str (P := P) (t := t) (u := u) (ty := o.type) w s hroww hs.size hm
  have hexec : (execOp a.eval o).run P w = .ok (.value v') w' := by
    simp [execOp, hop, resolve, invoke, builtin, e1, e2, hr]
  obtain ⟨k', g1, g2, g3⟩ := row_step hs hrow h1 h2 h3 h4
  refine .inl (ex_value hexec _ _ ?_)
  rintro q w'' ⟨rfl, rfl⟩
  rw [hd]
  exact h _ k' g1 g2 _ _ ((ha.heap (k' := k') hdet).put (d := some d) hf rfl) g3
end
end Go.Wm
namespace Go.Wm
open Go.RowKit Go.Proofs
attribute [local irreducible] RG CG EG WA Loc Det Alc CT Exit.then Exit.inBlock Code.wp bodyPost

theorem xor_ones {a : Nat} (h : a < 18446744073709551616) : a ^^^ 18446744073709551615 = 18446744073709551615 - a := by
  have h1 : (BitVec.ofNat 64 a ^^^ BitVec.allOnes 64).toNat = (~~~ BitVec.ofNat 64 a).toNat := by rw [BitVec.xor_allOnes]
  rw [BitVec.toNat_xor, BitVec.toNat_not, BitVec.toNat_allOnes, BitVec.toNat_ofNat, Nat.mod_eq_of_lt (by omega)] at h1
  simpa using h1
theorem or_128 (z : Nat) : z % 256 ||| 128 = 128 + z % 128 := by
  have key : ∀ x : Fin 256, x.val ||| 128 = 128 + x.val % 128 := by decide +kernel
  have := key ⟨z % 256, by omega⟩
  simp only at this
  rw [this, Nat.mod_mod_of_dvd z (by decide : 128 ∣ 256)]
theorem wrap64i {n : Int} (h : I64 n) : ∃ q : Nat, IntKind.u64.wrap n = (q : Int) ∧ q < 18446744073709551616 ∧ (0 ≤ n → (q : Int) = n) ∧ (n < 0 → (q : Int) = n + 18446744073709551616) := by
  rw [wrap_uns rfl]
  show ∃ q : Nat, n % 18446744073709551616 = (q : Int) ∧ _
  unfold I64 at h
  refine ⟨(n % 18446744073709551616).toNat, by omega, by omega, fun h0 => by omega, fun h0 => by omega⟩

set_option maxHeartbeats 400000 in
theorem cloneU8_ct {k : PH} {a : Option Addr} {c : Nat} {l : List Nat} (hl : Sl tU8 k a c l) (hb : l.length ≤ 1000000000) :
    CTN Try.prog 152 #[.slice a l.length c] k (fun N k' v => BRow N k' v l) := by
  refine ctn_of_body (l := [_]) Try.func152 rfl Try.ntmps152 (by simp) (fun N k k' v hle h => h.le hle) fun F hF0 hFm => ?_
  repeat (first | refine cg_seq ?_ | refine cg_region ?_ | refine rg_nil ?_ | refine eg_then ?_ | refine qsp ?_)
  refine rs rfl rfl (loc_det rfl (d_eqsl rfl rfl)) ?_
  cases a with
  | none =>
    have hc := hl.nil rfl
    have hc2 := hl.cap
    have : l = [] := List.length_eq_zero_iff.1 (by omega)
    subst this
    repeat (first | refine cg_seq ?_ | refine cg_region ?_ | refine rg_nil ?_ | refine eg_then ?_ | refine qsp ?_ | refine cg_cond_true rfl ?_ | refine cg_ret ?_ | refine eg_then_ret ?_)
    exact eg_return rfl rfl (row_nil _ _ _ _)
  | some ad =>
    repeat (first | refine cg_seq ?_ | refine cg_region ?_ | refine rg_nil ?_ | refine eg_then ?_ | refine cg_cond_false rfl ?_ | refine cg_skip ?_)
    refine rb rfl rfl rfl rfl (a_empty rfl) ?_; intro b k2 hb2 hN2 hle2 hk2
    repeat (first | refine qsp ?_)
    refine rapsB (bs := []) rfl rfl rfl rfl rfl rfl rfl (row_empty hN2 hk2) hl hle2 (by simp; omega) ?_
    intro v k3 hrow ht
    repeat (first | refine rg_nil ?_ | refine eg_then ?_ | refine qsp ?_ | refine cg_ret ?_)
    exact eg_return rfl rfl hrow

set_option maxHeartbeats 1000000 in
theorem putVar_ct {k : PH} {a : Option Addr} {c : Nat} {bs : List Nat} {n : Int} (h : Sl tU8 k a c bs) (hb : bs.length ≤ 100000000) (hn : I64 n) :
    CTN Try.prog 81 #[.slice a bs.length c, .int .i64 n] k (fun N k' v => BRow N k' v (bs ++ varL (zigN n))) := by
  refine ctn_of_body (l := [_, _]) Try.func81 rfl Try.ntmps81 (by simp) (fun N k k' v hle h => h.le hle) fun F hF0 hFm => ?_
  obtain ⟨q, hq, hq1, hq2, hq3⟩ := wrap64i hn
  have hI := hn
  unfold I64 at hI
  have hs : ∃ s : Nat, IntKind.u64.wrap (if n < 0 then -1 else 0) = (s : Int) ∧ s < 18446744073709551616 ∧ q * 2 ^ 1 % 2 ^ IntKind.u64.bits ^^^ s = zigN n := by
    by_cases hneg : n < 0
    · refine ⟨18446744073709551615, by rw [if_pos hneg, wrap_uns rfl]; rfl, by decide, ?_⟩
      show q * 2 % 18446744073709551616 ^^^ 18446744073709551615 = _
      rw [xor_ones (by omega)]
      have := hq3 hneg
      unfold zigN
      rw [if_pos hneg]
      omega
    · refine ⟨0, by rw [if_neg hneg, wrap_uns rfl]; rfl, by decide, ?_⟩
      show q * 2 % 18446744073709551616 ^^^ 0 = _
      rw [Nat.xor_zero]
      have := hq2 (by omega)
      unfold zigN
      rw [if_neg hneg]
      omega
  obtain ⟨s, hs1, hs2, hs3⟩ := hs
  repeat (first | refine cg_seq ?_ | refine cg_region ?_ | refine rg_nil ?_ | refine eg_then ?_ | refine qsp ?_)
  refine rs rfl rfl (loc_det rfl (d_conv rfl rfl)) ?_
  rw [hq]
  refine rs rfl rfl (loc_det rfl (d_shlN (b := 1) rfl rfl rfl rfl (by decide))) ?_
  repeat (first | refine qsp ?_)
  refine rs rfl rfl (loc_det rfl (d_sign hI rfl rfl rfl)) ?_
  refine rs rfl rfl (loc_det rfl (d_conv rfl rfl)) ?_
  rw [hs1]
  refine rs rfl rfl (loc_det rfl (d_xorN rfl rfl rfl rfl (Nat.mod_lt _ (by decide)) hs2)) ?_
  rw [hs3]
  repeat (first | refine cg_seq ?_ | refine cg_region ?_ | refine rg_nil ?_ | refine eg_then ?_ | refine qsp ?_)
  refine rvn rfl rfl rfl rfl rfl rfl rfl (cloneU8_ct h (by omega)) ?_
  rintro N1 k1 v1 hN hf1 hle1 hrow1
  repeat (first | refine cg_seq ?_ | refine rg_nil ?_ | refine eg_then ?_ | refine qsp ?_ | refine cg_block ?_)
  refine cg_loop (fun (x : Nat × List Nat) e k' => ∃ v, Le k k' ∧ BRow F.w0.heap.size k' v (bs ++ x.2) ∧ Apart k v ∧ x.1 < 18446744073709551616 ∧ varL (zigN n) = x.2 ++ varL x.1 ∧ e = [(5, .is (.int .u64 (x.1 : Int))), (6, .is v)])
    (fun x => x.1) (zigN n, []) ⟨v1, hle1, by simpa using hrow1.N_le hN, hrow1.apart hf1, zigN_lt hn, rfl, rfl⟩ ⟨rfl, rfl, trivial⟩ ?_
  rintro ⟨z, pre⟩ e k2 ⟨v, hle, hrow, hap, hz, hzz, rfl⟩
  have hpl : pre.length ≤ 10 := by
    have := varL_ten (zigN_lt hn)
    rw [hzz, List.length_append] at this
    simp only at this
    omega
  simp only at hz hzz
  repeat (first | refine cg_seq ?_ | refine cg_region ?_ | refine qsp ?_)
  refine rs rfl rfl (loc_det rfl (d_cmp rfl rfl rfl rfl)) ?_
  repeat (first | refine rg_nil ?_ | refine eg_then ?_)
  refine cg_cond rfl (fun h => ?_) (fun h => ?_)
  · have hge : ¬ z < 128 := by simp at h; omega
    have hvz := varL_ge hge
    repeat (first | refine cg_seq ?_ | refine cg_region ?_ | refine eg_then ?_ | refine qsp ?_ | refine cg_skip ?_ | refine cg_block ?_)
    refine rs rfl rfl (loc_det rfl (d_conv rfl rfl)) ?_
    rw [wrap8]
    refine rs rfl rfl (loc_det rfl (d_orN (b := 128) rfl rfl rfl rfl (Nat.mod_lt _ (by decide)) (by decide))) ?_
    rw [or_128]
    refine rb rfl rfl rfl rfl (a_slice rfl rfl rfl rfl (by kernel_rfl) rfl) ?_; intro b3 k3 hb3 hN3 hle3 hk3
    have c3 := cells_at (vs := [Value.int .u8 ((128 + z % 128 : Nat) : Int)]) hk3 rfl
    refine rapB rfl rfl rfl rfl rfl rfl rfl (hrow.le hle3) c3 (by rw [List.length_append]; simp only; omega) ?_
    intro v4 k4 hrow4 ht4
    obtain ⟨hle4, hap4⟩ := ht4 k (hle.trans hle3) hap
    repeat (first | refine cg_region ?_ | refine rg_nil ?_ | refine eg_then ?_ | refine qsp ?_ | refine eg_in_normal ?_)
    refine rs rfl rfl (loc_det rfl (d_shrN (b := 7) rfl rfl rfl (by decide))) ?_
    repeat (first | refine rg_nil ?_ | refine qsp ?_)
    refine eg_again (z / 128, pre ++ [128 + z % 128]) _ ⟨v4, hle4, by simpa using hrow4, hap4, by simp only; omega, by rw [hzz]; simp only; rw [hvz, List.append_assoc]; rfl, rfl⟩ (by simp only; omega) ⟨rfl, rfl, trivial⟩
  · have hlt : z < 128 := by simp at h; omega
    repeat (first | refine cg_seq ?_ | refine cg_region ?_ | refine eg_then ?_ | refine qsp ?_ | refine cg_exit ?_ | refine eg_then_exit ?_ | refine eg_in_exit ?_)
    refine rs rfl rfl (loc_det rfl (d_conv rfl rfl)) ?_
    rw [wrap8, Nat.mod_eq_of_lt (show z < 256 by omega)]
    refine rb rfl rfl rfl rfl (a_slice rfl rfl rfl rfl (by kernel_rfl) rfl) ?_; intro b3 k3 hb3 hN3 hle3 hk3
    have c3 := cells_at (vs := [Value.int .u8 (z : Int)]) hk3 rfl
    refine rapB rfl rfl rfl rfl rfl rfl rfl (hrow.le hle3) c3 (by rw [List.length_append]; simp only; omega) ?_
    intro v4 k4 hrow4 ht4
    repeat (first | refine rg_nil ?_ | refine eg_then ?_ | refine qsp ?_ | refine cg_ret ?_)
    refine eg_return rfl rfl ?_
    rw [hzz, varL_lt hlt, ← List.append_assoc]
    exact hrow4

/-- A text's bytes. -/
def strB (s : ByteArray) : List Nat := s.data.toList.map (·.toNat)
theorem strB_len (s : ByteArray) : (strB s).length = s.size := by
  unfold strB
  rw [List.length_map, Array.length_toList]
  rfl
theorem strB_bytes (s : ByteArray) : Bytes (strB s) := fun x hx => by
  unfold strB at hx
  obtain ⟨b, _, rfl⟩ := List.mem_map.1 hx
  exact b.toNat_lt
theorem strB_cells (s : ByteArray) : Lib.strCells s = (strB s).flatMap u8V := by
  unfold Lib.strCells strB
  rw [List.flatMap_map]
  induction s.data.toList with
  | nil => rfl
  | cons b l ih => rw [List.map_cons, List.flatMap_cons, ← ih]; rfl
def textL (s : ByteArray) : List Nat := varL (zigN (s.size : Int)) ++ strB s
set_option maxHeartbeats 400000 in
theorem putText_ct {k : PH} {a : Option Addr} {c : Nat} {bs : List Nat} {s : ByteArray} (h : Sl tU8 k a c bs) (hb : bs.length ≤ 10000000) (hs : s.size ≤ 100000000) :
    CTN Try.prog 216 #[.slice a bs.length c, .string s] k (fun N k' v => BRow N k' v (bs ++ textL s)) := by
  refine ctn_of_body (l := [_, _]) Try.func216 rfl Try.ntmps216 (by simp) (fun N k k' v hle h => h.le hle) fun F hF0 hFm => ?_
  repeat (first | refine cg_seq ?_ | refine cg_region ?_ | refine rg_nil ?_ | refine eg_then ?_ | refine qsp ?_)
  refine rs rfl rfl (loc_det rfl (d_len_str rfl rfl)) ?_
  refine rvn rfl rfl rfl rfl rfl rfl rfl (putVar_ct h (by omega) (by unfold I64; omega)) ?_
  rintro N1 k1 v1 hN hf1 hle1 hrow1
  repeat (first | refine qsp ?_)
  have hvl := varL_ten (zigN_lt (n := (s.size : Int)) (by unfold I64; omega))
  refine rapS rfl rfl rfl rfl rfl rfl rfl (hrow1.N_le hN) (by rw [List.length_append]; omega) ?_
  intro v2 k2 hrow2 ht2
  repeat (first | refine rg_nil ?_ | refine eg_then ?_ | refine qsp ?_ | refine cg_ret ?_)
  refine eg_return rfl rfl ?_
  rw [strB_cells, ← strB_len s, ← List.length_append, ← List.flatMap_append] at hrow2
  unfold textL
  rw [← List.append_assoc, ← strB_len s]
  exact hrow2
end Go.Wm
namespace Go.Wm
open Go.RowKit Go.Proofs
attribute [local irreducible] RG CG EG WA Loc Det Alc CT Exit.then Exit.inBlock Code.wp bodyPost

/-- The bytes of a number, the highest one first, of which i are written. -/
def bigL (n k i : Nat) : List Nat := (List.range i).map fun j => n / 256 ^ (k - 1 - j) % 256
theorem bigL_succ (n k i : Nat) : bigL n k (i + 1) = bigL n k i ++ [n / 256 ^ (k - 1 - i) % 256] := by
  simp [bigL, List.range_succ]
theorem bigL_len (n k i : Nat) : (bigL n k i).length = i := by simp [bigL]
theorem bigL_bytes (n k i : Nat) : Bytes (bigL n k i) := fun x hx => by
  unfold bigL at hx
  obtain ⟨j, _, rfl⟩ := List.mem_map.1 hx
  exact Nat.mod_lt _ (by decide)
theorem pow256 (j : Nat) : 2 ^ (8 * j) = 256 ^ j := by rw [Nat.pow_mul]

set_option maxHeartbeats 1000000 in
theorem put4_ct {k : PH} {a : Option Addr} {c : Nat} {bs : List Nat} {n : Nat} (h : Sl tU8 k a c bs) (hb : bs.length ≤ 100000000) (hn : n < 18446744073709551616) :
    CTN Try.prog 153 #[.slice a bs.length c, .int .u64 (n : Int), .int .i64 4] k (fun N k' v => BRow N k' v (bs ++ bigL n 4 4)) := by
  refine ctn_of_body (l := [_, _, _]) Try.func153 rfl Try.ntmps153 (by simp) (fun N k k' v hle h => h.le hle) fun F hF0 hFm => ?_
  repeat (first | refine cg_seq ?_ | refine cg_region ?_ | refine rg_nil ?_ | refine eg_then ?_ | refine qsp ?_)
  refine rvn rfl rfl rfl rfl rfl rfl rfl (cloneU8_ct h (by omega)) ?_
  rintro N1 k1 v1 hN hf1 hle1 hrow1
  repeat (first | refine cg_seq ?_ | refine cg_region ?_ | refine rg_nil ?_ | refine eg_then ?_ | refine qsp ?_ | refine qss ?_ | refine cg_cond_false rfl ?_ | refine cg_skip ?_)
  refine rs rfl rfl (loc_det rfl (d_mulk rfl rfl rfl)) ?_
  repeat (first | refine rg_nil ?_ | refine eg_then ?_ | refine qsp ?_ | refine cg_block ?_)
  refine cg_loop (fun (i : Nat) e k' => ∃ v, Le k k' ∧ BRow F.w0.heap.size k' v (bs ++ bigL n 4 i) ∧ Apart k v ∧ i ≤ 4 ∧ e = [(1, .is (.int .u64 (n : Int))), (7, .is v), (8, .is (.int .i64 (24 - 8 * (i : Int))))])
    (fun i => 4 - i) 0 ⟨v1, hle1, by simpa [bigL] using hrow1.N_le hN, hrow1.apart hf1, by omega, rfl⟩ ⟨rfl, rfl, by rfl, trivial⟩ ?_
  rintro i e k2 ⟨v, hle, hrow, hap, hi, rfl⟩
  repeat (first | refine cg_seq ?_ | refine cg_region ?_ | refine rg_nil ?_ | refine eg_then ?_ | refine qsp ?_)
  refine cg_cond rfl (fun h => ?_) (fun h => ?_)
  · have hlt : i < 4 := by simp at h; omega
    repeat (first | refine cg_seq ?_ | refine cg_region ?_ | refine eg_then ?_ | refine qsp ?_ | refine cg_skip ?_ | refine cg_block ?_)
    rw [show (24 - 8 * (i : Int)) = ((8 * (4 - 1 - i) : Nat) : Int) by omega]
    refine rs rfl rfl (loc_det rfl (d_shrN rfl rfl rfl (show 8 * (4 - 1 - i) ≤ 64 by omega))) ?_
    rw [pow256]
    refine rs rfl rfl (loc_det rfl (d_conv rfl rfl)) ?_
    rw [wrap8]
    refine rb rfl rfl rfl rfl (a_slice rfl rfl rfl rfl (by kernel_rfl) rfl) ?_; intro b3 k3' hb3 hN3 hle3 hk3
    have c3 := cells_at (vs := [Value.int .u8 ((n / 256 ^ (4 - 1 - i) % 256 : Nat) : Int)]) hk3 rfl
    refine rapB rfl rfl rfl rfl rfl rfl rfl (hrow.le hle3) c3 (by rw [List.length_append, bigL_len]; omega) ?_
    intro v4 k4 hrow4 ht4
    obtain ⟨hle4, hap4⟩ := ht4 k (hle.trans hle3) hap
    repeat (first | refine cg_region ?_ | refine rg_nil ?_ | refine eg_then ?_ | refine qsp ?_ | refine qss ?_ | refine eg_in_normal ?_)
    refine eg_again (i + 1) _ ⟨v4, hle4, ?_, hap4, by omega, rfl⟩ (by omega) ⟨rfl, rfl, ?_, trivial⟩
    · rw [bigL_succ, ← List.append_assoc]
      exact hrow4
    · rw [show (24 - 8 * ((i + 1 : Nat) : Int)) = ((8 * (4 - 1 - i) : Nat) : Int) - 8 by omega]
      rfl
  · have hil : i = 4 := by simp at h; omega
    subst hil
    repeat (first | refine cg_seq ?_ | refine cg_region ?_ | refine rg_nil ?_ | refine eg_then ?_ | refine qsp ?_ | refine cg_ret ?_ | refine cg_exit ?_ | refine eg_then_exit ?_ | refine eg_in_exit ?_)
    exact eg_return rfl rfl hrow
end Go.Wm
namespace Go.Wm

def polyN : Nat := 3988292384
def stepN (v : Nat) : Nat := if v % 2 = 1 then (v / 2) ^^^ polyN else v / 2
def stepsN (v : Nat) : Nat → Nat
  | 0 => v
  | n + 1 => stepsN (stepN v) n
def halfN (v : Nat) : Nat := stepsN v 4
def sumFrom (v : Nat) (bs : List Nat) : Nat := bs.foldl (fun v b => stepsN (v ^^^ b) 8) v
def sumL (bs : List Nat) : Nat := 4294967295 ^^^ sumFrom 4294967295 bs
theorem stepN_lt {v : Nat} (h : v < 4294967296) : stepN v < 4294967296 := by
  unfold stepN
  split
  · exact Nat.xor_lt_two_pow (n := 32) (by omega) (by decide)
  · omega
theorem stepsN_lt : ∀ (n : Nat) {v : Nat}, v < 4294967296 → stepsN v n < 4294967296
  | 0, v, h => h
  | n + 1, v, h => stepsN_lt n (stepN_lt h)
theorem stepsN_add (v : Nat) : ∀ a b : Nat, stepsN v (a + b) = stepsN (stepsN v a) b
  | 0, b => by rw [Nat.zero_add]; rfl
  | a + 1, b => by rw [Nat.succ_add]; exact stepsN_add (stepN v) a b
theorem xor_odd (a b : Nat) : (a ^^^ b) % 2 = (a + b) % 2 := by
  have h := Nat.testBit_xor (x := a) (y := b) (i := 0)
  simp only [Nat.testBit_zero] at h
  rcases Nat.mod_two_eq_zero_or_one a with ha | ha <;> rcases Nat.mod_two_eq_zero_or_one b with hb | hb <;> rcases Nat.mod_two_eq_zero_or_one (a ^^^ b) with hc | hc <;> rw [ha, hb, hc] at h <;> first | (simp at h; done) | omega
theorem stepN_xor (a b : Nat) : stepN (a ^^^ b) = stepN a ^^^ stepN b := by
  unfold stepN
  rw [Nat.xor_div_two, xor_odd]
  rcases Nat.mod_two_eq_zero_or_one a with ha | ha <;> rcases Nat.mod_two_eq_zero_or_one b with hb | hb
  · rw [if_neg (by omega), if_neg (by omega), if_neg (by omega)]
  · rw [if_pos (by omega), if_neg (by omega), if_pos hb, Nat.xor_assoc]
  · rw [if_pos (by omega), if_pos ha, if_neg (by omega), Nat.xor_assoc, Nat.xor_assoc, Nat.xor_comm (b / 2)]
  · rw [if_neg (by omega), if_pos ha, if_pos hb, Nat.xor_assoc, Nat.xor_comm polyN, Nat.xor_assoc, Nat.xor_self, Nat.xor_zero]
theorem stepsN_xor : ∀ (n a b : Nat), stepsN (a ^^^ b) n = stepsN a n ^^^ stepsN b n
  | 0, _, _ => rfl
  | n + 1, a, b => by
    show stepsN (stepN (a ^^^ b)) n = _
    rw [stepN_xor]
    exact stepsN_xor n _ _
theorem stepN_two (v : Nat) : stepN (2 * v) = v := by
  unfold stepN
  rw [if_neg (by omega)]
  omega
theorem half_sixteen (q : Nat) : halfN (16 * q) = q := by
  show stepN (stepN (stepN (stepN (16 * q)))) = q
  rw [show 16 * q = 2 * (2 * (2 * (2 * q))) by omega, stepN_two, stepN_two, stepN_two, stepN_two]
theorem split_sixteen (v : Nat) : v = v % 16 ^^^ 16 * (v / 16) := by
  apply Nat.eq_of_testBit_eq
  intro j
  have hv : v = 2 ^ 4 * (v / 16) + v % 16 := by omega
  conv => lhs; rw [hv]
  rw [Nat.testBit_two_pow_mul_add _ (by omega), Nat.testBit_xor, show 16 * (v / 16) = 2 ^ 4 * (v / 16) by rfl, Nat.testBit_two_pow_mul]
  by_cases hj : j < 4
  · simp [hj, Nat.not_le.2 hj]
  · have h16 : (v % 16).testBit j = false := Nat.testBit_lt_two_pow (Nat.lt_of_lt_of_le (show v % 16 < 2 ^ 4 by omega) (Nat.pow_le_pow_right (by decide) (by omega)))
    simp [hj, h16, Nat.not_lt.1 hj]
/-- Four steps by a table. -/
theorem half_table (v : Nat) : halfN v = halfN (v % 16) ^^^ v / 16 := by
  conv => lhs; rw [split_sixteen v]
  unfold halfN
  rw [stepsN_xor]
  show halfN (v % 16) ^^^ halfN (16 * (v / 16)) = _
  rw [half_sixteen]
  rfl
theorem and_15 (v : Nat) : v &&& 15 = v % 16 := Nat.and_two_pow_sub_one_eq_mod v 4
theorem sumFrom_snoc (v : Nat) (bs : List Nat) (b : Nat) : sumFrom v (bs ++ [b]) = stepsN (sumFrom v bs ^^^ b) 8 := by simp [sumFrom]
theorem sumFrom_lt : ∀ (bs : List Nat) {v : Nat}, v < 4294967296 → (∀ b ∈ bs, b < 256) → sumFrom v bs < 4294967296
  | [], v, h, _ => h
  | b :: bs, v, h, hb => by
    refine sumFrom_lt bs (stepsN_lt 8 (Nat.xor_lt_two_pow (n := 32) h ?_)) fun x hx => hb x (by simp [hx])
    have := hb b (by simp)
    omega
theorem sumL_lt {bs : List Nat} (hb : ∀ b ∈ bs, b < 256) : sumL bs < 4294967296 := Nat.xor_lt_two_pow (n := 32) (by decide) (sumFrom_lt bs (by decide) hb)
end Go.Wm
