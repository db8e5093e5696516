/-
  append(b, s...): a text's bytes behind a row of the call's own. Conditions: that there is room in memory.
-/
import Derived.Test.YtjonlpdnhbnmmaaCoA
import Derived.Test.YtjonlpdnhbnmmaaDat
import Derived.Test.YtjonlpdnhbnmmaaCoB
import Derived.Test.YtjonlpdnhbnmmaaA2
import Derived.Lib.AppendStr
set_option linter.all false
namespace Go.Wm
open Go.RowKit

theorem wrap_uns {kd : IntKind} (h : kd.signed = false) (n : Int) : kd.wrap n = n % (2 ^ kd.bits : Int) := by simp [IntKind.wrap, h]
theorem wrap_nat {kd : IntKind} (h : kd.signed = false) (n : Nat) : kd.wrap (n : Int) = ((n % 2 ^ kd.bits : Nat) : Int) := by
  rw [wrap_uns h]; simp
theorem ofInt_nat (B n : Nat) : BitVec.ofInt B (n : Int) = BitVec.ofNat B n := by simp
section
variable {P : Program} {o : Oper} {e : Env} {k : PH} {t t' : TypeId} {x y : Operand}
/-- Of a kind without a sign. -/
theorem d_xorN {kd : IntKind} {a b : Nat} (hs : kd.signed = false) (hop : o.op = .binOp .xor t x y t') (hx : opv e x = some (.int kd (a : Int))) (hy : opv e y = some (.int kd (b : Int))) (ha : a < 2 ^ kd.bits) (hb : b < 2 ^ kd.bits) : Det P e k o (.int kd ((a ^^^ b : Nat) : Int)) := by
  intro ev w hev _
  rw [hop] at hev
  have e1 := hev x (by simp [Op.operands]) _ hx
  have e2 := hev y (by simp [Op.operands]) _ hy
  have hlt : a ^^^ b < 2 ^ kd.bits := Nat.xor_lt_two_pow ha hb
  have h6 : (Op.intBits .xor kd (a : Int) (b : Int)).run P w = .ok (.int kd ((a ^^^ b : Nat) : Int)) w := by
    show Result.ok (Value.int kd (kd.wrap (((BitVec.ofInt kd.bits (a : Int) ^^^ BitVec.ofInt kd.bits (b : Int)).toNat : Nat) : Int))) w = _
    rw [ofInt_nat, ofInt_nat, BitVec.toNat_xor, BitVec.toNat_ofNat, BitVec.toNat_ofNat, Nat.mod_eq_of_lt ha, Nat.mod_eq_of_lt hb, wrap_nat hs, Nat.mod_eq_of_lt hlt]
  simp [execOp, hop, e1, e2, eqGuard, binOp, h6]
theorem d_andN {kd : IntKind} {a b : Nat} (hs : kd.signed = false) (hop : o.op = .binOp .and t x y t') (hx : opv e x = some (.int kd (a : Int))) (hy : opv e y = some (.int kd (b : Int))) (ha : a < 2 ^ kd.bits) (hb : b < 2 ^ kd.bits) : Det P e k o (.int kd ((a &&& b : Nat) : Int)) := by
  intro ev w hev _
  rw [hop] at hev
  have e1 := hev x (by simp [Op.operands]) _ hx
  have e2 := hev y (by simp [Op.operands]) _ hy
  have hlt : a &&& b < 2 ^ kd.bits := Nat.lt_of_le_of_lt Nat.and_le_left ha
  have h6 : (Op.intBits .and kd (a : Int) (b : Int)).run P w = .ok (.int kd ((a &&& b : Nat) : Int)) w := by
    show Result.ok (Value.int kd (kd.wrap (((BitVec.ofInt kd.bits (a : Int) &&& BitVec.ofInt kd.bits (b : Int)).toNat : Nat) : Int))) w = _
    rw [ofInt_nat, ofInt_nat, BitVec.toNat_and, BitVec.toNat_ofNat, BitVec.toNat_ofNat, Nat.mod_eq_of_lt ha, Nat.mod_eq_of_lt hb, wrap_nat hs, Nat.mod_eq_of_lt hlt]
  simp [execOp, hop, e1, e2, eqGuard, binOp, h6]
theorem d_orN {kd : IntKind} {a b : Nat} (hs : kd.signed = false) (hop : o.op = .binOp .or t x y t') (hx : opv e x = some (.int kd (a : Int))) (hy : opv e y = some (.int kd (b : Int))) (ha : a < 2 ^ kd.bits) (hb : b < 2 ^ kd.bits) : Det P e k o (.int kd ((a ||| b : Nat) : Int)) := by
  intro ev w hev _
  rw [hop] at hev
  have e1 := hev x (by simp [Op.operands]) _ hx
  have e2 := hev y (by simp [Op.operands]) _ hy
  have hlt : a ||| b < 2 ^ kd.bits := Nat.or_lt_two_pow ha hb
  have h6 : (Op.intBits .or kd (a : Int) (b : Int)).run P w = .ok (.int kd ((a ||| b : Nat) : Int)) w := by
    show Result.ok (Value.int kd (kd.wrap (((BitVec.ofInt kd.bits (a : Int) ||| BitVec.ofInt kd.bits (b : Int)).toNat : Nat) : Int))) w = _
    rw [ofInt_nat, ofInt_nat, BitVec.toNat_or, BitVec.toNat_ofNat, BitVec.toNat_ofNat, Nat.mod_eq_of_lt ha, Nat.mod_eq_of_lt hb, wrap_nat hs, Nat.mod_eq_of_lt hlt]
  simp [execOp, hop, e1, e2, eqGuard, binOp, h6]
theorem d_shlN {kd ky : IntKind} {a b : Nat} (hs : kd.signed = false) (hop : o.op = .binOp .shl t x y t') (hx : opv e x = some (.int kd (a : Int))) (hy : opv e y = some (.int ky (b : Int))) (hb : b ≤ kd.bits) : Det P e k o (.int kd ((a * 2 ^ b % 2 ^ kd.bits : Nat) : Int)) := by
  intro ev w hev _
  rw [hop] at hev
  have e1 := hev x (by simp [Op.operands]) _ hx
  have e2 := hev y (by simp [Op.operands]) _ hy
  have h0 : ¬ ((b : Int) < 0) := by omega
  have h1 : min (b : Int).toNat kd.bits = b := by simp; exact Nat.min_eq_left hb
  have h6 : (Op.shift .shl kd (a : Int) ky (b : Int)).run P w = .ok (.int kd ((a * 2 ^ b % 2 ^ kd.bits : Nat) : Int)) w := by
    unfold Op.shift
    rw [if_neg h0]
    show Result.ok (Value.int kd (kd.wrap ((a : Int) * 2 ^ (min (b : Int).toNat kd.bits)))) w = _
    rw [h1, show ((a : Int) * 2 ^ b) = ((a * 2 ^ b : Nat) : Int) by simp, wrap_nat hs]
  simp [execOp, hop, e1, e2, eqGuard, binOp, h6]
theorem d_shrN {kd ky : IntKind} {a b : Nat} (hop : o.op = .binOp .shr t x y t') (hx : opv e x = some (.int kd (a : Int))) (hy : opv e y = some (.int ky (b : Int))) (hb : b ≤ kd.bits) : Det P e k o (.int kd ((a / 2 ^ b : Nat) : Int)) := by
  intro ev w hev _
  rw [hop] at hev
  have e1 := hev x (by simp [Op.operands]) _ hx
  have e2 := hev y (by simp [Op.operands]) _ hy
  have h0 : ¬ ((b : Int) < 0) := by omega
  have h1 : min (b : Int).toNat kd.bits = b := by simp; exact Nat.min_eq_left hb
  have h6 : (Op.shift .shr kd (a : Int) ky (b : Int)).run P w = .ok (.int kd ((a / 2 ^ b : Nat) : Int)) w := by
    unfold Op.shift
    rw [if_neg h0]
    show Result.ok (Value.int kd ((a : Int).fdiv (2 ^ (min (b : Int).toNat kd.bits)))) w = _
    rw [h1]
    congr 2
    rw [Int.fdiv_eq_ediv_of_nonneg _ (by exact Int.pow_nonneg (by decide))]
    simp
  simp [execOp, hop, e1, e2, eqGuard, binOp, h6]
/-- A whole number, shifted to the right by 63: its sign. -/
theorem d_sign {ky : IntKind} {a : Int} (ha : -9223372036854775808 ≤ a ∧ a ≤ 9223372036854775807) (hop : o.op = .binOp .shr t x y t') (hx : opv e x = some (.int .i64 a)) (hy : opv e y = some (.int ky 63)) : Det P e k o (.int .i64 (if a < 0 then -1 else 0)) := by
  intro ev w hev _
  rw [hop] at hev
  have e1 := hev x (by simp [Op.operands]) _ hx
  have e2 := hev y (by simp [Op.operands]) _ hy
  have h6 : (Op.shift .shr .i64 a ky 63).run P w = .ok (.int .i64 (if a < 0 then -1 else 0)) w := by
    show Result.ok (Value.int .i64 (a.fdiv 9223372036854775808)) w = _
    congr 2
    rw [Int.fdiv_eq_ediv_of_nonneg _ (by decide)]
    split <;> omega
  simp [execOp, hop, e1, e2, eqGuard, binOp, h6]
theorem d_mulk {kd : IntKind} {a b : Int} (hop : o.op = .binOp .mul t x y t') (hx : opv e x = some (.int kd a)) (hy : opv e y = some (.int kd b)) : Det P e k o (.int kd (kd.wrap (a * b))) := by
  intro ev w hev _
  rw [hop] at hev
  have e1 := hev x (by simp [Op.operands]) _ hx
  have e2 := hev y (by simp [Op.operands]) _ hy
  simp [execOp, hop, e1, e2, eqGuard, binOp, Op.intArith]
theorem d_negk {kd : IntKind} {a : Int} (hop : o.op = .unOp .neg t x) (hx : opv e x = some (.int kd a)) : Det P e k o (.int kd (kd.wrap (0 - a))) := by
  intro ev w hev _
  rw [hop] at hev
  have e1 := hev x (by simp [Op.operands]) _ hx
  simp [execOp, hop, e1, Op.unary, Op.intArith]
/-- All bits turned. -/
theorem d_notN {kd : IntKind} {a : Nat} (hs : kd.signed = false) (hop : o.op = .unOp .xor t x) (hx : opv e x = some (.int kd (a : Int))) (ha : a < 2 ^ kd.bits) : Det P e k o (.int kd (((2 ^ kd.bits - 1) ^^^ a : Nat) : Int)) := by
  intro ev w hev _
  rw [hop] at hev
  have e1 := hev x (by simp [Op.operands]) _ hx
  have hpos : 0 < 2 ^ kd.bits := Nat.two_pow_pos _
  have hb : 2 ^ kd.bits - 1 < 2 ^ kd.bits := by omega
  have hlt : (2 ^ kd.bits - 1) ^^^ a < 2 ^ kd.bits := Nat.xor_lt_two_pow hb ha
  have hm : kd.max = ((2 ^ kd.bits - 1 : Nat) : Int) := by
    unfold IntKind.max
    rw [hs]
    simp only [Bool.false_eq_true, if_false]
    rw [Int.ofNat_sub hpos]
    simp
  have h6 : (Op.intBits .xor kd kd.max (a : Int)).run P w = .ok (.int kd (((2 ^ kd.bits - 1) ^^^ a : Nat) : Int)) w := by
    rw [hm]
    show Result.ok (Value.int kd (kd.wrap (((BitVec.ofInt kd.bits ((2 ^ kd.bits - 1 : Nat) : Int) ^^^ BitVec.ofInt kd.bits (a : Int)).toNat : Nat) : Int))) w = _
    rw [ofInt_nat, ofInt_nat, BitVec.toNat_xor, BitVec.toNat_ofNat, BitVec.toNat_ofNat, Nat.mod_eq_of_lt ha, Nat.mod_eq_of_lt hb, wrap_nat hs, Nat.mod_eq_of_lt hlt]
  simp [execOp, hop, e1, Op.unary, hs, h6]
/-- A whole number becomes one of another kind. -/
theorem d_conv {src dst : TypeId} {d : TypeDesc} {kd kx : IntKind} {a : Int} [hs : TyU P src d] [hd : TyU P dst (.int kd)] (hop : o.op = .convert src dst x) (hx : opv e x = some (.int kx a)) : Det P e k o (.int kd (kd.wrap a)) := by
  intro ev w hev _
  rw [hop] at hev
  have e1 := hev x (by simp [Op.operands]) _ hx
  have : (convert src dst (.int kx a)).run P w = .ok (.int kd (kd.wrap a)) w := by
    simp [convert, run_underlying hs.eq, run_underlying hd.eq, Conv.intToInt]
  simp [execOp, hop, e1, this]
/-- A place in an array. -/
theorem d_idxA {et : TypeId} {ix : Operand} {b off L i sz bs : Nat} {z : Value} {kd : IntKind} [h : TyU P t (.array L et)] [hi : TyI P et sz bs z] (hop : o.op = .indexAddr t x ix) (hx : opv e x = some (.pointer (some ⟨b, off, none⟩)))
    (hy : opv e ix = some (.int kd (i : Int))) (hlt : i < L) : Det P e k o (.pointer (some ⟨b, off + i * sz, none⟩)) := by
  intro ev w hev _
  rw [hop] at hev
  obtain ⟨inf, hi1, hi2, _⟩ := hi.eq
  have h3 : (i : Int) < (L : Int) := by omega
  simp [execOp, hop, hev x (by simp [Op.operands]) _ hx, hev ix (by simp [Op.operands]) _ hy, Instr.indexAt, Instr.sureAddr, asIntOf, run_underlying h.eq, h3, run_size hi1, hi2, addr_add, Nat.not_le.2 hlt, hlt]
end
end Go.Wm
namespace Go.Wm
open Go.RowKit Go.Proofs
attribute [local irreducible] RG CG EG WA Loc Det Alc CT Exit.then Exit.inBlock Code.wp bodyPost

/-- A byte. -/
def tU8 : Ty Nat where
  sz := 1
  rep := fun _ cs x => cs = [.int .u8 (x : Int)] ∧ x < 256
  len := fun h => by rw [h.1]; rfl
  mono := fun _ h => h
abbrev u8V (x : Nat) : List Value := [.int .u8 (x : Int)]
/-- Bytes in a row of the call's own. -/
abbrev BRow (N : Nat) (k : PH) (v : Value) (bs : List Nat) : Prop := Row N k 5 1 v bs.length (bs.flatMap u8V)
def Bytes (bs : List Nat) : Prop := ∀ x ∈ bs, x < 256
theorem Bytes.append {a b : List Nat} (ha : Bytes a) (hb : Bytes b) : Bytes (a ++ b) := fun x hx => (List.mem_append.1 hx).elim (ha x) (hb x)
theorem BRow.sl {N : Nat} {k : PH} {v : Value} {bs : List Nat} (h : BRow N k v bs) (hb : Bytes bs) : ∃ a c, v = .slice a bs.length c ∧ Sl tU8 k a c bs := Row.sl (T := tU8) h fun x hx => ⟨rfl, hb x hx⟩
theorem pieces_u8 {k : PH} {css : List (List Value)} {bs : List Nat} (h : Pieces tU8 k css bs) : css.flatten = bs.flatMap u8V := by
  have : css = bs.map u8V := by
    apply List.ext_getElem (by rw [h.1]; simp)
    intro i h1 h2
    simp only [List.length_map] at h2
    have := (h.2 i css[i] bs[i] (List.getElem?_eq_getElem h1) (List.getElem?_eq_getElem h2)).1
    rw [this]
    simp
  rw [this, List.flatMap]
theorem sl_bytes {k : PH} {a : Option Addr} {c : Nat} {bs : List Nat} (h : Sl tU8 k a c bs) : Bytes bs := fun x hx => by
  obtain ⟨i, hi, rfl⟩ := List.getElem_of_mem hx
  obtain ⟨_, _, _, _, ⟨_, h⟩, _⟩ := h.el i bs[i] (List.getElem?_eq_getElem hi)
  exact h
theorem u8_one (k : PH) (cs : List Value) (x : Nat) (h : tU8.rep k cs x) : ∀ u ∈ cs, u.oneCell' = true := by
  rw [h.1]
  simp [Value.oneCell']

/-- A number's code. -/
def zigN (n : Int) : Nat := if n < 0 then (2 * (-(n + 1)) + 1).toNat else (2 * n).toNat
theorem zigN_lt {n : Int} (h : I64 n) : zigN n < 18446744073709551616 := by
  unfold zigN I64 at *
  split <;> omega
def varL (z : Nat) : List Nat := if h : z < 128 then [z] else (128 + z % 128) :: varL (z / 128)
termination_by z
decreasing_by omega
theorem varL_lt {z : Nat} (h : z < 128) : varL z = [z] := by rw [varL, dif_pos h]
theorem varL_ge {z : Nat} (h : ¬ z < 128) : varL z = (128 + z % 128) :: varL (z / 128) := by rw [varL, dif_neg h]
theorem varL_bytes (z : Nat) : Bytes (varL z) := by
  induction z using Nat.strongRecOn with
  | _ z ih =>
    by_cases h : z < 128
    · rw [varL_lt h]
      intro x hx
      simp at hx
      omega
    · rw [varL_ge h]
      intro x hx
      rcases List.mem_cons.1 hx with rfl | hx
      · omega
      · exact ih (z / 128) (by omega) x hx
theorem varL_len (m : Nat) : ∀ z, z < 128 ^ (m + 1) → (varL z).length ≤ m + 1 := by
  induction m with
  | zero =>
    intro z h
    rw [varL_lt (by omega)]
    simp
  | succ m ih =>
    intro z h
    by_cases hz : z < 128
    · rw [varL_lt hz]; simp
    · rw [varL_ge hz]
      have := ih (z / 128) (by rw [Nat.div_lt_iff_lt_mul (by decide)]; rw [Nat.pow_succ] at h; exact h)
      simp only [List.length_cons]
      omega
theorem varL_ten {z : Nat} (h : z < 18446744073709551616) : (varL z).length ≤ 10 := varL_len 9 z (by omega)
theorem wrap64 {n : Nat} (h : n < 18446744073709551616) : IntKind.u64.wrap (n : Int) = (n : Int) := by
  rw [wrap_nat rfl]
  show ((n % 18446744073709551616 : Nat) : Int) = n
  rw [Nat.mod_eq_of_lt h]
theorem wrap8 (n : Nat) : IntKind.u8.wrap (n : Int) = ((n % 256 : Nat) : Int) := wrap_nat rfl n
theorem u8_snoc (bs : List Nat) (x : Nat) : (bs ++ [x]).flatMap u8V = bs.flatMap u8V ++ [.int .u8 (x : Int)] := by simp

section
variable {F : Fr} {n : Nat} {ops : Array Oper} {Q : Exit → Act → World → Prop} {rest : List Oper} {o : Oper} {e : Env} {k : PH}
/-- A byte more. -/
theorem rapB {d : Nat} {x y : Operand} {v : Value} {bs : List Nat} {q b c : Nat} (hd : o.dst = some d) (hf : Nat.blt d n = true) (hdet : det e = true) (hg : o.guard = none)
    (hop : o.op = .call { callee := .builtin .append, args := #[x, y], argTypes := #[129, 129] }) (hx : opv e x = some v) (hy : opv e y = some (.slice (some ⟨b, 0, none⟩) 1 c))
    (hrow : BRow F.w0.heap.size k v bs) (hc : Cells k b 0 [.int .u8 (q : Int)]) (hb : bs.length ≤ 1000000000)
    (h : ∀ v' k', BRow F.w0.heap.size k' v' (bs ++ [q]) → Turn k k' v v' → RG Try.prog F n ops Q rest ((d, .is v') :: e) k') : RG Try.prog F n ops Q (o :: rest) e k := by
  refine rap hd hf hdet hg hop hx hy hrow hc rfl (by simp [Value.oneCell']) rfl rfl (by unfold maxLen; omega) (by omega) ?_
  intro v' k' hr ht
  refine h v' k' ?_ ht
  unfold BRow
  rw [u8_snoc, List.length_append]
  exact hr
/-- Bytes that are read behind others. -/
theorem rapsB {h : PH} {d : Nat} {x y : Operand} {v : Value} {bs cs : List Nat} {a : Option Addr} {c : Nat} (hd : o.dst = some d) (hf : Nat.blt d n = true) (hdet : det e = true) (hg : o.guard = none)
    (hop : o.op = .call { callee := .builtin .append, args := #[x, y], argTypes := #[129, 129] }) (hx : opv e x = some v) (hy : opv e y = some (.slice a cs.length c))
    (hrow : BRow F.w0.heap.size k v bs) (hs : Sl tU8 h a c cs) (hle : Le h k) (hb : bs.length + cs.length ≤ 1000000000)
    (hh : ∀ v' k', BRow F.w0.heap.size k' v' (bs ++ cs) → Turn k k' v v' → RG Try.prog F n ops Q rest ((d, .is v') :: e) k') : RG Try.prog F n ops Q (o :: rest) e k := by
  refine raps2 (T := tU8) (sz := 1) hd hf hdet hg hop hx hy rfl hrow hs hle u8_one rfl rfl (by unfold maxLen; omega) (by omega) ?_
  intro v' k' css hp hr ht
  rw [pieces_u8 hp] at hr
  refine hh v' k' ?_ ht
  unfold BRow
  rw [List.flatMap_append, List.length_append]
  exact hr
end
end Go.Wm
namespace Go.Wm
open Go.RowKit
section
variable {P : Program} {F : Fr} {n : Nat} {ops : Array Oper} {Q : Exit → Act → World → Prop} {rest : List Oper} {o : Oper} {e : Env} {k : PH}
/-- A row that has grown, whatever it is known of the worlds. -/
theorem row_step {w w' : World} {et sz m m' : Nat} {v v' : Value} {xs xs' : List Value} (hs : St F k w) (hrow : Row F.w0.heap.size k et sz v m xs) (h1 : Row F.w0.heap.size (wPH w') et sz v' m' xs')
    (hsame : w'.os = w.os ∧ w'.tape = w.tape ∧ w'.output = w.output ∧ w.heap.size ≤ w'.heap.size) (hold : ∀ i, i < w.heap.size → v.ownBlock ≠ some i → w'.heap[i]? = w.heap[i]?) (hown : ∀ g, v'.ownBlock = some g → v.ownBlock = some g ∨ w.heap.size ≤ g) :
    ∃ k', Row F.w0.heap.size k' et sz v' m' xs' ∧ Turn k k' v v' ∧ St F k' w' := by
  have hb : ∀ b o, k b = some o → b < w.heap.size := fun b o h => hs.sub.lt h
  have hvN : ∀ g, v.ownBlock = some g → F.w0.heap.size ≤ g := fun g hg => (hrow.block hg).1
  have hv'N : ∀ g, v'.ownBlock = some g → F.w0.heap.size ≤ g := fun g hg => (h1.block hg).1
  refine ⟨fun b => if v'.ownBlock = some b then w'.heap[b]? else if v.ownBlock = some b then none else k b, h1.at fun g hg => by simp [hg, wPH], fun h hle hap => ⟨fun b ob hbo => ?_, fun g hg => ?_⟩, ?_⟩
  · have n1 : v.ownBlock ≠ some b := fun e => by rw [hap b e] at hbo; cases hbo
    have n2 : v'.ownBlock ≠ some b := fun e => by
      rcases hown b e with e | e
      · exact n1 e
      · have := hb b ob (hle b ob hbo); omega
    simp only [n1, n2, if_false]
    exact hle b ob hbo
  · rcases hown g hg with e | e
    · exact hap g e
    · cases hh : h g with
      | none => rfl
      | some ob => have := hb g ob (hle g ob hh); omega
  · refine ⟨hsame.1.trans hs.os, hsame.2.1.trans hs.tape, hsame.2.2.1.trans hs.output, Nat.le_trans hs.size hsame.2.2.2, fun b hlt hmu => ?_, fun b ob hbo => ?_, fun b hlt hmu => ?_⟩
    · have n1 : v.ownBlock ≠ some b := fun e => by have := hvN b e; omega
      rw [hold b (Nat.lt_of_lt_of_le hlt hs.size) n1]
      exact hs.old b hlt hmu
    · by_cases e1 : v'.ownBlock = some b
      · simpa [e1] using hbo
      · by_cases e2 : v.ownBlock = some b
        · simp [e1, e2] at hbo
        · simp only [e1, e2, if_false] at hbo
          rw [hold b (hb b ob hbo) e2]
          exact hs.sub b ob hbo
    · have n1 : v.ownBlock ≠ some b := fun e => by have := hvN b e; omega
      have n2 : v'.ownBlock ≠ some b := fun e => by have := hv'N b e; omega
      simp only [n1, n2, if_false]
      exact hs.keep b hlt hmu
theorem app_str {N : Nat} {t u ty et : TypeId} {v : Value} {m : Nat} {xs : List Value} [ht : TyU P t (.slice et)] [hu : TyU P u .string] [hi : TyI P et 1 1 (.int .u8 0)] (w : World) (s : ByteArray)
    (hrow : Row N (wPH w) et 1 v m xs) (hN : N ≤ w.heap.size) (hm : m + s.size ≤ 140737488355328) :
    ∃ v' w', (Builtin.append_ #[t, u] ty #[v, .string s]).run P w = .ok v' w' ∧ Row N (wPH w') et 1 v' (m + s.size) (xs ++ Lib.strCells s) ∧ (w'.os = w.os ∧ w'.tape = w.tape ∧ w'.output = w.output ∧ w.heap.size ≤ w'.heap.size) ∧
      (∀ i, i < w.heap.size → v.ownBlock ≠ some i → w'.heap[i]? = w.heap[i]?) ∧ ∀ g, v'.ownBlock = some g → v.ownBlock = some g ∨ w.heap.size ≤ g := by
  obtain ⟨i, hi1, hi2, hi3, hi4⟩ := hi.eq
  have hown : w.ownsRow N et 1 v m xs := hrow
  obtain ⟨v', w', hr, h1, h2, h3⟩ := Lib.run_append_own_string (P := P) w N t u ty et i ht.eq hu.eq hi1 hi4 hi2 hi3 v m xs hown s (by unfold maxLen; omega) hm hN
  refine ⟨v', w', hr, h1, ⟨h2.os, h2.tape, h2.output, h2.size⟩, fun i hi hne => h2.block i hi (fun e => hne e.symm), fun g hg => ?_⟩
  rcases hrow.2 with ⟨rfl, rfl⟩ | ⟨g0, cap, cur, rfl, hgN, hgw, hmc, hcm, hcs, htake⟩
  · by_cases hz : s.size = 0
    · have := h3.2 ⟨rfl, hz⟩
      rw [this] at hg
      cases hg
    · have hr2 := run_append_nil_string (P := P) w t u ty et i (.int .u8 0) ht.eq hu.eq hi1 hi4 s (by omega) (by omega) (by rw [hi3]; omega)
      rw [hr2] at hr
      cases hr
      exact .inr (by simp [Value.ownBlock] at hg; omega)
  · have hgw' : w.heap[g0]? = some (.cells cur et (0, 0)) := hgw
    by_cases hroom : m + s.size ≤ cap
    · have hr2 := Lib.run_append_room_string (P := P) w t u ty et i ht.eq hu.eq hi1 hi2 g0 m cap cur hgw' s hroom (by omega)
      rw [hr2] at hr
      cases hr
      exact .inl hg
    · have holds : ∀ j u, xs[j]? = some u → w.cell? ((⟨g0, 0, none⟩ : Addr).add j) = some u := hown.cells (g := g0) rfl
      have hr2 := Lib.run_append_grow_string (P := P) w t u ty et i (.int .u8 0) ht.eq hu.eq hi1 hi4 ⟨g0, 0, none⟩ m cap xs (by rw [hi2]; exact hrow.1) holds s (by omega) (by omega) (by rw [hi3]; exact growslice_fits (by omega) (by omega))
      rw [hr2] at hr
      cases hr
      exact .inr (by simp [Value.ownBlock] at hg; omega)
/-- 'append(b, s...)'. -/
theorem rapS {t u et : TypeId} {d : Nat} {x y : Operand} {v : Value} {m : Nat} {s : ByteArray} {xs : List Value} (hd : o.dst = some d) (hf : Nat.blt d n = true) (hdet : det e = true) (hg : o.guard = none) [ht : TyU P t (.slice et)] [hu : TyU P u .string] [hi : TyI P et 1 1 (.int .u8 0)]
    (hop : o.op = .call { callee := .builtin .append, args := #[x, y], argTypes := #[t, u] }) (hx : opv e x = some v) (hy : opv e y = some (.string s))
    (hrow : Row F.w0.heap.size k et 1 v m xs) (hm : m + s.size ≤ 140737488355328)
    (h : ∀ v' k', Row F.w0.heap.size k' et 1 v' (m + s.size) (xs ++ Lib.strCells s) → Turn k k' v v' → RG P F n ops Q rest ((d, .is v') :: e) k') : RG P F n ops Q (o :: rest) e k := by
  intro a w ha hs
  unfold wpList
  rw [if_pos (by simp [Region.wanted, hg])]
  have ev := evs_of (ops := ops) (o := o) (ag_looks ha)
  rw [hop] at ev
  have e1 := ev x (by simp [Op.operands, Call.operands]) _ hx
  have e2 := ev y (by simp [Op.operands, Call.operands]) _ hy
  have hroww : Row F.w0.heap.size (wPH w) et 1 v m xs := hrow.le hs.sub
  obtain ⟨v', w', hr, h1, h2, h3, h4⟩ := app_str (P := P) (t := t) (u := u) (ty := o.type) w s hroww hs.size hm
  have hexec : (execOp a.eval o).run P w = .ok (.value v') w' := by
    simp [execOp, hop, resolve, invoke, builtin, e1, e2, hr]
  obtain ⟨k', g1, g2, g3⟩ := row_step hs hrow h1 h2 h3 h4
  refine .inl (ex_value hexec _ _ ?_)
  rintro q w'' ⟨rfl, rfl⟩
  rw [hd]
  exact h _ k' g1 g2 _ _ ((ha.heap (k' := k') hdet).put (d := some d) hf rfl) g3
end
end Go.Wm
