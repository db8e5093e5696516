/-
  Numbers and texts as bytes, the program's and the document's. Conditions: that what is handed in reads as data.
-/
import Derived.Test.YtjonlpdnhbnmmaaO1
import Derived.Test.YtjonlpdnhbnmmaaAppS
set_option linter.all false
namespace Go.Wm
open Go.RowKit Go.Proofs
attribute [local irreducible] RG CG EG WA Loc Det Alc CT Exit.then Exit.inBlock Code.wp bodyPost

/-- A text's bytes. -/
def strB (s : ByteArray) : List Nat := s.data.toList.map (·.toNat)
theorem strB_len (s : ByteArray) : (strB s).length = s.size := by
  unfold strB
  rw [List.length_map, Array.length_toList]
  rfl
theorem strB_bytes (s : ByteArray) : Bytes (strB s) := fun x hx => by
  unfold strB at hx
  obtain ⟨b, _, rfl⟩ := List.mem_map.1 hx
  exact b.toNat_lt
theorem strB_cells (s : ByteArray) : Lib.strCells s = (strB s).flatMap u8V := by
  unfold Lib.strCells strB
  rw [List.flatMap_map]
  induction s.data.toList with
  | nil => rfl
  | cons b l ih => rw [List.map_cons, List.flatMap_cons, ← ih]; rfl
def textL (s : ByteArray) : List Nat := varL (zigN (s.size : Int)) ++ strB s
set_option maxHeartbeats 400000 in
theorem refPutText_ct {k : PH} {a : Option Addr} {c : Nat} {bs : List Nat} {s : ByteArray} (h : Sl tU8 k a c bs) (hb : bs.length ≤ 10000000) (hs : s.size ≤ 100000000) :
    CTN Try.prog 148 #[.slice a bs.length c, .string s] k (fun N k' v => BRow N k' v (bs ++ textL s)) := by
  refine ctn_of_body (l := [_, _]) Try.func148 rfl Try.ntmps148 (by simp) (fun N k k' v hle h => h.le hle) fun F hF0 hFm => ?_
  repeat (first | refine cg_seq ?_ | refine cg_region ?_ | refine rg_nil ?_ | refine eg_then ?_ | refine qsp ?_ | refine qsn ?_ | refine qsa ?_ | refine qss ?_ | refine qsi ?_ | refine qsz ?_ | refine qsl ?_ | refine qsg ?_ | refine qsf ?_ | refine qsd ?_ | refine qsE ?_ | refine qsX ?_ | refine qse ?_ | refine qsx ?_ | refine qso ?_ | refine cg_cond_true rfl ?_ | refine cg_cond_false rfl ?_ | refine cg_skip ?_ | refine cg_block ?_ | refine eg_in_normal ?_ | refine cg_ret ?_ | refine eg_then_ret ?_ | refine eg_in_ret ?_ | refine cg_exit ?_ | refine eg_then_exit ?_ | refine eg_in_exit ?_ | refine eg_in_other rfl ?_)
  refine rs rfl rfl (loc_det rfl (d_len_str rfl rfl)) ?_
  refine rvn rfl rfl rfl rfl rfl rfl rfl (refPutVar_ct h (by omega) (by unfold I64; omega)) ?_
  rintro N1 k1 v1 hN hf1 hle1 hrow1
  repeat (first | refine cg_seq ?_ | refine cg_region ?_ | refine rg_nil ?_ | refine eg_then ?_ | refine qsp ?_ | refine qsn ?_ | refine qsa ?_ | refine qss ?_ | refine qsi ?_ | refine qsz ?_ | refine qsl ?_ | refine qsg ?_ | refine qsf ?_ | refine qsd ?_ | refine qsE ?_ | refine qsX ?_ | refine qse ?_ | refine qsx ?_ | refine qso ?_ | refine cg_cond_true rfl ?_ | refine cg_cond_false rfl ?_ | refine cg_skip ?_ | refine cg_block ?_ | refine eg_in_normal ?_ | refine cg_ret ?_ | refine eg_then_ret ?_ | refine eg_in_ret ?_ | refine cg_exit ?_ | refine eg_then_exit ?_ | refine eg_in_exit ?_ | refine eg_in_other rfl ?_)
  have hvl := varL_ten (zigN_lt (n := (s.size : Int)) (by unfold I64; omega))
  refine rapS rfl rfl rfl rfl rfl rfl rfl (hrow1.N_le hN) (by rw [List.length_append]; omega) ?_
  intro v2 k2 hrow2 ht2
  repeat (first | refine cg_seq ?_ | refine cg_region ?_ | refine rg_nil ?_ | refine eg_then ?_ | refine qsp ?_ | refine qsn ?_ | refine qsa ?_ | refine qss ?_ | refine qsi ?_ | refine qsz ?_ | refine qsl ?_ | refine qsg ?_ | refine qsf ?_ | refine qsd ?_ | refine qsE ?_ | refine qsX ?_ | refine qse ?_ | refine qsx ?_ | refine qso ?_ | refine cg_cond_true rfl ?_ | refine cg_cond_false rfl ?_ | refine cg_skip ?_ | refine cg_block ?_ | refine eg_in_normal ?_ | refine cg_ret ?_ | refine eg_then_ret ?_ | refine eg_in_ret ?_ | refine cg_exit ?_ | refine eg_then_exit ?_ | refine eg_in_exit ?_ | refine eg_in_other rfl ?_)
  refine eg_return rfl rfl ?_
  rw [strB_cells, ← strB_len s, ← List.length_append, ← List.flatMap_append] at hrow2
  unfold textL
  rw [← List.append_assoc, ← strB_len s]
  exact hrow2
end Go.Wm
