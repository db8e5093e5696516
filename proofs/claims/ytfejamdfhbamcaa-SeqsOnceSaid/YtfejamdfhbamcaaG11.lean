/-
  Producers, the program's: what is put off while producers are read. Conditions: none.
-/
import Derived.Test.YtfejamdfhbamcaaM4
import Derived.Test.YtfejamdfhbamcaaE3
import Derived.Test.YtfejamdfhbamcaaRec
set_option linter.all false
namespace Go.Wm
open Go.RowKit Go.Proofs
attribute [local irreducible] RG CG EG WA Loc Det Alc CT Exit.then Exit.inBlock Code.wp bodyPost
abbrev Rdr (k : PH) (br : Nat) (a : Option Addr) (c : Nat) (bs : List Nat) (p : Int) : Prop := k br = some (.cells #[.slice a bs.length c, .int .i64 p] 189 (0, 0))
theorem numR_some {bs : List Nat} {p x q : Int} (h : numR bs p = some (x, q)) : getVarR bs p = (x, q, 0) := by
  unfold numR at h
  split at h
  · rename_i h1
    simp only [Option.some.injEq, Prod.mk.injEq] at h
    obtain ⟨h2, h3⟩ := h
    rw [← h2, ← h3, ← h1]
  · cases h
theorem numR_none {bs : List Nat} {p : Int} (h : numR bs p = none) : (getVarR bs p).2.2 ≠ 0 := by
  unfold numR at h
  split at h
  · cases h
  · assumption
set_option maxHeartbeats 1000000 in
theorem nextOk_ctm {k : PH} {br : Nat} {a : Option Addr} {c : Nat} {bs : List Nat} {p x q : Int} (hk : Rdr k br a c bs p) (h : Sl tU8 k a c bs) (hp : I64 p) (hl : bs.length ≤ 100000000) (hn : numR bs p = some (x, q)) :
    CTM Try.prog 157 #[.pointer (some ⟨br, 0, none⟩)] k (fun b => b = br) (fun k' v => v = .int .i64 x ∧ Rdr k' br a c bs q) := by
  refine ctm_of_body (l := [_]) Try.func157 rfl Try.ntmps157 (by simp) fun F hF0 hFm hlt => ?_
  have hv := numR_some hn
  have hc := cells_at (vs := [.slice a bs.length c, .int .i64 p]) hk rfl
  have c1 := hc.one (i := 1) rfl
  have c0 := hc.one (i := 0) rfl
  repeat (first | refine cg_seq ?_ | refine cg_region ?_ | refine rg_nil ?_ | refine eg_then ?_ | refine qsp ?_)
  refine cg_any (by kernel_rfl) rfl ?_
  repeat (first | refine qwp ?_ | refine qwl ?_ | refine qwf ?_)
  refine ws rfl (loc_call_is rfl rfl rfl rfl (getVar_ct h hp hl)) ?_
  rw [hv]
  unfold varV
  repeat (first | refine qwp ?_ | (refine wn rfl ?_; refine eg_then ?_))
  repeat (first | refine cg_seq ?_ | refine cg_region ?_ | refine rg_nil ?_ | refine eg_then ?_ | refine qsp ?_ | refine qsf ?_ | refine cg_cond_false rfl ?_ | refine cg_skip ?_)
  refine rw0 rfl rfl rfl rfl rfl rfl rfl rfl hk (show 0 + 1 < 2 by decide) (.inr (by rw [hFm])) ?_; intro k2 ht2 hk2
  repeat (first | refine cg_seq ?_ | refine cg_region ?_ | refine rg_nil ?_ | refine eg_then ?_ | refine qsp ?_ | refine cg_ret ?_)
  exact eg_return rfl rfl ⟨rfl, hk2⟩
set_option maxHeartbeats 1000000 in
theorem nextBad_cp {k : PH} {br : Nat} {a : Option Addr} {c : Nat} {bs : List Nat} {p : Int} (hk : Rdr k br a c bs p) (h : Sl tU8 k a c bs) (hp : I64 p) (hl : bs.length ≤ 100000000) (hn : numR bs p = none) :
    CP Try.prog 157 #[.pointer (some ⟨br, 0, none⟩)] k (.iface 28 (.int .i64 (getVarR bs p).2.2)) := by
  refine cp_of_body (l := [_]) Try.func157 rfl Try.ntmps157 (by simp) fun F hF0 hFm => ?_
  have hv := numR_none hn
  obtain ⟨r, hr⟩ : ∃ r, getVarR bs p = r := ⟨_, rfl⟩
  obtain ⟨x, q, er⟩ := r
  rw [hr] at hv ⊢
  dsimp only at hv ⊢
  have hc := cells_at (vs := [.slice a bs.length c, .int .i64 p]) hk rfl
  have c1 := hc.one (i := 1) rfl
  have c0 := hc.one (i := 0) rfl
  repeat (first | refine cg_seq ?_ | refine cg_region ?_ | refine rg_nil ?_ | refine eg_then ?_ | refine qsp ?_)
  refine cg_any (by kernel_rfl) rfl ?_
  repeat (first | refine qwp ?_ | refine qwl ?_ | refine qwf ?_)
  refine ws rfl (loc_call_is rfl rfl rfl rfl (getVar_ct h hp hl)) ?_
  rw [hr]
  unfold varV
  repeat (first | refine qwp ?_ | (refine wn rfl ?_; refine eg_then ?_))
  repeat (first | refine cg_seq ?_ | refine cg_region ?_ | refine rg_nil ?_ | refine eg_then ?_ | refine qsp ?_)
  rw [show (er != 0) = true by simpa using hv]
  repeat (first | refine cg_region ?_ | refine qsp ?_ | refine cg_cond_true rfl ?_)
  refine rs rfl rfl (loc_det rfl (d_iface rfl rfl rfl)) ?_
  refine rpanic rfl rfl rfl ?_
  repeat (first | refine eg_then_panic ?_)
  exact eg_panics
end Go.Wm
namespace Go.Wm
open Go.RowKit Go.Proofs
attribute [local irreducible] RG CG EG WA Loc Det Alc CT Exit.then Exit.inBlock Code.wp bodyPost
set_option maxHeartbeats 1000000 in
theorem closeRet_ctd {k : PH} {bl bk : Nat} : CTD Try.prog 156 #[.pointer (some ⟨bl, 0, none⟩), .pointer (some ⟨bk, 0, none⟩)] k .returning .returning (fun _ => False) (fun k' => k' = k) := by
  refine ctd_of_body (l := [_, _]) Try.func156 rfl Try.ntmps156 (by simp) rfl rfl rfl rfl (.inr ⟨rfl, rfl, rfl⟩) fun F hF0 hFm hlt => ?_
  refine rs rfl rfl (loc_det rfl (d_assert_nil rfl rfl rfl)) ?_
  repeat (first | refine cg_seq ?_ | refine cg_region ?_ | refine rg_nil ?_ | refine eg_then ?_ | refine qsp ?_ | refine cg_cond_false rfl ?_ | refine cg_skip ?_)
  exact eg_done rfl rfl
set_option maxHeartbeats 1000000 in
theorem closePan_ctd {k : PH} {bl bk : Nat} {er : Int} {x y : Value} (hl : k bl = some (.cells #[x] 22 (0, 0))) (hk : k bk = some (.cells #[y] 4 (0, 0))) (hne : bk ≠ bl) :
    CTD Try.prog 156 #[.pointer (some ⟨bl, 0, none⟩), .pointer (some ⟨bk, 0, none⟩)] k (.panicking [{ v := .iface 28 (.int .i64 er), recovered := false }]) (.panicking [{ v := .iface 28 (.int .i64 er), recovered := true }])
      (fun b => b = bl ∨ b = bk) (fun k' => k' bl = some (.cells #[.slice none 0 0] 22 (0, 0)) ∧ k' bk = some (.cells #[.bool false] 4 (0, 0))) := by
  refine ctd_of_body (l := [_, _]) Try.func156 rfl Try.ntmps156 (by simp) rfl rfl rfl rfl (.inl ⟨rfl, rfl⟩) fun F hF0 hFm hlt => ?_
  refine rs rfl rfl (loc_det rfl (d_assert_hit rfl rfl rfl)) ?_
  repeat (first | refine cg_seq ?_ | refine cg_region ?_ | refine rg_nil ?_ | refine eg_then ?_ | refine qsp ?_ | refine cg_cond_true rfl ?_)
  refine rw0 rfl rfl rfl rfl rfl rfl rfl rfl hl (show 0 < 1 by decide) (.inr (by rw [hFm]; exact .inl rfl)) ?_; intro k2 ht2 hk2
  have hk := turn1_get ht2 hne hk
  refine rw0 rfl rfl rfl rfl rfl rfl rfl rfl hk (show 0 < 1 by decide) (.inr (by rw [hFm]; exact .inr rfl)) ?_; intro k3 ht3 hk3
  have hk2 := turn1_get ht3 (Ne.symm hne) hk2
  repeat (first | refine rg_nil ?_)
  exact eg_done rfl ⟨hk2, hk3⟩
end Go.Wm
