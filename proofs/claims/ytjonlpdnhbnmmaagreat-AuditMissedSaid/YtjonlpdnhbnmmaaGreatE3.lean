/-
  Up to where a partition that is alone may be read, the law's own (layer 32). Conditions: that what is handed in reads as data.
-/
import Derived.Test.YtjonlpdnhbnmmaaGreatE2
import Derived.Test.YtjonlpdnhbnmmaaGreatA14
set_option linter.all false
namespace Go.Wm
open Go.RowKit Go.Proofs
attribute [local irreducible] RG CG EG WA Loc Det Alc CT Exit.then Exit.inBlock Code.wp bodyPost
def SafeR (t : Tx) (high n : Int) : Prop := n = -1 ∨ (0 ≤ n ∧ n ≤ stabP t high ∧ ∀ g ∈ t.done, n ≤ g.last → n ≤ g.first)
set_option maxHeartbeats 1000000 in
theorem safe32_ct {k : PH} {t : Tx} {a0 : Option Addr} {c0 : Nat} {a1 : Option Addr} {c1 : Nat} {a2 : Option Addr} {c2 : Nat} (tp : Tp) (high : Int) (htp : tp.ok) (hI : I64 high) (ht : TxAt k t a0 c0 a1 c1 a2 c2) (f0 : t.openV.length ≤ 1000000) (f1 : t.gone.length ≤ 1000000) (f2 : t.done.length ≤ 1000000) :
    CT Tryz.prog 25 #[.agg (t.cs a0 c0 a1 c1 a2 c2).toArray, .int .i64 high, .agg tp.vs.toArray] k (fun _ v => ∃ n, v = .int .i64 n ∧ SafeR t high n) := by
  refine ct_of_body (l := [_, _, _]) Tryz.func25 rfl Tryz.ntmps25 (by simp) (fun _ _ _ _ h => h) fun F hF0 hFm => ?_
  repeat (first | refine cg_seq ?_ | refine cg_region ?_)
  refine rb rfl rfl rfl rfl (a_box rfl rfl) ?_; intro b3 k3 hb3 hN3 hle3 hk3
  refine rb rfl rfl rfl rfl (a_box rfl rfl) ?_; intro b5 k5 hb5 hN5 hle5 hk5
  have cT := (cells_at (vs := t.cs a0 c0 a1 c1 a2 c2) hk3 rfl).le hle5
  have ctp := cells_at (vs := tp.vs) hk5 rfl
  have ht := ht.le (hle3.trans hle5)
  obtain ⟨V, hV⟩ : ∃ V : View, V = ⟨tp, t, high⟩ := ⟨_, rfl⟩
  repeat (first | refine cg_seq ?_ | refine cg_region ?_ | refine rg_nil ?_ | refine eg_then ?_ | refine qsp ?_ | refine qsg ?_)
  refine rs rfl rfl (loc_det rfl (d_lit (cells := (⟨tp, t, high⟩ : View).cs a0 c0 a1 c1 a2 c2) rfl rfl rfl)) ?_
  refine rb rfl rfl rfl rfl (a_slice (cells := (⟨tp, t, high⟩ : View).cs a0 c0 a1 c1 a2 c2) rfl rfl rfl rfl (by kernel_rfl) rfl) ?_
  intro b6 k6 hb6 hN6 hle6 hk6
  have ht6 := ht.le hle6
  have hS : Sl tView k6 (some ⟨b6, 0, none⟩) 1 [V] := by
    rw [hV]
    exact sl_block (T := tView) (css := [(⟨tp, t, high⟩ : View).cs a0 c0 a1 c1 a2 c2]) hk6 (Pieces.one (T := tView) ⟨_, _, _, _, _, _, rfl, ⟨ht6.o, ht6.g, ht6.d⟩, htp, ⟨trivial, trivial, trivial⟩, hI⟩) (Nat.le_refl _) (by unfold maxLen; omega) rfl rfl
  have hsm : SmallV [V] := fun v hv => by
    simp at hv; subst hv; rw [hV]; exact ⟨f0, f1, f2⟩
  refine rv rfl rfl rfl (loc_call rfl rfl rfl rfl CutR.mono (cut_ct hS (by simp) hsm)) ?_
  rintro k7 hle7 v hr
  unfold CutR at hr
  by_cases hm : MayV [V]
  · rw [if_pos hm] at hr
    obtain ⟨m, a, c, hcut, h0, rfl, hc⟩ := hr
    obtain ⟨n, rfl⟩ : ∃ n, m = [n] := by
      have := hcut.len
      match m, this with
      | [n], _ => exact ⟨n, rfl⟩
    have e : marksOf [V] [n] = [⟨tp, n⟩] := by rw [hV]; rfl
    rw [e] at hc ⊢
    obtain ⟨bx, ox, cx, rfl, ⟨rfl, _⟩, hcx⟩ := hc.el 0 ⟨tp, n⟩ rfl
    obtain ⟨m0, m1⟩ := Mark.parts hcx
    repeat (first | refine cg_seq ?_ | refine cg_region ?_ | refine rg_nil ?_ | refine eg_then ?_ | refine qsp ?_ | refine qsn ?_ | refine qsz ?_ | refine qsl ?_ | refine qsf ?_ | refine cg_cond_false rfl ?_ | refine cg_skip ?_ | refine cg_ret ?_)
    refine eg_return rfl rfl ⟨n, rfl, .inr ⟨h0 n (by simp), ?_, fun g hg hle => ?_⟩⟩
    · have := hcut.safe.2 0 (by simp) (by simp [stableL])
      simpa [stableL, hV] using this
    · have := hcut.whole.1 0 (by simp) (by simp) g (by rw [hV]; exact hg) (belowP_false.2 ⟨0, by simp, by simp, g, by rw [hV]; exact hg, rfl, rfl, by simpa using hle⟩)
      simpa using this
  · rw [if_neg hm] at hr
    subst hr
    repeat (first | refine cg_seq ?_ | refine cg_region ?_ | refine rg_nil ?_ | refine eg_then ?_ | refine qsp ?_ | refine qso ?_ | refine cg_cond_true rfl ?_ | refine cg_ret ?_ | refine eg_then_ret ?_)
    exact eg_return rfl rfl ⟨-1, rfl, .inl rfl⟩
end Go.Wm
