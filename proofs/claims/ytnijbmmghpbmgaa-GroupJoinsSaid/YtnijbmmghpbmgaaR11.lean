/-
  The document's Join. Conditions: that what is handed in reads as data.
-/
import Derived.Test.YtnijbmmghpbmgaaJ4
import Derived.Test.YtnijbmmghpbmgaaL1
import Derived.Test.YtnijbmmghpbmgaaSto2
set_option linter.all false
namespace Go.Wm
open Go.RowKit Go.Proofs
theorem LocI.imp {P : Program} {n : Nat} {ops : Array Oper} {I : PH → World → Prop} {o : Oper} {e : Env} {k : PH} {φ ψ : PH → Value → Prop} (h : LocI P n ops I o e k (.such φ)) (hm : (PV.such ψ).Mono) (hi : ∀ k v, φ k v → ψ k v) : LocI P n ops I o e k (.such ψ) := by
  refine ⟨hm, fun a w k1 hk hs hI hsz hlo => ?_⟩
  have := h.2 a w k1 hk hs hI hsz hlo
  split
  · rename_i hw
    rw [if_pos hw] at this
    exact this.mono fun v w' ⟨k', g1, g2, g3, g4⟩ => ⟨k', g1, g2, g3, hi _ _ g4⟩
  · rename_i hw
    rw [if_neg hw] at this
    exact hi _ _ this
/-- Told of a heap that lacks a block. -/
def Lk (h : PH) (b : Nat) (φ : PH → Value → Prop) : PH → Value → Prop := fun k v => ∃ k2, Le h k2 ∧ k2 b = none ∧ Le k2 k ∧ φ k2 v
theorem Lk.mono {h : PH} {b : Nat} {φ : PH → Value → Prop} : (PV.such (Lk h b φ)).Mono := fun k k' v hle ⟨k2, h1, h2, h3, h4⟩ => ⟨k2, h1, h2, h3.trans hle, h4⟩
theorem Und.lk {h h2 kq k : PH} {b : Nat} {ob : Obj} {φ : PH → Value → Prop} {v : Value} (hu : Und h2 kq φ k v) (hh : Le h h2) (hb : h2 b = none) (hk : kq b = some ob) : Lk h b φ k v := by
  obtain ⟨k2, h1, h3, h4, h5⟩ := hu
  exact ⟨k2, hh.trans h1, by rw [h3 _ _ hk]; exact hb, h4, h5⟩
theorem loci_lct {P : Program} {n : Nat} {ops : Array Oper} {o : Oper} {e : Env} {k kq h h2 : PH} {b : Nat} {ob : Obj} {I : PH → World → Prop} {x : Operand} {args : Array Operand} {ats : Array TypeId} {g : FuncId} {first cap : Array Value} {vs : List Value} [FnOk P g] {φ : PH → Value → Prop}
    (hg : wantedE ops e o = some true) (hop : o.op = .call { callee := .value x, args := args, argTypes := ats }) (hx : opv e x = some (.func (.func g) first cap)) (ha : opvs e args.toList = some vs) (hh : Le h h2) (hb : h2 b = none) (hkb : kq b = some ob) (hkq : Le kq k) (hle : Le h2 k) (hct : CT P g (first ++ vs.toArray ++ cap) h2 φ) : LocI P n ops I o e k (.such (Lk h b φ)) :=
  (loci_hct hg hop hx ha hkq hle hct).imp Lk.mono fun _ _ hu => hu.lk hh hb hkb
theorem upd_mono {h k : PH} {b : Nat} {ob : Obj} (hl : Le h k) : Le (upd h b ob) (upd k b ob) := fun i o hi => by
  by_cases e : i = b
  · subst e; rw [upd_same] at hi ⊢; exact hi
  · rw [upd_other e] at hi ⊢; exact hl i o hi
/-- A list behind an empty one, in a region that draws: 'append(S{}, l...)'. -/
theorem loci_appE {P : Program} {n : Nat} {ops : Array Oper} {o : Oper} {e : Env} {k h kq : PH} {I : PH → World → Prop} {α : Type} {T : Ty α} {t et : TypeId} {bs c : Nat} {z : Value} {x y : Operand} {b : Addr} {a : Option Addr} {l : List α} [ht : TyU P t (.slice et)] [hi : TyI P et T.sz bs z] (hg : wantedE ops e o = some true)
    (hop : o.op = .call { callee := .builtin .append, args := #[x, y], argTypes := #[t, t] }) (hx : opv e x = some (.slice (some b) 0 0)) (hy : opv e y = some (.slice a l.length c)) (hkq : Le kq k) (hle : Le h k) (hsl : Sl T h a c l)
    (h1 : ∀ k cs x, T.rep k cs x → ∀ u ∈ cs, u.oneCell' = true) (hz : Nat.beq z.cells.size T.sz = true) (hpos : Nat.blt 0 T.sz = true) (hby : l.length * bs ≤ 140737488355328) :
    LocI P n ops I o e k (.such (Und h kq fun k' v => ∃ a' c', v = .slice a' l.length c' ∧ Sl T k' a' c' l)) := by
  refine ⟨Und.mono, fun aa w k1 hk hs hi' hsz hlo => ?_⟩
  rw [if_pos (wanted_of hlo hg)]
  have hev := evs_of hlo
  rw [hop] at hev
  have e1 := hev x (by simp [Op.operands, Call.operands]) _ hx
  have e2 := hev y (by simp [Op.operands, Call.operands]) _ hy
  have bc := hsl.cap; have bm := hsl.max
  by_cases hne : l = []
  · subst hne
    have hr := run_app0 (P := P) (t := t) (ty := o.type) (base := some b) (a := a) (m := 0) (cap := 0) (c := c) w (Nat.le_refl _)
    have hexec : (execOp aa.eval o).run P w = .ok (.value (.slice (some b) 0 0)) w := by
      have e2 : aa.eval y = .slice a 0 c := e2
      simp [execOp, hop, resolve, invoke, builtin, e1, e2, hr]
    refine ex_value hexec |>.mono ?_
    rintro u w'' ⟨rfl, rfl⟩
    exact ⟨k1, Below.refl _ _, Agr.refl _ _, hs, h, Le.refl _, fun _ _ _ => rfl, hle.trans hk, _, _, rfl, by simp, by simp [maxLen], (fun h => by cases h), (fun h => absurd h (by omega)), by simp⟩
  · cases ha : a with
    | none =>
      have := hsl.nil ha
      exact absurd (List.length_eq_zero_iff.1 (by omega)) hne
    | some ad =>
      subst ha
      have h0 : 0 < l.length := List.length_pos_iff.2 hne
      obtain ⟨hs0, css, hp, hc⟩ := Sl.pieces (b := ad.block) (off := ad.off) (sp := ad.spot) hsl hne
      have hae : ad = ⟨ad.block, ad.off, none⟩ := by cases ad; simp only at hs0; subst hs0; rfl
      rw [hae] at e2
      obtain ⟨v, ob, hr, g1, g2, g3, g4⟩ := appNew_world (P := P) (t := t) (ty := o.type) (k := k1) (base := some b) (m := 0) (cap := 0) (xs := []) (c2 := c) hs (.inl rfl) (by simp) (fun h => by cases h) (hc.le (hle.trans hk)) (flat_len css hp.len |>.trans (by rw [hp.1])) h0 hpos hz (Nat.le_refl _) (by omega) (by omega) (by simpa using hby)
      have hexec : (execOp aa.eval o).run P w = .ok (.value v) (w.drew.alloc ob) := by
        simp [execOp, hop, resolve, invoke, builtin, e1, e2, hr]
      refine ex_value hexec |>.mono ?_
      rintro u w'' ⟨rfl, rfl⟩
      have hrow := g4 0 (upd h w.heap.size ob) (Nat.zero_le _) (upd_same h w.heap.size ob)
      simp only [Nat.zero_add, List.nil_append] at hrow
      have hle2 : Le h (upd h w.heap.size ob) := (Le.refl h).upd ((hs.mono (hle.trans hk)).none (Nat.le_refl _))
      obtain ⟨a', c', e3, h4⟩ := Row.sls (T := T) hrow (hp.le hle2)
      refine ⟨upd k1 w.heap.size ob, g2, agr_upd (Nat.le_refl _) _, fun b ob' hbo => ?_, upd h w.heap.size ob, hle2, fun b ob' hbo => upd_other ?_, upd_mono (hle.trans hk), a', c', e3, h4⟩
      · by_cases hbe : b = w.heap.size
        · subst hbe
          rw [upd_same] at hbo
          cases hbo
          exact g3
        · rw [upd_other hbe] at hbo
          exact hs.below g2 b ob' hbo
      · have := hs.lt (hk _ _ (hkq _ _ hbo))
        omega
/-- Where ways meet, inside a region, with heaps of their own. -/
theorem meetRJ {P : Program} {F : Fr} {n : Nat} {ops : Array Oper} {rest : List Oper} {Q : Exit → Act → World → Prop} {G : Prop} (J : Env → PH → Prop) (main : (∀ e e' k, J e' k → EnvLe e' e → RG P F n ops Q rest e k) → G) (key : ∀ e k, J e k → RG P F n ops Q rest e k) : G :=
  main fun _ _ _ hj he a w ha hs => key _ _ hj a w (ha.le he) hs
def zM : Member := ⟨⟨#[]⟩, ⟨#[]⟩, [], [], false, 0⟩
/-- A member with topics of its own, and nothing else. -/
def NewM (x : Member) (k : PH) (vs : List Value) : Prop := ∃ au cu, vs = x.cs au cu none 0 ∧ Sl tStr k au cu x.subs
def NewV (x : Member) (k : PH) (v : Value) : Prop := ∃ vs : List Value, v = .agg vs.toArray ∧ NewM x k vs
attribute [local irreducible] RG CG EG WA Loc Det Alc CT Exit.then Exit.inBlock Code.wp bodyPost
set_option maxHeartbeats 4000000 in
theorem refJoin_ct {k : PH} {g : Group} {a : Option Addr} {c : Nat} (hl : Sl tMember k a c g.l) (hok : g.ok) (hsm : SmallG g) {m : Member} {ma mo : Option Addr} {mc mp : Nat} (hsub : Sl tStr k ma mc m.subs) (hown : Sl tTp k mo mp m.own) (hmok : m.ok) (hm1 : m.subs.length * 16 ≤ 140737488355328) (hm2 : m.own.length * 32 ≤ 140737488355328) (now : Int) (hI : I64 now) :
    CT Try.prog 13 #[.agg (g.cs a c).toArray, .agg (m.cs ma mc mo mp).toArray, .int .i64 now] k (GrpV (joinG g m now)) := by
  refine ct_of_body (l := [_, _, _]) Try.func13 rfl Try.ntmps13 (by simp) GrpV.mono fun F hF0 hFm => ?_
  have b1 := hl.cap; have b2 := hl.max; unfold maxLen at b2
  repeat (first | refine cg_seq ?_ | refine cg_region ?_)
  refine rb rfl rfl rfl rfl (a_box rfl rfl) ?_; intro b3 k3 hb3 hN3 hle3 hk3
  skip
  refine rb rfl rfl rfl rfl (a_box rfl rfl) ?_; intro b4 k4 hb4 hN4 hle4 hk4
  have hle34 : Le k k3 := hle3
  refine rb rfl rfl rfl rfl (a_alloc rfl) ?_; intro b6 k6 hb6 hN6 hle6 hk6
  -- what is known but for the boxes
  have n46 : b4 ≠ b6 := fun e => by rw [e, hb6] at hk4; cases hk4
  have k3b6 : k3 b6 = none := by
    cases hc : k3 b6 with
    | none => rfl
    | some ob => have := hle4 _ _ hc; rw [hb6] at this; cases this
  have hle36 := hle4.trans hle6
  have d3 := (cells_at (vs := g.cs a c) hk3 rfl).le hle36
  have hl3 := hl.le hle3
  have hl6 := hl3.le hle36
  repeat (first | refine cg_seq ?_ | refine cg_region ?_ | refine rg_nil ?_ | refine eg_then ?_ | refine qsp ?_ | refine qsg ?_)
  refine rs rfl rfl (loc_call_is rfl rfl rfl rfl (refCheck_ct hl6 hok)) ?_
  cases z0 : (chkG g == 0)
  · have z0 : chkG g ≠ 0 := by simpa using z0
    have hj : joinG g m now = (noG, chkG g) := by unfold joinG; rw [if_pos z0]
    rw [hj]
    repeat (first | refine cg_seq ?_ | refine cg_region ?_ | refine rg_nil ?_ | refine eg_then ?_ | refine qsp ?_)
    rw [show (chkG g != 0) = true by simp [z0]]
    repeat (first | refine cg_seq ?_ | refine cg_region ?_ | refine cg_cond_true rfl ?_)
    refine rs rfl rfl (loc_det rfl (d_lit (cells := noG.cs none 0) rfl rfl rfl)) ?_
    repeat (first | refine qsp ?_)
    refine rw1 (vs := noG.cs none 0) rfl rfl rfl rfl rfl rfl rfl hk6 rfl (.inl hN6) (by simp [Group.cs, Value.oneCell']) ?_
    intro k7 ht7 hk7
    repeat (first | refine rg_nil ?_ | refine eg_then ?_ | refine qsp ?_ | refine cg_ret ?_ | refine eg_then_ret ?_)
    exact eg_returnC2 rfl rfl rfl rfl (cells_at (vs := noG.cs none 0) hk7 rfl) rfl ⟨none, 0, rfl, sl_nilM _⟩
  have z0 : chkG g = 0 := by simpa using z0
  rw [z0]
  have hk64 := hle6 _ _ hk4
  repeat (first | refine cg_seq ?_ | refine cg_region ?_ | refine rg_nil ?_ | refine eg_then ?_ | refine qsp ?_ | refine qsf ?_ | refine cg_cond_false rfl ?_ | refine cg_skip ?_)
  refine rw0 rfl rfl rfl rfl rfl rfl rfl rfl hk64 (by show _ < 6; omega) (.inl hN4) ?_; intro k7 ht7 hk7
  have hle37 : Le k3 k7 := ht7 k3 hle36 hb4
  have r7 := turn1_get ht7 (Ne.symm n46) hk6
  repeat (first | refine cg_seq ?_ | refine cg_region ?_ | refine rg_nil ?_ | refine eg_then ?_ | refine qsf ?_)
  refine rw0 rfl rfl rfl rfl rfl rfl rfl rfl hk7 (by show _ < 6; omega) (.inl hN4) ?_; intro k8 ht8 hk8
  have hle38 : Le k3 k8 := ht8 k3 hle37 hb4
  have r8 := turn1_get ht8 (Ne.symm n46) r7
  have hk8 : k8 b4 = some (.cells ((joined m now).cs ma mc mo mp).toArray 28 (0, 0)) := hk8
  have hrep3 : tMember.rep k3 ((joined m now).cs ma mc mo mp) (joined m now) := ⟨_, _, _, _, rfl, ⟨hsub.le hle3, hown.le hle3⟩, hmok.1, hmok.2.1, hmok.2.2.1, hmok.2.2.2.1, hmok.2.2.2.2.1, hI⟩
  have d3 := (cells_at (vs := g.cs a c) hk3 rfl).le hle38
  have d4 := cells_at (vs := (joined m now).cs ma mc mo mp) hk8 rfl
  clear ht7 ht8 hk7 r7 hle37 hk64 hle36 hk4 hk6 hle6 hle4 hl6
  have hl8 := hl3.le hle38
  repeat (first | refine cg_seq ?_ | refine cg_region ?_ | refine rg_nil ?_ | refine eg_then ?_ | refine qsg ?_)
  refine rs rfl rfl (loc_call_is rfl rfl rfl rfl (refMember_ct (tMember.mono hle38 hrep3))) ?_
  cases z1 : memOk (joined m now)
  · have hj : joinG g m now = (noG, 1) := by unfold joinG; rw [if_neg (fun h => h z0)]; exact if_pos z1
    rw [hj]
    repeat (first | refine cg_seq ?_ | refine cg_region ?_ | refine rg_nil ?_ | refine eg_then ?_ | refine qsp ?_ | refine qso ?_ | refine cg_cond_true rfl ?_)
    refine rs rfl rfl (loc_det rfl (d_lit (cells := noG.cs none 0) rfl rfl rfl)) ?_
    refine rw1 (vs := noG.cs none 0) rfl rfl rfl rfl rfl rfl rfl r8 rfl (.inl hN6) (by simp [Group.cs, Value.oneCell']) ?_
    intro k9 ht9 hk9
    repeat (first | refine rg_nil ?_ | refine eg_then ?_ | refine qsp ?_ | refine cg_ret ?_ | refine eg_then_ret ?_)
    exact eg_returnC2 rfl rfl rfl rfl (cells_at (vs := noG.cs none 0) hk9 rfl) rfl ⟨none, 0, rfl, sl_nilM _⟩
  have htm : timeOk now = true := by
    rw [memOk_ref] at z1
    simp only [Bool.and_eq_true] at z1
    exact z1.2.2.2.2
  repeat (first | refine qsp ?_)
  refine rs rfl rfl (loc_call_is rfl rfl rfl rfl (in_ct now)) ?_
  rw [htm]
  obtain ⟨f0, f1, f2, f3, _, _⟩ := Member.parts d4
  obtain ⟨_, _, p2, p3⟩ := Group.parts (cells_at (vs := g.cs a c) hk3 rfl)
  have p2 := p2.le hle38
  have p3 := p3.le hle38
  have hf := refFind_ct (k := k8) hl8 m.id
  have hst := static_ct (k := k8) hl8 m.static
  clear d4
  repeat (first | refine cg_seq ?_ | refine rg_nil ?_ | refine eg_then ?_ | refine qsp ?_ | refine cg_cond_false rfl ?_ | refine cg_skip ?_)
  refine cg_any (by kernel_rfl) rfl ?_
  repeat (first | refine qwl ?_ | refine qwg ?_ | refine qwf ?_)
  refine ws rfl (loc_call_is rfl rfl rfl rfl (hf)) ?_
  repeat (first | refine qwl ?_ | refine qwg ?_ | refine qwf ?_)
  refine ws rfl (loc_call_is rfl rfl rfl rfl (hst)) ?_
  repeat (first | refine qwp ?_ | (refine wn rfl ?_; refine eg_then ?_))
  repeat (first | refine cg_seq ?_ | refine cg_region ?_ | refine rg_nil ?_ | refine eg_then ?_ | refine qsp ?_ | refine qsl ?_ | refine qsf ?_)
  clear d3
  refine cg_newsto 12 10 11 12 28 (zM.cs none 0 none 0).toArray (fun k vs => Lk k3 b6 (fun k2 _ => NewM { joined m now with own := [] } k2 vs) k undef) (by kernel_rfl) (by kernel_rfl) rfl (by kernel_rfl) rfl rfl ?_
  dsimp only [List.take]
  repeat (first | refine qcl ?_ | refine qcf ?_)
  refine wc_v rfl (loc_alloc rfl (a_empty rfl)) rfl ?_
  repeat (first | refine qcl ?_ | refine qcf ?_)
  refine wc_iv (φ := Lk k3 b6 fun k' v => ∃ a' c', v = .slice a' m.subs.length c' ∧ Sl tStr k' a' c' m.subs) rfl (LocI.elim 48 rfl (by kernel_rfl) Lk.mono fun v kq hkq ⟨bq, eq, hbq, _⟩ => ?_) rfl ?_
  · subst eq
    exact (loci_appE (T := tStr) (h := k3) (kq := k8) rfl rfl rfl rfl hkq (hle38.trans hkq) (hsub.le hle3) ByteArray.one rfl rfl (by omega)).imp Lk.mono fun _ _ hu => hu.lk (Le.refl _) k3b6 r8
  repeat (first | refine qcp ?_)
  refine wc_iv (φ := Lk k3 b6 (NewV { joined m now with own := [] })) rfl (LocI.elim 51 rfl (by kernel_rfl) Lk.mono fun v kq hkq ⟨kz, hz1, hz2, hz3, aq, cq, eq, hsq⟩ => ?_) rfl ?_
  · subst eq
    exact loci_such Lk.mono (loc_det rfl (d_lit (cells := ({ joined m now with own := [] } : Member).cs aq cq none 0) rfl rfl rfl)) rfl ⟨kz, hz1, hz2, hz3, _, rfl, aq, cq, rfl, hsq⟩
  refine wc_e 0 rfl (eff_new3 rfl rfl rfl (a_alloc rfl) rfl) ?_
  refine wc_e 1 rfl (eff_sto3 (φ := Lk k3 b6 (NewV { joined m now with own := [] })) rfl rfl (Le.refl _) rfl rfl rfl (fun k u h => by
    obtain ⟨kz, hz1, hz2, hz3, vs, rfl, au, cu, rfl, h2⟩ := h
    exact ⟨_, rfl, ⟨kz, hz1, hz2, hz3, au, cu, rfl, h2⟩, rfl, by simp [Member.cs, Value.oneCell']⟩) rfl) ?_
  refine wc_nil ?_
  intro k9 k10 vs b12 cells hle9 hΨ hle10 hb12 hN12 hda hvs
  obtain ⟨kz, hz1, hz2, hz3, au, cu, rfl, hsu⟩ := hΨ
  clear hvs
  dsimp only [List.drop, set]
  simp only [nameE, nameP]
  rw [hda]
  generalize vs 53 = w53
  generalize vs 51 = w51
  generalize vs 48 = w48
  have hk11 := upd_same k10 b12 (.cells (({ joined m now with own := [] } : Member).cs au cu none 0).toArray 28 (0, 0))
  have k9b12 : k9 b12 = none := by
    cases hc : k9 b12 with
    | none => rfl
    | some ob => have := hle10 _ _ hc; rw [hb12] at this; cases this
  have k8b12 : k8 b12 = none := by
    cases hc : k8 b12 with
    | none => rfl
    | some ob => have := hle9 _ _ hc; rw [k9b12] at this; cases this
  have kzb12 : kz b12 = none := by
    cases hc : kz b12 with
    | none => rfl
    | some ob => have := hz3 _ _ hc; rw [k9b12] at this; cases this
  have hle911 : Le k9 (upd k10 b12 (.cells (({ joined m now with own := [] } : Member).cs au cu none 0).toArray 28 (0, 0))) := hle10.upd k9b12
  generalize upd k10 b12 (.cells (({ joined m now with own := [] } : Member).cs au cu none 0).toArray 28 (0, 0)) = k11 at hk11 hle911 ⊢
  have hle11 := hle9.trans hle911
  have hz11 := hz3.trans hle911
  clear hda hb12 hle10
  have p2 := p2.le hle11
  have p3 := p3.le hle11
  have f1 := f1.le hle11
  have f2 := f2.le hle11
  have f3 := f3.le hle11
  have hl11 := hl8.le hle11
  have r11 := hle11 _ _ r8
  have n126 : b12 ≠ b6 := fun e => by rw [e, r8] at k8b12; cases k8b12
  have hown11 := hown.le (hle3.trans (hle38.trans hle11))
  have hsub11 := hsub.le (hle3.trans (hle38.trans hle11))
  have hst2 : (joined m now).static = m.static := rfl
  repeat (first | refine cg_seq ?_ | refine cg_region ?_ | refine rg_nil ?_ | refine eg_then ?_ | refine qsp ?_ | refine cg_block ?_)
  have hxok : (joined m now).ok := ⟨hmok.1, hmok.2.1, hmok.2.2.1, hmok.2.2.2.1, hmok.2.2.2.2.1, hI⟩
  apply meetRJ (fun e' k' => ∃ (n : Int) (x : Member) (b : Bool) (ax : Option Addr) (cx : Nat) (kq : PH), k' b12 = some (.cells (x.cs au cu ax cx).toArray 28 (0, 0)) ∧ Le k3 kq ∧ kq b6 = none ∧ Le kq k' ∧ Sl tStr kq au cu x.subs ∧ Sl tTp kq ax cx x.own ∧ x.ok ∧ finR g n x b = joinG g m now ∧ Le k8 k' ∧ e' = [(3, .is (.pointer (some ⟨b3, 0, none⟩))), (6, .is (.pointer (some ⟨b6, 0, none⟩))), (7, .is (.int .i64 0)), (11, .is (.bool b)), (12, .is (.pointer (some ⟨b12, 0, none⟩))), (13, .is (.int .i64 n))])
  · intro go
    have e0 : decide ((-1 : Int) ≥ 0) = false := rfl
    rcases idxF_cases g.l (fun y => decide (y.id = m.id)) with ⟨hx, hno⟩ | ⟨i, hlt, hx, hat, _⟩
    · have hno : hasId m.id g.l = false := hasId_false.2 fun y hy => by simpa using hno y hy
      rw [hx]
      skip
      refine cg_any (by kernel_rfl) rfl ?_
      repeat (first | refine qwp ?_ | refine qwo ?_ | (refine wn rfl ?_; refine eg_then ?_))
      repeat (first | refine cg_seq ?_ | refine cg_region ?_ | refine rg_nil ?_ | refine eg_then ?_ | refine qsp ?_ | refine cg_cond_false rfl ?_)
      rcases idxF_cases g.l (sameStat m.static) with ⟨hy, _⟩ | ⟨s, hlt, hy, hat, _⟩
      · rw [hy]
        repeat (first | refine cg_seq ?_ | refine cg_region ?_ | refine rg_nil ?_ | refine eg_then ?_ | refine qsp ?_ | refine qsn ?_ | refine qsl ?_ | refine qsf ?_ | refine cg_cond_false rfl ?_)
        cases z3 : decide ((g.l.length : Int) ≥ 64)
        · have hlen : g.l.length < 64 := by have := of_decide_eq_false z3; omega
          repeat (first | refine cg_seq ?_ | refine cg_region ?_ | refine rg_nil ?_ | refine eg_then ?_ | refine qsp ?_ | refine qsl ?_ | refine qsf ?_ | refine cg_cond_false rfl ?_ | refine eg_in_normal ?_)
          exact go _ _ _ ⟨-1, { joined m now with own := [] }, g.state != 1, none, 0, kz, hk11, hz1, hz2, hz11, hsu, sl_nilTp _, hxok, ref_new z0 z1 hno hy hlen, hle11, rfl⟩ ⟨rfl, rfl, rfl, rfl, rfl, rfl, trivial⟩
        · have hj := ref_many z0 z1 hno hy (by have := of_decide_eq_true z3; omega)
          rw [hj]
          repeat (first | refine cg_seq ?_ | refine cg_region ?_ | refine cg_cond_true rfl ?_)
          refine rs rfl rfl (loc_det rfl (d_lit (cells := noG.cs none 0) rfl rfl rfl)) ?_
          refine rw1 (vs := noG.cs none 0) rfl rfl rfl rfl rfl rfl rfl r11 rfl (.inl hN6) (by simp [Group.cs, Value.oneCell']) ?_
          intro k13 ht13 hk13
          repeat (first | refine rg_nil ?_ | refine eg_then ?_ | refine qsp ?_ | refine cg_ret ?_ | refine eg_then_ret ?_ | refine eg_in_ret ?_)
          exact eg_returnC2 rfl rfl rfl rfl (cells_at (vs := noG.cs none 0) hk13 rfl) rfl ⟨none, 0, rfl, sl_nilM _⟩
      · rw [hy]
        repeat (first | refine cg_seq ?_ | refine cg_region ?_ | refine rg_nil ?_ | refine eg_then ?_ | refine qsp ?_ | refine cg_cond_true rfl ?_)
        rw [show decide ((s : Int) ≥ 0) = true by simp]
        obtain ⟨bx, ox, cx, ea, ⟨wa0, wc0, wa1, wc1, rfl, ⟨hws, hwo⟩, hwok⟩, hcx⟩ := hl11.el s g.l[s] (List.getElem?_eq_getElem hlt)
        have hwsm := hsm.2 g.l[s] (List.getElem_mem hlt)
        have hfin := ref_stays (now := now) z0 z1 hno hlt hy
        obtain ⟨w, hw⟩ : ∃ w, g.l[s] = w := ⟨_, rfl⟩
        rw [hw] at hcx hws hwo hwok hwsm hfin
        obtain ⟨_, _, q2, q3, _, _⟩ := Member.parts hcx
        subst ea
        have hss := sameSubs_ct hws hsub11
        skip
        apply meet (k := k11) [(3, .is (.pointer (some ⟨b3, 0, none⟩))), (6, .is (.pointer (some ⟨b6, 0, none⟩))), (7, .is (.int .i64 0)), (10, .is (.int .i64 (s : Int))), (11, .is (.bool ((g.state == 2) && !decide (w.subs = m.subs)))), (12, .is (.pointer (some ⟨b12, 0, none⟩))), (13, .is (.int .i64 (s : Int)))] True
        · intro go2
          cases z4 : (g.state == 2)
          · rw [z4] at go2
            refine cg_any (by kernel_rfl) rfl ?_
            repeat (first | refine qwp ?_ | refine qwo ?_ | (refine wn rfl ?_; refine eg_then ?_))
            exact go2 _ trivial ⟨rfl, rfl, rfl, rfl, rfl, rfl, rfl, trivial⟩
          · rw [z4] at go2
            refine cg_any (by kernel_rfl) rfl ?_
            repeat (first | refine qwp ?_ | refine qwi ?_ | refine qwl ?_ | refine qwf ?_)
            refine ws rfl (loc_call_is rfl rfl rfl rfl (hss)) ?_
            repeat (first | refine qwp ?_ | (refine wn rfl ?_; refine eg_then ?_))
            exact go2 _ trivial ⟨rfl, rfl, rfl, rfl, rfl, rfl, rfl, trivial⟩
        rintro -
        repeat (first | refine cg_region ?_)
        refine rb rfl rfl rfl rfl (a_empty rfl) ?_; intro be ke hbe hNe hlee hke
        have p3 := p3.le hlee
        have q3 := q3.le hlee
        repeat (first | refine qsp ?_ | refine qsi ?_ | refine qsl ?_ | refine qsf ?_)
        refine raps2 (T := tTp) (sz := 3) (m := 0) (olds := []) rfl rfl rfl rfl rfl rfl rfl rfl (row_empty hNe hke) hwo hlee Tp.one rfl rfl (by unfold maxLen; have := hwo.cap; have := hwo.max; unfold maxLen at this; omega) (by have := hwsm.2; omega) ?_
        intro u13 k13 css13 hp13 hr13 ht13
        obtain ⟨hle13, _⟩ := ht13 k11 hlee (apart_new hbe)
        have hcs13 := pieces_map (T := tTp) (f := Tp.vs) (fun _ _ _ h => h.1) hp13
        have hr13 : Row F.w0.heap.size k13 63 3 u13 w.own.length (w.own.flatMap Tp.vs) := by rw [hcs13] at hr13; simpa [List.flatMap_def] using hr13
        obtain ⟨ao, co, rfl⟩ := row_sl hr13
        have hk13 := hle13 _ _ hk11
        clear ht13 hp13 hcs13 hlee hke hbe hNe
        repeat (first | refine qsf ?_)
        refine rw0 rfl rfl rfl rfl rfl rfl rfl rfl hk13 (by show _ < 6; omega) (.inl hN12) ?_; intro k14 ht14 hk14
        have hr14 := hr13.turnY ht14 hk13 (by decide)
        have hle14 : Le k9 k14 := ht14 k9 (hle911.trans hle13) k9b12
        have hz14 : Le kz k14 := hz3.trans hle14
        have hle14 := hle9.trans hle14
        have r14 := hle14 _ _ r8
        have hzd : Le kz (delB k14 b6) := le_delB hz14 hz2
        have hrd : Row F.w0.heap.size (delB k14 b6) 63 3 (.slice ao w.own.length co) w.own.length (w.own.flatMap Tp.vs) := hr14.at fun gg hg => by
          have : gg ≠ b6 := fun e => hr14.owner1 r14 (by decide) (by rw [← e]; exact hg)
          unfold delB; rw [if_neg this]
        repeat (first | refine cg_seq ?_ | refine cg_region ?_ | refine rg_nil ?_ | refine eg_then ?_ | refine eg_in_normal ?_)
        exact go _ _ _ ⟨(s : Int), { joined m now with own := w.own }, (g.state == 2) && !decide (w.subs = m.subs), ao, co, delB k14 b6, hk14, hz1.trans hzd, delB_own _ _, delB_le _ _, hsu.le hzd, row_sl_tp hrd (sl_ok_tp hwo), hxok, hfin, hle14, rfl⟩ ⟨rfl, rfl, rfl, rfl, rfl, rfl, trivial⟩
    · rw [hx]
      have hid : g.l[i].id = m.id := by simpa using hat
      obtain ⟨bx, ox, cx, ea, ⟨wa0, wc0, wa1, wc1, rfl, ⟨hws, hwo9⟩, hwok⟩, hcx⟩ := hl3.el i g.l[i] (List.getElem?_eq_getElem hlt)
      have hcx := hcx.le (hle38.trans hle11)
      have hwsm := hsm.2 g.l[i] (List.getElem_mem hlt)
      have hfs := ref_backs (now := now) z0 z1 hlt hid
      have hfn := ref_backn (now := now) z0 z1 hlt hid
      obtain ⟨w, hw⟩ : ∃ w, g.l[i] = w := ⟨_, rfl⟩
      rw [hw] at hcx hws hwo9 hwok hwsm hfs hfn
      obtain ⟨_, q1, _, q3, _, _⟩ := Member.parts hcx
      subst ea
      skip
      refine cg_any (by kernel_rfl) rfl ?_
      repeat (first | refine qwp ?_ | refine qwi ?_ | refine qwl ?_ | refine qwf ?_ | (refine wn rfl ?_; refine eg_then ?_))
      rw [show decide ((i : Int) ≥ 0) = true by simp]
      skip
      cases z5 : decide (w.static = (joined m now).static)
      · have hj := hfn (of_decide_eq_false z5)
        rw [hj]
        repeat (first | refine cg_seq ?_ | refine cg_region ?_ | refine cg_cond_true rfl ?_)
        refine rs rfl rfl (loc_det rfl (d_lit (cells := noG.cs none 0) rfl rfl rfl)) ?_
        refine rw1 (vs := noG.cs none 0) rfl rfl rfl rfl rfl rfl rfl r11 rfl (.inl hN6) (by simp [Group.cs, Value.oneCell']) ?_
        intro k13 ht13 hk13
        repeat (first | refine rg_nil ?_ | refine eg_then ?_ | refine qsp ?_ | refine cg_ret ?_ | refine eg_then_ret ?_ | refine eg_in_ret ?_)
        exact eg_returnC2 rfl rfl rfl rfl (cells_at (vs := noG.cs none 0) hk13 rfl) rfl ⟨none, 0, rfl, sl_nilM _⟩
      have hfin := hfs (of_decide_eq_true z5)
      repeat (first | refine cg_seq ?_ | refine cg_region ?_ | refine rg_nil ?_ | refine eg_then ?_ | refine qsp ?_ | refine cg_cond_true rfl ?_ | refine cg_cond_false rfl ?_)
      rw [show decide ((i : Int) ≥ 0) = true by simp]
      have hmt := met_ct (hwo9.le hz1) (hown.le (hle3.trans hz1)) hwsm.2
      skip
      refine cg_calls 10 (by kernel_rfl) (by kernel_rfl) rfl rfl ?_
      dsimp only [List.take]
      repeat (first | refine qcp ?_ | refine qci ?_ | refine qcl ?_ | refine qcf ?_)
      refine wc_iv rfl (loci_hct (kq := k11) (h := kz) rfl rfl rfl rfl (Le.refl _) hz11 hmt) rfl ?_
      repeat (first | refine qcf ?_)
      refine wc_nil ?_
      intro k13 vs hle13 hvs
      obtain ⟨kq, hq1, hq2, hq3, ao, co, ev, hso⟩ := hvs 84 _ rfl
      have kq12 : kq b12 = none := (hq2 _ _ hk11).trans kzb12
      have kq6 : kq b6 = none := (hq2 _ _ r11).trans hz2
      clear hvs
      dsimp only [List.drop, set]
      simp only [nameE, nameP]
      rw [ev]
      have hk13 := hle13 _ _ hk11
      refine rw0 rfl rfl rfl rfl rfl rfl rfl rfl hk13 (by show _ < 6; omega) (.inl hN12) ?_; intro k14 ht14 hk14
      have hleq : Le kq k14 := ht14 kq hq3 kq12
      repeat (first | refine cg_seq ?_ | refine cg_region ?_ | refine rg_nil ?_ | refine eg_then ?_ | refine eg_in_normal ?_)
      exact go _ _ _ ⟨(i : Int), { joined m now with own := metOf w.own m.own }, g.state == 2, ao, co, kq, hk14, hz1.trans hq1, kq6, hleq, hsu.le hq1, hso, hxok, hfin, ht14 k8 (hle11.trans hle13) k8b12, rfl⟩ ⟨rfl, rfl, rfl, rfl, rfl, rfl, trivial⟩
  clear p2 p3 f0 f1 f2 f3 hl11 hown11 hsub11 hk11 hsu hz1 hz2 hz3 hz11 hle911 hle11 r11 hst hf
  rintro _ k15 ⟨n, x, b, ax, cx, kq, hk15, hq1, hq2, hq3, hsu, hso, hxok, hfin, hle15, rfl⟩
  rw [← hfin]
  have hc64 := (chk_all z0).few
  have d3 := (cells_at (vs := g.cs a c) hk3 rfl).le (hle38.trans hle15)
  have hlq := hl3.le hq1
  have hxr : tMember.rep kq (x.cs au cu ax cx) x := ⟨au, cu, ax, cx, rfl, ⟨hsu, hso⟩, hxok⟩
  have r15 := hle15 _ _ r8
  repeat (first | refine qsg ?_)
  refine rvh rfl rfl rfl rfl rfl rfl rfl hq3 (ct_of_new (copied_ctn hlq hsm)) ?_
  rintro kA k16 _ hA1 hA2 hle16 hA3 ⟨a5, c5, rfl, h5⟩
  have kA6 : kA b6 = none := (hA2 _ _ r15).trans hq2
  have d3 := d3.le hle16
  have hlA := hlq.le hA1
  have hxA := tMember.mono hA1 hxr
  have hk16 := hle16 _ _ hk15
  have r16 := hle16 _ _ r15
  clear hk15 hq3 hA2 hsu hso hlq hxr r15
  skip
  refine rb rfl rfl rfl rfl (a_alloc rfl) ?_; intro b14 k17 hb14 hN14 hle17 hk17
  have kA14 : kA b14 = none := by
    cases hc : kA b14 with
    | none => rfl
    | some ob => have := hA3 _ _ hc; rw [hb14] at this; cases this
  refine rw1 (vs := g.cs a5 c5) rfl rfl rfl rfl rfl rfl rfl hk17 rfl (.inl hN14) (by simp [Group.cs, Value.oneCell']) ?_
  intro k18 ht18 hk18
  have hle18 : Le k16 k18 := ht18 k16 hle17 hb14
  have hA18 := hA3.trans hle18
  have d3 := d3.le hle18
  have hk1812 := hle18 _ _ hk16
  have r18 := hle18 _ _ r16
  have n146 : b14 ≠ b6 := fun e => by rw [e, r16] at hb14; cases hb14
  have n1412 : b14 ≠ b12 := fun e => by rw [e, hk16] at hb14; cases hb14
  clear hk16 r16 hk17 ht18 hle17 hle18 hle16 hA3
  repeat (first | refine cg_seq ?_ | refine cg_region ?_ | refine rg_nil ?_ | refine eg_then ?_ | refine qsp ?_)
  refine cg_join (fun e' k' => ∃ (q : Group) (a6 : Option Addr) (c6 : Nat) (kB : PH), Le kA kB ∧ kB b6 = none ∧ Le kB k' ∧ Sl tMember kB a6 c6 q.l ∧ k' b14 = some (.cells (q.cs a6 c6).toArray 24 (0, 0)) ∧ k' b12 = some (.cells (x.cs au cu ax cx).toArray 28 (0, 0)) ∧ k' b6 = some (.cells (noG.cs none 0).toArray 24 (0, 0)) ∧ finR g n x b = (tellW q n x, 0) ∧ q.l.length ≤ 64 ∧ e' = [(6, .is (.pointer (some ⟨b6, 0, none⟩))), (7, .is (.int .i64 0)), (12, .is (.pointer (some ⟨b12, 0, none⟩))), (13, .is (.int .i64 n)), (14, .is (.pointer (some ⟨b14, 0, none⟩)))]) ?_ ?_
  · cases b
    · repeat (first | refine cg_cond_false rfl ?_ | refine cg_skip ?_)
      exact eg_join [(6, .is (.pointer (some ⟨b6, 0, none⟩))), (7, .is (.int .i64 0)), (12, .is (.pointer (some ⟨b12, 0, none⟩))), (13, .is (.int .i64 n)), (14, .is (.pointer (some ⟨b14, 0, none⟩)))] ⟨g, a5, c5, kA, Le.refl _, kA6, hA18, h5, hk18, hk1812, r18, rfl, hc64, rfl⟩ ⟨rfl, rfl, rfl, rfl, rfl, trivial⟩
    · repeat (first | refine cg_seq ?_ | refine cg_region ?_ | refine qsg ?_ | refine cg_cond_true rfl ?_)
      refine rvh rfl rfl rfl rfl rfl rfl rfl hA18 (refRound_ct hlA hsm hok.2.1) ?_
      rintro kB k19 _ hB1 hB2 hle19 hB3 ⟨a6, c6, rfl, h6⟩
      have kB6 : kB b6 = none := (hB2 _ _ r18).trans kA6
      have kB14 : kB b14 = none := (hB2 _ _ hk18).trans kA14
      have hk19 := hle19 _ _ hk18
      have hk1912 := hle19 _ _ hk1812
      have r19 := hle19 _ _ r18
      by_cases hgen : 1048576 ≤ g.gen
      · have hq : refRoundG g = (noG, 2) := by unfold refRoundG; rw [if_pos hgen]
        rw [hq] at h6 ⊢
        have hj : finR g n x true = (noG, 2) := by unfold finR; rw [if_pos rfl, if_pos hgen]
        rw [hj]
        repeat (first | refine qsp ?_)
        refine rw1 (vs := noG.cs a6 c6) rfl rfl rfl rfl rfl rfl rfl hk19 rfl (.inl hN14) (by simp [Group.cs, Value.oneCell']) ?_
        intro k20 ht20 hk20
        have r20 := turn1_get ht20 (Ne.symm n146) r19
        repeat (first | refine cg_seq ?_ | refine cg_region ?_ | refine rg_nil ?_ | refine eg_then ?_ | refine qsp ?_ | refine cg_cond_true rfl ?_)
        refine rs rfl rfl (loc_det rfl (d_lit (cells := noG.cs none 0) rfl rfl rfl)) ?_
        repeat (first | refine qsp ?_)
        refine rw1 (vs := noG.cs none 0) rfl rfl rfl rfl rfl rfl rfl r20 rfl (.inl hN6) (by simp [Group.cs, Value.oneCell']) ?_
        intro k21 ht21 hk21
        repeat (first | refine rg_nil ?_ | refine eg_then ?_ | refine qsp ?_ | refine cg_ret ?_ | refine eg_then_ret ?_)
        exact eg_returnC2 rfl rfl rfl rfl (cells_at (vs := noG.cs none 0) hk21 rfl) rfl ⟨none, 0, rfl, sl_nilM _⟩
      · have hq : refRoundG g = (roundG g, 0) := by unfold refRoundG; rw [if_neg hgen]
        rw [hq] at h6 ⊢
        have hj : finR g n x true = (tellW (roundG g) n x, 0) := by unfold finR; rw [if_pos rfl, if_neg hgen]
        repeat (first | refine qsp ?_)
        refine rw1 (vs := (roundG g).cs a6 c6) rfl rfl rfl rfl rfl rfl rfl hk19 rfl (.inl hN14) (by simp [Group.cs, Value.oneCell']) ?_
        intro k20 ht20 hk20
        repeat (first | refine cg_seq ?_ | refine cg_region ?_ | refine rg_nil ?_ | refine eg_then ?_ | refine qsp ?_ | refine cg_cond_false rfl ?_ | refine cg_skip ?_)
        exact eg_join [(6, .is (.pointer (some ⟨b6, 0, none⟩))), (7, .is (.int .i64 0)), (12, .is (.pointer (some ⟨b12, 0, none⟩))), (13, .is (.int .i64 n)), (14, .is (.pointer (some ⟨b14, 0, none⟩)))] ⟨roundG g, a6, c6, kB, hB1, kB6, ht20 kB hB3 kB14, h6, hk20, turn1_get ht20 (Ne.symm n1412) hk1912, turn1_get ht20 (Ne.symm n146) r19, hj, by show (g.l.map unjoin).length ≤ 64; rw [List.length_map]; exact hc64, rfl⟩ ⟨rfl, rfl, rfl, rfl, rfl, trivial⟩
  clear d3 hk18 hk1812 r18 hA18 h5 hlA
  rintro _ k19 ⟨q, a6, c6, kB, hB1, kB6, hB3, h6, hk19, hk1912, r19, hj, hq64, rfl⟩
  rw [hj]
  have hxB := tMember.mono hB1 hxA
  have d14 := cells_at (vs := q.cs a6 c6) hk19 rfl
  have d12 := cells_at (vs := x.cs au cu ax cx) hk1912 rfl
  have hdl := delN_len n q.l
  repeat (first | refine cg_seq ?_ | refine eg_then ?_)
  refine cg_calls 6 (by kernel_rfl) (by kernel_rfl) rfl rfl ?_
  dsimp only [List.take]
  repeat (first | refine qcp ?_ | refine qcg ?_)
  refine wc_iv (φ := Lk kB b6 (GrpA { q with l := delN n q.l })) rfl (loci_lct (kq := k19) (h2 := kB) rfl rfl rfl rfl (Le.refl _) kB6 r19 (Le.refl _) hB3 (without_ct h6 (by omega) n)) rfl ?_
  repeat (first | refine qcg ?_)
  refine wc_iv (φ := Lk kB b6 (GrpA { q with l := withM x (delN n q.l) })) rfl (LocI.elim 132 rfl (by kernel_rfl) Lk.mono fun v kz hkz ⟨k2, h1, h2, h3, a7, c7, e7, h7⟩ => by
    subst e7
    exact loci_lct (kq := k19) (h2 := k2) rfl rfl rfl rfl h1 h2 r19 hkz h3 (with_ct (g := { q with l := delN n q.l }) h7 (by show (delN n q.l).length * 96 ≤ _; omega) (tMember.mono h1 hxB))) rfl ?_
  refine wc_iv (φ := Lk kB b6 (GrpA (tellW q n x))) rfl (LocI.elim 134 rfl (by kernel_rfl) Lk.mono fun v kz hkz ⟨k2, h1, h2, h3, a7, c7, e7, h7⟩ => by
    subst e7
    exact loci_lct (kq := k19) (h2 := k2) rfl rfl rfl rfl h1 h2 r19 hkz h3 (settled_ct (g := { q with l := withM x (delN n q.l) }) h7)) rfl ?_
  refine wc_nil ?_
  intro k21 vs hle21 hvs
  obtain ⟨kC, hC1, kC6, hC3, a9, c9, ev, h9⟩ := hvs 135 _ rfl
  clear hvs
  dsimp only [List.drop, set]
  simp only [nameE, nameP]
  rw [ev]
  have r21 := hle21 _ _ r19
  refine rw1 (vs := (tellW q n x).cs a9 c9) rfl rfl rfl rfl rfl rfl rfl r21 rfl (.inl hN6) (by simp [Group.cs, Value.oneCell']) ?_
  intro k22 ht22 hk22
  repeat (first | refine rg_nil ?_ | refine eg_then ?_ | refine qsp ?_ | refine cg_ret ?_)
  exact eg_returnC2 rfl rfl rfl rfl (cells_at (vs := (tellW q n x).cs a9 c9) hk22 rfl) rfl ⟨a9, c9, rfl, h9.le (ht22 kC hC3 kC6)⟩
end Go.Wm
