/-
  How Lean's data are read off known memory: a number, a text, a slice of whatever is read so. Conditions: none.
-/
import Derived.Test.YtapfmndcjcdcjaaCtl
set_option linter.all false
namespace Go.Wm
open Go.RowKit

/-- A way to read data of type α off the cells of one element. -/
structure Ty (α : Type) where
  sz : Nat
  rep : PH → List Value → α → Prop
  len : ∀ {h cs x}, rep h cs x → cs.length = sz
  mono : ∀ {h k cs x}, Le h k → rep h cs x → rep k cs x

/-- The slice whose array begins at a, of capacity cap, reads as xs. -/
structure Sl {α : Type} (T : Ty α) (h : PH) (a : Option Addr) (c : Nat) (xs : List α) : Prop where
  cap : xs.length ≤ c
  max : c ≤ maxLen
  nil : a = none → c = 0
  spot : 0 < c → ∀ ad, a = some ad → ad.spot = none
  el : ∀ i x, xs[i]? = some x → ∃ b off cs, a = some ⟨b, off, none⟩ ∧ T.rep h cs x ∧ Cells h b (off + i * T.sz) cs

theorem Sl.le {α : Type} {T : Ty α} {h k : PH} {a : Option Addr} {cap : Nat} {xs : List α} (hs : Sl T h a cap xs) (hl : Le h k) : Sl T k a cap xs :=
  ⟨hs.cap, hs.max, hs.nil, hs.spot, fun i x hx => by
    obtain ⟨b, off, cs, h1, h2, h3⟩ := hs.el i x hx
    exact ⟨b, off, cs, h1, T.mono hl h2, h3.le hl⟩⟩

/-- The int range. -/
def I64 (n : Int) : Prop := -9223372036854775808 ≤ n ∧ n ≤ 9223372036854775807

def tInt : Ty Int where
  sz := 1
  rep := fun _ cs x => cs = [.int .i64 x] ∧ I64 x
  len := fun h => by rw [h.1]; rfl
  mono := fun _ h => h
def tBool : Ty Bool where
  sz := 1
  rep := fun _ cs x => cs = [.bool x]
  len := fun h => by rw [h]; rfl
  mono := fun _ h => h
def tStr : Ty ByteArray where
  sz := 1
  rep := fun _ cs x => cs = [.string x] ∧ x.size ≤ maxLen
  len := fun h => by rw [h.1]; rfl
  mono := fun _ h => h
def tSl {α : Type} (T : Ty α) : Ty (List α) where
  sz := 1
  rep := fun h cs xs => ∃ a cap, cs = [.slice a xs.length cap] ∧ Sl T h a cap xs
  len := fun ⟨_, _, h, _⟩ => by rw [h]; rfl
  mono := fun hl ⟨a, cap, h1, h2⟩ => ⟨a, cap, h1, h2.le hl⟩

/-- One cell of a row. -/
theorem Cells.one {k : PH} {b off : Nat} {vs : List Value} (h : Cells k b off vs) {i : Nat} {v : Value} (hv : vs[i]? = some v) : Cells k b (off + i) [v] :=
  h.sub i fun j u hu => by
    cases j with
    | zero => simp at hu; subst hu; simpa using hv
    | succ j => simp at hu
end Go.Wm
namespace Go.Wm
theorem cells_at {k : PH} {b : Nat} {c : Array Value} {et : TypeId} {fr : Nat × Nat} {vs : List Value} (h : k b = some (.cells c et fr)) (hc : c.toList = vs) : Cells k b 0 vs :=
  ⟨c, et, fr, h, fun i v hv => by rw [Nat.zero_add, ← Array.getElem?_toList, hc]; exact hv⟩
theorem le_new {k : PH} {b : Nat} (h : k b = none) (o : Obj) : Le k (upd k b o) := (Le.refl k).upd h
theorem upd_upd (k : PH) (b : Nat) (o o' : Obj) : upd (upd k b o) b o' = upd k b o' := by
  funext i; unfold upd; split <;> rfl
theorem Cells.upd {k : PH} {b c off : Nat} {vs : List Value} {o : Obj} (h : Cells k b off vs) (hn : k c = none) : Cells (upd k c o) b off vs := h.le (le_new hn o)
/-- A struct stored over the whole of a block. -/
theorem cells_over {k : PH} {b : Nat} {c : Array Value} {et : TypeId} {fr : Nat × Nat} {vs : List Value} (hl : c.size = vs.length) : Cells (Wm.upd k b (.cells (c.toList.take 0 ++ vs ++ c.toList.drop (0 + vs.length)).toArray et fr)) b 0 vs :=
  cells_at (upd_same _ _ _) (by simp [← hl])
end Go.Wm
namespace Go.Wm
/-- Only block b has turned. -/
def Turn1 (k k' : PH) (b : Nat) : Prop := ∀ h, Le h k → h b = none → Le h k'
theorem turn1_upd (k : PH) (b : Nat) (o : Obj) : Turn1 k (upd k b o) b := fun h hl hn => hl.upd hn
section
variable {P : Program} {F : Fr} {n : Nat} {ops : Array Oper} {Q : Exit → Act → World → Prop} {rest : List Oper} {o : Oper} {e : Env} {k : PH}
/-- A new block, the heap behind it under a name. -/
theorem rb {vf : Nat → Value} {obj : Obj} {d : Nat} (hd : o.dst = some d) (hf : Nat.blt d n = true) (hdet : det e = true) (hg : o.guard = none) (hl : Alc P e k o vf obj)
    (h : ∀ b k', k b = none → F.w0.heap.size ≤ b → Le k k' → k' b = some obj → RG P F n ops Q rest ((d, .is (vf b)) :: e) k') : RG P F n ops Q (o :: rest) e k :=
  ra hd hf hdet hg hl fun b hb hN => h b _ hb hN (le_new hb _) (upd_same _ _ _)
/-- A struct stored over the whole of a block of the call's own. -/
theorem rw1 {t : TypeId} {x y : Operand} {b sz bs : Nat} {z : Value} {vs : List Value} {c : Array Value} {et : TypeId} (hd : o.dst = none) (hdet : det e = true) (hg : o.guard = none) [hi : TyI P t sz bs z] (hop : o.op = .store t x y) (hx : opv e x = some (.pointer (some ⟨b, 0, none⟩))) (hy : opv e y = some (.agg vs.toArray))
    (hsz : vs.length = sz) (hk : k b = some (.cells c et (0, 0))) (hcs : c.size = vs.length) (hown : F.w0.heap.size ≤ b ∨ F.mu b) (h1 : ∀ u ∈ vs, u.oneCell' = true)
    (h : ∀ k', Turn1 k k' b → k' b = some (.cells vs.toArray et (0, 0)) → RG P F n ops Q rest e k') : RG P F n ops Q (o :: rest) e k := by
  refine rst_agg hd hdet hg hop hx hy h1 hsz hk (by omega) hown (h _ (turn1_upd _ _ _) ?_)
  rw [upd_same]
  simp [← hcs]
/-- One cell stored into a block of the call's own. -/
theorem rw0 {t : TypeId} {x y : Operand} {b off sz bs : Nat} {z : Value} {v : Value} {c : Array Value} {et : TypeId} (hd : o.dst = none) (hdet : det e = true) (hg : o.guard = none) [hi : TyI P t sz bs z] (hop : o.op = .store t x y) (hx : opv e x = some (.pointer (some ⟨b, off, none⟩))) (hy : opv e y = some v)
    (h1 : v.oneCell' = true) (hsz : Nat.beq sz 1 = true) (hk : k b = some (.cells c et (0, 0))) (hlt : off < c.size) (hown : F.w0.heap.size ≤ b ∨ F.mu b)
    (h : ∀ k', Turn1 k k' b → k' b = some (.cells (c.setIfInBounds off v) et (0, 0)) → RG P F n ops Q rest e k') : RG P F n ops Q (o :: rest) e k :=
  rst hd hdet hg hop hx hy h1 hsz hk hlt hown (h _ (turn1_upd _ _ _) (upd_same _ _ _))
end
end Go.Wm
namespace Go.Wm
instance : LawfulBEq ByteArray where
  eq_of_beq := by
    intro a b h
    rw [beq_toListBytes, beq_toList] at h
    simpa using h
  rfl := by intro a; rw [beq_toListBytes, beq_toList]; simp
end Go.Wm
namespace Go.Wm
/-! ### values that are not known outright, inside a region that draws -/
section
variable {P : Program} {F : Fr} {n : Nat} {ops : Array Oper} {Q : Exit → Act → World → Prop} {rest : List Oper} {o : Oper} {e : Env} {k : PH}
theorem loc_elim {p : PV} (t : Nat) {φ : PH → Value → Prop} (hg : get e t = some (.such φ)) (ht : (o.looksAt ops).contains t = true) (hm : p.Mono) (h : ∀ v k1, Le k k1 → φ k1 v → Loc P n ops o ((t, .is v) :: e) k1 p) : Loc P n ops o e k p := by
  refine ⟨hm, fun a w k1 hk hs hsz hl => ?_⟩
  have hv := hl t (List.contains_iff_mem.1 ht) _ hg
  refine (h (a.tmps.getD t undef) k1 hk hv).2 a w k1 (Le.refl _) hs hsz fun u hu q hq => ?_
  by_cases htu : t = u
  · subst htu
    rw [get_cons_same] at hq
    cases hq
    rfl
  · rw [get_cons_other _ _ htu] at hq
    exact hl u hu q hq
/-- All that is known of slot t is forgotten. -/
def cut (t : Nat) : Env → Env
  | [] => []
  | (d, p) :: r => match Nat.beq d t with | true => cut t r | false => (d, p) :: cut t r
theorem cut_get {t u : Nat} {p : PV} : ∀ {e : Env}, get (cut t e) u = some p → get e u = some p
  | [], h => h
  | (d, q) :: r, h => by
    simp only [cut] at h
    split at h
    · rename_i hb
      have hdt : d = t := Nat.eq_of_beq_eq_true hb
      have hut : u ≠ t := by
        rintro rfl
        have : ∀ e : Env, get (cut u e) u = none := by
          intro e
          induction e with
          | nil => rfl
          | cons x r ih =>
            obtain ⟨d, q⟩ := x
            simp only [cut]
            split
            · exact ih
            · rename_i hb'
              simp only [get, hb']
              exact ih
        rw [this] at h
        cases h
      rw [get_cons_other _ _ (by omega)]
      exact cut_get h
    · rename_i hb
      by_cases hdu : d = u
      · subst hdu
        rw [get_cons_same] at h ⊢
        exact h
      · rw [get_cons_other _ _ hdu] at h ⊢
        exact cut_get h
theorem eg_cut {X : Act → World → Prop} (t : Nat) (h : EG F n X (cut t e) k) : EG F n X e k := fun a w ha hs => h a w ⟨ha.size, ha.defers, fun u p hp => ha.get u p (cut_get hp)⟩ hs
/-- The end of a region that draws, one slot of which is forgotten. -/
theorem region_cut {id : Nat} {l : List Oper} [hm : Mixed P] (hok : okAny n l = true) (hdet : det e = true) (h : WA P n l.toArray k (fun e' => ∃ t, det (cut t e') = true ∧ EG F n (Q .normal) (cut t e') k) l e) : CG P F n Q (.region id l.toArray true) e k := by
  intro a w ha hs
  refine region_any (F := F) hm.eq hok (fun t q hg => by obtain ⟨v, rfl⟩ := det_get hdet hg; trivial) (WA.mono' (fun e' ⟨t, hd, hE⟩ => ?_) l e h) a w ha hs
  intro k' hle a' w' ha' hs'
  have ha2 : Ag n (cut t e') k' a' := ⟨ha'.size, ha'.defers, fun u p hp => ha'.get u p (cut_get hp)⟩
  exact hE a' w' (ha2.heap hd) (hs'.weak hle hs.keep)
theorem wn_cut (t : Nat) (hd : det (cut t e) = true) (h : EG F n (Q .normal) (cut t e) k) : WA P n ops k (fun e' => ∃ t, det (cut t e') = true ∧ EG F n (Q .normal) (cut t e') k) [] e := ⟨t, hd, h⟩
end

/-! ### calls that turn some old blocks -/
def RetM (k : PH) (w : World) (M : Nat → Prop) (φ : PH → Value → Prop) (e : Ending) (w' : World) : Prop :=
  ∃ v k', e = .returned v ∧ (w'.os = w.os ∧ w'.tape = w.tape ∧ w'.output = w.output ∧ w.heap.size ≤ w'.heap.size) ∧ (∀ b, b < w.heap.size → ¬ M b → w'.heap[b]? = w.heap[b]?) ∧ (∀ b, b < w.heap.size → ¬ M b → k' b = k b) ∧ Sub k' w' ∧ φ k' v
def CTM (P : Program) (f : FuncId) (args : Array Value) (kr : PH) (M : Nat → Prop) (φ : PH → Value → Prop) : Prop :=
  ∀ w, Sub kr w → Calls P f args w (RetM kr w M φ)
theorem ctm_of_body {P : Program} {f : FuncId} {fn : Func} {c : Code} {l : List Value} {k : PH} {M : Nat → Prop} {φ : PH → Value → Prop} (hf : P.funcs[f]? = some fn) (hb : fn.body = some c) {n : Nat} (hn : fn.ntmps = n)
    (hl : l.length ≤ n) (h : ∀ F : Fr, F.k0 = k → F.mu = M → (∀ b o, k b = some o → b < F.w0.heap.size) → CG P F n (bodyPost P fn (RetF F φ)) c (argEnv 0 l) k) : CTM P f l.toArray k M φ := by
  intro w hs
  have hs0 : St ⟨w, k, M⟩ k w := ⟨rfl, rfl, rfl, Nat.le_refl _, fun _ _ _ => rfl, hs, fun _ _ _ => rfl⟩
  subst hn
  refine Calls.mono (calls_of_wp (R := RetF ⟨w, k, M⟩ φ) hf hb (h ⟨w, k, M⟩ rfl rfl (fun b o hb => hs.lt hb) _ w (ag_args hl) hs0)) ?_
  rintro e w' ⟨v, kc, he, hst, hφ⟩
  exact ⟨v, kc, he, ⟨hst.os, hst.tape, hst.output, hst.size⟩, hst.old, hst.keep, hst.sub, hφ⟩
section
variable {P : Program} {F : Fr} {n : Nat} {ops : Array Oper} {Q : Exit → Act → World → Prop} {rest : List Oper} {o : Oper} {e : Env} {k : PH}
/-- A call that turns blocks of the caller's own. -/
theorem rcm {x : Operand} {args : Array Operand} {ats : Array TypeId} {g : FuncId} {first cap : Array Value} {vs : List Value} [FnOk P g] {M : Nat → Prop} {φ : PH → Value → Prop} {d : Nat}
    (hd : o.dst = some d) (hf : Nat.blt d n = true) (hdet : det e = true) (hgd : o.guard = none) (hop : o.op = .call { callee := .value x, args := args, argTypes := ats }) (hx : opv e x = some (.func (.func g) first cap)) (ha : opvs e args.toList = some vs)
    (hct : CTM P g (first ++ vs.toArray ++ cap) k M φ) (hM : ∀ b, M b → F.w0.heap.size ≤ b ∨ F.mu b)
    (h : ∀ v k', (∀ h, Le h k → (∀ b, M b → h b = none) → Le h k') → φ k' v → RG P F n ops Q rest ((d, .is v) :: e) k') : RG P F n ops Q (o :: rest) e k := by
  intro a w hag hs
  unfold wpList
  rw [if_pos (by simp [Region.wanted, hgd])]
  refine .inl (ex_enter (run_call hop hx ha (evs_of (ops := ops) (ag_looks hag))) (φ := fun v w' => ∃ k', (∀ h, Le h k → (∀ b, M b → h b = none) → Le h k') ∧ φ k' v ∧ St F k' w') ((hct w hs.sub).mono ?_) _ _ ?_)
  · rintro en w' ⟨v, k', h1, ⟨h2a, h2b, h2c, h2d⟩, h3, h4, h5, h6⟩
    refine ⟨v, h1, k', fun h' hle hno b ob hb => ?_, h6, ⟨h2a.trans hs.os, h2b.trans hs.tape, h2c.trans hs.output, Nat.le_trans hs.size h2d, fun b hb hm => ?_, h5, fun b hb hm => ?_⟩⟩
    · have hk := hle b ob hb
      have hnm : ¬ M b := fun hm => by rw [hno b hm] at hb; cases hb
      rw [h4 b (hs.sub.lt hk) hnm]
      exact hk
    · have hnm : ¬ M b := fun hm' => (hM b hm').elim (fun h => by omega) hm
      rw [h3 b (Nat.lt_of_lt_of_le hb hs.size) hnm]
      exact hs.old b hb hm
    · have hnm : ¬ M b := fun hm' => (hM b hm').elim (fun h => by omega) hm
      rw [h4 b (Nat.lt_of_lt_of_le hb hs.size) hnm]
      exact hs.keep b hb hm
  · rintro v w' ⟨k', h1, h2, h3⟩
    rw [hd]
    exact h v k' h1 h2 _ _ ((hag.heap (k' := k') hdet).put (d := some d) hf rfl) h3
/-- What is stored into a block that the call may turn. -/
theorem eg_done {fn : Func} {φ : PH → Value → Prop} (hr : fn.results = #[]) (hφ : φ k (.tuple #[])) : EG F n (bodyPost P fn (RetF F φ) .normal) e k := by
  intro a w ha hs
  exact bodyPost_ret (results_none hr _ _ _) ha.defers ⟨_, k, rfl, hs, hφ⟩
end
end Go.Wm
namespace Go.Wm
section
variable {P : Program} {F : Fr} {n : Nat} {Q : Exit → Act → World → Prop} {e : Env} {k : PH}
/-- Where ways meet again: J is what is known there. -/
theorem cg_join {c : Code} (J : Env → PH → Prop) (h1 : CG P F n (Exit.then (fun a w => ∃ e' k', J e' k' ∧ Ag n e' k' a ∧ St F k' w) Q) c e k) (h2 : ∀ e' k', J e' k' → EG F n (Q .normal) e' k') : CG P F n Q c e k := by
  intro a w ha hs
  refine wp_mono (h1 a w ha hs) ?_
  intro ex a' w' h
  cases ex with
  | normal =>
    obtain ⟨e', k', hJ, ha', hs'⟩ := h
    exact h2 e' k' hJ a' w' ha' hs'
  | _ => exact h
theorem eg_join {J : Env → PH → Prop} (e' : Env) (hJ : J e' k) (hle : EnvLe e' e) : EG F n (Exit.then (fun a w => ∃ e' k', J e' k' ∧ Ag n e' k' a ∧ St F k' w) Q .normal) e k :=
  fun a w ha hs => ⟨e', k, hJ, ha.le hle, hs⟩
end
end Go.Wm
