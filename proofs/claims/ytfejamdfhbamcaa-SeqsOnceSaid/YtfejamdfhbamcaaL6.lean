/-
  SeqsOnce, walked. Conditions: that what is handed in reads as data.
-/
import Derived.Test.YtfejamdfhbamcaaL1
import Derived.Test.YtfejamdfhbamcaaG26
import Derived.Test.YtfejamdfhbamcaaM3
set_option linter.all false
namespace Go.Wm
open Go.RowKit Go.Proofs
/-- The log: a row of the call's own, its batches known in KK. -/
def LogAt (N : Nat) (KK k : PH) (v : Value) (log : List Batch) : Prop := Le KK k ∧ Apart KK v ∧ ∃ css, Pieces tBatch KK css log ∧ Row N k 25 10 v log.length css.flatten
theorem LogAt.le {N : Nat} {KK k k' : PH} {v : Value} {log : List Batch} (h : LogAt N KK k v log) (hl : Le k k') : LogAt N KK k' v log := by
  obtain ⟨h1, h2, css, h3, h4⟩ := h
  exact ⟨h1.trans hl, h2, css, h3, h4.le hl⟩
theorem LogAt.call {N : Nat} {KK k k2 k' : PH} {v : Value} {log : List Batch} (h : LogAt N KK k v log) (g1 : Le KK k2) (g2 : ∀ b o, k b = some o → k2 b = KK b) (g3 : Le k k') (g4 : Le k2 k') : LogAt N k2 k' v log := by
  obtain ⟨h1, h2, css, h3, h4⟩ := h
  refine ⟨g4, fun g hg => ?_, css, h3.le g1, h4.le g3⟩
  obtain ⟨_, ob, hob⟩ := h4.block hg
  rw [g2 g ob hob]
  exact h2 g hg
theorem LogAt.sl {N : Nat} {KK k : PH} {v : Value} {log : List Batch} (h : LogAt N KK k v log) : ∃ a c, v = .slice a log.length c ∧ Sl tBatch k a c log := by
  obtain ⟨h1, h2, css, h3, h4⟩ := h
  exact h4.sls (T := tBatch) (h3.le h1)
theorem CTN.ct {P : Program} {f : FuncId} {args : Array Value} {k : PH} {φ : Nat → PH → Value → Prop} (h : CTN P f args k φ) : CT P f args k (fun k' v => ∃ N, φ N k' v) := fun w k1 hle hs =>
  (h w k1 hle hs).mono fun e w' ⟨v, k', h1, h2, h3, h4, h5⟩ => ⟨v, k', h1, h2, h3, h4, _, h5⟩
/-- Where the log ends. -/
def endLog (log : List Batch) : Int := match log.getLast? with | some b => b.last + 1 | none => 0
theorem movedR_zero {b : Batch} {en : Int} (h : (movedR b en).2 = 0) : (movedR b en).1 = movedB b en ∧ chkB b = 0 ∧ chkB (movedB b en) = 0 := by
  unfold movedR at h ⊢
  split at h
  · cases h
  rename_i h1
  rw [if_neg h1]
  split at h
  · rename_i h2; exact absurd h h2
  rename_i h2
  rw [if_neg h2]
  split at h
  · rename_i h3; exact absurd h h3
  rename_i h3
  rw [if_neg h3]
  exact ⟨rfl, Decidable.not_not.1 h2, Decidable.not_not.1 h3⟩
/-- As the law looks for it. -/
def isThere (base : Int) (b x : Batch) : Prop := x.base = base ∧ x.pid = b.pid ∧ x.gen = b.gen ∧ x.seq = b.seq ∧ x.last - x.base = b.last - b.base
theorem didsOf_take {log : List Batch} {k : Nat} (h : k < log.length) (p g : Int) : didsOf (log.take (k + 1)) p g = didsOf (log.take k) p g ++ if isOf p g log[k] = true then [didB log[k]] else [] := by
  unfold didsOf
  rw [List.take_succ_eq_append_getElem h, List.filter_append, List.map_append]
  congr 1
  rw [List.filter_cons]
  split <;> simp_all
theorem nextD_snoc (l : List Did) (d : Did) : nextD (l ++ [d]) = d.last + 1 := by unfold nextD; simp
attribute [local irreducible] RG CG EG WA Loc Det Alc CT Exit.then Exit.inBlock Code.wp bodyPost
set_option maxHeartbeats 8000000 in
theorem seqsOnce_walk {k : PH} {a ao : Option Addr} {c co : Nat} {bs : List Batch} {order : List Int} {B0 : Prop} (hl : Sl tBatch k a c bs) (hB : B0 ∧ ∀ x ∈ bs, x.small) (ho : Sl tInt k ao co order) :
    CT Try.prog 11 #[.slice a bs.length c, .slice ao order.length co] k (fun _ v => v = .bool true) := by
  refine ct_of_body (l := [_, _]) Try.func11 rfl Try.ntmps11 (by simp) (fun _ _ _ _ h => h) fun F hF0 hFm => ?_
  have b1 := hl.cap; have b2 := hl.max; have b3 := ho.cap; have b4 := ho.max; unfold maxLen at b2 b4
  repeat (first | refine cg_seq ?_ | refine cg_region ?_ | refine rg_nil ?_ | refine eg_then ?_ | refine qsp ?_)
  refine rs rfl rfl (loc_call_is rfl rfl rfl rfl (live11_ct)) ?_
  repeat (first | refine cg_seq ?_ | refine cg_region ?_ | refine rg_nil ?_ | refine eg_then ?_ | refine qsp ?_ | refine cg_cond_false rfl ?_ | refine cg_skip ?_)
  refine rv rfl rfl rfl (loc_call rfl rfl rfl rfl (fun _ _ _ _ h => h) (fewOf_ct (m := 12) hl ⟨by decide, by decide⟩ (fun b hb => short_of (hB.2 b hb)))) ?_
  rintro k1 hle1 _ ⟨r, rfl, hr⟩
  have hl := hl.le hle1
  have ho := ho.le hle1
  repeat (first | refine qsp ?_)
  cases r
  · repeat (first | refine cg_seq ?_ | refine cg_region ?_ | refine rg_nil ?_ | refine eg_then ?_ | refine qsp ?_ | refine qso ?_ | refine cg_cond_true rfl ?_ | refine cg_ret ?_ | refine eg_then_ret ?_)
    exact eg_return rfl rfl rfl
  have hr := hr rfl
  repeat (first | refine rg_nil ?_ | refine eg_then ?_ | refine qsp ?_ | refine qsn ?_)
  cases q0 : decide ((order.length : Int) > 40)
  case true =>
    repeat (first | refine cg_seq ?_ | refine cg_region ?_ | refine rg_nil ?_ | refine eg_then ?_ | refine qsp ?_ | refine cg_cond_true rfl ?_ | refine cg_ret ?_ | refine eg_then_ret ?_)
    exact eg_return rfl rfl rfl
  have q0 := of_decide_eq_false q0
  repeat (first | refine cg_seq ?_ | refine cg_region ?_ | refine rg_nil ?_ | refine eg_then ?_ | refine qsp ?_ | refine cg_cond_false rfl ?_ | refine cg_skip ?_ | refine cg_block ?_)
  refine cg_loop (fun (i : Nat) e k' => ∃ KK l al cl v log, Le k1 KK ∧ LogAt F.w0.heap.size KK k' v log ∧ Sl tProdT KK al cl l ∧ LogInv l log ∧ (∀ x ∈ log, FormP x) ∧ log.length ≤ i ∧ i ≤ order.length ∧
      e = [(0, .is (.slice a bs.length c)), (1, .is (.slice ao order.length co)), (5, .is (.bool true)), (6, .is (.slice al l.length cl)), (7, .is v), (8, .is (.int .i64 (i : Int)))])
    (fun i => order.length - i) 0 ⟨k1, [], none, 0, .slice none 0 0, [], Le.refl _, ⟨Le.refl _, apart_nil _ _ _, [], Pieces.nil _ _, row_nil _ _ _ _⟩, sl_nilP _, logInv_nil, by simp, by simp, by omega, rfl⟩ ⟨rfl, rfl, rfl, rfl, rfl, rfl, trivial⟩ ?_
  · rintro i e k2 ⟨KK, l, al, cl, v, log, hKK, hlog, hsl, hinv, hform, hln, hi, rfl⟩
    repeat (first | refine cg_seq ?_ | refine cg_region ?_ | refine rg_nil ?_ | refine eg_then ?_ | refine qsp ?_ | refine qsn ?_)
    refine cg_cond rfl (fun h => ?_) (fun h => ?_)
    · have hlt : i < order.length := by have := of_decide_eq_true h; omega
      have hle2 : Le k1 k2 := hKK.trans hlog.1
      obtain ⟨box, oox, cox, rfl, ⟨rfl, hoI⟩, hcox⟩ := (ho.le hle2).el i order[i] (List.getElem?_eq_getElem hlt)
      obtain ⟨oi, hoi⟩ : ∃ oi, order[i] = oi := ⟨_, rfl⟩
      rw [hoi] at hcox hoI
      repeat (first | refine cg_seq ?_ | refine cg_region ?_ | refine eg_then ?_ | refine qsp ?_ | refine qsi ?_ | refine qsl ?_ | refine cg_skip ?_ | refine cg_block ?_)
      cases q1 : decide (oi < 0)
      case true =>
        repeat (first | refine cg_region ?_ | refine rg_nil ?_ | refine eg_then ?_ | refine qsp ?_ | refine qsa ?_ | refine qso ?_ | refine cg_cond_true rfl ?_ | refine cg_exit ?_ | refine eg_then_exit ?_ | refine eg_in_exit ?_)
        exact eg_again (i + 1) _ ⟨KK, l, al, cl, v, log, hKK, hlog, hsl, hinv, hform, by omega, hlt, rfl⟩ (by omega) ⟨rfl, rfl, rfl, rfl, rfl, rfl, trivial⟩
      have q1 := of_decide_eq_false q1
      repeat (first | refine rg_nil ?_ | refine eg_then ?_ | refine qsp ?_ | refine qsn ?_ | refine qsi ?_ | refine qsl ?_)
      cases q2 : decide (oi ≥ (bs.length : Int))
      case true =>
        repeat (first | refine cg_region ?_ | refine rg_nil ?_ | refine eg_then ?_ | refine qsp ?_ | refine qsa ?_ | refine cg_cond_true rfl ?_ | refine cg_exit ?_ | refine eg_then_exit ?_ | refine eg_in_exit ?_)
        exact eg_again (i + 1) _ ⟨KK, l, al, cl, v, log, hKK, hlog, hsl, hinv, hform, by omega, hlt, rfl⟩ (by omega) ⟨rfl, rfl, rfl, rfl, rfl, rfl, trivial⟩
      have q2 := of_decide_eq_false q2
      obtain ⟨m, rfl⟩ : ∃ m : Nat, oi = (m : Int) := ⟨oi.toNat, by omega⟩
      have hm : m < bs.length := by omega
      obtain ⟨bx, ox, cx, rfl, ⟨ab, cb, rfl, hsr, hbok⟩, hcx⟩ := (hl.le hKK).el m bs[m] (List.getElem?_eq_getElem hm)
      obtain ⟨b, hb⟩ : ∃ b, bs[m] = b := ⟨_, rfl⟩
      rw [hb] at hsr hbok hcx
      have hcx := hcx.le hlog.1
      repeat (first | refine cg_seq ?_ | refine cg_region ?_ | refine eg_then ?_ | refine qsp ?_ | refine qsi ?_ | refine qsl ?_ | refine qsg ?_ | refine cg_cond_false rfl ?_ | refine cg_skip ?_)
      refine rb rfl rfl rfl rfl (a_alloc rfl) ?_; intro b9 k9 hb9 hN9 hle9 hk9
      skip
      refine rw1 rfl rfl rfl rfl rfl rfl rfl hk9 rfl (.inl hN9) ?_ ?_; (simp [Did.vs, ProdT.cs, Rec.vs, Batch.cs, Tp.vs, Member.cs, Group.cs, Value.oneCell']); intro k10 ht10 hk10
      have hle10 : Le k2 k10 := ht10 k2 hle9 hb9
      have hlog := hlog.le hle10
      obtain ⟨av, cv, hve, slog⟩ := hlog.sl
      have g1 := slog.cap; have g2 := slog.max; unfold maxLen at g2
      clear hcox hcx q1 q2
      subst hve
      repeat (first | refine cg_seq ?_ | refine cg_region ?_ | refine rg_nil ?_ | refine eg_then ?_ | refine qsp ?_ | refine qsn ?_)
      refine cg_join (fun e' k' => e' = [(0, .is (.slice (some ⟨bx, ox, none⟩) bs.length c)), (1, .is (.slice (some ⟨box, oox, none⟩) order.length co)), (5, .is (.bool true)), (6, .is (.slice al l.length cl)), (7, .is (.slice av log.length cv)), (8, .is (.int .i64 (i : Int))), (9, .is (.pointer (some ⟨b9, 0, none⟩))), (10, .is (.int .i64 (endLog log)))] ∧ k' = k10) ?_ ?_
      · refine cg_cond rfl (fun h2 => ?_) (fun h2 => ?_)
        · have hpos : 0 < log.length := by have := of_decide_eq_true h2; omega
          obtain ⟨by', oy, cy, rfl, ⟨az, cz, rfl, hsz, hzok⟩, hcy⟩ := slog.el (log.length - 1) log[log.length - 1] (List.getElem?_eq_getElem (by omega))
          have hf := hform _ (List.getElem_mem (show log.length - 1 < log.length by omega))
          have hen : endLog log = log[log.length - 1].last + 1 := by unfold endLog; rw [List.getLast?_eq_getElem?, List.getElem?_eq_getElem (by omega)]
          generalize log[log.length - 1] = y at hsz hcy hf hen hzok
          have f1 := hf.last
          obtain ⟨_, y1, _⟩ := Batch.parts hcy
          repeat (first | refine cg_region ?_ | refine qsp ?_ | refine qsn ?_ | refine qss ?_)
          rw [show (log.length : Int) - 1 = ((log.length - 1 : Nat) : Int) by omega]
          repeat (first | refine rg_nil ?_ | refine qsp ?_ | refine qsa ?_ | refine qsi ?_ | refine qsl ?_ | refine qsf ?_)
          refine eg_join _ ⟨rfl, rfl⟩ ⟨rfl, rfl, rfl, rfl, rfl, rfl, rfl, ?_, trivial⟩
          rw [hen]; rfl
        · have hpos : log = [] := List.eq_nil_of_length_eq_zero (by have := of_decide_eq_false h2; omega)
          repeat (first | refine cg_skip ?_)
          refine eg_join _ ⟨rfl, rfl⟩ ⟨rfl, rfl, rfl, rfl, rfl, rfl, rfl, ?_, trivial⟩
          rw [hpos]; rfl
      rintro _ _ ⟨rfl, rfl⟩
      have hen : 0 ≤ endLog log ∧ endLog log ≤ 1099511627777 := by
        unfold endLog
        cases hg : log.getLast? with
        | none => exact ⟨by decide, by decide⟩
        | some y =>
          have hf := (hform y (List.mem_of_getLast? hg)).last
          dsimp only; omega
      obtain ⟨en, hene⟩ : ∃ en, endLog log = en := ⟨_, rfl⟩
      rw [hene] at hen ⊢
      have heI : I64 en := by unfold I64; omega
      have cb10 := cells_at (vs := b.cs ab cb) hk10 rfl
      repeat (first | refine cg_seq ?_ | refine cg_region ?_ | refine eg_then ?_ | refine qsp ?_ | refine qsg ?_)
      refine rvh (h := KK) rfl rfl rfl rfl rfl rfl rfl hlog.1 (moved_ct hsr hbok heI) ?_
      rintro K11 k11 _ hKK11 hag11 hle11 hKk11 ⟨am, cm, rfl, hsm, hmok⟩
      have hlog := hlog.call hKK11 hag11 hle11 hKk11
      have hk11 := hle11 _ _ hk10
      repeat (first | refine qsp ?_)
      refine rb rfl rfl rfl rfl (a_alloc rfl) ?_; intro b12 k12 hb12 hN12 hle12 hk12
      skip
      refine rw1 rfl rfl rfl rfl rfl rfl rfl hk12 rfl (.inl hN12) ?_ ?_; (simp [Did.vs, ProdT.cs, Rec.vs, Batch.cs, Tp.vs, Member.cs, Group.cs, Value.oneCell']); intro k13 ht13 hk13
      have hle13 : Le k11 k13 := ht13 k11 hle12 hb12
      have hlog := hlog.le hle13
      have hk13' := hle13 _ _ hk11
      have hle2' : Le k1 K11 := hKK.trans hKK11
      have hsl := hsl.le hKK11
      have hmz := @movedR_zero b en
      obtain ⟨⟨mb, er⟩, hmr⟩ : ∃ q, movedR b en = q := ⟨_, rfl⟩
      rw [hmr] at hk13 hsm hmok hmz ⊢
      dsimp only at hk13 hsm hmok hmz ⊢
      obtain ⟨p0, p1, p2, p3, p4, p5, p6, p7, p8, p9⟩ := Batch.parts (cells_at (vs := b.cs ab cb) hk13' rfl)
      repeat (first | refine cg_seq ?_ | refine cg_region ?_ | refine rg_nil ?_ | refine eg_then ?_ | refine qsp ?_)
      cases q3 : (er != 0)
      case true =>
        repeat (first | refine cg_region ?_ | refine rg_nil ?_ | refine eg_then ?_ | refine qsp ?_ | refine qsa ?_ | refine qso ?_ | refine cg_cond_true rfl ?_ | refine cg_exit ?_ | refine eg_then_exit ?_ | refine eg_in_exit ?_)
        exact eg_again (i + 1) _ ⟨K11, l, al, cl, _, log, hle2', hlog, hsl, hinv, hform, by omega, hlt, rfl⟩ (by omega) ⟨rfl, rfl, rfl, rfl, rfl, rfl, trivial⟩
      have q3 : er = 0 := by simpa using q3
      subst q3
      repeat (first | refine qsp ?_ | refine qsl ?_ | refine qsf ?_)
      cases q4 : (b.ctl != 0)
      case true =>
        repeat (first | refine cg_region ?_ | refine rg_nil ?_ | refine eg_then ?_ | refine qsp ?_ | refine qsa ?_ | refine qso ?_ | refine cg_cond_true rfl ?_ | refine cg_exit ?_ | refine eg_then_exit ?_ | refine eg_in_exit ?_)
        exact eg_again (i + 1) _ ⟨K11, l, al, cl, _, log, hle2', hlog, hsl, hinv, hform, by omega, hlt, rfl⟩ (by omega) ⟨rfl, rfl, rfl, rfl, rfl, rfl, trivial⟩
      have q4 : b.ctl = 0 := by simpa using q4
      repeat (first | refine rg_nil ?_ | refine eg_then ?_ | refine qsp ?_ | refine qsl ?_ | refine qsf ?_)
      cases q5 : decide (b.pid < 0)
      case true =>
        repeat (first | refine cg_region ?_ | refine rg_nil ?_ | refine eg_then ?_ | refine qsp ?_ | refine qsa ?_ | refine cg_cond_true rfl ?_ | refine cg_exit ?_ | refine eg_then_exit ?_ | refine eg_in_exit ?_)
        exact eg_again (i + 1) _ ⟨K11, l, al, cl, _, log, hle2', hlog, hsl, hinv, hform, by omega, hlt, rfl⟩ (by omega) ⟨rfl, rfl, rfl, rfl, rfl, rfl, trivial⟩
      have q5 := of_decide_eq_false q5
      obtain ⟨hm1, hm2, hm3⟩ := hmz rfl
      have hmf : FormP mb := chkB_form (by rw [hm1]; exact hm3)
      have hbf : FormP b := chkB_form hm2
      have hmpid : mb.pid = b.pid := by rw [hm1]; rfl
      have hmgen : mb.gen = b.gen := by rw [hm1]; rfl
      have hmseq : mb.seq = b.seq := by rw [hm1]; rfl
      have hmctl : mb.ctl = b.ctl := by rw [hm1]; rfl
      have hmspan : mb.last - mb.base = b.last - b.base := by
        rw [hm1]
        show b.last + (en - b.base) - en = _
        omega
      have hsm13 := hsm.le (hKk11.trans hle13)
      have hsl13 := hsl.le (hKk11.trans hle13)
      have cb13 := cells_at (vs := mb.cs am cm) hk13 rfl
      clear p0 p1 p2 p3 p4 p5 p6 p7 p8 p9
      repeat (first | refine cg_seq ?_ | refine cg_region ?_ | refine eg_then ?_ | refine qsp ?_ | refine qsg ?_ | refine cg_cond_false rfl ?_ | refine cg_skip ?_)
      refine rs rfl rfl (loc_call_is rfl rfl rfl rfl (look_ct hsl13 hsm13 hmok)) ?_
      have hsame := hinv.same (by omega) mb
      have hfound := @LogInv.found l log mb hinv
      have hthere := @LogInv.there l log mb hinv
      have hstep := @LogInv.step l log mb hinv (by omega) (by omega)
      have hput := (seqsPut_ctn hsl hsm hmok).ct
      generalize putR l mb = pr at hsame hthere hstep hput
      generalize lookR l mb = lk at hsame hfound hthere hstep
      obtain ⟨lb, lt, le'⟩ := lk
      obtain ⟨m', ep⟩ := pr
      unfold lookVal
      dsimp only at hsame hfound hthere hstep hput ⊢
      subst hsame
      repeat (first | refine cg_seq ?_ | refine cg_region ?_ | refine rg_nil ?_ | refine eg_then ?_ | refine qsp ?_)
      have slog13 := slog.le (hle11.trans hle13)
      refine cg_join (fun e' k' => e' = [(0, .is (.slice (some ⟨bx, ox, none⟩) bs.length c)), (1, .is (.slice (some ⟨box, oox, none⟩) order.length co)), (5, .is (.bool true)), (6, .is (.slice al l.length cl)), (7, .is (.slice av log.length cv)), (8, .is (.int .i64 (i : Int))), (11, .is (.pointer (some ⟨b12, 0, none⟩))), (14, .is (.bool lt)), (15, .is (.int .i64 ep))] ∧ k' = k13) ?_ ?_
      · cases lt
        case false =>
          repeat (first | refine cg_cond_false rfl ?_ | refine cg_skip ?_)
          exact eg_join _ ⟨rfl, rfl⟩ ⟨rfl, rfl, rfl, rfl, rfl, rfl, rfl, rfl, rfl, trivial⟩
        obtain ⟨x0, hx0, hx1⟩ := hfound rfl
        repeat (first | refine cg_seq ?_ | refine cg_region ?_ | refine rg_nil ?_ | refine eg_then ?_ | refine qsp ?_ | refine cg_cond_true rfl ?_ | refine cg_block ?_)
        refine cg_loop (fun (j : Nat) e k' => ∃ f : Bool, k' = k13 ∧ j ≤ log.length ∧ (∀ y ∈ log.take j, isThere lb b y → f = true) ∧
            e = [(0, .is (.slice (some ⟨bx, ox, none⟩) bs.length c)), (1, .is (.slice (some ⟨box, oox, none⟩) order.length co)), (5, .is (.bool true)), (6, .is (.slice al l.length cl)), (7, .is (.slice av log.length cv)), (8, .is (.int .i64 (i : Int))), (9, .is (.pointer (some ⟨b9, 0, none⟩))), (11, .is (.pointer (some ⟨b12, 0, none⟩))), (13, .is (.int .i64 lb)), (14, .is (.bool true)), (15, .is (.int .i64 ep)), (16, .is (.bool f)), (17, .is (.int .i64 (j : Int)))])
          (fun j => log.length - j) 0 ⟨false, rfl, by omega, fun y hy => by simp at hy, rfl⟩ ⟨rfl, rfl, rfl, rfl, rfl, rfl, rfl, rfl, rfl, rfl, rfl, rfl, rfl, trivial⟩ ?_
        rintro j e k14 ⟨f, rfl, hj, hfl, rfl⟩
        repeat (first | refine cg_seq ?_ | refine cg_region ?_ | refine rg_nil ?_ | refine eg_then ?_ | refine qsp ?_ | refine qsn ?_)
        refine cg_cond rfl (fun h3 => ?_) (fun h3 => ?_)
        · have hjlt : j < log.length := by have := of_decide_eq_true h3; omega
          obtain ⟨by', oy, cy, rfl, ⟨az, cz, rfl, hsz, hzok⟩, hcy⟩ := slog13.el j log[j] (List.getElem?_eq_getElem hjlt)
          have hf := hform _ (List.getElem_mem hjlt)
          have htk := List.take_succ_eq_append_getElem hjlt
          generalize log[j] = x at hsz hcy hf hzok htk
          have hnot : ¬ isThere lb b x → ∀ y ∈ log.take (j + 1), isThere lb b y → f = true := fun hx y hy hyt => by
            rw [htk] at hy
            rcases List.mem_append.1 hy with hy | hy
            · exact hfl y hy hyt
            · rw [List.mem_singleton.1 hy] at hyt; exact absurd hyt hx
          have f1 := hf.last; have f2 := hf.base; have f3 := hbf.last; have f4 := hbf.base
          obtain ⟨y0, y1, y2, y3, y4, y5, y6, y7, y8, y9⟩ := Batch.parts hcy
          obtain ⟨p0, p1, p2, p3, p4, p5, p6, p7, p8, p9⟩ := Batch.parts (cells_at (vs := b.cs ab cb) hk13' rfl)
          repeat (first | refine cg_seq ?_ | refine eg_then ?_ | refine cg_skip ?_ | refine cg_block ?_)
          refine cg_any (by kernel_rfl) rfl ?_
          cases f
          case true =>
            repeat (first | refine qwp ?_ | refine qwo ?_)
            refine wn rfl ?_
            repeat (first | refine cg_region ?_ | refine rg_nil ?_ | refine eg_then ?_ | refine qsp ?_ | refine qsa ?_ | refine eg_in_normal ?_)
            exact eg_again (j + 1) _ ⟨true, rfl, hjlt, fun _ _ _ => rfl, rfl⟩ (by omega) ⟨rfl, rfl, rfl, rfl, rfl, rfl, rfl, rfl, rfl, rfl, rfl, rfl, rfl, trivial⟩
          repeat (first | refine qwp ?_ | refine qwi ?_ | refine qwl ?_ | refine qwf ?_)
          cases r0 : (x.base == lb)
          case false =>
            have hno : ¬ isThere lb b x := fun hh => by
              have := hh.1
              rw [this] at r0
              simp at r0
            repeat (first | refine qwp ?_ | refine qwo ?_)
            refine wn rfl ?_
            repeat (first | refine cg_region ?_ | refine rg_nil ?_ | refine eg_then ?_ | refine qsp ?_ | refine qsa ?_ | refine eg_in_normal ?_)
            exact eg_again (j + 1) _ ⟨false, rfl, hjlt, hnot hno, rfl⟩ (by omega) ⟨rfl, rfl, rfl, rfl, rfl, rfl, rfl, rfl, rfl, rfl, rfl, rfl, rfl, trivial⟩
          repeat (first | refine qwp ?_ | refine qwi ?_ | refine qwl ?_ | refine qwf ?_)
          cases r1 : (x.pid == b.pid)
          case false =>
            have hno : ¬ isThere lb b x := fun hh => by
              have := hh.2.1
              rw [this] at r1
              simp at r1
            repeat (first | refine qwp ?_ | refine qwo ?_)
            refine wn rfl ?_
            repeat (first | refine cg_region ?_ | refine rg_nil ?_ | refine eg_then ?_ | refine qsp ?_ | refine qsa ?_ | refine eg_in_normal ?_)
            exact eg_again (j + 1) _ ⟨false, rfl, hjlt, hnot hno, rfl⟩ (by omega) ⟨rfl, rfl, rfl, rfl, rfl, rfl, rfl, rfl, rfl, rfl, rfl, rfl, rfl, trivial⟩
          repeat (first | refine qwp ?_ | refine qwi ?_ | refine qwl ?_ | refine qwf ?_)
          cases r2 : (x.gen == b.gen)
          case false =>
            have hno : ¬ isThere lb b x := fun hh => by
              have := hh.2.2.1
              rw [this] at r2
              simp at r2
            repeat (first | refine qwp ?_ | refine qwo ?_)
            refine wn rfl ?_
            repeat (first | refine cg_region ?_ | refine rg_nil ?_ | refine eg_then ?_ | refine qsp ?_ | refine qsa ?_ | refine eg_in_normal ?_)
            exact eg_again (j + 1) _ ⟨false, rfl, hjlt, hnot hno, rfl⟩ (by omega) ⟨rfl, rfl, rfl, rfl, rfl, rfl, rfl, rfl, rfl, rfl, rfl, rfl, rfl, trivial⟩
          repeat (first | refine qwp ?_ | refine qwi ?_ | refine qwl ?_ | refine qwf ?_)
          cases r3 : (x.seq == b.seq)
          case false =>
            have hno : ¬ isThere lb b x := fun hh => by
              have := hh.2.2.2.1
              rw [this] at r3
              simp at r3
            repeat (first | refine qwp ?_ | refine qwo ?_)
            refine wn rfl ?_
            repeat (first | refine cg_region ?_ | refine rg_nil ?_ | refine eg_then ?_ | refine qsp ?_ | refine qsa ?_ | refine eg_in_normal ?_)
            exact eg_again (j + 1) _ ⟨false, rfl, hjlt, hnot hno, rfl⟩ (by omega) ⟨rfl, rfl, rfl, rfl, rfl, rfl, rfl, rfl, rfl, rfl, rfl, rfl, rfl, trivial⟩
          repeat (first | refine qwp ?_ | refine qws ?_ | refine qwi ?_ | refine qwl ?_ | refine qwf ?_)
          cases r4 : (x.last - x.base == b.last - b.base)
          case false =>
            have hno : ¬ isThere lb b x := fun hh => by
              have := hh.2.2.2.2
              rw [this] at r4
              simp at r4
            skip
            refine wn rfl ?_
            repeat (first | refine cg_region ?_ | refine rg_nil ?_ | refine eg_then ?_ | refine qsp ?_ | refine qsa ?_ | refine eg_in_normal ?_)
            exact eg_again (j + 1) _ ⟨false, rfl, hjlt, hnot hno, rfl⟩ (by omega) ⟨rfl, rfl, rfl, rfl, rfl, rfl, rfl, rfl, rfl, rfl, rfl, rfl, rfl, trivial⟩
          skip
          refine wn rfl ?_
          repeat (first | refine cg_region ?_ | refine rg_nil ?_ | refine eg_then ?_ | refine qsp ?_ | refine qsa ?_ | refine eg_in_normal ?_)
          exact eg_again (j + 1) _ ⟨true, rfl, hjlt, fun _ _ _ => rfl, rfl⟩ (by omega) ⟨rfl, rfl, rfl, rfl, rfl, rfl, rfl, rfl, rfl, rfl, rfl, rfl, rfl, trivial⟩
        have hjl : j = log.length := by have := of_decide_eq_false h3; omega
        subst hjl
        rw [List.take_length] at hfl
        have : f = true := hfl x0 hx0 ⟨hx1.1, by rw [hx1.2.1, hmpid], by rw [hx1.2.2.1, hmgen], by rw [hx1.2.2.2.1, hmseq], by rw [hx1.2.2.2.2, hmspan]⟩
        subst this
        repeat (first | refine cg_seq ?_ | refine cg_region ?_ | refine rg_nil ?_ | refine eg_then ?_ | refine qsp ?_ | refine cg_cond_false rfl ?_ | refine cg_skip ?_ | refine cg_exit ?_ | refine eg_then_exit ?_ | refine eg_in_exit ?_)
        exact eg_join _ ⟨rfl, rfl⟩ ⟨rfl, rfl, rfl, rfl, rfl, rfl, rfl, rfl, rfl, trivial⟩
      rintro _ _ ⟨rfl, rfl⟩
      repeat (first | refine cg_seq ?_ | refine cg_region ?_ | refine eg_then ?_ | refine qsp ?_ | refine qsg ?_)
      refine rvh (h := K11) rfl rfl rfl rfl rfl rfl rfl hlog.1 hput ?_
      rintro K15 k15 _ hKK15 hag15 hle15 hKk15 ⟨N15, u15, rfl, own15⟩
      have hlog := hlog.call hKK15 hag15 hle15 hKk15
      have hk15 := hle15 _ _ hk13
      obtain ⟨an, cn, rfl, sn⟩ := own15.sl
      dsimp only
      repeat (first | refine cg_seq ?_ | refine cg_region ?_ | refine rg_nil ?_ | refine eg_then ?_ | refine qsp ?_)
      rw [show (ep != ep) = false by simp]
      dsimp only at sn
      have hsl15 := hsl.le hKK15
      have hKK' := hle2'.trans hKK15
      repeat (first | refine cg_seq ?_ | refine cg_region ?_ | refine rg_nil ?_ | refine eg_then ?_ | refine qsp ?_ | refine cg_cond_false rfl ?_ | refine cg_skip ?_)
      refine cg_cond rfl (fun h5 => ?_) (fun h5 => ?_)
      rotate_left
      · repeat (first | refine cg_region ?_ | refine rg_nil ?_ | refine eg_then ?_ | refine qsp ?_ | refine qsa ?_ | refine cg_skip ?_ | refine eg_in_normal ?_)
        exact eg_again (i + 1) _ ⟨K15, l, al, cl, _, log, hKK', hlog, hsl15, hinv, hform, by omega, hlt, rfl⟩ (by omega) ⟨rfl, rfl, rfl, rfl, rfl, rfl, trivial⟩
      have hep : ep = 0 := by simpa using h5
      subst hep
      cases lt
      case true =>
        have hml := hthere rfl rfl
        subst hml
        repeat (first | refine cg_seq ?_ | refine cg_region ?_ | refine rg_nil ?_ | refine eg_then ?_ | refine qsp ?_ | refine qsa ?_ | refine cg_cond_false rfl ?_ | refine cg_skip ?_ | refine eg_in_normal ?_)
        exact eg_again (i + 1) _ ⟨K15, m', an, cn, _, log, hKK', hlog, sn, hinv, hform, by omega, hlt, rfl⟩ (by omega) ⟨rfl, rfl, rfl, rfl, rfl, rfl, trivial⟩
      have hinv' := hstep rfl rfl
      obtain ⟨hleK, hapK, css, hpc, hrow⟩ := hlog
      have cb15 := cells_at (vs := mb.cs am cm) hk15 rfl
      have hrepK : tBatch.rep K15 (mb.cs am cm) mb := ⟨am, cm, rfl, hsm.le hKK15, hmok⟩
      repeat (first | refine cg_seq ?_ | refine cg_region ?_ | refine rg_nil ?_ | refine eg_then ?_ | refine qsp ?_ | refine qsg ?_ | refine cg_cond_true rfl ?_)
      refine rb rfl rfl rfl rfl (a_slice (cells := mb.cs am cm) rfl rfl rfl rfl (by kernel_rfl) rfl) ?_; intro bn k16 hbn hNn hle16 hkn
      refine rap (j := 1) (news := mb.cs am cm) rfl rfl rfl rfl rfl rfl rfl (hrow.le hle16) (cells_at hkn rfl) rfl (by simp [Batch.cs, Value.oneCell']) (by kernel_rfl) rfl (by unfold maxLen; omega) (by omega) ?_
      rintro v' k17 hrow17 ht17
      obtain ⟨hle17, hap17⟩ := ht17 K15 (hleK.trans hle16) hapK
      have hlog17 : LogAt F.w0.heap.size K15 k17 v' (log ++ [mb]) := ⟨hle17, hap17, css ++ [mb.cs am cm], hpc.append (Pieces.one hrepK), by simpa using hrow17⟩
      repeat (first | refine cg_region ?_ | refine rg_nil ?_ | refine eg_then ?_ | refine qsp ?_ | refine qsa ?_ | refine eg_in_normal ?_)
      refine eg_again (i + 1) _ ⟨K15, m', an, cn, v', log ++ [mb], hKK', hlog17, sn, hinv', ?_, by simp; omega, hlt, rfl⟩ (by omega) ⟨rfl, rfl, rfl, rfl, rfl, rfl, trivial⟩
      intro x hx
      rcases List.mem_append.1 hx with hx | hx
      · exact hform x hx
      · rw [List.mem_singleton.1 hx]; exact hmf
    have hil : i = order.length := by have := of_decide_eq_false h; omega
    have hll : log.length ≤ 40 := by omega
    obtain ⟨av, cv, rfl, slog⟩ := hlog.sl
    have hsl2 := hsl.le hlog.1
    clear hsl hKK hlog hln hi hil h
    have g1 := slog.cap; have g2 := slog.max; unfold maxLen at g2
    have hof := hinv.of
    have hord := hinv.ordered
    clear hinv
    repeat (first | refine cg_seq ?_ | refine cg_region ?_ | refine rg_nil ?_ | refine eg_then ?_ | refine qsp ?_ | refine cg_block ?_ | refine cg_exit ?_ | refine eg_then_exit ?_ | refine eg_in_exit ?_)
    refine cg_loop (fun (i : Nat) e k' => k' = k2 ∧ i ≤ log.length ∧ e = [(5, .is (.bool true)), (6, .is (.slice al l.length cl)), (7, .is (.slice av log.length cv)), (20, .is (.int .i64 (i : Int)))])
      (fun i => log.length - i) 0 ⟨rfl, Nat.zero_le _, rfl⟩ ⟨rfl, rfl, rfl, rfl, trivial⟩ ?_
    rintro i e k3 ⟨rfl, hi, rfl⟩
    repeat (first | refine cg_seq ?_ | refine cg_region ?_ | refine rg_nil ?_ | refine eg_then ?_ | refine qsp ?_ | refine qsn ?_)
    refine cg_cond rfl (fun h => ?_) (fun h => ?_)
    · have hlt : i < log.length := by have := of_decide_eq_true h; omega
      obtain ⟨bx, ox, cx, rfl, ⟨ax, cx', rfl, hsx, hxok⟩, hcx⟩ := slog.el i log[i] (List.getElem?_eq_getElem hlt)
      have hox := hord i hlt
      have hfx := hform _ (List.getElem_mem hlt)
      generalize log[i] = x at hsx hcx hox hfx hxok
      obtain ⟨x0, x1, x2, x3, x4, x5, x6, x7, x8, x9⟩ := Batch.parts hcx
      repeat (first | refine cg_seq ?_ | refine cg_region ?_ | refine rg_nil ?_ | refine eg_then ?_ | refine qsp ?_ | refine cg_skip ?_ | refine cg_block ?_)
      refine cg_loop (fun (q : Nat) e k' => ∃ w : Int, w = nextD (didsOf (log.take q) x.pid x.gen) ∧ k' = k3 ∧ q ≤ i ∧ e = [(5, .is (.bool true)), (6, .is (.slice al l.length cl)), (7, .is (.slice (some ⟨bx, ox, none⟩) log.length cv)), (20, .is (.int .i64 (i : Int))), (21, .is (.int .i64 w)), (22, .is (.int .i64 (q : Int)))])
        (fun q => i - q) 0 ⟨0, rfl, rfl, Nat.zero_le _, rfl⟩ ⟨rfl, rfl, rfl, rfl, rfl, rfl, trivial⟩ ?_
      rintro q e k4 ⟨w, hw, rfl, hq, rfl⟩
      repeat (first | refine cg_seq ?_ | refine cg_region ?_ | refine rg_nil ?_ | refine eg_then ?_ | refine qsp ?_)
      refine cg_cond rfl (fun h2 => ?_) (fun h2 => ?_)
      · have hlq : q < log.length := by have := of_decide_eq_true h2; omega
        have hqi : q < i := by have := of_decide_eq_true h2; omega
        obtain ⟨_, _, cy, had, ⟨ay, cy', rfl, hsy, hyok⟩, hcy⟩ := slog.el q log[q] (List.getElem?_eq_getElem hlq)
        cases had
        have hfy := hform _ (List.getElem_mem hlq)
        have hds := didsOf_take hlq x.pid x.gen
        have hmem : log[q] ∈ log.take i := List.mem_take_iff_getElem.2 ⟨q, by omega, rfl⟩
        have hgen := hox.2 _ hmem
        generalize log[q] = y at hsy hcy hfy hds hgen hyok hmem
        obtain ⟨y0, y1, y2, y3, y4, y5, y6, y7, y8, y9⟩ := Batch.parts hcy
        have f1 := hfy.last; have f2 := hfy.base; have f3 := hfy.seq; have f4 := hfy.span
        have hqg : decide (y.pid = x.pid) = true → decide (y.gen > x.gen) = false := fun hp => decide_eq_false (by have := hgen (of_decide_eq_true hp); omega)
        have hbp : (y.pid == x.pid) = decide (y.pid = x.pid) := by by_cases hh : y.pid = x.pid <;> simp [hh]
        have hbg : (y.gen == x.gen) = decide (y.gen = x.gen) := by by_cases hh : y.gen = x.gen <;> simp [hh]
        have his : isOf x.pid x.gen y = (decide (y.pid = x.pid) && decide (y.gen = x.gen)) := rfl
        repeat (first | refine cg_seq ?_ | refine eg_then ?_ | refine cg_skip ?_ | refine cg_block ?_)
        refine cg_any (by kernel_rfl) rfl ?_
        repeat (first | refine qwp ?_ | refine qwi ?_ | refine qwl ?_ | refine qwf ?_)
        rw [hbp]
        cases r1 : decide (y.pid = x.pid)
        case false =>
          rw [r1] at his
          rw [his] at hds
          repeat (first | refine qwp ?_ | refine qwo ?_ | (refine wn rfl ?_; refine eg_then ?_))
          repeat (first | refine cg_seq ?_ | refine eg_then ?_ | refine cg_cond_false rfl ?_ | refine cg_skip ?_)
          refine cg_any (by kernel_rfl) rfl ?_
          repeat (first | refine qwp ?_ | refine qwi ?_ | refine qwl ?_ | refine qwf ?_)
          rw [hbp, r1]
          repeat (first | refine qwp ?_ | refine qwo ?_ | (refine wn rfl ?_; refine eg_then ?_))
          repeat (first | refine cg_region ?_ | refine rg_nil ?_ | refine eg_then ?_ | refine qsp ?_ | refine qsa ?_ | refine cg_cond_false rfl ?_ | refine cg_skip ?_ | refine eg_in_normal ?_)
          exact eg_again (q + 1) _ ⟨w, by rw [hds]; simpa using hw, rfl, hqi, rfl⟩ (by omega) ⟨rfl, rfl, rfl, rfl, rfl, rfl, trivial⟩
        rw [r1] at his
        repeat (first | refine qwp ?_ | refine qwi ?_ | refine qwl ?_ | refine qwf ?_ | (refine wn rfl ?_; refine eg_then ?_))
        rw [hbg]
        cases r2 : decide (y.gen = x.gen)
        case false =>
          rw [r2] at his
          rw [his] at hds
          skip
          repeat (first | refine cg_seq ?_ | refine eg_then ?_ | refine cg_cond_false rfl ?_ | refine cg_skip ?_)
          refine cg_any (by kernel_rfl) rfl ?_
          repeat (first | refine qwp ?_ | refine qwi ?_ | refine qwl ?_ | refine qwf ?_)
          rw [hbp, r1]
          repeat (first | refine qwp ?_ | refine qwi ?_ | refine qwl ?_ | refine qwf ?_ | (refine wn rfl ?_; refine eg_then ?_))
          rw [hqg r1]
          skip
          repeat (first | refine cg_region ?_ | refine rg_nil ?_ | refine eg_then ?_ | refine qsp ?_ | refine qsa ?_ | refine cg_cond_false rfl ?_ | refine cg_skip ?_ | refine eg_in_normal ?_)
          exact eg_again (q + 1) _ ⟨w, by rw [hds]; simpa using hw, rfl, hqi, rfl⟩ (by omega) ⟨rfl, rfl, rfl, rfl, rfl, rfl, trivial⟩
        rw [r2] at his
        rw [his] at hds
        skip
        repeat (first | refine cg_cond_true rfl ?_)
        refine cg_any (by kernel_rfl) rfl ?_
        repeat (first | refine qwp ?_ | refine qwa ?_ | refine qws ?_ | refine qwi ?_ | refine qwl ?_ | refine qwf ?_ | (refine wn rfl ?_; refine eg_then ?_))
        repeat (first | refine cg_seq ?_)
        refine cg_any (by kernel_rfl) rfl ?_
        repeat (first | refine qwp ?_ | refine qwi ?_ | refine qwl ?_ | refine qwf ?_)
        rw [hbp, r1]
        repeat (first | refine qwp ?_ | refine qwi ?_ | refine qwl ?_ | refine qwf ?_ | (refine wn rfl ?_; refine eg_then ?_))
        rw [hqg r1]
        skip
        repeat (first | refine cg_region ?_ | refine rg_nil ?_ | refine eg_then ?_ | refine qsp ?_ | refine qsa ?_ | refine cg_cond_false rfl ?_ | refine cg_skip ?_ | refine eg_in_normal ?_)
        refine eg_again (q + 1) _ ⟨y.seq + y.last - y.base + 1, ?_, rfl, hqi, rfl⟩ (by omega) ⟨rfl, rfl, rfl, rfl, rfl, rfl, trivial⟩
        rw [hds, if_pos (by rfl), nextD_snoc]
        unfold didB; rfl
      have hqi : q = i := by have := of_decide_eq_false h2; omega
      subst hqi
      rw [← hox.1] at hw
      subst hw
      repeat (first | refine cg_seq ?_ | refine cg_region ?_ | refine rg_nil ?_ | refine eg_then ?_ | refine qsp ?_ | refine qsi ?_ | refine qsl ?_ | refine qsf ?_ | refine cg_exit ?_ | refine eg_then_exit ?_ | refine eg_in_exit ?_)
      rw [show (x.seq != x.seq) = false by simp]
      repeat (first | refine cg_region ?_ | refine rg_nil ?_ | refine eg_then ?_ | refine qsp ?_ | refine qsa ?_ | refine cg_cond_false rfl ?_ | refine cg_skip ?_ | refine eg_in_normal ?_)
      exact eg_again (q + 1) _ ⟨rfl, hlt, rfl⟩ (by omega) ⟨rfl, rfl, rfl, rfl, trivial⟩
    repeat (first | refine cg_seq ?_ | refine cg_region ?_ | refine eg_then ?_ | refine qsp ?_ | refine cg_exit ?_ | refine eg_then_exit ?_ | refine eg_in_exit ?_)
    refine rvn rfl rfl rfl rfl rfl rfl rfl (of_ctn slog) ?_
    rintro N4 k4 v4 hN4 _ hle4 own4
    rw [hof] at own4
    obtain ⟨am, cm, rfl, sm⟩ := own4.sl
    have hsl4 := hsl2.le hle4
    repeat (first | refine qsp ?_)
    refine rs rfl rfl (loc_call_is rfl rfl rfl rfl (samePd_ct sm hsl4)) ?_
    rw [decide_eq_true (rfl : l = l)]
    repeat (first | refine cg_seq ?_ | refine cg_region ?_ | refine rg_nil ?_ | refine eg_then ?_ | refine qsp ?_ | refine cg_ret ?_)
    exact eg_return rfl rfl rfl
end Go.Wm
