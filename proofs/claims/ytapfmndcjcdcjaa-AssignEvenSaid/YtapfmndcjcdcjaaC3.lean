/-
  Members that are given a share: 'With'. Conditions: that what is handed in reads as data, and that members are few.
-/
import Derived.Test.YtapfmndcjcdcjaaC2
import Derived.Test.YtapfmndcjcdcjaaMore
set_option linter.all false
namespace Go.Wm
open Go.RowKit Go.Proofs
attribute [local irreducible] RG CG EG WA Loc Det Alc CT Exit.then Exit.inBlock Code.wp bodyPost

/-- Members with a share; those without a list have nothing. -/
def withM (l : List Mem) (own : List (List Tp)) : List Mem := l.zipIdx.map fun x => { x.1 with own := own.getD x.2 [] }
theorem withM_len (l : List Mem) (own : List (List Tp)) : (withM l own).length = l.length := by simp [withM]
theorem withM_get {l : List Mem} {own : List (List Tp)} {i : Nat} (h : i < l.length) : (withM l own)[i]? = some { l[i] with own := own.getD i [] } := by simp [withM, h]
def mixM (l : List Mem) (own : List (List Tp)) (i : Nat) : List Mem := (withM l own).take i ++ l.drop i
theorem mixM_len {l : List Mem} {own : List (List Tp)} {i : Nat} (h : i ≤ l.length) : (mixM l own i).length = l.length := by simp [mixM, withM_len]; omega
theorem mixM_get {l : List Mem} {own : List (List Tp)} {i : Nat} (h : i < l.length) : (mixM l own i)[i]? = some l[i] := by
  unfold mixM
  rw [List.getElem?_append_right (by simp [withM_len]; omega)]
  simp [withM_len, Nat.min_eq_left (Nat.le_of_lt h), h]
theorem mixM_set {l : List Mem} {own : List (List Tp)} {i : Nat} (h : i < l.length) : (mixM l own i).set i { l[i] with own := own.getD i [] } = mixM l own (i + 1) := by
  apply List.ext_getElem?
  intro j
  have e1 : ((withM l own).take i).length = i := by simp [withM_len]; omega
  have e2 : ((withM l own).take (i + 1)).length = i + 1 := by simp [withM_len]; omega
  rw [List.getElem?_set, mixM_len (by omega)]
  by_cases hij : i = j
  · subst hij
    simp only [if_true, h]
    unfold mixM
    rw [List.getElem?_append_left (by omega), List.getElem?_take, if_pos (by omega), withM_get h]
  · rw [if_neg hij]
    unfold mixM
    by_cases hj : j < i
    · rw [List.getElem?_append_left (by omega), List.getElem?_append_left (by omega), List.getElem?_take, List.getElem?_take, if_pos hj, if_pos (by omega)]
    · rw [List.getElem?_append_right (by omega), List.getElem?_append_right (by omega), List.getElem?_drop, List.getElem?_drop, e1, e2]
      congr 1
      omega

theorem mem_one (k : PH) (cs : List Value) (x : Mem) (h : tMem.rep k cs x) : ∀ u ∈ cs, u.oneCell' = true := by
  obtain ⟨sa, sc, oa, oc, rfl, _⟩ := h
  simp [memVs, Value.oneCell']

set_option maxHeartbeats 1000000 in
theorem with_ct {k : PH} {a b : Option Addr} {c d : Nat} {l : List Mem} {own : List (List Tp)} (hl : Sl tMem k a c l) (ho : Sl (tSl tTp) k b d own) (hb : l.length ≤ 1000000) :
    CT Try.prog 16 #[.slice a l.length c, .slice b own.length d] k (fun k' v => ∃ a' c', v = .slice a' (withM l own).length c' ∧ Sl tMem k' a' c' (withM l own)) := by
  refine ct_of_body (l := [_, _]) Try.func16 rfl Try.ntmps16 (by simp) (fun k k' v hle ⟨a, c, h1, h2⟩ => ⟨a, c, h1, h2.le hle⟩) fun F hF0 hFm => ?_
  have b1 := hl.cap; have b2 := hl.max; unfold maxLen at b2
  have b3 := ho.cap; have b4 := ho.max; unfold maxLen at b4
  repeat (first | refine cg_seq ?_ | refine cg_region ?_ | refine rg_nil ?_ | refine eg_then ?_ | refine qsp ?_ | refine qsn ?_ | refine qsa ?_ | refine qss ?_ | refine qsi ?_ | refine qsz ?_ | refine qsl ?_ | refine qsg ?_ | refine qsf ?_ | refine qsd ?_ | refine qse ?_ | refine qsx ?_ | refine qso ?_ | refine cg_cond_true rfl ?_ | refine cg_cond_false rfl ?_ | refine cg_skip ?_ | refine cg_block ?_ | refine eg_in_normal ?_ | refine cg_ret ?_ | refine eg_then_ret ?_ | refine eg_in_ret ?_ | refine cg_exit ?_ | refine eg_then_exit ?_ | refine eg_in_exit ?_ | refine eg_in_other rfl ?_)
  refine raps (v := .slice none 0 0) rfl rfl rfl rfl rfl rfl rfl (row_nil _ _ _ _) hl mem_one rfl rfl (by unfold maxLen; omega) (by omega) ?_
  intro v k1 css hp hrow ht
  obtain ⟨hle1, hap⟩ := ht k (Le.refl _) (apart_nil _ _ _)
  rw [List.nil_append, Nat.zero_add] at hrow
  obtain ⟨va, vc, rfl⟩ : ∃ va vc, v = .slice va l.length vc := by
    obtain ⟨_, h5⟩ := hrow
    rcases h5 with ⟨rfl, h6⟩ | ⟨g, cap, cur, rfl, _⟩
    · exact ⟨none, 0, by rw [h6]⟩
    · exact ⟨_, cap, rfl⟩
  have hmix0 : mixM l own 0 = l := by simp [mixM]
  repeat (first | refine cg_seq ?_ | refine cg_region ?_ | refine rg_nil ?_ | refine eg_then ?_ | refine qsp ?_ | refine qsn ?_ | refine qsa ?_ | refine qss ?_ | refine qsi ?_ | refine qsz ?_ | refine qsl ?_ | refine qsg ?_ | refine qsf ?_ | refine qsd ?_ | refine qse ?_ | refine qsx ?_ | refine qso ?_ | refine cg_cond_true rfl ?_ | refine cg_cond_false rfl ?_ | refine cg_skip ?_ | refine cg_block ?_ | refine eg_in_normal ?_ | refine cg_ret ?_ | refine eg_then_ret ?_ | refine eg_in_ret ?_ | refine cg_exit ?_ | refine eg_then_exit ?_ | refine eg_in_exit ?_ | refine eg_in_other rfl ?_)
  refine cg_loop (fun (i : Nat) e k' => ∃ css', Row F.w0.heap.size k' 34 6 (.slice va l.length vc) l.length css'.flatten ∧ Pieces tMem k css' (mixM l own i) ∧ Le k k' ∧ i ≤ l.length ∧ e = [(1, .is (.slice b own.length d)), (5, .is (.slice va l.length vc)), (10, .is (.int .i64 (l.length : Int))), (11, .is (.int .i64 (i : Int)))])
    (fun i => l.length - i) 0 ⟨css, hrow, by rw [hmix0]; exact hp, hle1, Nat.zero_le _, rfl⟩ ⟨rfl, rfl, rfl, rfl, trivial⟩ ?_
  rintro i e k2 ⟨css', hrow2, hp2, hle2, hi, rfl⟩
  repeat (first | refine cg_seq ?_ | refine cg_region ?_ | refine rg_nil ?_ | refine eg_then ?_ | refine qsp ?_ | refine qsn ?_ | refine qsa ?_ | refine qss ?_ | refine qsi ?_ | refine qsz ?_ | refine qsl ?_ | refine qsg ?_ | refine qsf ?_ | refine qsd ?_ | refine qse ?_ | refine qsx ?_ | refine qso ?_ | refine cg_cond_true rfl ?_ | refine cg_cond_false rfl ?_ | refine cg_skip ?_ | refine cg_block ?_ | refine eg_in_normal ?_ | refine cg_ret ?_ | refine eg_then_ret ?_ | refine eg_in_ret ?_ | refine cg_exit ?_ | refine eg_then_exit ?_ | refine eg_in_exit ?_ | refine eg_in_other rfl ?_)
  refine cg_cond rfl (fun h => ?_) (fun h => ?_)
  · have hlt : i < l.length := by simpa using h
    have hcl : i < css'.length := by rw [hp2.1, mixM_len (by omega)]; exact hlt
    have hci : css'[i]? = some css'[i] := List.getElem?_eq_getElem hcl
    generalize css'[i] = cs at hci
    obtain ⟨sa, sc, oa, oc, rfl, hsub, hown, hid⟩ := hp2.2 i cs l[i] hci (mixM_get hlt)
    obtain ⟨g, cap, cur, e0, hNg, hk2, hsz, _, hst⟩ := hrow2.cell (j := 3) hp2.len hci (by decide)
    cases e0
    have hgk : k g = none := hap g rfl
    repeat (first | refine cg_seq ?_ | refine cg_region ?_ | refine rg_nil ?_ | refine eg_then ?_ | refine qsp ?_ | refine qsn ?_ | refine qsa ?_ | refine qss ?_ | refine qsi ?_ | refine qsz ?_ | refine qsl ?_ | refine qsg ?_ | refine qsf ?_ | refine qsd ?_ | refine qse ?_ | refine qsx ?_ | refine qso ?_ | refine cg_cond_true rfl ?_ | refine cg_cond_false rfl ?_ | refine cg_skip ?_ | refine cg_block ?_ | refine eg_in_normal ?_ | refine cg_ret ?_ | refine eg_then_ret ?_ | refine eg_in_ret ?_ | refine cg_exit ?_ | refine eg_then_exit ?_ | refine eg_in_exit ?_ | refine eg_in_other rfl ?_)
    refine rw0 rfl rfl rfl rfl rfl rfl rfl rfl hk2 ?_ (.inl hNg) ?_
    · omega
    intro k3 ht3 hk3
    simp only [Nat.zero_add] at hk3
    have hrow3 := hst k3 _ ht3 hk3
    have hle3 := ht3 k hle2 hgk
    have hp3 := hp2.set i (x := { l[i] with own := [] }) (cs := (memVs l[i] sa sc oa oc).set 3 (.slice none 0 0)) ⟨sa, sc, none, 0, rfl, hsub, ⟨by simp, by simp [maxLen], fun _ => rfl, by simp, by simp⟩, hid⟩
    repeat (first | refine cg_seq ?_ | refine cg_region ?_ | refine rg_nil ?_ | refine eg_then ?_ | refine qsp ?_ | refine qsn ?_ | refine qsa ?_ | refine qss ?_ | refine qsi ?_ | refine qsz ?_ | refine qsl ?_ | refine qsg ?_ | refine qsf ?_ | refine qsd ?_ | refine qse ?_ | refine qsx ?_ | refine qso ?_ | refine cg_cond_true rfl ?_ | refine cg_cond_false rfl ?_ | refine cg_skip ?_ | refine cg_block ?_ | refine eg_in_normal ?_ | refine cg_ret ?_ | refine eg_then_ret ?_ | refine eg_in_ret ?_ | refine cg_exit ?_ | refine eg_then_exit ?_ | refine eg_in_exit ?_ | refine eg_in_other rfl ?_)
    refine cg_cond rfl (fun h2 => ?_) (fun h2 => ?_)
    · have hio : i < own.length := by simpa using h2
      obtain ⟨bx, ox, cx, rfl, ⟨ax, acx, rfl, hsx⟩, hcx⟩ := ho.el i own[i] (List.getElem?_eq_getElem hio)
      have hcx3 := hcx.le hle3
      have hci3 : (css'.set i ((memVs l[i] sa sc oa oc).set 3 (.slice none 0 0)))[i]? = some ((memVs l[i] sa sc oa oc).set 3 (.slice none 0 0)) := by simp [hcl]
      obtain ⟨g', cap', cur', e0', hNg', hk3', hsz', _, hst'⟩ := hrow3.cell (j := 3) hp3.len hci3 (by decide)
      cases e0'
      repeat (first | refine cg_seq ?_ | refine cg_region ?_ | refine rg_nil ?_ | refine eg_then ?_ | refine qsp ?_ | refine qsn ?_ | refine qsa ?_ | refine qss ?_ | refine qsi ?_ | refine qsz ?_ | refine qsl ?_ | refine qsg ?_ | refine qsf ?_ | refine qsd ?_ | refine qse ?_ | refine qsx ?_ | refine qso ?_ | refine cg_cond_true rfl ?_ | refine cg_cond_false rfl ?_ | refine cg_skip ?_ | refine cg_block ?_ | refine eg_in_normal ?_ | refine cg_ret ?_ | refine eg_then_ret ?_ | refine eg_in_ret ?_ | refine cg_exit ?_ | refine eg_then_exit ?_ | refine eg_in_exit ?_ | refine eg_in_other rfl ?_)
      refine rw0 rfl rfl rfl rfl rfl rfl rfl rfl hk3' ?_ (.inl hNg) ?_
      · omega
      intro k4 ht4 hk4
      simp only [Nat.zero_add] at hk4
      have hrow4 := hst' k4 _ ht4 hk4
      have hle4 := ht4 k hle3 hgk
      have hp4 := hp3.set i (x := { l[i] with own := own[i] }) (cs := ((memVs l[i] sa sc oa oc).set 3 (.slice none 0 0)).set 3 (.slice ax own[i].length acx)) ⟨sa, sc, ax, acx, rfl, hsub, hsx, hid⟩
      repeat (first | refine cg_seq ?_ | refine cg_region ?_ | refine rg_nil ?_ | refine eg_then ?_ | refine qsp ?_ | refine qsn ?_ | refine qsa ?_ | refine qss ?_ | refine qsi ?_ | refine qsz ?_ | refine qsl ?_ | refine qsg ?_ | refine qsf ?_ | refine qsd ?_ | refine qse ?_ | refine qsx ?_ | refine qso ?_ | refine cg_cond_true rfl ?_ | refine cg_cond_false rfl ?_ | refine cg_skip ?_ | refine cg_block ?_ | refine eg_in_normal ?_ | refine cg_ret ?_ | refine eg_then_ret ?_ | refine eg_in_ret ?_ | refine cg_exit ?_ | refine eg_then_exit ?_ | refine eg_in_exit ?_ | refine eg_in_other rfl ?_)
      refine eg_again (i + 1) _ ⟨_, hrow4, ?_, hle4, hlt, rfl⟩ (by omega) ⟨rfl, rfl, rfl, rfl, trivial⟩
      have he : own.getD i [] = own[i] := by simp [hio]
      rw [← mixM_set hlt, he]
      simpa only [List.set_set] using hp4
    · have hio : ¬ i < own.length := by simpa using h2
      repeat (first | refine cg_seq ?_ | refine cg_region ?_ | refine rg_nil ?_ | refine eg_then ?_ | refine qsp ?_ | refine qsn ?_ | refine qsa ?_ | refine qss ?_ | refine qsi ?_ | refine qsz ?_ | refine qsl ?_ | refine qsg ?_ | refine qsf ?_ | refine qsd ?_ | refine qse ?_ | refine qsx ?_ | refine qso ?_ | refine cg_cond_true rfl ?_ | refine cg_cond_false rfl ?_ | refine cg_skip ?_ | refine cg_block ?_ | refine eg_in_normal ?_ | refine cg_ret ?_ | refine eg_then_ret ?_ | refine eg_in_ret ?_ | refine cg_exit ?_ | refine eg_then_exit ?_ | refine eg_in_exit ?_ | refine eg_in_other rfl ?_)
      refine eg_again (i + 1) _ ⟨_, hrow3, ?_, hle3, hlt, rfl⟩ (by omega) ⟨rfl, rfl, rfl, rfl, trivial⟩
      have he : own.getD i [] = [] := by simp [hio]
      rw [← mixM_set hlt, he]
      exact hp3
  · have hil : i = l.length := by simp at h; omega
    subst hil
    have hm : mixM l own l.length = withM l own := by simp [mixM, ← withM_len l own]
    rw [hm] at hp2
    have hrow3 := hrow2
    rw [show l.length = (withM l own).length from (withM_len l own).symm] at hrow3
    obtain ⟨a', c', he, hsl⟩ := hrow3.sls (T := tMem) (hp2.le hle2)
    repeat (first | refine cg_seq ?_ | refine cg_region ?_ | refine rg_nil ?_ | refine eg_then ?_ | refine qsp ?_ | refine qsn ?_ | refine qsa ?_ | refine qss ?_ | refine qsi ?_ | refine qsz ?_ | refine qsl ?_ | refine qsg ?_ | refine qsf ?_ | refine qsd ?_ | refine qse ?_ | refine qsx ?_ | refine qso ?_ | refine cg_cond_true rfl ?_ | refine cg_cond_false rfl ?_ | refine cg_skip ?_ | refine cg_block ?_ | refine eg_in_normal ?_ | refine cg_ret ?_ | refine eg_then_ret ?_ | refine eg_in_ret ?_ | refine cg_exit ?_ | refine eg_then_exit ?_ | refine eg_in_exit ?_ | refine eg_in_other rfl ?_)
    refine eg_return rfl rfl ⟨a', c', ?_, hsl⟩
    rw [← he, withM_len]
end Go.Wm
