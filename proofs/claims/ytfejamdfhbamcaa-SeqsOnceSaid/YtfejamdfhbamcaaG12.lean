/-
  Producers, what is read of them: bounds, and what stays while they are read. Conditions: none.
-/
import Derived.Test.YtfejamdfhbamcaaG11
import Derived.Test.YtfejamdfhbamcaaG6
set_option linter.all false
namespace Go.Wm
open Go.RowKit Go.Proofs
theorem varR_lt : ∀ (l : List Nat) (i z : Nat), Bytes l → i ≤ 9 → z < 128 ^ i → (varR i z l).2 = 0 → (varR i z l).1.1 < 18446744073709551616 := by
  intro l
  induction l with
  | nil => intro i z _ _ _ h; simp [varR] at h
  | cons x r ih =>
    intro i z hb hi hz h
    have hx := hb x (by simp)
    rw [varR_cons] at h ⊢
    by_cases h1 : (i = 9 ∧ 1 < x) ∨ (0 < i ∧ x = 0)
    · rw [if_pos h1] at h; simp at h
    rw [if_neg h1] at h ⊢
    by_cases h2 : x < 128
    · rw [if_pos h2]
      dsimp only
      by_cases h9 : i = 9
      · have hpl := pow128_le hi
        have : x ≤ 1 := by omega
        have : x * 128 ^ i ≤ 1 * 128 ^ i := Nat.mul_le_mul_right _ this
        omega
      · have e1 := var_next hz h2
        have e2 := pow128_le (i := i + 1) (by omega)
        omega
    · rw [if_neg h2] at h ⊢
      have h9 : i ≠ 9 := fun h9 => h1 (.inl ⟨h9, by omega⟩)
      exact ih _ _ (fun y hy => hb y (by simp [hy])) (by omega) (var_next hz (by omega)) h
theorem getVarR_i64 {b : List Nat} {p : Int} (hb : Bytes b) : I64 (getVarR b p).1 := by
  unfold getVarR
  split
  · exact ⟨by dsimp only; decide, by dsimp only; decide⟩
  split
  · rename_i h
    have := varR_lt (b.drop p.toNat) 0 0 (fun x hx => hb x (List.mem_of_mem_drop hx)) (by omega) (by decide) h
    unfold unzig I64
    dsimp only
    split <;> omega
  · exact ⟨by dsimp only; decide, by dsimp only; decide⟩
theorem getVarR_next {b : List Nat} {p : Int} (hl : b.length ≤ 100000000) : I64 (getVarR b p).2.1 := by
  by_cases h : (getVarR b p).2.2 = 0
  · have := getVarR_le h; unfold I64; omega
  · have : (getVarR b p).2.1 = 0 := by
      unfold getVarR at h ⊢
      split
      · rfl
      · rename_i h1
        rw [if_neg h1] at h
        split
        · rename_i h2; rw [if_pos h2] at h; exact absurd rfl h
        · rfl
    rw [this]; exact ⟨by decide, by decide⟩
theorem numR_ok {bs : List Nat} {p x q : Int} (hb : Bytes bs) (hl : bs.length ≤ 100000000) (h : numR bs p = some (x, q)) : I64 x ∧ I64 q := by
  have := numR_some h
  have h1 := getVarR_i64 (p := p) hb
  have h2 := getVarR_next (p := p) hl
  rw [this] at h1 h2
  exact ⟨h1, h2⟩
/-- The rest of three numbers. -/
def restR (bs : List Nat) : Nat → List Int → Int → Option (List Int × Int)
  | 0, ns, q => some (ns, q)
  | f + 1, ns, q => (numR bs q).bind fun x => restR bs f (ns ++ [x.1]) x.2
theorem didR_rest (bs : List Nat) (q : Int) : didR bs q = (restR bs 3 [] q).bind fun s => some (⟨s.1.getD 0 0, s.1.getD 1 0, s.1.getD 2 0⟩, s.2) := by
  unfold didR
  simp only [restR]
  cases h1 : numR bs q with
  | none => rfl
  | some x =>
    simp only [Option.bind_some]
    cases h2 : numR bs x.2 with
    | none => rfl
    | some y =>
      simp only [Option.bind_some]
      cases h3 : numR bs y.2 with
      | none => rfl
      | some z => simp
attribute [local irreducible] RG CG EG WA Loc Det Alc CT Exit.then Exit.inBlock Code.wp bodyPost
theorem Row.owner {N : Nat} {k : PH} {et et' sz : Nat} {v : Value} {m : Nat} {xs : List Value} (h : Row N k et sz v m xs) {b : Nat} {c : Array Value} {fr : Nat × Nat} (hb : k b = some (.cells c et' fr)) (hne : et ≠ et') : v.ownBlock ≠ some b := by
  obtain ⟨hl, (⟨rfl, rfl⟩ | ⟨g, cap, cur, rfl, hN, hk, h1, h2, h3, h4⟩)⟩ := h
  · simp [Value.ownBlock]
  · intro hc
    simp [Value.ownBlock] at hc
    subst hc
    rw [hk] at hb
    cases hb
    exact hne rfl
theorem Row.oneV {N : Nat} {k : PH} {et sz : Nat} {v : Value} {m : Nat} {xs : List Value} (h : Row N k et sz v m xs) : v.oneCell' = true := by
  obtain ⟨_, (⟨rfl, _⟩ | ⟨_, _, _, rfl, _⟩)⟩ := h <;> rfl
theorem Row.two {N N' : Nat} {k : PH} {et et' sz sz' : Nat} {v v' : Value} {m m' : Nat} {xs xs' : List Value} (h : Row N k et sz v m xs) (h' : Row N' k et' sz' v' m' xs') (hne : et ≠ et') {g : Nat} (hg : v.ownBlock = some g) : v'.ownBlock ≠ some g := by
  obtain ⟨hl, (⟨rfl, rfl⟩ | ⟨g', cap, cur, rfl, hN, hk, h1, h2, h3, h4⟩)⟩ := h
  · simp [Value.ownBlock] at hg
  · simp [Value.ownBlock] at hg
    subst hg
    exact h'.owner hk (Ne.symm hne)
/-- What is known in the midst of reading: the reader, both results' cells, and what was read ahead, whose batches are known in h. -/
structure InR (N : Nat) (k0 h K : PH) (bl bk br : Nat) (a : Option Addr) (c : Nat) (bs : List Nat) (q : Int) (v : Value) (m : Nat) (xs : List Value) : Prop where
  le0 : Le k0 K
  rdr : Rdr K br a c bs q
  cl : K bl = some (.cells #[v] 22 (0, 0))
  ck : K bk = some (.cells #[.bool false] 4 (0, 0))
  leh : Le h K
  row : Row N K 51 3 v m xs
structure FxR (N : Nat) (k0 h : PH) (bl bk br : Nat) (v : Value) : Prop where
  lk : bl ≠ bk
  lr : bl ≠ br
  kr : bk ≠ br
  l0 : k0 bl = none
  kk0 : k0 bk = none
  r0 : k0 br = none
  hl : h bl = none
  hk : h bk = none
  hr : h br = none
  ap : Apart h v
  a0 : Apart k0 v
section
variable {N : Nat} {k0 h K K' : PH} {bl bk br : Nat} {a : Option Addr} {c : Nat} {bs : List Nat} {q q' : Int} {v w w' : Value} {m : Nat} {xs : List Value}
theorem InR.turn {b : Nat} (I : InR N k0 h K bl bk br a c bs q v m xs) (ht : Turn1 K K' b) (hv : v.ownBlock ≠ some b) (h1 : b ≠ bl) (h2 : b ≠ bk) (h3 : b ≠ br) (hk0 : k0 b = none) (hh : h b = none) : InR N k0 h K' bl bk br a c bs q v m xs :=
  ⟨ht k0 I.le0 hk0, turn1_get ht (Ne.symm h3) I.rdr, turn1_get ht (Ne.symm h1) I.cl, turn1_get ht (Ne.symm h2) I.ck, ht h I.leh hh, I.row.at fun g hg => by
    obtain ⟨_, ob, ho⟩ := I.row.block hg
    rw [ho]
    exact turn1_get ht (fun e => hv (by rw [← e]; exact hg)) ho⟩
theorem InR.le (I : InR N k0 h K bl bk br a c bs q v m xs) (hl : Le K K') : InR N k0 h K' bl bk br a c bs q v m xs :=
  ⟨I.le0.trans hl, hl _ _ I.rdr, hl _ _ I.cl, hl _ _ I.ck, I.leh.trans hl, I.row.le hl⟩
theorem InR.next (I : InR N k0 h K bl bk br a c bs q v m xs) (X : FxR N k0 h bl bk br v) (ht : Turn1 K K' br) (hr : Rdr K' br a c bs q') : InR N k0 h K' bl bk br a c bs q' v m xs := by
  have hv := I.row.owner I.rdr (by decide)
  exact ⟨ht k0 I.le0 X.r0, hr, turn1_get ht X.lr I.cl, turn1_get ht X.kr I.ck, ht h I.leh X.hr, I.row.at fun g hg => by
    obtain ⟨_, ob, ho⟩ := I.row.block hg
    rw [ho]
    exact turn1_get ht (fun e => hv (by rw [← e]; exact hg)) ho⟩
theorem InR.app {m' : Nat} {xs' : List Value} (I : InR N k0 h K bl bk br a c bs q v m xs) (ht : Turn K K' w w') (hw : Row N K 101 3 w m' xs') (ha : Apart h w) (h0 : Apart k0 w) : InR N k0 h K' bl bk br a c bs q v m xs := by
  have hd := (ht (delV K w) (delV_le _ _) (fun g hg => delV_own hg)).1
  refine ⟨(ht k0 I.le0 h0).1, hd _ _ ?_, hd _ _ ?_, hd _ _ ?_, (ht h I.leh ha).1, (I.row.at (k' := delV K w) fun g hg => delV_of (I.row.two hw (by decide) hg)).le hd⟩
  · rw [delV_of (hw.owner I.rdr (by decide))]; exact I.rdr
  · rw [delV_of (hw.owner I.cl (by decide))]; exact I.cl
  · rw [delV_of (hw.owner I.ck (by decide))]; exact I.ck
end
/-- What read hands back. -/
def ReadV (r : Option (List ProdT)) (N : Nat) (k : PH) (v : Value) : Prop := match r with
  | some l => ∃ u, v = .tuple #[u, .bool true] ∧ POwn N k u l
  | none => v = .tuple #[.slice none 0 0, .bool false]
theorem ReadV.mono {r : Option (List ProdT)} : ∀ N k k' v, Le k k' → ReadV r N k v → ReadV r N k' v := fun N k k' v hle h => by
  cases r with
  | none => exact h
  | some l => obtain ⟨u, e, ho⟩ := h; exact ⟨u, e, ho.le hle⟩
end Go.Wm
