/-
  Producers as bytes, in plain Lean. Conditions: none.
-/
import Derived.Test.YtfejamdfhbamcaaM2
import Derived.Test.YtfejamdfhbamcaaE1
set_option linter.all false
namespace Go.Wm
/-! ### producers as bytes -/
def didL (d : Did) : List Nat := varL (zigN d.seq) ++ varL (zigN d.last) ++ varL (zigN d.base)
def prodHead (p : ProdT) : List Nat := varL (zigN p.pid) ++ varL (zigN p.gen) ++ varL (zigN (p.did.length : Int))
def prodL (p : ProdT) : List Nat := prodHead p ++ p.did.flatMap didL
def prodsL (l : List ProdT) : List Nat := varL (zigN (l.length : Int)) ++ l.flatMap prodL
def saveP (l : List ProdT) : List Nat × Int := if chkP l = 0 then (sealL (prodsL l), 0) else ([], chkP l)
def numR (b : List Nat) (at' : Int) : Option (Int × Int) := if (getVarR b at').2.2 = 0 then some ((getVarR b at').1, (getVarR b at').2.1) else none
def didR (b : List Nat) (at' : Int) : Option (Did × Int) :=
  (numR b at').bind fun x => (numR b x.2).bind fun y => (numR b y.2).bind fun z => some (⟨x.1, y.1, z.1⟩, z.2)
def didsR (b : List Nat) (m : Int) : Nat → List Did → Int → Option (List Did × Int)
  | 0, acc, at' => some (acc, at')
  | f + 1, acc, at' => if (acc.length : Int) < m then (didR b at').bind fun q => didsR b m f (acc ++ [q.1]) q.2 else some (acc, at')
def prodR (b : List Nat) (at' : Int) : Option (ProdT × Int) :=
  (numR b at').bind fun x => (numR b x.2).bind fun y => (numR b y.2).bind fun z => (didsR b z.1 6 [] z.2).bind fun q => some (⟨x.1, y.1, q.1⟩, q.2)
def prodsR (b : List Nat) (n : Int) : Nat → List ProdT → Int → Option (List ProdT)
  | 0, acc, _ => some acc
  | f + 1, acc, at' => if (acc.length : Int) < n then (prodR b at').bind fun q => prodsR b n f (acc ++ [q.1]) q.2 else some acc
def readP (b : List Nat) : Option (List ProdT) := (numR b 0).bind fun q => prodsR b q.1 1025 [] q.2
def loadP (b : List Nat) : List ProdT × Int := if (openR b).2 ≠ 0 then ([], (openR b).2) else match readP (openR b).1 with
  | none => ([], 11)
  | some l => if chkP l = 0 ∧ sealL (prodsL l) = b then (l, 0) else ([], 11)
theorem numR_at {p r : List Nat} {n : Int} (hn : I64 n) : numR (p ++ (varL (zigN n) ++ r)) (p.length : Int) = some (n, ((p ++ varL (zigN n)).length : Int)) := by
  unfold numR; rw [getVarR_at hn, List.length_append]; rfl
theorem didR_at {p r : List Nat} {d : Did} (h : didOk d = true) : didR (p ++ (didL d ++ r)) (p.length : Int) = some (d, ((p ++ didL d).length : Int)) := by
  unfold didOk at h
  simp only [Bool.and_eq_true, inI_iff] at h
  obtain ⟨h1, h2, h3⟩ := h
  have e1 : numR (p ++ (didL d ++ r)) (p.length : Int) = some (d.seq, ((p ++ varL (zigN d.seq)).length : Int)) := by
    have := numR_at (p := p) (n := d.seq) (r := varL (zigN d.last) ++ varL (zigN d.base) ++ r) (by unfold I64; omega)
    unfold didL; simp only [List.append_assoc] at this ⊢; exact this
  have e2 : numR (p ++ (didL d ++ r)) ((p ++ varL (zigN d.seq)).length : Int) = some (d.last, ((p ++ varL (zigN d.seq) ++ varL (zigN d.last)).length : Int)) := by
    have := numR_at (p := p ++ varL (zigN d.seq)) (n := d.last) (r := varL (zigN d.base) ++ r) (by unfold I64; omega)
    unfold didL; simp only [List.append_assoc] at this ⊢; exact this
  have e3 : numR (p ++ (didL d ++ r)) ((p ++ varL (zigN d.seq) ++ varL (zigN d.last)).length : Int) = some (d.base, ((p ++ varL (zigN d.seq) ++ varL (zigN d.last) ++ varL (zigN d.base)).length : Int)) := by
    have := numR_at (p := p ++ varL (zigN d.seq) ++ varL (zigN d.last)) (n := d.base) (r := r) (by unfold I64; omega)
    unfold didL; simp only [List.append_assoc] at this ⊢; exact this
  unfold didR
  rw [e1]; simp only [Option.bind_some]
  rw [e2]; simp only [Option.bind_some]
  rw [e3]; simp only [Option.bind_some]
  unfold didL; simp only [List.append_assoc]
theorem didsR_at {m : Nat} : ∀ (ds acc : List Did) (f : Nat) (p r : List Nat), (∀ d ∈ ds, didOk d = true) → acc.length + ds.length = m → ds.length < f →
    didsR (p ++ (ds.flatMap didL ++ r)) (m : Int) f acc (p.length : Int) = some (acc ++ ds, ((p ++ ds.flatMap didL).length : Int)) := by
  intro ds
  induction ds with
  | nil =>
    intro acc f p r _ hm hf
    obtain ⟨f, rfl⟩ : ∃ g, f = g + 1 := ⟨f - 1, by simp at hf; omega⟩
    simp only [List.length_nil, Nat.add_zero] at hm
    unfold didsR; rw [if_neg (by omega)]; simp
  | cons d ds ih =>
    intro acc f p r hd hm hf
    obtain ⟨f, rfl⟩ : ∃ g, f = g + 1 := ⟨f - 1, by simp at hf; omega⟩
    simp only [List.length_cons] at hm hf
    unfold didsR; rw [if_pos (by omega)]
    have e1 : didR (p ++ ((d :: ds).flatMap didL ++ r)) (p.length : Int) = some (d, ((p ++ didL d).length : Int)) := by
      have := didR_at (p := p) (r := ds.flatMap didL ++ r) (hd d (by simp))
      simp only [List.flatMap_cons, List.append_assoc] at this ⊢; exact this
    rw [e1]; simp only [Option.bind_some]
    have := ih (acc ++ [d]) f (p ++ didL d) r (fun x hx => hd x (by simp [hx])) (by simp; omega) (by omega)
    have e2 : p ++ ((d :: ds).flatMap didL ++ r) = p ++ didL d ++ (ds.flatMap didL ++ r) := by simp
    rw [e2, this]
    simp only [List.flatMap_cons, List.append_assoc, List.cons_append, List.nil_append]
theorem prodR_at {p r : List Nat} {q : ProdT} (h : prodOk q = true) : prodR (p ++ (prodL q ++ r)) (p.length : Int) = some (q, ((p ++ prodL q).length : Int)) := by
  obtain ⟨h1, h2, h3, h4⟩ := prodOk_iff.1 h
  have e1 : numR (p ++ (prodL q ++ r)) (p.length : Int) = some (q.pid, ((p ++ varL (zigN q.pid)).length : Int)) := by
    have := numR_at (p := p) (n := q.pid) (r := varL (zigN q.gen) ++ varL (zigN (q.did.length : Int)) ++ q.did.flatMap didL ++ r) (by unfold I64; omega)
    unfold prodL prodHead; simp only [List.append_assoc] at this ⊢; exact this
  have e2 : numR (p ++ (prodL q ++ r)) ((p ++ varL (zigN q.pid)).length : Int) = some (q.gen, ((p ++ varL (zigN q.pid) ++ varL (zigN q.gen)).length : Int)) := by
    have := numR_at (p := p ++ varL (zigN q.pid)) (n := q.gen) (r := varL (zigN (q.did.length : Int)) ++ q.did.flatMap didL ++ r) (by unfold I64; omega)
    unfold prodL prodHead; simp only [List.append_assoc] at this ⊢; exact this
  have e3 : numR (p ++ (prodL q ++ r)) ((p ++ varL (zigN q.pid) ++ varL (zigN q.gen)).length : Int) = some ((q.did.length : Int), ((p ++ prodHead q).length : Int)) := by
    have := numR_at (p := p ++ varL (zigN q.pid) ++ varL (zigN q.gen)) (n := (q.did.length : Int)) (r := q.did.flatMap didL ++ r) (by unfold I64; omega)
    unfold prodL prodHead; simp only [List.append_assoc] at this ⊢; exact this
  have e4 := didsR_at (m := q.did.length) q.did [] 6 (p ++ prodHead q) r (dids_mem h4) (by simp) (by omega)
  have e5 : p ++ prodHead q ++ (q.did.flatMap didL ++ r) = p ++ (prodL q ++ r) := by unfold prodL; simp
  rw [e5] at e4
  unfold prodR
  rw [e1]; simp only [Option.bind_some]
  rw [e2]; simp only [Option.bind_some]
  rw [e3]; simp only [Option.bind_some]
  rw [e4]; simp only [Option.bind_some]
  unfold prodL; simp only [List.append_assoc, List.nil_append]
theorem prodsR_at {n : Nat} : ∀ (l acc : List ProdT) (f : Nat) (p r : List Nat), (∀ d ∈ l, prodOk d = true) → acc.length + l.length = n → l.length < f →
    prodsR (p ++ (l.flatMap prodL ++ r)) (n : Int) f acc (p.length : Int) = some (acc ++ l) := by
  intro l
  induction l with
  | nil =>
    intro acc f p r _ hm hf
    obtain ⟨f, rfl⟩ : ∃ g, f = g + 1 := ⟨f - 1, by simp at hf; omega⟩
    simp only [List.length_nil, Nat.add_zero] at hm
    unfold prodsR; rw [if_neg (by omega)]; simp
  | cons d l ih =>
    intro acc f p r hd hm hf
    obtain ⟨f, rfl⟩ : ∃ g, f = g + 1 := ⟨f - 1, by simp at hf; omega⟩
    simp only [List.length_cons] at hm hf
    unfold prodsR; rw [if_pos (by omega)]
    have e1 : prodR (p ++ ((d :: l).flatMap prodL ++ r)) (p.length : Int) = some (d, ((p ++ prodL d).length : Int)) := by
      have := prodR_at (p := p) (r := l.flatMap prodL ++ r) (hd d (by simp))
      simp only [List.flatMap_cons, List.append_assoc] at this ⊢; exact this
    rw [e1]; simp only [Option.bind_some]
    have := ih (acc ++ [d]) f (p ++ prodL d) r (fun x hx => hd x (by simp [hx])) (by simp; omega) (by omega)
    have e2 : p ++ ((d :: l).flatMap prodL ++ r) = p ++ prodL d ++ (l.flatMap prodL ++ r) := by simp
    rw [e2, this]
    simp
theorem readP_at {l : List ProdT} (h : chkP l = 0) : readP (prodsL l) = some l := by
  obtain ⟨h1, h2⟩ := chk_zero.1 h
  have e1 : numR (prodsL l) 0 = some ((l.length : Int), ((varL (zigN (l.length : Int))).length : Int)) := by
    have := numR_at (p := []) (n := (l.length : Int)) (r := l.flatMap prodL) (by unfold I64; omega)
    simpa [prodsL] using this
  have e2 := prodsR_at (n := l.length) l [] 1025 (varL (zigN (l.length : Int))) [] ((prods_iff l).1 h2).1 (by simp) (by omega)
  unfold readP
  rw [e1]; simp only [Option.bind_some]
  simpa [prodsL] using e2
theorem prodsL_bytes (l : List ProdT) : Bytes (prodsL l) := (varL_bytes _).append fun x hx => by
  obtain ⟨p, _, hp⟩ := List.mem_flatMap.1 hx
  refine ((((varL_bytes _).append (varL_bytes _)).append (varL_bytes _)).append fun y hy => ?_) x hp
  obtain ⟨d, _, hd⟩ := List.mem_flatMap.1 hy
  exact (((varL_bytes _).append (varL_bytes _)).append (varL_bytes _)) y hd
/-- What was saved is loaded. -/
theorem loadP_save {l : List ProdT} (h : chkP l = 0) : loadP (saveP l).1 = (l, 0) := by
  unfold saveP; rw [if_pos h]
  unfold loadP
  rw [openR_seal (prodsL_bytes l)]
  simp only [ne_eq, not_true_eq_false, if_false]
  rw [readP_at h]
  dsimp only
  rw [if_pos ⟨h, rfl⟩]
/-- With a byte changed it is not. -/
theorem loadP_spoilt {l : List ProdT} {i x : Nat} (h : chkP l = 0) (hx : x < 256) (hi : i < (saveP l).1.length) (hne : (saveP l).1[i]? ≠ some x) : openR ((saveP l).1.set i x) = ([], 20) ∧ loadP ((saveP l).1.set i x) = ([], 20) := by
  unfold saveP at hi hne ⊢; rw [if_pos h] at hi hne ⊢
  have ho := openR_spoilt (prodsL_bytes l) hx hi hne
  refine ⟨ho, ?_⟩
  unfold loadP
  rw [ho]; simp
end Go.Wm
