/-
  The data of this seat's program, as Lean has them; how they lie in memory, are held against each other and are read. Written by a program of the prover's own out of the dump. Conditions: none.
-/
import Derived.Test.YtjonlpdnhbnmmaaGreatTypes
import Derived.Test.YtjonlpdnhbnmmaaGreatCoA
import Derived.Test.YtjonlpdnhbnmmaaGreatCoB
set_option linter.all false
set_option maxRecDepth 100000
namespace Go.Wm
open Go.RowKit Go.Proofs

theorem Cells.win {k : PH} {b off n : Nat} {vs us : List Value} (h : Cells k b off vs) (j : Nat) (hu : (vs.drop j).take n = us) : Cells k b (off + j) us :=
  h.sub j fun i v hv => by
    rw [← hu] at hv
    rw [List.getElem?_take] at hv
    split at hv
    · rwa [List.getElem?_drop] at hv
    · cases hv

instance : DEq Tryz.prog 9 1 (fun x : ByteArray => Value.string x) (fun x y => decide (x = y)) := deq_str Tryz.underlying9
instance : KeyOk Tryz.prog 9 (fun x : ByteArray => Value.string x) := key_str Tryz.underlying9
instance : RdW Tryz.prog 9 tStr (fun s => s.size ≤ reachBytes) := rdw_str Tryz.underlying9 (by kernel_rfl)
instance : DEq Tryz.prog 3 1 (fun x : Int => Value.int .i64 x) (fun x y => decide (x = y)) := deq_int Tryz.underlying3
instance : KeyOk Tryz.prog 3 (fun x : Int => Value.int .i64 x) := key_int Tryz.underlying3
instance : RdW Tryz.prog 3 tInt (fun _ => True) := rdw_int Tryz.underlying3 (by kernel_rfl)

structure Tp where
  topic : ByteArray
  part : Int
  home : Int
  deriving DecidableEq
def Tp.ok (x : Tp) : Prop := x.topic.size ≤ maxLen ∧ I64 x.part ∧ I64 x.home
def Tp.small (x : Tp) : Prop := x.topic.size ≤ reachBytes ∧ True ∧ True
def Tp.vs (x : Tp) : List Value := [.string x.topic, .int .i64 x.part, .int .i64 x.home]
def tTp : Ty Tp where
  sz := 3
  rep := fun _ cs x => cs = x.vs ∧ x.ok
  len := fun h => by rw [h.1]; rfl
  mono := fun _ h => h
instance : DEq Tryz.prog 40 2 (fun x : Tp => Value.agg x.vs.toArray) (fun x y => decide (x = y)) :=
  deq_struct (vs := Tp.vs) (ds := [(false, 9, 0), (false, 3, 1), (false, 3, 2)]) Tryz.underlying40 (by kernel_rfl) (by kernel_rfl) (fun x y => [decide (x.topic = y.topic), decide (x.part = y.part), decide (x.home = y.home)]) (fun x y => fieldsAre_cons (eqb := fun x y => decide (x = y)) rfl x.topic y.topic (part_plain Tryz.underlying9 rfl rfl) (part_plain Tryz.underlying9 rfl rfl) (fieldsAre_cons (eqb := fun x y => decide (x = y)) rfl x.part y.part (part_plain Tryz.underlying3 rfl rfl) (part_plain Tryz.underlying3 rfl rfl) (fieldsAre_cons (eqb := fun x y => decide (x = y)) rfl x.home y.home (part_plain Tryz.underlying3 rfl rfl) (part_plain Tryz.underlying3 rfl rfl) (trivial)))) (fun x y => by cases x; cases y; rw [Bool.eq_iff_iff]; simp)
instance : EqG Tryz.prog 40 := ⟨by kernel_rfl⟩
instance : KeyOk Tryz.prog 40 (fun x : Tp => Value.agg x.vs.toArray) := key_of_deq (vs := Tp.vs) Tryz.underlying40 rfl (fun x v hv => by
  simp only [Tp.vs, List.mem_cons, List.not_mem_nil, or_false] at hv
  rcases hv with rfl | rfl | rfl <;> first | exact bits_int _ _ _ | exact bits_str _ _ | exact bits_bool _ _)
theorem Tp.one (k : PH) (cs : List Value) (x : Tp) (h : tTp.rep k cs x) : ∀ u ∈ cs, u.oneCell' = true := by
  rw [h.1]
  simp [Tp.vs, Value.oneCell']
theorem Tp.parts {k : PH} {b off : Nat} {x : Tp} (h : Cells k b off x.vs) : Cells k b (off + 0) [.string x.topic] ∧ Cells k b (off + 1) [.int .i64 x.part] ∧ Cells k b (off + 2) [.int .i64 x.home] :=
  ⟨h.win (n := 1) 0 rfl, h.win (n := 1) 1 rfl, h.win (n := 1) 2 rfl⟩
theorem list3 {α : Type} {l : List α} (h : l.length = 3) : ∃ a0 a1 a2, l = [a0, a1, a2] := by
  match l, h with
  | [a0, a1, a2], _ => exact ⟨a0, a1, a2, rfl⟩
instance : RdW Tryz.prog 40 tTp Tp.small where
  one := by kernel_rfl
  rd := fun hr hw => by
    obtain ⟨hl, m, hel⟩ := struct_fields (fs := [(0, 9), (1, 3), (2, 3)]) Tryz.underlying40 (by kernel_rfl) hr hw
    obtain ⟨d0, d1, d2, rfl⟩ := list3 (hl.trans (by kernel_rfl))
    obtain ⟨z0, h0, g0⟩ := hel 0 9 (by simp)
    rw [show Tryz.prog.cellsOf 9 = 1 by kernel_rfl] at h0
    obtain ⟨x0, r0, b0⟩ := RdW.rd (T := tStr) (cs := [d0]) h0 g0
    obtain ⟨z1, h1, g1⟩ := hel 1 3 (by simp)
    rw [show Tryz.prog.cellsOf 3 = 1 by kernel_rfl] at h1
    obtain ⟨x1, r1, b1⟩ := RdW.rd (T := tInt) (cs := [d1]) h1 g1
    obtain ⟨z2, h2, g2⟩ := hel 2 3 (by simp)
    rw [show Tryz.prog.cellsOf 3 = 1 by kernel_rfl] at h2
    obtain ⟨x2, r2, b2⟩ := RdW.rd (T := tInt) (cs := [d2]) h2 g2
    obtain ⟨e0, o0⟩ := r0
    simp only [List.cons.injEq, and_true] at e0
    subst e0
    obtain ⟨e1, o1⟩ := r1
    simp only [List.cons.injEq, and_true] at e1
    subst e1
    obtain ⟨e2, o2⟩ := r2
    simp only [List.cons.injEq, and_true] at e2
    subst e2
    exact ⟨⟨x0, x1, x2⟩, ⟨rfl, ⟨o0, o1, o2⟩⟩, ⟨b0, b1, b2⟩⟩

structure Mark where
  tp : Tp
  off : Int
  deriving DecidableEq
def Mark.ok (x : Mark) : Prop := x.tp.ok ∧ I64 x.off
def Mark.small (x : Mark) : Prop := x.tp.small ∧ True
def Mark.vs (x : Mark) : List Value := [.string x.tp.topic, .int .i64 x.tp.part, .int .i64 x.tp.home, .int .i64 x.off]
def tMark : Ty Mark where
  sz := 4
  rep := fun _ cs x => cs = x.vs ∧ x.ok
  len := fun h => by rw [h.1]; rfl
  mono := fun _ h => h
instance : DEq Tryz.prog 52 3 (fun x : Mark => Value.agg x.vs.toArray) (fun x y => decide (x = y)) :=
  deq_struct (vs := Mark.vs) (ds := [(false, 40, 0), (false, 3, 3)]) Tryz.underlying52 (by kernel_rfl) (by kernel_rfl) (fun x y => [decide (x.tp = y.tp), decide (x.off = y.off)]) (fun x y => fieldsAre_cons (eqb := fun x y => decide (x = y)) rfl x.tp y.tp (part_agg Tryz.underlying40 rfl (i := ((Tryz.prog.info? 40).getD default)) (by kernel_rfl) (sz := 3) (by kernel_rfl) (vs := x.tp.vs) rfl) (part_agg Tryz.underlying40 rfl (i := ((Tryz.prog.info? 40).getD default)) (by kernel_rfl) (sz := 3) (by kernel_rfl) (vs := y.tp.vs) rfl) (fieldsAre_cons (eqb := fun x y => decide (x = y)) rfl x.off y.off (part_plain Tryz.underlying3 rfl rfl) (part_plain Tryz.underlying3 rfl rfl) (trivial))) (fun x y => by cases x; cases y; rw [Bool.eq_iff_iff]; simp)
instance : EqG Tryz.prog 52 := ⟨by kernel_rfl⟩
instance : KeyOk Tryz.prog 52 (fun x : Mark => Value.agg x.vs.toArray) := key_of_deq (vs := Mark.vs) Tryz.underlying52 rfl (fun x v hv => by
  simp only [Mark.vs, List.mem_cons, List.not_mem_nil, or_false] at hv
  rcases hv with rfl | rfl | rfl | rfl <;> first | exact bits_int _ _ _ | exact bits_str _ _ | exact bits_bool _ _)
theorem Mark.one (k : PH) (cs : List Value) (x : Mark) (h : tMark.rep k cs x) : ∀ u ∈ cs, u.oneCell' = true := by
  rw [h.1]
  simp [Mark.vs, Value.oneCell']
theorem Mark.parts {k : PH} {b off : Nat} {x : Mark} (h : Cells k b off x.vs) : Cells k b (off + 0) x.tp.vs ∧ Cells k b (off + 3) [.int .i64 x.off] :=
  ⟨h.win (n := 3) 0 rfl, h.win (n := 1) 3 rfl⟩
theorem list4 {α : Type} {l : List α} (h : l.length = 4) : ∃ a0 a1 a2 a3, l = [a0, a1, a2, a3] := by
  match l, h with
  | [a0, a1, a2, a3], _ => exact ⟨a0, a1, a2, a3, rfl⟩
instance : RdW Tryz.prog 52 tMark Mark.small where
  one := by kernel_rfl
  rd := fun hr hw => by
    obtain ⟨hl, m, hel⟩ := struct_fields (fs := [(0, 40), (3, 3)]) Tryz.underlying52 (by kernel_rfl) hr hw
    obtain ⟨d0, d1, d2, d3, rfl⟩ := list4 (hl.trans (by kernel_rfl))
    obtain ⟨z0, h0, g0⟩ := hel 0 40 (by simp)
    rw [show Tryz.prog.cellsOf 40 = 3 by kernel_rfl] at h0
    obtain ⟨x0, r0, b0⟩ := RdW.rd (T := tTp) (cs := [d0, d1, d2]) h0 g0
    obtain ⟨z1, h1, g1⟩ := hel 3 3 (by simp)
    rw [show Tryz.prog.cellsOf 3 = 1 by kernel_rfl] at h1
    obtain ⟨x1, r1, b1⟩ := RdW.rd (T := tInt) (cs := [d3]) h1 g1
    obtain ⟨e0, o0⟩ := r0
    simp only [Tp.vs, List.cons.injEq, and_true] at e0
    obtain ⟨rfl, rfl, rfl⟩ := e0
    obtain ⟨e1, o1⟩ := r1
    simp only [List.cons.injEq, and_true] at e1
    subst e1
    exact ⟨⟨x0, x1⟩, ⟨rfl, ⟨o0, o1⟩⟩, ⟨b0, b1⟩⟩

structure OpenT where
  pid : Int
  first : Int
  deriving DecidableEq
def OpenT.ok (x : OpenT) : Prop := I64 x.pid ∧ I64 x.first
def OpenT.small (x : OpenT) : Prop := True ∧ True
def OpenT.vs (x : OpenT) : List Value := [.int .i64 x.pid, .int .i64 x.first]
def tOpenT : Ty OpenT where
  sz := 2
  rep := fun _ cs x => cs = x.vs ∧ x.ok
  len := fun h => by rw [h.1]; rfl
  mono := fun _ h => h
instance : DEq Tryz.prog 72 2 (fun x : OpenT => Value.agg x.vs.toArray) (fun x y => decide (x = y)) :=
  deq_struct (vs := OpenT.vs) (ds := [(false, 3, 0), (false, 3, 1)]) Tryz.underlying72 (by kernel_rfl) (by kernel_rfl) (fun x y => [decide (x.pid = y.pid), decide (x.first = y.first)]) (fun x y => fieldsAre_cons (eqb := fun x y => decide (x = y)) rfl x.pid y.pid (part_plain Tryz.underlying3 rfl rfl) (part_plain Tryz.underlying3 rfl rfl) (fieldsAre_cons (eqb := fun x y => decide (x = y)) rfl x.first y.first (part_plain Tryz.underlying3 rfl rfl) (part_plain Tryz.underlying3 rfl rfl) (trivial))) (fun x y => by cases x; cases y; rw [Bool.eq_iff_iff]; simp)
instance : EqG Tryz.prog 72 := ⟨by kernel_rfl⟩
instance : KeyOk Tryz.prog 72 (fun x : OpenT => Value.agg x.vs.toArray) := key_of_deq (vs := OpenT.vs) Tryz.underlying72 rfl (fun x v hv => by
  simp only [OpenT.vs, List.mem_cons, List.not_mem_nil, or_false] at hv
  rcases hv with rfl | rfl <;> first | exact bits_int _ _ _ | exact bits_str _ _ | exact bits_bool _ _)
theorem OpenT.one (k : PH) (cs : List Value) (x : OpenT) (h : tOpenT.rep k cs x) : ∀ u ∈ cs, u.oneCell' = true := by
  rw [h.1]
  simp [OpenT.vs, Value.oneCell']
theorem OpenT.parts {k : PH} {b off : Nat} {x : OpenT} (h : Cells k b off x.vs) : Cells k b (off + 0) [.int .i64 x.pid] ∧ Cells k b (off + 1) [.int .i64 x.first] :=
  ⟨h.win (n := 1) 0 rfl, h.win (n := 1) 1 rfl⟩
theorem list2 {α : Type} {l : List α} (h : l.length = 2) : ∃ a0 a1, l = [a0, a1] := by
  match l, h with
  | [a0, a1], _ => exact ⟨a0, a1, rfl⟩
instance : RdW Tryz.prog 72 tOpenT OpenT.small where
  one := by kernel_rfl
  rd := fun hr hw => by
    obtain ⟨hl, m, hel⟩ := struct_fields (fs := [(0, 3), (1, 3)]) Tryz.underlying72 (by kernel_rfl) hr hw
    obtain ⟨d0, d1, rfl⟩ := list2 (hl.trans (by kernel_rfl))
    obtain ⟨z0, h0, g0⟩ := hel 0 3 (by simp)
    rw [show Tryz.prog.cellsOf 3 = 1 by kernel_rfl] at h0
    obtain ⟨x0, r0, b0⟩ := RdW.rd (T := tInt) (cs := [d0]) h0 g0
    obtain ⟨z1, h1, g1⟩ := hel 1 3 (by simp)
    rw [show Tryz.prog.cellsOf 3 = 1 by kernel_rfl] at h1
    obtain ⟨x1, r1, b1⟩ := RdW.rd (T := tInt) (cs := [d1]) h1 g1
    obtain ⟨e0, o0⟩ := r0
    simp only [List.cons.injEq, and_true] at e0
    subst e0
    obtain ⟨e1, o1⟩ := r1
    simp only [List.cons.injEq, and_true] at e1
    subst e1
    exact ⟨⟨x0, x1⟩, ⟨rfl, ⟨o0, o1⟩⟩, ⟨b0, b1⟩⟩

structure Gone where
  pid : Int
  no : Int
  first : Int
  last : Int
  deriving DecidableEq
def Gone.ok (x : Gone) : Prop := I64 x.pid ∧ I64 x.no ∧ I64 x.first ∧ I64 x.last
def Gone.small (x : Gone) : Prop := True ∧ True ∧ True ∧ True
def Gone.vs (x : Gone) : List Value := [.int .i64 x.pid, .int .i64 x.no, .int .i64 x.first, .int .i64 x.last]
def tGone : Ty Gone where
  sz := 4
  rep := fun _ cs x => cs = x.vs ∧ x.ok
  len := fun h => by rw [h.1]; rfl
  mono := fun _ h => h
instance : DEq Tryz.prog 74 2 (fun x : Gone => Value.agg x.vs.toArray) (fun x y => decide (x = y)) :=
  deq_struct (vs := Gone.vs) (ds := [(false, 3, 0), (false, 3, 1), (false, 3, 2), (false, 3, 3)]) Tryz.underlying74 (by kernel_rfl) (by kernel_rfl) (fun x y => [decide (x.pid = y.pid), decide (x.no = y.no), decide (x.first = y.first), decide (x.last = y.last)]) (fun x y => fieldsAre_cons (eqb := fun x y => decide (x = y)) rfl x.pid y.pid (part_plain Tryz.underlying3 rfl rfl) (part_plain Tryz.underlying3 rfl rfl) (fieldsAre_cons (eqb := fun x y => decide (x = y)) rfl x.no y.no (part_plain Tryz.underlying3 rfl rfl) (part_plain Tryz.underlying3 rfl rfl) (fieldsAre_cons (eqb := fun x y => decide (x = y)) rfl x.first y.first (part_plain Tryz.underlying3 rfl rfl) (part_plain Tryz.underlying3 rfl rfl) (fieldsAre_cons (eqb := fun x y => decide (x = y)) rfl x.last y.last (part_plain Tryz.underlying3 rfl rfl) (part_plain Tryz.underlying3 rfl rfl) (trivial))))) (fun x y => by cases x; cases y; rw [Bool.eq_iff_iff]; simp)
instance : EqG Tryz.prog 74 := ⟨by kernel_rfl⟩
instance : KeyOk Tryz.prog 74 (fun x : Gone => Value.agg x.vs.toArray) := key_of_deq (vs := Gone.vs) Tryz.underlying74 rfl (fun x v hv => by
  simp only [Gone.vs, List.mem_cons, List.not_mem_nil, or_false] at hv
  rcases hv with rfl | rfl | rfl | rfl <;> first | exact bits_int _ _ _ | exact bits_str _ _ | exact bits_bool _ _)
theorem Gone.one (k : PH) (cs : List Value) (x : Gone) (h : tGone.rep k cs x) : ∀ u ∈ cs, u.oneCell' = true := by
  rw [h.1]
  simp [Gone.vs, Value.oneCell']
theorem Gone.parts {k : PH} {b off : Nat} {x : Gone} (h : Cells k b off x.vs) : Cells k b (off + 0) [.int .i64 x.pid] ∧ Cells k b (off + 1) [.int .i64 x.no] ∧ Cells k b (off + 2) [.int .i64 x.first] ∧ Cells k b (off + 3) [.int .i64 x.last] :=
  ⟨h.win (n := 1) 0 rfl, h.win (n := 1) 1 rfl, h.win (n := 1) 2 rfl, h.win (n := 1) 3 rfl⟩
instance : RdW Tryz.prog 74 tGone Gone.small where
  one := by kernel_rfl
  rd := fun hr hw => by
    obtain ⟨hl, m, hel⟩ := struct_fields (fs := [(0, 3), (1, 3), (2, 3), (3, 3)]) Tryz.underlying74 (by kernel_rfl) hr hw
    obtain ⟨d0, d1, d2, d3, rfl⟩ := list4 (hl.trans (by kernel_rfl))
    obtain ⟨z0, h0, g0⟩ := hel 0 3 (by simp)
    rw [show Tryz.prog.cellsOf 3 = 1 by kernel_rfl] at h0
    obtain ⟨x0, r0, b0⟩ := RdW.rd (T := tInt) (cs := [d0]) h0 g0
    obtain ⟨z1, h1, g1⟩ := hel 1 3 (by simp)
    rw [show Tryz.prog.cellsOf 3 = 1 by kernel_rfl] at h1
    obtain ⟨x1, r1, b1⟩ := RdW.rd (T := tInt) (cs := [d1]) h1 g1
    obtain ⟨z2, h2, g2⟩ := hel 2 3 (by simp)
    rw [show Tryz.prog.cellsOf 3 = 1 by kernel_rfl] at h2
    obtain ⟨x2, r2, b2⟩ := RdW.rd (T := tInt) (cs := [d2]) h2 g2
    obtain ⟨z3, h3, g3⟩ := hel 3 3 (by simp)
    rw [show Tryz.prog.cellsOf 3 = 1 by kernel_rfl] at h3
    obtain ⟨x3, r3, b3⟩ := RdW.rd (T := tInt) (cs := [d3]) h3 g3
    obtain ⟨e0, o0⟩ := r0
    simp only [List.cons.injEq, and_true] at e0
    subst e0
    obtain ⟨e1, o1⟩ := r1
    simp only [List.cons.injEq, and_true] at e1
    subst e1
    obtain ⟨e2, o2⟩ := r2
    simp only [List.cons.injEq, and_true] at e2
    subst e2
    obtain ⟨e3, o3⟩ := r3
    simp only [List.cons.injEq, and_true] at e3
    subst e3
    exact ⟨⟨x0, x1, x2, x3⟩, ⟨rfl, ⟨o0, o1, o2, o3⟩⟩, ⟨b0, b1, b2, b3⟩⟩
instance : RdW Tryz.prog 22 (tSl tOpenT) (fun xs => (xs.length * Tryz.prog.bytesOf 72 ≤ reachBytes ∧ ∀ y0 ∈ xs, y0.small)) := rdw_slice Tryz.underlying22 (by kernel_rfl) (by decide)
instance : RdW Tryz.prog 23 (tSl tGone) (fun xs => (xs.length * Tryz.prog.bytesOf 74 ≤ reachBytes ∧ ∀ y0 ∈ xs, y0.small)) := rdw_slice Tryz.underlying23 (by kernel_rfl) (by decide)

structure Tx where
  openV : List OpenT
  gone : List Gone
  done : List Gone
  deriving DecidableEq
def Tx.ok (x : Tx) : Prop := True ∧ True ∧ True
def Tx.small (x : Tx) : Prop := (x.openV.length * Tryz.prog.bytesOf 72 ≤ reachBytes ∧ ∀ y0 ∈ x.openV, y0.small) ∧ (x.gone.length * Tryz.prog.bytesOf 74 ≤ reachBytes ∧ ∀ y0 ∈ x.gone, y0.small) ∧ (x.done.length * Tryz.prog.bytesOf 74 ≤ reachBytes ∧ ∀ y0 ∈ x.done, y0.small)
def Tx.cs (x : Tx) (a0 : Option Addr) (c0 : Nat) (a1 : Option Addr) (c1 : Nat) (a2 : Option Addr) (c2 : Nat) : List Value := [.slice a0 x.openV.length c0, .slice a1 x.gone.length c1, .slice a2 x.done.length c2]
def tTx : Ty Tx where
  sz := 3
  rep := fun h cs x => ∃ a0 c0 a1 c1 a2 c2, cs = x.cs a0 c0 a1 c1 a2 c2 ∧ (Sl tOpenT h a0 c0 x.openV ∧ Sl tGone h a1 c1 x.gone ∧ Sl tGone h a2 c2 x.done) ∧ x.ok
  len := fun ⟨_, _, _, _, _, _, h, _⟩ => by rw [h]; rfl
  mono := fun hl ⟨a0, c0, a1, c1, a2, c2, h, ⟨s0, s1, s2⟩, hk⟩ => ⟨a0, c0, a1, c1, a2, c2, h, ⟨s0.le hl, s1.le hl, s2.le hl⟩, hk⟩
theorem Tx.one (k : PH) (cs : List Value) (x : Tx) (h : tTx.rep k cs x) : ∀ u ∈ cs, u.oneCell' = true := by
  obtain ⟨_, _, _, _, _, _, h, _⟩ := h
  rw [h]
  simp [Tx.cs, Value.oneCell']
theorem Tx.parts {k : PH} {b off : Nat} {x : Tx} {a0 a1 a2 : Option Addr} {c0 c1 c2 : Nat} (h : Cells k b off (x.cs a0 c0 a1 c1 a2 c2)) : Cells k b (off + 0) [.slice a0 x.openV.length c0] ∧ Cells k b (off + 1) [.slice a1 x.gone.length c1] ∧ Cells k b (off + 2) [.slice a2 x.done.length c2] :=
  ⟨h.win (n := 1) 0 rfl, h.win (n := 1) 1 rfl, h.win (n := 1) 2 rfl⟩
instance : RdW Tryz.prog 25 tTx Tx.small where
  one := by kernel_rfl
  rd := fun hr hw => by
    obtain ⟨hl, m, hel⟩ := struct_fields (fs := [(0, 22), (1, 23), (2, 23)]) Tryz.underlying25 (by kernel_rfl) hr hw
    obtain ⟨d0, d1, d2, rfl⟩ := list3 (hl.trans (by kernel_rfl))
    obtain ⟨z0, h0, g0⟩ := hel 0 22 (by simp)
    rw [show Tryz.prog.cellsOf 22 = 1 by kernel_rfl] at h0
    obtain ⟨x0, r0, b0⟩ := RdW.rd (T := (tSl tOpenT)) (cs := [d0]) h0 g0
    obtain ⟨z1, h1, g1⟩ := hel 1 23 (by simp)
    rw [show Tryz.prog.cellsOf 23 = 1 by kernel_rfl] at h1
    obtain ⟨x1, r1, b1⟩ := RdW.rd (T := (tSl tGone)) (cs := [d1]) h1 g1
    obtain ⟨z2, h2, g2⟩ := hel 2 23 (by simp)
    rw [show Tryz.prog.cellsOf 23 = 1 by kernel_rfl] at h2
    obtain ⟨x2, r2, b2⟩ := RdW.rd (T := (tSl tGone)) (cs := [d2]) h2 g2
    obtain ⟨sa0, sc0, e0, s0⟩ := r0
    simp only [List.cons.injEq, and_true] at e0
    subst e0
    obtain ⟨sa1, sc1, e1, s1⟩ := r1
    simp only [List.cons.injEq, and_true] at e1
    subst e1
    obtain ⟨sa2, sc2, e2, s2⟩ := r2
    simp only [List.cons.injEq, and_true] at e2
    subst e2
    exact ⟨⟨x0, x1, x2⟩, ⟨sa0, sc0, sa1, sc1, sa2, sc2, rfl, ⟨s0, s1, s2⟩, ⟨trivial, trivial, trivial⟩⟩, ⟨b0, b1, b2⟩⟩

structure View where
  tp : Tp
  tx : Tx
  high : Int
  deriving DecidableEq
def View.ok (x : View) : Prop := x.tp.ok ∧ x.tx.ok ∧ I64 x.high
def View.small (x : View) : Prop := x.tp.small ∧ x.tx.small ∧ True
def View.cs (x : View) (a0 : Option Addr) (c0 : Nat) (a1 : Option Addr) (c1 : Nat) (a2 : Option Addr) (c2 : Nat) : List Value := [.string x.tp.topic, .int .i64 x.tp.part, .int .i64 x.tp.home, .slice a0 x.tx.openV.length c0, .slice a1 x.tx.gone.length c1, .slice a2 x.tx.done.length c2, .int .i64 x.high]
def tView : Ty View where
  sz := 7
  rep := fun h cs x => ∃ a0 c0 a1 c1 a2 c2, cs = x.cs a0 c0 a1 c1 a2 c2 ∧ (Sl tOpenT h a0 c0 x.tx.openV ∧ Sl tGone h a1 c1 x.tx.gone ∧ Sl tGone h a2 c2 x.tx.done) ∧ x.ok
  len := fun ⟨_, _, _, _, _, _, h, _⟩ => by rw [h]; rfl
  mono := fun hl ⟨a0, c0, a1, c1, a2, c2, h, ⟨s0, s1, s2⟩, hk⟩ => ⟨a0, c0, a1, c1, a2, c2, h, ⟨s0.le hl, s1.le hl, s2.le hl⟩, hk⟩
theorem View.one (k : PH) (cs : List Value) (x : View) (h : tView.rep k cs x) : ∀ u ∈ cs, u.oneCell' = true := by
  obtain ⟨_, _, _, _, _, _, h, _⟩ := h
  rw [h]
  simp [View.cs, Value.oneCell']
theorem View.parts {k : PH} {b off : Nat} {x : View} {a0 a1 a2 : Option Addr} {c0 c1 c2 : Nat} (h : Cells k b off (x.cs a0 c0 a1 c1 a2 c2)) : Cells k b (off + 0) x.tp.vs ∧ Cells k b (off + 3) (x.tx.cs a0 c0 a1 c1 a2 c2) ∧ Cells k b (off + 6) [.int .i64 x.high] :=
  ⟨h.win (n := 3) 0 rfl, h.win (n := 3) 3 rfl, h.win (n := 1) 6 rfl⟩
theorem list7 {α : Type} {l : List α} (h : l.length = 7) : ∃ a0 a1 a2 a3 a4 a5 a6, l = [a0, a1, a2, a3, a4, a5, a6] := by
  match l, h with
  | [a0, a1, a2, a3, a4, a5, a6], _ => exact ⟨a0, a1, a2, a3, a4, a5, a6, rfl⟩
instance : RdW Tryz.prog 96 tView View.small where
  one := by kernel_rfl
  rd := fun hr hw => by
    obtain ⟨hl, m, hel⟩ := struct_fields (fs := [(0, 40), (3, 25), (6, 3)]) Tryz.underlying96 (by kernel_rfl) hr hw
    obtain ⟨d0, d1, d2, d3, d4, d5, d6, rfl⟩ := list7 (hl.trans (by kernel_rfl))
    obtain ⟨z0, h0, g0⟩ := hel 0 40 (by simp)
    rw [show Tryz.prog.cellsOf 40 = 3 by kernel_rfl] at h0
    obtain ⟨x0, r0, b0⟩ := RdW.rd (T := tTp) (cs := [d0, d1, d2]) h0 g0
    obtain ⟨z1, h1, g1⟩ := hel 3 25 (by simp)
    rw [show Tryz.prog.cellsOf 25 = 3 by kernel_rfl] at h1
    obtain ⟨x1, r1, b1⟩ := RdW.rd (T := tTx) (cs := [d3, d4, d5]) h1 g1
    obtain ⟨z2, h2, g2⟩ := hel 6 3 (by simp)
    rw [show Tryz.prog.cellsOf 3 = 1 by kernel_rfl] at h2
    obtain ⟨x2, r2, b2⟩ := RdW.rd (T := tInt) (cs := [d6]) h2 g2
    obtain ⟨e0, o0⟩ := r0
    simp only [Tp.vs, List.cons.injEq, and_true] at e0
    obtain ⟨rfl, rfl, rfl⟩ := e0
    obtain ⟨sa1_0, sc1_0, sa1_1, sc1_1, sa1_2, sc1_2, e1, ⟨s1_0, s1_1, s1_2⟩, o1⟩ := r1
    simp only [Tx.cs, List.cons.injEq, and_true] at e1
    obtain ⟨rfl, rfl, rfl⟩ := e1
    obtain ⟨e2, o2⟩ := r2
    simp only [List.cons.injEq, and_true] at e2
    subst e2
    exact ⟨⟨x0, x1, x2⟩, ⟨sa1_0, sc1_0, sa1_1, sc1_1, sa1_2, sc1_2, rfl, ⟨s1_0, s1_1, s1_2⟩, ⟨o0, o1, o2⟩⟩, ⟨b0, b1, b2⟩⟩
instance : DEq Tryz.prog 4 1 (fun x : Bool => Value.bool x) (fun x y => decide (x = y)) := deq_bool Tryz.underlying4
instance : RdW Tryz.prog 4 tBool (fun _ => True) := rdw_bool Tryz.underlying4 (by kernel_rfl)

structure Rec where
  off : Int
  key : ByteArray
  val : ByteArray
  dead : Bool
  stamp : Int
  deriving DecidableEq
def Rec.ok (x : Rec) : Prop := I64 x.off ∧ x.key.size ≤ maxLen ∧ x.val.size ≤ maxLen ∧ True ∧ I64 x.stamp
def Rec.small (x : Rec) : Prop := True ∧ x.key.size ≤ reachBytes ∧ x.val.size ≤ reachBytes ∧ True ∧ True
def Rec.vs (x : Rec) : List Value := [.int .i64 x.off, .string x.key, .string x.val, .bool x.dead, .int .i64 x.stamp]
def tRec : Ty Rec where
  sz := 5
  rep := fun _ cs x => cs = x.vs ∧ x.ok
  len := fun h => by rw [h.1]; rfl
  mono := fun _ h => h
instance : DEq Tryz.prog 61 2 (fun x : Rec => Value.agg x.vs.toArray) (fun x y => decide (x = y)) :=
  deq_struct (vs := Rec.vs) (ds := [(false, 3, 0), (false, 9, 1), (false, 9, 2), (false, 4, 3), (false, 3, 4)]) Tryz.underlying61 (by kernel_rfl) (by kernel_rfl) (fun x y => [decide (x.off = y.off), decide (x.key = y.key), decide (x.val = y.val), decide (x.dead = y.dead), decide (x.stamp = y.stamp)]) (fun x y => fieldsAre_cons (eqb := fun x y => decide (x = y)) rfl x.off y.off (part_plain Tryz.underlying3 rfl rfl) (part_plain Tryz.underlying3 rfl rfl) (fieldsAre_cons (eqb := fun x y => decide (x = y)) rfl x.key y.key (part_plain Tryz.underlying9 rfl rfl) (part_plain Tryz.underlying9 rfl rfl) (fieldsAre_cons (eqb := fun x y => decide (x = y)) rfl x.val y.val (part_plain Tryz.underlying9 rfl rfl) (part_plain Tryz.underlying9 rfl rfl) (fieldsAre_cons (eqb := fun x y => decide (x = y)) rfl x.dead y.dead (part_plain Tryz.underlying4 rfl rfl) (part_plain Tryz.underlying4 rfl rfl) (fieldsAre_cons (eqb := fun x y => decide (x = y)) rfl x.stamp y.stamp (part_plain Tryz.underlying3 rfl rfl) (part_plain Tryz.underlying3 rfl rfl) (trivial)))))) (fun x y => by cases x; cases y; rw [Bool.eq_iff_iff]; simp)
instance : EqG Tryz.prog 61 := ⟨by kernel_rfl⟩
instance : KeyOk Tryz.prog 61 (fun x : Rec => Value.agg x.vs.toArray) := key_of_deq (vs := Rec.vs) Tryz.underlying61 rfl (fun x v hv => by
  simp only [Rec.vs, List.mem_cons, List.not_mem_nil, or_false] at hv
  rcases hv with rfl | rfl | rfl | rfl | rfl <;> first | exact bits_int _ _ _ | exact bits_str _ _ | exact bits_bool _ _)
theorem Rec.one (k : PH) (cs : List Value) (x : Rec) (h : tRec.rep k cs x) : ∀ u ∈ cs, u.oneCell' = true := by
  rw [h.1]
  simp [Rec.vs, Value.oneCell']
theorem Rec.parts {k : PH} {b off : Nat} {x : Rec} (h : Cells k b off x.vs) : Cells k b (off + 0) [.int .i64 x.off] ∧ Cells k b (off + 1) [.string x.key] ∧ Cells k b (off + 2) [.string x.val] ∧ Cells k b (off + 3) [.bool x.dead] ∧ Cells k b (off + 4) [.int .i64 x.stamp] :=
  ⟨h.win (n := 1) 0 rfl, h.win (n := 1) 1 rfl, h.win (n := 1) 2 rfl, h.win (n := 1) 3 rfl, h.win (n := 1) 4 rfl⟩
theorem list5 {α : Type} {l : List α} (h : l.length = 5) : ∃ a0 a1 a2 a3 a4, l = [a0, a1, a2, a3, a4] := by
  match l, h with
  | [a0, a1, a2, a3, a4], _ => exact ⟨a0, a1, a2, a3, a4, rfl⟩
instance : RdW Tryz.prog 61 tRec Rec.small where
  one := by kernel_rfl
  rd := fun hr hw => by
    obtain ⟨hl, m, hel⟩ := struct_fields (fs := [(0, 3), (1, 9), (2, 9), (3, 4), (4, 3)]) Tryz.underlying61 (by kernel_rfl) hr hw
    obtain ⟨d0, d1, d2, d3, d4, rfl⟩ := list5 (hl.trans (by kernel_rfl))
    obtain ⟨z0, h0, g0⟩ := hel 0 3 (by simp)
    rw [show Tryz.prog.cellsOf 3 = 1 by kernel_rfl] at h0
    obtain ⟨x0, r0, b0⟩ := RdW.rd (T := tInt) (cs := [d0]) h0 g0
    obtain ⟨z1, h1, g1⟩ := hel 1 9 (by simp)
    rw [show Tryz.prog.cellsOf 9 = 1 by kernel_rfl] at h1
    obtain ⟨x1, r1, b1⟩ := RdW.rd (T := tStr) (cs := [d1]) h1 g1
    obtain ⟨z2, h2, g2⟩ := hel 2 9 (by simp)
    rw [show Tryz.prog.cellsOf 9 = 1 by kernel_rfl] at h2
    obtain ⟨x2, r2, b2⟩ := RdW.rd (T := tStr) (cs := [d2]) h2 g2
    obtain ⟨z3, h3, g3⟩ := hel 3 4 (by simp)
    rw [show Tryz.prog.cellsOf 4 = 1 by kernel_rfl] at h3
    obtain ⟨x3, r3, b3⟩ := RdW.rd (T := tBool) (cs := [d3]) h3 g3
    obtain ⟨z4, h4, g4⟩ := hel 4 3 (by simp)
    rw [show Tryz.prog.cellsOf 3 = 1 by kernel_rfl] at h4
    obtain ⟨x4, r4, b4⟩ := RdW.rd (T := tInt) (cs := [d4]) h4 g4
    obtain ⟨e0, o0⟩ := r0
    simp only [List.cons.injEq, and_true] at e0
    subst e0
    obtain ⟨e1, o1⟩ := r1
    simp only [List.cons.injEq, and_true] at e1
    subst e1
    obtain ⟨e2, o2⟩ := r2
    simp only [List.cons.injEq, and_true] at e2
    subst e2
    have e3 : [d3] = [Value.bool x3] := r3
    simp only [List.cons.injEq, and_true] at e3
    subst e3
    obtain ⟨e4, o4⟩ := r4
    simp only [List.cons.injEq, and_true] at e4
    subst e4
    exact ⟨⟨x0, x1, x2, x3, x4⟩, ⟨rfl, ⟨o0, o1, o2, trivial, o4⟩⟩, ⟨b0, b1, b2, b3, b4⟩⟩
instance : RdW Tryz.prog 43 (tSl tRec) (fun xs => (xs.length * Tryz.prog.bytesOf 61 ≤ reachBytes ∧ ∀ y0 ∈ xs, y0.small)) := rdw_slice Tryz.underlying43 (by kernel_rfl) (by decide)

structure Batch where
  base : Int
  last : Int
  fromV : Int
  epoch : Int
  pid : Int
  gen : Int
  seq : Int
  txn : Bool
  ctl : Int
  recs : List Rec
  deriving DecidableEq
def Batch.ok (x : Batch) : Prop := I64 x.base ∧ I64 x.last ∧ I64 x.fromV ∧ I64 x.epoch ∧ I64 x.pid ∧ I64 x.gen ∧ I64 x.seq ∧ True ∧ I64 x.ctl ∧ True
def Batch.small (x : Batch) : Prop := True ∧ True ∧ True ∧ True ∧ True ∧ True ∧ True ∧ True ∧ True ∧ (x.recs.length * Tryz.prog.bytesOf 61 ≤ reachBytes ∧ ∀ y0 ∈ x.recs, y0.small)
def Batch.cs (x : Batch) (a0 : Option Addr) (c0 : Nat) : List Value := [.int .i64 x.base, .int .i64 x.last, .int .i64 x.fromV, .int .i64 x.epoch, .int .i64 x.pid, .int .i64 x.gen, .int .i64 x.seq, .bool x.txn, .int .i64 x.ctl, .slice a0 x.recs.length c0]
def tBatch : Ty Batch where
  sz := 10
  rep := fun h cs x => ∃ a0 c0, cs = x.cs a0 c0 ∧ (Sl tRec h a0 c0 x.recs) ∧ x.ok
  len := fun ⟨_, _, h, _⟩ => by rw [h]; rfl
  mono := fun hl ⟨a0, c0, h, s0, hk⟩ => ⟨a0, c0, h, s0.le hl, hk⟩
theorem Batch.one (k : PH) (cs : List Value) (x : Batch) (h : tBatch.rep k cs x) : ∀ u ∈ cs, u.oneCell' = true := by
  obtain ⟨_, _, h, _⟩ := h
  rw [h]
  simp [Batch.cs, Value.oneCell']
theorem Batch.parts {k : PH} {b off : Nat} {x : Batch} {a0 : Option Addr} {c0 : Nat} (h : Cells k b off (x.cs a0 c0)) : Cells k b (off + 0) [.int .i64 x.base] ∧ Cells k b (off + 1) [.int .i64 x.last] ∧ Cells k b (off + 2) [.int .i64 x.fromV] ∧ Cells k b (off + 3) [.int .i64 x.epoch] ∧ Cells k b (off + 4) [.int .i64 x.pid] ∧ Cells k b (off + 5) [.int .i64 x.gen] ∧ Cells k b (off + 6) [.int .i64 x.seq] ∧ Cells k b (off + 7) [.bool x.txn] ∧ Cells k b (off + 8) [.int .i64 x.ctl] ∧ Cells k b (off + 9) [.slice a0 x.recs.length c0] :=
  ⟨h.win (n := 1) 0 rfl, h.win (n := 1) 1 rfl, h.win (n := 1) 2 rfl, h.win (n := 1) 3 rfl, h.win (n := 1) 4 rfl, h.win (n := 1) 5 rfl, h.win (n := 1) 6 rfl, h.win (n := 1) 7 rfl, h.win (n := 1) 8 rfl, h.win (n := 1) 9 rfl⟩
theorem list10 {α : Type} {l : List α} (h : l.length = 10) : ∃ a0 a1 a2 a3 a4 a5 a6 a7 a8 a9, l = [a0, a1, a2, a3, a4, a5, a6, a7, a8, a9] := by
  match l, h with
  | [a0, a1, a2, a3, a4, a5, a6, a7, a8, a9], _ => exact ⟨a0, a1, a2, a3, a4, a5, a6, a7, a8, a9, rfl⟩
instance : RdW Tryz.prog 45 tBatch Batch.small where
  one := by kernel_rfl
  rd := fun hr hw => by
    obtain ⟨hl, m, hel⟩ := struct_fields (fs := [(0, 3), (1, 3), (2, 3), (3, 3), (4, 3), (5, 3), (6, 3), (7, 4), (8, 3), (9, 43)]) Tryz.underlying45 (by kernel_rfl) hr hw
    obtain ⟨d0, d1, d2, d3, d4, d5, d6, d7, d8, d9, rfl⟩ := list10 (hl.trans (by kernel_rfl))
    obtain ⟨z0, h0, g0⟩ := hel 0 3 (by simp)
    rw [show Tryz.prog.cellsOf 3 = 1 by kernel_rfl] at h0
    obtain ⟨x0, r0, b0⟩ := RdW.rd (T := tInt) (cs := [d0]) h0 g0
    obtain ⟨z1, h1, g1⟩ := hel 1 3 (by simp)
    rw [show Tryz.prog.cellsOf 3 = 1 by kernel_rfl] at h1
    obtain ⟨x1, r1, b1⟩ := RdW.rd (T := tInt) (cs := [d1]) h1 g1
    obtain ⟨z2, h2, g2⟩ := hel 2 3 (by simp)
    rw [show Tryz.prog.cellsOf 3 = 1 by kernel_rfl] at h2
    obtain ⟨x2, r2, b2⟩ := RdW.rd (T := tInt) (cs := [d2]) h2 g2
    obtain ⟨z3, h3, g3⟩ := hel 3 3 (by simp)
    rw [show Tryz.prog.cellsOf 3 = 1 by kernel_rfl] at h3
    obtain ⟨x3, r3, b3⟩ := RdW.rd (T := tInt) (cs := [d3]) h3 g3
    obtain ⟨z4, h4, g4⟩ := hel 4 3 (by simp)
    rw [show Tryz.prog.cellsOf 3 = 1 by kernel_rfl] at h4
    obtain ⟨x4, r4, b4⟩ := RdW.rd (T := tInt) (cs := [d4]) h4 g4
    obtain ⟨z5, h5, g5⟩ := hel 5 3 (by simp)
    rw [show Tryz.prog.cellsOf 3 = 1 by kernel_rfl] at h5
    obtain ⟨x5, r5, b5⟩ := RdW.rd (T := tInt) (cs := [d5]) h5 g5
    obtain ⟨z6, h6, g6⟩ := hel 6 3 (by simp)
    rw [show Tryz.prog.cellsOf 3 = 1 by kernel_rfl] at h6
    obtain ⟨x6, r6, b6⟩ := RdW.rd (T := tInt) (cs := [d6]) h6 g6
    obtain ⟨z7, h7, g7⟩ := hel 7 4 (by simp)
    rw [show Tryz.prog.cellsOf 4 = 1 by kernel_rfl] at h7
    obtain ⟨x7, r7, b7⟩ := RdW.rd (T := tBool) (cs := [d7]) h7 g7
    obtain ⟨z8, h8, g8⟩ := hel 8 3 (by simp)
    rw [show Tryz.prog.cellsOf 3 = 1 by kernel_rfl] at h8
    obtain ⟨x8, r8, b8⟩ := RdW.rd (T := tInt) (cs := [d8]) h8 g8
    obtain ⟨z9, h9, g9⟩ := hel 9 43 (by simp)
    rw [show Tryz.prog.cellsOf 43 = 1 by kernel_rfl] at h9
    obtain ⟨x9, r9, b9⟩ := RdW.rd (T := (tSl tRec)) (cs := [d9]) h9 g9
    obtain ⟨e0, o0⟩ := r0
    simp only [List.cons.injEq, and_true] at e0
    subst e0
    obtain ⟨e1, o1⟩ := r1
    simp only [List.cons.injEq, and_true] at e1
    subst e1
    obtain ⟨e2, o2⟩ := r2
    simp only [List.cons.injEq, and_true] at e2
    subst e2
    obtain ⟨e3, o3⟩ := r3
    simp only [List.cons.injEq, and_true] at e3
    subst e3
    obtain ⟨e4, o4⟩ := r4
    simp only [List.cons.injEq, and_true] at e4
    subst e4
    obtain ⟨e5, o5⟩ := r5
    simp only [List.cons.injEq, and_true] at e5
    subst e5
    obtain ⟨e6, o6⟩ := r6
    simp only [List.cons.injEq, and_true] at e6
    subst e6
    have e7 : [d7] = [Value.bool x7] := r7
    simp only [List.cons.injEq, and_true] at e7
    subst e7
    obtain ⟨e8, o8⟩ := r8
    simp only [List.cons.injEq, and_true] at e8
    subst e8
    obtain ⟨sa9, sc9, e9, s9⟩ := r9
    simp only [List.cons.injEq, and_true] at e9
    subst e9
    exact ⟨⟨x0, x1, x2, x3, x4, x5, x6, x7, x8, x9⟩, ⟨sa9, sc9, rfl, s9, ⟨o0, o1, o2, o3, o4, o5, o6, trivial, o8, trivial⟩⟩, ⟨b0, b1, b2, b3, b4, b5, b6, b7, b8, b9⟩⟩

structure Who where
  pid : Int
  no : Int
  alone : Int
  deriving DecidableEq
def Who.ok (x : Who) : Prop := I64 x.pid ∧ I64 x.no ∧ I64 x.alone
def Who.small (x : Who) : Prop := True ∧ True ∧ True
def Who.vs (x : Who) : List Value := [.int .i64 x.pid, .int .i64 x.no, .int .i64 x.alone]
def tWho : Ty Who where
  sz := 3
  rep := fun _ cs x => cs = x.vs ∧ x.ok
  len := fun h => by rw [h.1]; rfl
  mono := fun _ h => h
instance : DEq Tryz.prog 137 2 (fun x : Who => Value.agg x.vs.toArray) (fun x y => decide (x = y)) :=
  deq_struct (vs := Who.vs) (ds := [(false, 3, 0), (false, 3, 1), (false, 3, 2)]) Tryz.underlying137 (by kernel_rfl) (by kernel_rfl) (fun x y => [decide (x.pid = y.pid), decide (x.no = y.no), decide (x.alone = y.alone)]) (fun x y => fieldsAre_cons (eqb := fun x y => decide (x = y)) rfl x.pid y.pid (part_plain Tryz.underlying3 rfl rfl) (part_plain Tryz.underlying3 rfl rfl) (fieldsAre_cons (eqb := fun x y => decide (x = y)) rfl x.no y.no (part_plain Tryz.underlying3 rfl rfl) (part_plain Tryz.underlying3 rfl rfl) (fieldsAre_cons (eqb := fun x y => decide (x = y)) rfl x.alone y.alone (part_plain Tryz.underlying3 rfl rfl) (part_plain Tryz.underlying3 rfl rfl) (trivial)))) (fun x y => by cases x; cases y; rw [Bool.eq_iff_iff]; simp)
instance : EqG Tryz.prog 137 := ⟨by kernel_rfl⟩
instance : KeyOk Tryz.prog 137 (fun x : Who => Value.agg x.vs.toArray) := key_of_deq (vs := Who.vs) Tryz.underlying137 rfl (fun x v hv => by
  simp only [Who.vs, List.mem_cons, List.not_mem_nil, or_false] at hv
  rcases hv with rfl | rfl | rfl <;> first | exact bits_int _ _ _ | exact bits_str _ _ | exact bits_bool _ _)
theorem Who.one (k : PH) (cs : List Value) (x : Who) (h : tWho.rep k cs x) : ∀ u ∈ cs, u.oneCell' = true := by
  rw [h.1]
  simp [Who.vs, Value.oneCell']
theorem Who.parts {k : PH} {b off : Nat} {x : Who} (h : Cells k b off x.vs) : Cells k b (off + 0) [.int .i64 x.pid] ∧ Cells k b (off + 1) [.int .i64 x.no] ∧ Cells k b (off + 2) [.int .i64 x.alone] :=
  ⟨h.win (n := 1) 0 rfl, h.win (n := 1) 1 rfl, h.win (n := 1) 2 rfl⟩
instance : RdW Tryz.prog 137 tWho Who.small where
  one := by kernel_rfl
  rd := fun hr hw => by
    obtain ⟨hl, m, hel⟩ := struct_fields (fs := [(0, 3), (1, 3), (2, 3)]) Tryz.underlying137 (by kernel_rfl) hr hw
    obtain ⟨d0, d1, d2, rfl⟩ := list3 (hl.trans (by kernel_rfl))
    obtain ⟨z0, h0, g0⟩ := hel 0 3 (by simp)
    rw [show Tryz.prog.cellsOf 3 = 1 by kernel_rfl] at h0
    obtain ⟨x0, r0, b0⟩ := RdW.rd (T := tInt) (cs := [d0]) h0 g0
    obtain ⟨z1, h1, g1⟩ := hel 1 3 (by simp)
    rw [show Tryz.prog.cellsOf 3 = 1 by kernel_rfl] at h1
    obtain ⟨x1, r1, b1⟩ := RdW.rd (T := tInt) (cs := [d1]) h1 g1
    obtain ⟨z2, h2, g2⟩ := hel 2 3 (by simp)
    rw [show Tryz.prog.cellsOf 3 = 1 by kernel_rfl] at h2
    obtain ⟨x2, r2, b2⟩ := RdW.rd (T := tInt) (cs := [d2]) h2 g2
    obtain ⟨e0, o0⟩ := r0
    simp only [List.cons.injEq, and_true] at e0
    subst e0
    obtain ⟨e1, o1⟩ := r1
    simp only [List.cons.injEq, and_true] at e1
    subst e1
    obtain ⟨e2, o2⟩ := r2
    simp only [List.cons.injEq, and_true] at e2
    subst e2
    exact ⟨⟨x0, x1, x2⟩, ⟨rfl, ⟨o0, o1, o2⟩⟩, ⟨b0, b1, b2⟩⟩

structure Pl where
  view : Int
  first : Int
  last : Int
  deriving DecidableEq
def Pl.ok (x : Pl) : Prop := I64 x.view ∧ I64 x.first ∧ I64 x.last
def Pl.small (x : Pl) : Prop := True ∧ True ∧ True
def Pl.vs (x : Pl) : List Value := [.int .i64 x.view, .int .i64 x.first, .int .i64 x.last]
def tPl : Ty Pl where
  sz := 3
  rep := fun _ cs x => cs = x.vs ∧ x.ok
  len := fun h => by rw [h.1]; rfl
  mono := fun _ h => h
instance : DEq Tryz.prog 141 2 (fun x : Pl => Value.agg x.vs.toArray) (fun x y => decide (x = y)) :=
  deq_struct (vs := Pl.vs) (ds := [(false, 3, 0), (false, 3, 1), (false, 3, 2)]) Tryz.underlying141 (by kernel_rfl) (by kernel_rfl) (fun x y => [decide (x.view = y.view), decide (x.first = y.first), decide (x.last = y.last)]) (fun x y => fieldsAre_cons (eqb := fun x y => decide (x = y)) rfl x.view y.view (part_plain Tryz.underlying3 rfl rfl) (part_plain Tryz.underlying3 rfl rfl) (fieldsAre_cons (eqb := fun x y => decide (x = y)) rfl x.first y.first (part_plain Tryz.underlying3 rfl rfl) (part_plain Tryz.underlying3 rfl rfl) (fieldsAre_cons (eqb := fun x y => decide (x = y)) rfl x.last y.last (part_plain Tryz.underlying3 rfl rfl) (part_plain Tryz.underlying3 rfl rfl) (trivial)))) (fun x y => by cases x; cases y; rw [Bool.eq_iff_iff]; simp)
instance : EqG Tryz.prog 141 := ⟨by kernel_rfl⟩
instance : KeyOk Tryz.prog 141 (fun x : Pl => Value.agg x.vs.toArray) := key_of_deq (vs := Pl.vs) Tryz.underlying141 rfl (fun x v hv => by
  simp only [Pl.vs, List.mem_cons, List.not_mem_nil, or_false] at hv
  rcases hv with rfl | rfl | rfl <;> first | exact bits_int _ _ _ | exact bits_str _ _ | exact bits_bool _ _)
theorem Pl.one (k : PH) (cs : List Value) (x : Pl) (h : tPl.rep k cs x) : ∀ u ∈ cs, u.oneCell' = true := by
  rw [h.1]
  simp [Pl.vs, Value.oneCell']
theorem Pl.parts {k : PH} {b off : Nat} {x : Pl} (h : Cells k b off x.vs) : Cells k b (off + 0) [.int .i64 x.view] ∧ Cells k b (off + 1) [.int .i64 x.first] ∧ Cells k b (off + 2) [.int .i64 x.last] :=
  ⟨h.win (n := 1) 0 rfl, h.win (n := 1) 1 rfl, h.win (n := 1) 2 rfl⟩
instance : RdW Tryz.prog 141 tPl Pl.small where
  one := by kernel_rfl
  rd := fun hr hw => by
    obtain ⟨hl, m, hel⟩ := struct_fields (fs := [(0, 3), (1, 3), (2, 3)]) Tryz.underlying141 (by kernel_rfl) hr hw
    obtain ⟨d0, d1, d2, rfl⟩ := list3 (hl.trans (by kernel_rfl))
    obtain ⟨z0, h0, g0⟩ := hel 0 3 (by simp)
    rw [show Tryz.prog.cellsOf 3 = 1 by kernel_rfl] at h0
    obtain ⟨x0, r0, b0⟩ := RdW.rd (T := tInt) (cs := [d0]) h0 g0
    obtain ⟨z1, h1, g1⟩ := hel 1 3 (by simp)
    rw [show Tryz.prog.cellsOf 3 = 1 by kernel_rfl] at h1
    obtain ⟨x1, r1, b1⟩ := RdW.rd (T := tInt) (cs := [d1]) h1 g1
    obtain ⟨z2, h2, g2⟩ := hel 2 3 (by simp)
    rw [show Tryz.prog.cellsOf 3 = 1 by kernel_rfl] at h2
    obtain ⟨x2, r2, b2⟩ := RdW.rd (T := tInt) (cs := [d2]) h2 g2
    obtain ⟨e0, o0⟩ := r0
    simp only [List.cons.injEq, and_true] at e0
    subst e0
    obtain ⟨e1, o1⟩ := r1
    simp only [List.cons.injEq, and_true] at e1
    subst e1
    obtain ⟨e2, o2⟩ := r2
    simp only [List.cons.injEq, and_true] at e2
    subst e2
    exact ⟨⟨x0, x1, x2⟩, ⟨rfl, ⟨o0, o1, o2⟩⟩, ⟨b0, b1, b2⟩⟩

structure Told where
  tp : Tp
  off : Int
  fromV : Int
  recV : Rec
  deriving DecidableEq
def Told.ok (x : Told) : Prop := x.tp.ok ∧ I64 x.off ∧ I64 x.fromV ∧ x.recV.ok
def Told.small (x : Told) : Prop := x.tp.small ∧ True ∧ True ∧ x.recV.small
def Told.vs (x : Told) : List Value := [.string x.tp.topic, .int .i64 x.tp.part, .int .i64 x.tp.home, .int .i64 x.off, .int .i64 x.fromV, .int .i64 x.recV.off, .string x.recV.key, .string x.recV.val, .bool x.recV.dead, .int .i64 x.recV.stamp]
def tTold : Ty Told where
  sz := 10
  rep := fun _ cs x => cs = x.vs ∧ x.ok
  len := fun h => by rw [h.1]; rfl
  mono := fun _ h => h
instance : DEq Tryz.prog 63 3 (fun x : Told => Value.agg x.vs.toArray) (fun x y => decide (x = y)) :=
  deq_struct (vs := Told.vs) (ds := [(false, 40, 0), (false, 3, 3), (false, 3, 4), (false, 61, 5)]) Tryz.underlying63 (by kernel_rfl) (by kernel_rfl) (fun x y => [decide (x.tp = y.tp), decide (x.off = y.off), decide (x.fromV = y.fromV), decide (x.recV = y.recV)]) (fun x y => fieldsAre_cons (eqb := fun x y => decide (x = y)) rfl x.tp y.tp (part_agg Tryz.underlying40 rfl (i := ((Tryz.prog.info? 40).getD default)) (by kernel_rfl) (sz := 3) (by kernel_rfl) (vs := x.tp.vs) rfl) (part_agg Tryz.underlying40 rfl (i := ((Tryz.prog.info? 40).getD default)) (by kernel_rfl) (sz := 3) (by kernel_rfl) (vs := y.tp.vs) rfl) (fieldsAre_cons (eqb := fun x y => decide (x = y)) rfl x.off y.off (part_plain Tryz.underlying3 rfl rfl) (part_plain Tryz.underlying3 rfl rfl) (fieldsAre_cons (eqb := fun x y => decide (x = y)) rfl x.fromV y.fromV (part_plain Tryz.underlying3 rfl rfl) (part_plain Tryz.underlying3 rfl rfl) (fieldsAre_cons (eqb := fun x y => decide (x = y)) rfl x.recV y.recV (part_agg Tryz.underlying61 rfl (i := ((Tryz.prog.info? 61).getD default)) (by kernel_rfl) (sz := 5) (by kernel_rfl) (vs := x.recV.vs) rfl) (part_agg Tryz.underlying61 rfl (i := ((Tryz.prog.info? 61).getD default)) (by kernel_rfl) (sz := 5) (by kernel_rfl) (vs := y.recV.vs) rfl) (trivial))))) (fun x y => by cases x; cases y; rw [Bool.eq_iff_iff]; simp)
instance : EqG Tryz.prog 63 := ⟨by kernel_rfl⟩
instance : KeyOk Tryz.prog 63 (fun x : Told => Value.agg x.vs.toArray) := key_of_deq (vs := Told.vs) Tryz.underlying63 rfl (fun x v hv => by
  simp only [Told.vs, List.mem_cons, List.not_mem_nil, or_false] at hv
  rcases hv with rfl | rfl | rfl | rfl | rfl | rfl | rfl | rfl | rfl | rfl <;> first | exact bits_int _ _ _ | exact bits_str _ _ | exact bits_bool _ _)
theorem Told.one (k : PH) (cs : List Value) (x : Told) (h : tTold.rep k cs x) : ∀ u ∈ cs, u.oneCell' = true := by
  rw [h.1]
  simp [Told.vs, Value.oneCell']
theorem Told.parts {k : PH} {b off : Nat} {x : Told} (h : Cells k b off x.vs) : Cells k b (off + 0) x.tp.vs ∧ Cells k b (off + 3) [.int .i64 x.off] ∧ Cells k b (off + 4) [.int .i64 x.fromV] ∧ Cells k b (off + 5) x.recV.vs :=
  ⟨h.win (n := 3) 0 rfl, h.win (n := 1) 3 rfl, h.win (n := 1) 4 rfl, h.win (n := 5) 5 rfl⟩
instance : RdW Tryz.prog 63 tTold Told.small where
  one := by kernel_rfl
  rd := fun hr hw => by
    obtain ⟨hl, m, hel⟩ := struct_fields (fs := [(0, 40), (3, 3), (4, 3), (5, 61)]) Tryz.underlying63 (by kernel_rfl) hr hw
    obtain ⟨d0, d1, d2, d3, d4, d5, d6, d7, d8, d9, rfl⟩ := list10 (hl.trans (by kernel_rfl))
    obtain ⟨z0, h0, g0⟩ := hel 0 40 (by simp)
    rw [show Tryz.prog.cellsOf 40 = 3 by kernel_rfl] at h0
    obtain ⟨x0, r0, b0⟩ := RdW.rd (T := tTp) (cs := [d0, d1, d2]) h0 g0
    obtain ⟨z1, h1, g1⟩ := hel 3 3 (by simp)
    rw [show Tryz.prog.cellsOf 3 = 1 by kernel_rfl] at h1
    obtain ⟨x1, r1, b1⟩ := RdW.rd (T := tInt) (cs := [d3]) h1 g1
    obtain ⟨z2, h2, g2⟩ := hel 4 3 (by simp)
    rw [show Tryz.prog.cellsOf 3 = 1 by kernel_rfl] at h2
    obtain ⟨x2, r2, b2⟩ := RdW.rd (T := tInt) (cs := [d4]) h2 g2
    obtain ⟨z3, h3, g3⟩ := hel 5 61 (by simp)
    rw [show Tryz.prog.cellsOf 61 = 5 by kernel_rfl] at h3
    obtain ⟨x3, r3, b3⟩ := RdW.rd (T := tRec) (cs := [d5, d6, d7, d8, d9]) h3 g3
    obtain ⟨e0, o0⟩ := r0
    simp only [Tp.vs, List.cons.injEq, and_true] at e0
    obtain ⟨rfl, rfl, rfl⟩ := e0
    obtain ⟨e1, o1⟩ := r1
    simp only [List.cons.injEq, and_true] at e1
    subst e1
    obtain ⟨e2, o2⟩ := r2
    simp only [List.cons.injEq, and_true] at e2
    subst e2
    obtain ⟨e3, o3⟩ := r3
    simp only [Rec.vs, List.cons.injEq, and_true] at e3
    obtain ⟨rfl, rfl, rfl, rfl, rfl⟩ := e3
    exact ⟨⟨x0, x1, x2, x3⟩, ⟨rfl, ⟨o0, o1, o2, o3⟩⟩, ⟨b0, b1, b2, b3⟩⟩

structure Fact where
  tp : Tp
  off : Int
  recV : Rec
  pid : Int
  txn : Int
  done : Bool
  deriving DecidableEq
def Fact.ok (x : Fact) : Prop := x.tp.ok ∧ I64 x.off ∧ x.recV.ok ∧ I64 x.pid ∧ I64 x.txn ∧ True
def Fact.small (x : Fact) : Prop := x.tp.small ∧ True ∧ x.recV.small ∧ True ∧ True ∧ True
def Fact.vs (x : Fact) : List Value := [.string x.tp.topic, .int .i64 x.tp.part, .int .i64 x.tp.home, .int .i64 x.off, .int .i64 x.recV.off, .string x.recV.key, .string x.recV.val, .bool x.recV.dead, .int .i64 x.recV.stamp, .int .i64 x.pid, .int .i64 x.txn, .bool x.done]
def tFact : Ty Fact where
  sz := 12
  rep := fun _ cs x => cs = x.vs ∧ x.ok
  len := fun h => by rw [h.1]; rfl
  mono := fun _ h => h
instance : DEq Tryz.prog 65 3 (fun x : Fact => Value.agg x.vs.toArray) (fun x y => decide (x = y)) :=
  deq_struct (vs := Fact.vs) (ds := [(false, 40, 0), (false, 3, 3), (false, 61, 4), (false, 3, 9), (false, 3, 10), (false, 4, 11)]) Tryz.underlying65 (by kernel_rfl) (by kernel_rfl) (fun x y => [decide (x.tp = y.tp), decide (x.off = y.off), decide (x.recV = y.recV), decide (x.pid = y.pid), decide (x.txn = y.txn), decide (x.done = y.done)]) (fun x y => fieldsAre_cons (eqb := fun x y => decide (x = y)) rfl x.tp y.tp (part_agg Tryz.underlying40 rfl (i := ((Tryz.prog.info? 40).getD default)) (by kernel_rfl) (sz := 3) (by kernel_rfl) (vs := x.tp.vs) rfl) (part_agg Tryz.underlying40 rfl (i := ((Tryz.prog.info? 40).getD default)) (by kernel_rfl) (sz := 3) (by kernel_rfl) (vs := y.tp.vs) rfl) (fieldsAre_cons (eqb := fun x y => decide (x = y)) rfl x.off y.off (part_plain Tryz.underlying3 rfl rfl) (part_plain Tryz.underlying3 rfl rfl) (fieldsAre_cons (eqb := fun x y => decide (x = y)) rfl x.recV y.recV (part_agg Tryz.underlying61 rfl (i := ((Tryz.prog.info? 61).getD default)) (by kernel_rfl) (sz := 5) (by kernel_rfl) (vs := x.recV.vs) rfl) (part_agg Tryz.underlying61 rfl (i := ((Tryz.prog.info? 61).getD default)) (by kernel_rfl) (sz := 5) (by kernel_rfl) (vs := y.recV.vs) rfl) (fieldsAre_cons (eqb := fun x y => decide (x = y)) rfl x.pid y.pid (part_plain Tryz.underlying3 rfl rfl) (part_plain Tryz.underlying3 rfl rfl) (fieldsAre_cons (eqb := fun x y => decide (x = y)) rfl x.txn y.txn (part_plain Tryz.underlying3 rfl rfl) (part_plain Tryz.underlying3 rfl rfl) (fieldsAre_cons (eqb := fun x y => decide (x = y)) rfl x.done y.done (part_plain Tryz.underlying4 rfl rfl) (part_plain Tryz.underlying4 rfl rfl) (trivial))))))) (fun x y => by cases x; cases y; rw [Bool.eq_iff_iff]; simp)
instance : EqG Tryz.prog 65 := ⟨by kernel_rfl⟩
instance : KeyOk Tryz.prog 65 (fun x : Fact => Value.agg x.vs.toArray) := key_of_deq (vs := Fact.vs) Tryz.underlying65 rfl (fun x v hv => by
  simp only [Fact.vs, List.mem_cons, List.not_mem_nil, or_false] at hv
  rcases hv with rfl | rfl | rfl | rfl | rfl | rfl | rfl | rfl | rfl | rfl | rfl | rfl <;> first | exact bits_int _ _ _ | exact bits_str _ _ | exact bits_bool _ _)
theorem Fact.one (k : PH) (cs : List Value) (x : Fact) (h : tFact.rep k cs x) : ∀ u ∈ cs, u.oneCell' = true := by
  rw [h.1]
  simp [Fact.vs, Value.oneCell']
theorem Fact.parts {k : PH} {b off : Nat} {x : Fact} (h : Cells k b off x.vs) : Cells k b (off + 0) x.tp.vs ∧ Cells k b (off + 3) [.int .i64 x.off] ∧ Cells k b (off + 4) x.recV.vs ∧ Cells k b (off + 9) [.int .i64 x.pid] ∧ Cells k b (off + 10) [.int .i64 x.txn] ∧ Cells k b (off + 11) [.bool x.done] :=
  ⟨h.win (n := 3) 0 rfl, h.win (n := 1) 3 rfl, h.win (n := 5) 4 rfl, h.win (n := 1) 9 rfl, h.win (n := 1) 10 rfl, h.win (n := 1) 11 rfl⟩
theorem list12 {α : Type} {l : List α} (h : l.length = 12) : ∃ a0 a1 a2 a3 a4 a5 a6 a7 a8 a9 a10 a11, l = [a0, a1, a2, a3, a4, a5, a6, a7, a8, a9, a10, a11] := by
  match l, h with
  | [a0, a1, a2, a3, a4, a5, a6, a7, a8, a9, a10, a11], _ => exact ⟨a0, a1, a2, a3, a4, a5, a6, a7, a8, a9, a10, a11, rfl⟩
instance : RdW Tryz.prog 65 tFact Fact.small where
  one := by kernel_rfl
  rd := fun hr hw => by
    obtain ⟨hl, m, hel⟩ := struct_fields (fs := [(0, 40), (3, 3), (4, 61), (9, 3), (10, 3), (11, 4)]) Tryz.underlying65 (by kernel_rfl) hr hw
    obtain ⟨d0, d1, d2, d3, d4, d5, d6, d7, d8, d9, d10, d11, rfl⟩ := list12 (hl.trans (by kernel_rfl))
    obtain ⟨z0, h0, g0⟩ := hel 0 40 (by simp)
    rw [show Tryz.prog.cellsOf 40 = 3 by kernel_rfl] at h0
    obtain ⟨x0, r0, b0⟩ := RdW.rd (T := tTp) (cs := [d0, d1, d2]) h0 g0
    obtain ⟨z1, h1, g1⟩ := hel 3 3 (by simp)
    rw [show Tryz.prog.cellsOf 3 = 1 by kernel_rfl] at h1
    obtain ⟨x1, r1, b1⟩ := RdW.rd (T := tInt) (cs := [d3]) h1 g1
    obtain ⟨z2, h2, g2⟩ := hel 4 61 (by simp)
    rw [show Tryz.prog.cellsOf 61 = 5 by kernel_rfl] at h2
    obtain ⟨x2, r2, b2⟩ := RdW.rd (T := tRec) (cs := [d4, d5, d6, d7, d8]) h2 g2
    obtain ⟨z3, h3, g3⟩ := hel 9 3 (by simp)
    rw [show Tryz.prog.cellsOf 3 = 1 by kernel_rfl] at h3
    obtain ⟨x3, r3, b3⟩ := RdW.rd (T := tInt) (cs := [d9]) h3 g3
    obtain ⟨z4, h4, g4⟩ := hel 10 3 (by simp)
    rw [show Tryz.prog.cellsOf 3 = 1 by kernel_rfl] at h4
    obtain ⟨x4, r4, b4⟩ := RdW.rd (T := tInt) (cs := [d10]) h4 g4
    obtain ⟨z5, h5, g5⟩ := hel 11 4 (by simp)
    rw [show Tryz.prog.cellsOf 4 = 1 by kernel_rfl] at h5
    obtain ⟨x5, r5, b5⟩ := RdW.rd (T := tBool) (cs := [d11]) h5 g5
    obtain ⟨e0, o0⟩ := r0
    simp only [Tp.vs, List.cons.injEq, and_true] at e0
    obtain ⟨rfl, rfl, rfl⟩ := e0
    obtain ⟨e1, o1⟩ := r1
    simp only [List.cons.injEq, and_true] at e1
    subst e1
    obtain ⟨e2, o2⟩ := r2
    simp only [Rec.vs, List.cons.injEq, and_true] at e2
    obtain ⟨rfl, rfl, rfl, rfl, rfl⟩ := e2
    obtain ⟨e3, o3⟩ := r3
    simp only [List.cons.injEq, and_true] at e3
    subst e3
    obtain ⟨e4, o4⟩ := r4
    simp only [List.cons.injEq, and_true] at e4
    subst e4
    have e5 : [d11] = [Value.bool x5] := r5
    simp only [List.cons.injEq, and_true] at e5
    subst e5
    exact ⟨⟨x0, x1, x2, x3, x4, x5⟩, ⟨rfl, ⟨o0, o1, o2, o3, o4, trivial⟩⟩, ⟨b0, b1, b2, b3, b4, b5⟩⟩

structure Place where
  tp : Tp
  off : Int
  deriving DecidableEq
def Place.ok (x : Place) : Prop := x.tp.ok ∧ I64 x.off
def Place.small (x : Place) : Prop := x.tp.small ∧ True
def Place.vs (x : Place) : List Value := [.string x.tp.topic, .int .i64 x.tp.part, .int .i64 x.tp.home, .int .i64 x.off]
def tPlace : Ty Place where
  sz := 4
  rep := fun _ cs x => cs = x.vs ∧ x.ok
  len := fun h => by rw [h.1]; rfl
  mono := fun _ h => h
instance : DEq Tryz.prog 102 3 (fun x : Place => Value.agg x.vs.toArray) (fun x y => decide (x = y)) :=
  deq_struct (vs := Place.vs) (ds := [(false, 40, 0), (false, 3, 3)]) Tryz.underlying102 (by kernel_rfl) (by kernel_rfl) (fun x y => [decide (x.tp = y.tp), decide (x.off = y.off)]) (fun x y => fieldsAre_cons (eqb := fun x y => decide (x = y)) rfl x.tp y.tp (part_agg Tryz.underlying40 rfl (i := ((Tryz.prog.info? 40).getD default)) (by kernel_rfl) (sz := 3) (by kernel_rfl) (vs := x.tp.vs) rfl) (part_agg Tryz.underlying40 rfl (i := ((Tryz.prog.info? 40).getD default)) (by kernel_rfl) (sz := 3) (by kernel_rfl) (vs := y.tp.vs) rfl) (fieldsAre_cons (eqb := fun x y => decide (x = y)) rfl x.off y.off (part_plain Tryz.underlying3 rfl rfl) (part_plain Tryz.underlying3 rfl rfl) (trivial))) (fun x y => by cases x; cases y; rw [Bool.eq_iff_iff]; simp)
instance : EqG Tryz.prog 102 := ⟨by kernel_rfl⟩
instance : KeyOk Tryz.prog 102 (fun x : Place => Value.agg x.vs.toArray) := key_of_deq (vs := Place.vs) Tryz.underlying102 rfl (fun x v hv => by
  simp only [Place.vs, List.mem_cons, List.not_mem_nil, or_false] at hv
  rcases hv with rfl | rfl | rfl | rfl <;> first | exact bits_int _ _ _ | exact bits_str _ _ | exact bits_bool _ _)
theorem Place.one (k : PH) (cs : List Value) (x : Place) (h : tPlace.rep k cs x) : ∀ u ∈ cs, u.oneCell' = true := by
  rw [h.1]
  simp [Place.vs, Value.oneCell']
theorem Place.parts {k : PH} {b off : Nat} {x : Place} (h : Cells k b off x.vs) : Cells k b (off + 0) x.tp.vs ∧ Cells k b (off + 3) [.int .i64 x.off] :=
  ⟨h.win (n := 3) 0 rfl, h.win (n := 1) 3 rfl⟩
instance : RdW Tryz.prog 102 tPlace Place.small where
  one := by kernel_rfl
  rd := fun hr hw => by
    obtain ⟨hl, m, hel⟩ := struct_fields (fs := [(0, 40), (3, 3)]) Tryz.underlying102 (by kernel_rfl) hr hw
    obtain ⟨d0, d1, d2, d3, rfl⟩ := list4 (hl.trans (by kernel_rfl))
    obtain ⟨z0, h0, g0⟩ := hel 0 40 (by simp)
    rw [show Tryz.prog.cellsOf 40 = 3 by kernel_rfl] at h0
    obtain ⟨x0, r0, b0⟩ := RdW.rd (T := tTp) (cs := [d0, d1, d2]) h0 g0
    obtain ⟨z1, h1, g1⟩ := hel 3 3 (by simp)
    rw [show Tryz.prog.cellsOf 3 = 1 by kernel_rfl] at h1
    obtain ⟨x1, r1, b1⟩ := RdW.rd (T := tInt) (cs := [d3]) h1 g1
    obtain ⟨e0, o0⟩ := r0
    simp only [Tp.vs, List.cons.injEq, and_true] at e0
    obtain ⟨rfl, rfl, rfl⟩ := e0
    obtain ⟨e1, o1⟩ := r1
    simp only [List.cons.injEq, and_true] at e1
    subst e1
    exact ⟨⟨x0, x1⟩, ⟨rfl, ⟨o0, o1⟩⟩, ⟨b0, b1⟩⟩
end Go.Wm
