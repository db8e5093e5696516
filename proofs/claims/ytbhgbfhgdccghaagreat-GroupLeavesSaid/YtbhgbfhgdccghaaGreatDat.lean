/-
  The data of this seat's program, as Lean has them; how they lie in memory, are held against each other and are read. Written by a program of the prover's own out of the dump. Conditions: none.
-/
import Derived.Test.YtbhgbfhgdccghaaGreatTypes
import Derived.Test.YtbhgbfhgdccghaaGreatCoA
import Derived.Test.YtbhgbfhgdccghaaGreatCoB
set_option linter.all false
set_option maxRecDepth 100000
namespace Go.Wm
open Go.RowKit Go.Proofs

theorem Cells.win {k : PH} {b off n : Nat} {vs us : List Value} (h : Cells k b off vs) (j : Nat) (hu : (vs.drop j).take n = us) : Cells k b (off + j) us :=
  h.sub j fun i v hv => by
    rw [← hu] at hv
    rw [List.getElem?_take] at hv
    split at hv
    · rwa [List.getElem?_drop] at hv
    · cases hv

instance : DEq Tryz.prog 9 1 (fun x : ByteArray => Value.string x) (fun x y => decide (x = y)) := deq_str Tryz.underlying9
instance : KeyOk Tryz.prog 9 (fun x : ByteArray => Value.string x) := key_str Tryz.underlying9
instance : RdW Tryz.prog 9 tStr (fun s => s.size ≤ reachBytes) := rdw_str Tryz.underlying9 (by kernel_rfl)
instance : DEq Tryz.prog 3 1 (fun x : Int => Value.int .i64 x) (fun x y => decide (x = y)) := deq_int Tryz.underlying3
instance : KeyOk Tryz.prog 3 (fun x : Int => Value.int .i64 x) := key_int Tryz.underlying3
instance : RdW Tryz.prog 3 tInt (fun _ => True) := rdw_int Tryz.underlying3 (by kernel_rfl)

structure Tp where
  topic : ByteArray
  part : Int
  home : Int
  deriving DecidableEq
def Tp.ok (x : Tp) : Prop := x.topic.size ≤ maxLen ∧ I64 x.part ∧ I64 x.home
def Tp.small (x : Tp) : Prop := x.topic.size ≤ reachBytes ∧ True ∧ True
def Tp.vs (x : Tp) : List Value := [.string x.topic, .int .i64 x.part, .int .i64 x.home]
def tTp : Ty Tp where
  sz := 3
  rep := fun _ cs x => cs = x.vs ∧ x.ok
  len := fun h => by rw [h.1]; rfl
  mono := fun _ h => h
instance : DEq Tryz.prog 53 2 (fun x : Tp => Value.agg x.vs.toArray) (fun x y => decide (x = y)) :=
  deq_struct (vs := Tp.vs) (ds := [(false, 9, 0), (false, 3, 1), (false, 3, 2)]) Tryz.underlying53 (by kernel_rfl) (by kernel_rfl) (fun x y => [decide (x.topic = y.topic), decide (x.part = y.part), decide (x.home = y.home)]) (fun x y => fieldsAre_cons (eqb := fun x y => decide (x = y)) rfl x.topic y.topic (part_plain Tryz.underlying9 rfl rfl) (part_plain Tryz.underlying9 rfl rfl) (fieldsAre_cons (eqb := fun x y => decide (x = y)) rfl x.part y.part (part_plain Tryz.underlying3 rfl rfl) (part_plain Tryz.underlying3 rfl rfl) (fieldsAre_cons (eqb := fun x y => decide (x = y)) rfl x.home y.home (part_plain Tryz.underlying3 rfl rfl) (part_plain Tryz.underlying3 rfl rfl) (trivial)))) (fun x y => by cases x; cases y; rw [Bool.eq_iff_iff]; simp)
instance : EqG Tryz.prog 53 := ⟨by kernel_rfl⟩
instance : KeyOk Tryz.prog 53 (fun x : Tp => Value.agg x.vs.toArray) := key_of_deq (vs := Tp.vs) Tryz.underlying53 rfl (fun x v hv => by
  simp only [Tp.vs, List.mem_cons, List.not_mem_nil, or_false] at hv
  rcases hv with rfl | rfl | rfl <;> first | exact bits_int _ _ _ | exact bits_str _ _ | exact bits_bool _ _)
theorem Tp.one (k : PH) (cs : List Value) (x : Tp) (h : tTp.rep k cs x) : ∀ u ∈ cs, u.oneCell' = true := by
  rw [h.1]
  simp [Tp.vs, Value.oneCell']
theorem Tp.parts {k : PH} {b off : Nat} {x : Tp} (h : Cells k b off x.vs) : Cells k b (off + 0) [.string x.topic] ∧ Cells k b (off + 1) [.int .i64 x.part] ∧ Cells k b (off + 2) [.int .i64 x.home] :=
  ⟨h.win (n := 1) 0 rfl, h.win (n := 1) 1 rfl, h.win (n := 1) 2 rfl⟩
theorem list3 {α : Type} {l : List α} (h : l.length = 3) : ∃ a0 a1 a2, l = [a0, a1, a2] := by
  match l, h with
  | [a0, a1, a2], _ => exact ⟨a0, a1, a2, rfl⟩
instance : RdW Tryz.prog 53 tTp Tp.small where
  one := by kernel_rfl
  rd := fun hr hw => by
    obtain ⟨hl, m, hel⟩ := struct_fields (fs := [(0, 9), (1, 3), (2, 3)]) Tryz.underlying53 (by kernel_rfl) hr hw
    obtain ⟨d0, d1, d2, rfl⟩ := list3 (hl.trans (by kernel_rfl))
    obtain ⟨z0, h0, g0⟩ := hel 0 9 (by simp)
    rw [show Tryz.prog.cellsOf 9 = 1 by kernel_rfl] at h0
    obtain ⟨x0, r0, b0⟩ := RdW.rd (T := tStr) (cs := [d0]) h0 g0
    obtain ⟨z1, h1, g1⟩ := hel 1 3 (by simp)
    rw [show Tryz.prog.cellsOf 3 = 1 by kernel_rfl] at h1
    obtain ⟨x1, r1, b1⟩ := RdW.rd (T := tInt) (cs := [d1]) h1 g1
    obtain ⟨z2, h2, g2⟩ := hel 2 3 (by simp)
    rw [show Tryz.prog.cellsOf 3 = 1 by kernel_rfl] at h2
    obtain ⟨x2, r2, b2⟩ := RdW.rd (T := tInt) (cs := [d2]) h2 g2
    obtain ⟨e0, o0⟩ := r0
    simp only [List.cons.injEq, and_true] at e0
    subst e0
    obtain ⟨e1, o1⟩ := r1
    simp only [List.cons.injEq, and_true] at e1
    subst e1
    obtain ⟨e2, o2⟩ := r2
    simp only [List.cons.injEq, and_true] at e2
    subst e2
    exact ⟨⟨x0, x1, x2⟩, ⟨rfl, ⟨o0, o1, o2⟩⟩, ⟨b0, b1, b2⟩⟩
instance : RdW Tryz.prog 42 (tSl tStr) (fun xs => (xs.length * Tryz.prog.bytesOf 9 ≤ reachBytes ∧ ∀ y0 ∈ xs, y0.size ≤ reachBytes)) := rdw_slice Tryz.underlying42 (by kernel_rfl) (by decide)
instance : RdW Tryz.prog 25 (tSl tTp) (fun xs => (xs.length * Tryz.prog.bytesOf 53 ≤ reachBytes ∧ ∀ y0 ∈ xs, y0.small)) := rdw_slice Tryz.underlying25 (by kernel_rfl) (by decide)
instance : DEq Tryz.prog 4 1 (fun x : Bool => Value.bool x) (fun x y => decide (x = y)) := deq_bool Tryz.underlying4
instance : RdW Tryz.prog 4 tBool (fun _ => True) := rdw_bool Tryz.underlying4 (by kernel_rfl)

structure Member where
  id : ByteArray
  static : ByteArray
  subs : List ByteArray
  own : List Tp
  joined : Bool
  beat : Int
  deriving DecidableEq
def Member.ok (x : Member) : Prop := x.id.size ≤ maxLen ∧ x.static.size ≤ maxLen ∧ True ∧ True ∧ True ∧ I64 x.beat
def Member.small (x : Member) : Prop := x.id.size ≤ reachBytes ∧ x.static.size ≤ reachBytes ∧ (x.subs.length * Tryz.prog.bytesOf 9 ≤ reachBytes ∧ ∀ y0 ∈ x.subs, y0.size ≤ reachBytes) ∧ (x.own.length * Tryz.prog.bytesOf 53 ≤ reachBytes ∧ ∀ y0 ∈ x.own, y0.small) ∧ True ∧ True
def Member.cs (x : Member) (a0 : Option Addr) (c0 : Nat) (a1 : Option Addr) (c1 : Nat) : List Value := [.string x.id, .string x.static, .slice a0 x.subs.length c0, .slice a1 x.own.length c1, .bool x.joined, .int .i64 x.beat]
def tMember : Ty Member where
  sz := 6
  rep := fun h cs x => ∃ a0 c0 a1 c1, cs = x.cs a0 c0 a1 c1 ∧ (Sl tStr h a0 c0 x.subs ∧ Sl tTp h a1 c1 x.own) ∧ x.ok
  len := fun ⟨_, _, _, _, h, _⟩ => by rw [h]; rfl
  mono := fun hl ⟨a0, c0, a1, c1, h, ⟨s0, s1⟩, hk⟩ => ⟨a0, c0, a1, c1, h, ⟨s0.le hl, s1.le hl⟩, hk⟩
theorem Member.one (k : PH) (cs : List Value) (x : Member) (h : tMember.rep k cs x) : ∀ u ∈ cs, u.oneCell' = true := by
  obtain ⟨_, _, _, _, h, _⟩ := h
  rw [h]
  simp [Member.cs, Value.oneCell']
theorem Member.parts {k : PH} {b off : Nat} {x : Member} {a0 a1 : Option Addr} {c0 c1 : Nat} (h : Cells k b off (x.cs a0 c0 a1 c1)) : Cells k b (off + 0) [.string x.id] ∧ Cells k b (off + 1) [.string x.static] ∧ Cells k b (off + 2) [.slice a0 x.subs.length c0] ∧ Cells k b (off + 3) [.slice a1 x.own.length c1] ∧ Cells k b (off + 4) [.bool x.joined] ∧ Cells k b (off + 5) [.int .i64 x.beat] :=
  ⟨h.win (n := 1) 0 rfl, h.win (n := 1) 1 rfl, h.win (n := 1) 2 rfl, h.win (n := 1) 3 rfl, h.win (n := 1) 4 rfl, h.win (n := 1) 5 rfl⟩
theorem list6 {α : Type} {l : List α} (h : l.length = 6) : ∃ a0 a1 a2 a3 a4 a5, l = [a0, a1, a2, a3, a4, a5] := by
  match l, h with
  | [a0, a1, a2, a3, a4, a5], _ => exact ⟨a0, a1, a2, a3, a4, a5, rfl⟩
instance : RdW Tryz.prog 44 tMember Member.small where
  one := by kernel_rfl
  rd := fun hr hw => by
    obtain ⟨hl, m, hel⟩ := struct_fields (fs := [(0, 9), (1, 9), (2, 42), (3, 25), (4, 4), (5, 3)]) Tryz.underlying44 (by kernel_rfl) hr hw
    obtain ⟨d0, d1, d2, d3, d4, d5, rfl⟩ := list6 (hl.trans (by kernel_rfl))
    obtain ⟨z0, h0, g0⟩ := hel 0 9 (by simp)
    rw [show Tryz.prog.cellsOf 9 = 1 by kernel_rfl] at h0
    obtain ⟨x0, r0, b0⟩ := RdW.rd (T := tStr) (cs := [d0]) h0 g0
    obtain ⟨z1, h1, g1⟩ := hel 1 9 (by simp)
    rw [show Tryz.prog.cellsOf 9 = 1 by kernel_rfl] at h1
    obtain ⟨x1, r1, b1⟩ := RdW.rd (T := tStr) (cs := [d1]) h1 g1
    obtain ⟨z2, h2, g2⟩ := hel 2 42 (by simp)
    rw [show Tryz.prog.cellsOf 42 = 1 by kernel_rfl] at h2
    obtain ⟨x2, r2, b2⟩ := RdW.rd (T := (tSl tStr)) (cs := [d2]) h2 g2
    obtain ⟨z3, h3, g3⟩ := hel 3 25 (by simp)
    rw [show Tryz.prog.cellsOf 25 = 1 by kernel_rfl] at h3
    obtain ⟨x3, r3, b3⟩ := RdW.rd (T := (tSl tTp)) (cs := [d3]) h3 g3
    obtain ⟨z4, h4, g4⟩ := hel 4 4 (by simp)
    rw [show Tryz.prog.cellsOf 4 = 1 by kernel_rfl] at h4
    obtain ⟨x4, r4, b4⟩ := RdW.rd (T := tBool) (cs := [d4]) h4 g4
    obtain ⟨z5, h5, g5⟩ := hel 5 3 (by simp)
    rw [show Tryz.prog.cellsOf 3 = 1 by kernel_rfl] at h5
    obtain ⟨x5, r5, b5⟩ := RdW.rd (T := tInt) (cs := [d5]) h5 g5
    obtain ⟨e0, o0⟩ := r0
    simp only [List.cons.injEq, and_true] at e0
    subst e0
    obtain ⟨e1, o1⟩ := r1
    simp only [List.cons.injEq, and_true] at e1
    subst e1
    obtain ⟨sa2, sc2, e2, s2⟩ := r2
    simp only [List.cons.injEq, and_true] at e2
    subst e2
    obtain ⟨sa3, sc3, e3, s3⟩ := r3
    simp only [List.cons.injEq, and_true] at e3
    subst e3
    have e4 : [d4] = [Value.bool x4] := r4
    simp only [List.cons.injEq, and_true] at e4
    subst e4
    obtain ⟨e5, o5⟩ := r5
    simp only [List.cons.injEq, and_true] at e5
    subst e5
    exact ⟨⟨x0, x1, x2, x3, x4, x5⟩, ⟨sa2, sc2, sa3, sc3, rfl, ⟨s2, s3⟩, ⟨o0, o1, trivial, trivial, trivial, o5⟩⟩, ⟨b0, b1, b2, b3, b4, b5⟩⟩
instance : RdW Tryz.prog 22 (tSl tMember) (fun xs => (xs.length * Tryz.prog.bytesOf 44 ≤ reachBytes ∧ ∀ y0 ∈ xs, y0.small)) := rdw_slice Tryz.underlying22 (by kernel_rfl) (by decide)

structure Group where
  name : ByteArray
  gen : Int
  state : Int
  l : List Member
  deriving DecidableEq
def Group.ok (x : Group) : Prop := x.name.size ≤ maxLen ∧ I64 x.gen ∧ I64 x.state ∧ True
def Group.small (x : Group) : Prop := x.name.size ≤ reachBytes ∧ True ∧ True ∧ (x.l.length * Tryz.prog.bytesOf 44 ≤ reachBytes ∧ ∀ y0 ∈ x.l, y0.small)
def Group.cs (x : Group) (a0 : Option Addr) (c0 : Nat) : List Value := [.string x.name, .int .i64 x.gen, .int .i64 x.state, .slice a0 x.l.length c0]
def tGroup : Ty Group where
  sz := 4
  rep := fun h cs x => ∃ a0 c0, cs = x.cs a0 c0 ∧ (Sl tMember h a0 c0 x.l) ∧ x.ok
  len := fun ⟨_, _, h, _⟩ => by rw [h]; rfl
  mono := fun hl ⟨a0, c0, h, s0, hk⟩ => ⟨a0, c0, h, s0.le hl, hk⟩
theorem Group.one (k : PH) (cs : List Value) (x : Group) (h : tGroup.rep k cs x) : ∀ u ∈ cs, u.oneCell' = true := by
  obtain ⟨_, _, h, _⟩ := h
  rw [h]
  simp [Group.cs, Value.oneCell']
theorem Group.parts {k : PH} {b off : Nat} {x : Group} {a0 : Option Addr} {c0 : Nat} (h : Cells k b off (x.cs a0 c0)) : Cells k b (off + 0) [.string x.name] ∧ Cells k b (off + 1) [.int .i64 x.gen] ∧ Cells k b (off + 2) [.int .i64 x.state] ∧ Cells k b (off + 3) [.slice a0 x.l.length c0] :=
  ⟨h.win (n := 1) 0 rfl, h.win (n := 1) 1 rfl, h.win (n := 1) 2 rfl, h.win (n := 1) 3 rfl⟩
theorem list4 {α : Type} {l : List α} (h : l.length = 4) : ∃ a0 a1 a2 a3, l = [a0, a1, a2, a3] := by
  match l, h with
  | [a0, a1, a2, a3], _ => exact ⟨a0, a1, a2, a3, rfl⟩
instance : RdW Tryz.prog 24 tGroup Group.small where
  one := by kernel_rfl
  rd := fun hr hw => by
    obtain ⟨hl, m, hel⟩ := struct_fields (fs := [(0, 9), (1, 3), (2, 3), (3, 22)]) Tryz.underlying24 (by kernel_rfl) hr hw
    obtain ⟨d0, d1, d2, d3, rfl⟩ := list4 (hl.trans (by kernel_rfl))
    obtain ⟨z0, h0, g0⟩ := hel 0 9 (by simp)
    rw [show Tryz.prog.cellsOf 9 = 1 by kernel_rfl] at h0
    obtain ⟨x0, r0, b0⟩ := RdW.rd (T := tStr) (cs := [d0]) h0 g0
    obtain ⟨z1, h1, g1⟩ := hel 1 3 (by simp)
    rw [show Tryz.prog.cellsOf 3 = 1 by kernel_rfl] at h1
    obtain ⟨x1, r1, b1⟩ := RdW.rd (T := tInt) (cs := [d1]) h1 g1
    obtain ⟨z2, h2, g2⟩ := hel 2 3 (by simp)
    rw [show Tryz.prog.cellsOf 3 = 1 by kernel_rfl] at h2
    obtain ⟨x2, r2, b2⟩ := RdW.rd (T := tInt) (cs := [d2]) h2 g2
    obtain ⟨z3, h3, g3⟩ := hel 3 22 (by simp)
    rw [show Tryz.prog.cellsOf 22 = 1 by kernel_rfl] at h3
    obtain ⟨x3, r3, b3⟩ := RdW.rd (T := (tSl tMember)) (cs := [d3]) h3 g3
    obtain ⟨e0, o0⟩ := r0
    simp only [List.cons.injEq, and_true] at e0
    subst e0
    obtain ⟨e1, o1⟩ := r1
    simp only [List.cons.injEq, and_true] at e1
    subst e1
    obtain ⟨e2, o2⟩ := r2
    simp only [List.cons.injEq, and_true] at e2
    subst e2
    obtain ⟨sa3, sc3, e3, s3⟩ := r3
    simp only [List.cons.injEq, and_true] at e3
    subst e3
    exact ⟨⟨x0, x1, x2, x3⟩, ⟨sa3, sc3, rfl, s3, ⟨o0, o1, o2, trivial⟩⟩, ⟨b0, b1, b2, b3⟩⟩
end Go.Wm
