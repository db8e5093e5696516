/-
  The data of this seat's program, as Lean has them; how they lie in memory, are held against each other and are read. Written by a program of the prover's own out of the dump. Conditions: none.
-/
import Derived.Test.YtgalkgidjpbiaaaGreatTypes
import Derived.Test.YtgalkgidjpbiaaaGreatCoA
import Derived.Test.YtgalkgidjpbiaaaGreatCoB
set_option linter.all false
set_option maxRecDepth 100000
namespace Go.Wm
open Go.RowKit Go.Proofs

theorem Cells.win {k : PH} {b off n : Nat} {vs us : List Value} (h : Cells k b off vs) (j : Nat) (hu : (vs.drop j).take n = us) : Cells k b (off + j) us :=
  h.sub j fun i v hv => by
    rw [← hu] at hv
    rw [List.getElem?_take] at hv
    split at hv
    · rwa [List.getElem?_drop] at hv
    · cases hv

instance : DEq Tryz.prog 9 1 (fun x : ByteArray => Value.string x) (fun x y => decide (x = y)) := deq_str Tryz.underlying9
instance : KeyOk Tryz.prog 9 (fun x : ByteArray => Value.string x) := key_str Tryz.underlying9
instance : RdW Tryz.prog 9 tStr (fun s => s.size ≤ reachBytes) := rdw_str Tryz.underlying9 (by kernel_rfl)
instance : DEq Tryz.prog 3 1 (fun x : Int => Value.int .i64 x) (fun x y => decide (x = y)) := deq_int Tryz.underlying3
instance : KeyOk Tryz.prog 3 (fun x : Int => Value.int .i64 x) := key_int Tryz.underlying3
instance : RdW Tryz.prog 3 tInt (fun _ => True) := rdw_int Tryz.underlying3 (by kernel_rfl)
instance : DEq Tryz.prog 4 1 (fun x : Bool => Value.bool x) (fun x y => decide (x = y)) := deq_bool Tryz.underlying4
instance : RdW Tryz.prog 4 tBool (fun _ => True) := rdw_bool Tryz.underlying4 (by kernel_rfl)

structure Topic where
  name : ByteArray
  partsV : Int
  keyed : Bool
  keep : Int
  deriving DecidableEq
def Topic.ok (x : Topic) : Prop := x.name.size ≤ maxLen ∧ I64 x.partsV ∧ True ∧ I64 x.keep
def Topic.small (x : Topic) : Prop := x.name.size ≤ reachBytes ∧ True ∧ True ∧ True
def Topic.vs (x : Topic) : List Value := [.string x.name, .int .i64 x.partsV, .bool x.keyed, .int .i64 x.keep]
def tTopic : Ty Topic where
  sz := 4
  rep := fun _ cs x => cs = x.vs ∧ x.ok
  len := fun h => by rw [h.1]; rfl
  mono := fun _ h => h
instance : DEq Tryz.prog 72 2 (fun x : Topic => Value.agg x.vs.toArray) (fun x y => decide (x = y)) :=
  deq_struct (vs := Topic.vs) (ds := [(false, 9, 0), (false, 3, 1), (false, 4, 2), (false, 3, 3)]) Tryz.underlying72 (by kernel_rfl) (by kernel_rfl) (fun x y => [decide (x.name = y.name), decide (x.partsV = y.partsV), decide (x.keyed = y.keyed), decide (x.keep = y.keep)]) (fun x y => fieldsAre_cons (eqb := fun x y => decide (x = y)) rfl x.name y.name (part_plain Tryz.underlying9 rfl rfl) (part_plain Tryz.underlying9 rfl rfl) (fieldsAre_cons (eqb := fun x y => decide (x = y)) rfl x.partsV y.partsV (part_plain Tryz.underlying3 rfl rfl) (part_plain Tryz.underlying3 rfl rfl) (fieldsAre_cons (eqb := fun x y => decide (x = y)) rfl x.keyed y.keyed (part_plain Tryz.underlying4 rfl rfl) (part_plain Tryz.underlying4 rfl rfl) (fieldsAre_cons (eqb := fun x y => decide (x = y)) rfl x.keep y.keep (part_plain Tryz.underlying3 rfl rfl) (part_plain Tryz.underlying3 rfl rfl) (trivial))))) (fun x y => by cases x; cases y; rw [Bool.eq_iff_iff]; simp)
instance : EqG Tryz.prog 72 := ⟨by kernel_rfl⟩
instance : KeyOk Tryz.prog 72 (fun x : Topic => Value.agg x.vs.toArray) := key_of_deq (vs := Topic.vs) Tryz.underlying72 rfl (fun x v hv => by
  simp only [Topic.vs, List.mem_cons, List.not_mem_nil, or_false] at hv
  rcases hv with rfl | rfl | rfl | rfl <;> first | exact bits_int _ _ _ | exact bits_str _ _ | exact bits_bool _ _)
theorem Topic.one (k : PH) (cs : List Value) (x : Topic) (h : tTopic.rep k cs x) : ∀ u ∈ cs, u.oneCell' = true := by
  rw [h.1]
  simp [Topic.vs, Value.oneCell']
theorem Topic.parts {k : PH} {b off : Nat} {x : Topic} (h : Cells k b off x.vs) : Cells k b (off + 0) [.string x.name] ∧ Cells k b (off + 1) [.int .i64 x.partsV] ∧ Cells k b (off + 2) [.bool x.keyed] ∧ Cells k b (off + 3) [.int .i64 x.keep] :=
  ⟨h.win (n := 1) 0 rfl, h.win (n := 1) 1 rfl, h.win (n := 1) 2 rfl, h.win (n := 1) 3 rfl⟩
theorem list4 {α : Type} {l : List α} (h : l.length = 4) : ∃ a0 a1 a2 a3, l = [a0, a1, a2, a3] := by
  match l, h with
  | [a0, a1, a2, a3], _ => exact ⟨a0, a1, a2, a3, rfl⟩
instance : RdW Tryz.prog 72 tTopic Topic.small where
  one := by kernel_rfl
  rd := fun hr hw => by
    obtain ⟨hl, m, hel⟩ := struct_fields (fs := [(0, 9), (1, 3), (2, 4), (3, 3)]) Tryz.underlying72 (by kernel_rfl) hr hw
    obtain ⟨d0, d1, d2, d3, rfl⟩ := list4 (hl.trans (by kernel_rfl))
    obtain ⟨z0, h0, g0⟩ := hel 0 9 (by simp)
    rw [show Tryz.prog.cellsOf 9 = 1 by kernel_rfl] at h0
    obtain ⟨x0, r0, b0⟩ := RdW.rd (T := tStr) (cs := [d0]) h0 g0
    obtain ⟨z1, h1, g1⟩ := hel 1 3 (by simp)
    rw [show Tryz.prog.cellsOf 3 = 1 by kernel_rfl] at h1
    obtain ⟨x1, r1, b1⟩ := RdW.rd (T := tInt) (cs := [d1]) h1 g1
    obtain ⟨z2, h2, g2⟩ := hel 2 4 (by simp)
    rw [show Tryz.prog.cellsOf 4 = 1 by kernel_rfl] at h2
    obtain ⟨x2, r2, b2⟩ := RdW.rd (T := tBool) (cs := [d2]) h2 g2
    obtain ⟨z3, h3, g3⟩ := hel 3 3 (by simp)
    rw [show Tryz.prog.cellsOf 3 = 1 by kernel_rfl] at h3
    obtain ⟨x3, r3, b3⟩ := RdW.rd (T := tInt) (cs := [d3]) h3 g3
    obtain ⟨e0, o0⟩ := r0
    simp only [List.cons.injEq, and_true] at e0
    subst e0
    obtain ⟨e1, o1⟩ := r1
    simp only [List.cons.injEq, and_true] at e1
    subst e1
    have e2 : [d2] = [Value.bool x2] := r2
    simp only [List.cons.injEq, and_true] at e2
    subst e2
    obtain ⟨e3, o3⟩ := r3
    simp only [List.cons.injEq, and_true] at e3
    subst e3
    exact ⟨⟨x0, x1, x2, x3⟩, ⟨rfl, ⟨o0, o1, trivial, o3⟩⟩, ⟨b0, b1, b2, b3⟩⟩

structure Rule where
  who : ByteArray
  topic : ByteArray
  may : Int
  deriving DecidableEq
def Rule.ok (x : Rule) : Prop := x.who.size ≤ maxLen ∧ x.topic.size ≤ maxLen ∧ I64 x.may
def Rule.small (x : Rule) : Prop := x.who.size ≤ reachBytes ∧ x.topic.size ≤ reachBytes ∧ True
def Rule.vs (x : Rule) : List Value := [.string x.who, .string x.topic, .int .i64 x.may]
def tRule : Ty Rule where
  sz := 3
  rep := fun _ cs x => cs = x.vs ∧ x.ok
  len := fun h => by rw [h.1]; rfl
  mono := fun _ h => h
instance : DEq Tryz.prog 74 2 (fun x : Rule => Value.agg x.vs.toArray) (fun x y => decide (x = y)) :=
  deq_struct (vs := Rule.vs) (ds := [(false, 9, 0), (false, 9, 1), (false, 3, 2)]) Tryz.underlying74 (by kernel_rfl) (by kernel_rfl) (fun x y => [decide (x.who = y.who), decide (x.topic = y.topic), decide (x.may = y.may)]) (fun x y => fieldsAre_cons (eqb := fun x y => decide (x = y)) rfl x.who y.who (part_plain Tryz.underlying9 rfl rfl) (part_plain Tryz.underlying9 rfl rfl) (fieldsAre_cons (eqb := fun x y => decide (x = y)) rfl x.topic y.topic (part_plain Tryz.underlying9 rfl rfl) (part_plain Tryz.underlying9 rfl rfl) (fieldsAre_cons (eqb := fun x y => decide (x = y)) rfl x.may y.may (part_plain Tryz.underlying3 rfl rfl) (part_plain Tryz.underlying3 rfl rfl) (trivial)))) (fun x y => by cases x; cases y; rw [Bool.eq_iff_iff]; simp)
instance : EqG Tryz.prog 74 := ⟨by kernel_rfl⟩
instance : KeyOk Tryz.prog 74 (fun x : Rule => Value.agg x.vs.toArray) := key_of_deq (vs := Rule.vs) Tryz.underlying74 rfl (fun x v hv => by
  simp only [Rule.vs, List.mem_cons, List.not_mem_nil, or_false] at hv
  rcases hv with rfl | rfl | rfl <;> first | exact bits_int _ _ _ | exact bits_str _ _ | exact bits_bool _ _)
theorem Rule.one (k : PH) (cs : List Value) (x : Rule) (h : tRule.rep k cs x) : ∀ u ∈ cs, u.oneCell' = true := by
  rw [h.1]
  simp [Rule.vs, Value.oneCell']
theorem Rule.parts {k : PH} {b off : Nat} {x : Rule} (h : Cells k b off x.vs) : Cells k b (off + 0) [.string x.who] ∧ Cells k b (off + 1) [.string x.topic] ∧ Cells k b (off + 2) [.int .i64 x.may] :=
  ⟨h.win (n := 1) 0 rfl, h.win (n := 1) 1 rfl, h.win (n := 1) 2 rfl⟩
theorem list3 {α : Type} {l : List α} (h : l.length = 3) : ∃ a0 a1 a2, l = [a0, a1, a2] := by
  match l, h with
  | [a0, a1, a2], _ => exact ⟨a0, a1, a2, rfl⟩
instance : RdW Tryz.prog 74 tRule Rule.small where
  one := by kernel_rfl
  rd := fun hr hw => by
    obtain ⟨hl, m, hel⟩ := struct_fields (fs := [(0, 9), (1, 9), (2, 3)]) Tryz.underlying74 (by kernel_rfl) hr hw
    obtain ⟨d0, d1, d2, rfl⟩ := list3 (hl.trans (by kernel_rfl))
    obtain ⟨z0, h0, g0⟩ := hel 0 9 (by simp)
    rw [show Tryz.prog.cellsOf 9 = 1 by kernel_rfl] at h0
    obtain ⟨x0, r0, b0⟩ := RdW.rd (T := tStr) (cs := [d0]) h0 g0
    obtain ⟨z1, h1, g1⟩ := hel 1 9 (by simp)
    rw [show Tryz.prog.cellsOf 9 = 1 by kernel_rfl] at h1
    obtain ⟨x1, r1, b1⟩ := RdW.rd (T := tStr) (cs := [d1]) h1 g1
    obtain ⟨z2, h2, g2⟩ := hel 2 3 (by simp)
    rw [show Tryz.prog.cellsOf 3 = 1 by kernel_rfl] at h2
    obtain ⟨x2, r2, b2⟩ := RdW.rd (T := tInt) (cs := [d2]) h2 g2
    obtain ⟨e0, o0⟩ := r0
    simp only [List.cons.injEq, and_true] at e0
    subst e0
    obtain ⟨e1, o1⟩ := r1
    simp only [List.cons.injEq, and_true] at e1
    subst e1
    obtain ⟨e2, o2⟩ := r2
    simp only [List.cons.injEq, and_true] at e2
    subst e2
    exact ⟨⟨x0, x1, x2⟩, ⟨rfl, ⟨o0, o1, o2⟩⟩, ⟨b0, b1, b2⟩⟩

structure Rate where
  who : ByteArray
  rate : Int
  burst : Int
  deriving DecidableEq
def Rate.ok (x : Rate) : Prop := x.who.size ≤ maxLen ∧ I64 x.rate ∧ I64 x.burst
def Rate.small (x : Rate) : Prop := x.who.size ≤ reachBytes ∧ True ∧ True
def Rate.vs (x : Rate) : List Value := [.string x.who, .int .i64 x.rate, .int .i64 x.burst]
def tRate : Ty Rate where
  sz := 3
  rep := fun _ cs x => cs = x.vs ∧ x.ok
  len := fun h => by rw [h.1]; rfl
  mono := fun _ h => h
instance : DEq Tryz.prog 76 2 (fun x : Rate => Value.agg x.vs.toArray) (fun x y => decide (x = y)) :=
  deq_struct (vs := Rate.vs) (ds := [(false, 9, 0), (false, 3, 1), (false, 3, 2)]) Tryz.underlying76 (by kernel_rfl) (by kernel_rfl) (fun x y => [decide (x.who = y.who), decide (x.rate = y.rate), decide (x.burst = y.burst)]) (fun x y => fieldsAre_cons (eqb := fun x y => decide (x = y)) rfl x.who y.who (part_plain Tryz.underlying9 rfl rfl) (part_plain Tryz.underlying9 rfl rfl) (fieldsAre_cons (eqb := fun x y => decide (x = y)) rfl x.rate y.rate (part_plain Tryz.underlying3 rfl rfl) (part_plain Tryz.underlying3 rfl rfl) (fieldsAre_cons (eqb := fun x y => decide (x = y)) rfl x.burst y.burst (part_plain Tryz.underlying3 rfl rfl) (part_plain Tryz.underlying3 rfl rfl) (trivial)))) (fun x y => by cases x; cases y; rw [Bool.eq_iff_iff]; simp)
instance : EqG Tryz.prog 76 := ⟨by kernel_rfl⟩
instance : KeyOk Tryz.prog 76 (fun x : Rate => Value.agg x.vs.toArray) := key_of_deq (vs := Rate.vs) Tryz.underlying76 rfl (fun x v hv => by
  simp only [Rate.vs, List.mem_cons, List.not_mem_nil, or_false] at hv
  rcases hv with rfl | rfl | rfl <;> first | exact bits_int _ _ _ | exact bits_str _ _ | exact bits_bool _ _)
theorem Rate.one (k : PH) (cs : List Value) (x : Rate) (h : tRate.rep k cs x) : ∀ u ∈ cs, u.oneCell' = true := by
  rw [h.1]
  simp [Rate.vs, Value.oneCell']
theorem Rate.parts {k : PH} {b off : Nat} {x : Rate} (h : Cells k b off x.vs) : Cells k b (off + 0) [.string x.who] ∧ Cells k b (off + 1) [.int .i64 x.rate] ∧ Cells k b (off + 2) [.int .i64 x.burst] :=
  ⟨h.win (n := 1) 0 rfl, h.win (n := 1) 1 rfl, h.win (n := 1) 2 rfl⟩
instance : RdW Tryz.prog 76 tRate Rate.small where
  one := by kernel_rfl
  rd := fun hr hw => by
    obtain ⟨hl, m, hel⟩ := struct_fields (fs := [(0, 9), (1, 3), (2, 3)]) Tryz.underlying76 (by kernel_rfl) hr hw
    obtain ⟨d0, d1, d2, rfl⟩ := list3 (hl.trans (by kernel_rfl))
    obtain ⟨z0, h0, g0⟩ := hel 0 9 (by simp)
    rw [show Tryz.prog.cellsOf 9 = 1 by kernel_rfl] at h0
    obtain ⟨x0, r0, b0⟩ := RdW.rd (T := tStr) (cs := [d0]) h0 g0
    obtain ⟨z1, h1, g1⟩ := hel 1 3 (by simp)
    rw [show Tryz.prog.cellsOf 3 = 1 by kernel_rfl] at h1
    obtain ⟨x1, r1, b1⟩ := RdW.rd (T := tInt) (cs := [d1]) h1 g1
    obtain ⟨z2, h2, g2⟩ := hel 2 3 (by simp)
    rw [show Tryz.prog.cellsOf 3 = 1 by kernel_rfl] at h2
    obtain ⟨x2, r2, b2⟩ := RdW.rd (T := tInt) (cs := [d2]) h2 g2
    obtain ⟨e0, o0⟩ := r0
    simp only [List.cons.injEq, and_true] at e0
    subst e0
    obtain ⟨e1, o1⟩ := r1
    simp only [List.cons.injEq, and_true] at e1
    subst e1
    obtain ⟨e2, o2⟩ := r2
    simp only [List.cons.injEq, and_true] at e2
    subst e2
    exact ⟨⟨x0, x1, x2⟩, ⟨rfl, ⟨o0, o1, o2⟩⟩, ⟨b0, b1, b2⟩⟩

structure Way where
  fromV : Int
  toV : Int
  topic : ByteArray
  deriving DecidableEq
def Way.ok (x : Way) : Prop := I64 x.fromV ∧ I64 x.toV ∧ x.topic.size ≤ maxLen
def Way.small (x : Way) : Prop := True ∧ True ∧ x.topic.size ≤ reachBytes
def Way.vs (x : Way) : List Value := [.int .i64 x.fromV, .int .i64 x.toV, .string x.topic]
def tWay : Ty Way where
  sz := 3
  rep := fun _ cs x => cs = x.vs ∧ x.ok
  len := fun h => by rw [h.1]; rfl
  mono := fun _ h => h
instance : DEq Tryz.prog 78 2 (fun x : Way => Value.agg x.vs.toArray) (fun x y => decide (x = y)) :=
  deq_struct (vs := Way.vs) (ds := [(false, 3, 0), (false, 3, 1), (false, 9, 2)]) Tryz.underlying78 (by kernel_rfl) (by kernel_rfl) (fun x y => [decide (x.fromV = y.fromV), decide (x.toV = y.toV), decide (x.topic = y.topic)]) (fun x y => fieldsAre_cons (eqb := fun x y => decide (x = y)) rfl x.fromV y.fromV (part_plain Tryz.underlying3 rfl rfl) (part_plain Tryz.underlying3 rfl rfl) (fieldsAre_cons (eqb := fun x y => decide (x = y)) rfl x.toV y.toV (part_plain Tryz.underlying3 rfl rfl) (part_plain Tryz.underlying3 rfl rfl) (fieldsAre_cons (eqb := fun x y => decide (x = y)) rfl x.topic y.topic (part_plain Tryz.underlying9 rfl rfl) (part_plain Tryz.underlying9 rfl rfl) (trivial)))) (fun x y => by cases x; cases y; rw [Bool.eq_iff_iff]; simp)
instance : EqG Tryz.prog 78 := ⟨by kernel_rfl⟩
instance : KeyOk Tryz.prog 78 (fun x : Way => Value.agg x.vs.toArray) := key_of_deq (vs := Way.vs) Tryz.underlying78 rfl (fun x v hv => by
  simp only [Way.vs, List.mem_cons, List.not_mem_nil, or_false] at hv
  rcases hv with rfl | rfl | rfl <;> first | exact bits_int _ _ _ | exact bits_str _ _ | exact bits_bool _ _)
theorem Way.one (k : PH) (cs : List Value) (x : Way) (h : tWay.rep k cs x) : ∀ u ∈ cs, u.oneCell' = true := by
  rw [h.1]
  simp [Way.vs, Value.oneCell']
theorem Way.parts {k : PH} {b off : Nat} {x : Way} (h : Cells k b off x.vs) : Cells k b (off + 0) [.int .i64 x.fromV] ∧ Cells k b (off + 1) [.int .i64 x.toV] ∧ Cells k b (off + 2) [.string x.topic] :=
  ⟨h.win (n := 1) 0 rfl, h.win (n := 1) 1 rfl, h.win (n := 1) 2 rfl⟩
instance : RdW Tryz.prog 78 tWay Way.small where
  one := by kernel_rfl
  rd := fun hr hw => by
    obtain ⟨hl, m, hel⟩ := struct_fields (fs := [(0, 3), (1, 3), (2, 9)]) Tryz.underlying78 (by kernel_rfl) hr hw
    obtain ⟨d0, d1, d2, rfl⟩ := list3 (hl.trans (by kernel_rfl))
    obtain ⟨z0, h0, g0⟩ := hel 0 3 (by simp)
    rw [show Tryz.prog.cellsOf 3 = 1 by kernel_rfl] at h0
    obtain ⟨x0, r0, b0⟩ := RdW.rd (T := tInt) (cs := [d0]) h0 g0
    obtain ⟨z1, h1, g1⟩ := hel 1 3 (by simp)
    rw [show Tryz.prog.cellsOf 3 = 1 by kernel_rfl] at h1
    obtain ⟨x1, r1, b1⟩ := RdW.rd (T := tInt) (cs := [d1]) h1 g1
    obtain ⟨z2, h2, g2⟩ := hel 2 9 (by simp)
    rw [show Tryz.prog.cellsOf 9 = 1 by kernel_rfl] at h2
    obtain ⟨x2, r2, b2⟩ := RdW.rd (T := tStr) (cs := [d2]) h2 g2
    obtain ⟨e0, o0⟩ := r0
    simp only [List.cons.injEq, and_true] at e0
    subst e0
    obtain ⟨e1, o1⟩ := r1
    simp only [List.cons.injEq, and_true] at e1
    subst e1
    obtain ⟨e2, o2⟩ := r2
    simp only [List.cons.injEq, and_true] at e2
    subst e2
    exact ⟨⟨x0, x1, x2⟩, ⟨rfl, ⟨o0, o1, o2⟩⟩, ⟨b0, b1, b2⟩⟩
instance : RdW Tryz.prog 24 (tSl tTopic) (fun xs => (xs.length * Tryz.prog.bytesOf 72 ≤ reachBytes ∧ ∀ y0 ∈ xs, y0.small)) := rdw_slice Tryz.underlying24 (by kernel_rfl) (by decide)
instance : RdW Tryz.prog 25 (tSl tRule) (fun xs => (xs.length * Tryz.prog.bytesOf 74 ≤ reachBytes ∧ ∀ y0 ∈ xs, y0.small)) := rdw_slice Tryz.underlying25 (by kernel_rfl) (by decide)
instance : RdW Tryz.prog 26 (tSl tRate) (fun xs => (xs.length * Tryz.prog.bytesOf 76 ≤ reachBytes ∧ ∀ y0 ∈ xs, y0.small)) := rdw_slice Tryz.underlying26 (by kernel_rfl) (by decide)
instance : RdW Tryz.prog 27 (tSl tWay) (fun xs => (xs.length * Tryz.prog.bytesOf 78 ≤ reachBytes ∧ ∀ y0 ∈ xs, y0.small)) := rdw_slice Tryz.underlying27 (by kernel_rfl) (by decide)

structure Conf where
  ver : Int
  topics : List Topic
  rules : List Rule
  rates : List Rate
  ways : List Way
  deriving DecidableEq
def Conf.ok (x : Conf) : Prop := I64 x.ver ∧ True ∧ True ∧ True ∧ True
def Conf.small (x : Conf) : Prop := True ∧ (x.topics.length * Tryz.prog.bytesOf 72 ≤ reachBytes ∧ ∀ y0 ∈ x.topics, y0.small) ∧ (x.rules.length * Tryz.prog.bytesOf 74 ≤ reachBytes ∧ ∀ y0 ∈ x.rules, y0.small) ∧ (x.rates.length * Tryz.prog.bytesOf 76 ≤ reachBytes ∧ ∀ y0 ∈ x.rates, y0.small) ∧ (x.ways.length * Tryz.prog.bytesOf 78 ≤ reachBytes ∧ ∀ y0 ∈ x.ways, y0.small)
def Conf.cs (x : Conf) (a0 : Option Addr) (c0 : Nat) (a1 : Option Addr) (c1 : Nat) (a2 : Option Addr) (c2 : Nat) (a3 : Option Addr) (c3 : Nat) : List Value := [.int .i64 x.ver, .slice a0 x.topics.length c0, .slice a1 x.rules.length c1, .slice a2 x.rates.length c2, .slice a3 x.ways.length c3]
def tConf : Ty Conf where
  sz := 5
  rep := fun h cs x => ∃ a0 c0 a1 c1 a2 c2 a3 c3, cs = x.cs a0 c0 a1 c1 a2 c2 a3 c3 ∧ (Sl tTopic h a0 c0 x.topics ∧ Sl tRule h a1 c1 x.rules ∧ Sl tRate h a2 c2 x.rates ∧ Sl tWay h a3 c3 x.ways) ∧ x.ok
  len := fun ⟨_, _, _, _, _, _, _, _, h, _⟩ => by rw [h]; rfl
  mono := fun hl ⟨a0, c0, a1, c1, a2, c2, a3, c3, h, ⟨s0, s1, s2, s3⟩, hk⟩ => ⟨a0, c0, a1, c1, a2, c2, a3, c3, h, ⟨s0.le hl, s1.le hl, s2.le hl, s3.le hl⟩, hk⟩
theorem Conf.one (k : PH) (cs : List Value) (x : Conf) (h : tConf.rep k cs x) : ∀ u ∈ cs, u.oneCell' = true := by
  obtain ⟨_, _, _, _, _, _, _, _, h, _⟩ := h
  rw [h]
  simp [Conf.cs, Value.oneCell']
theorem Conf.parts {k : PH} {b off : Nat} {x : Conf} {a0 a1 a2 a3 : Option Addr} {c0 c1 c2 c3 : Nat} (h : Cells k b off (x.cs a0 c0 a1 c1 a2 c2 a3 c3)) : Cells k b (off + 0) [.int .i64 x.ver] ∧ Cells k b (off + 1) [.slice a0 x.topics.length c0] ∧ Cells k b (off + 2) [.slice a1 x.rules.length c1] ∧ Cells k b (off + 3) [.slice a2 x.rates.length c2] ∧ Cells k b (off + 4) [.slice a3 x.ways.length c3] :=
  ⟨h.win (n := 1) 0 rfl, h.win (n := 1) 1 rfl, h.win (n := 1) 2 rfl, h.win (n := 1) 3 rfl, h.win (n := 1) 4 rfl⟩
theorem list5 {α : Type} {l : List α} (h : l.length = 5) : ∃ a0 a1 a2 a3 a4, l = [a0, a1, a2, a3, a4] := by
  match l, h with
  | [a0, a1, a2, a3, a4], _ => exact ⟨a0, a1, a2, a3, a4, rfl⟩
instance : RdW Tryz.prog 29 tConf Conf.small where
  one := by kernel_rfl
  rd := fun hr hw => by
    obtain ⟨hl, m, hel⟩ := struct_fields (fs := [(0, 3), (1, 24), (2, 25), (3, 26), (4, 27)]) Tryz.underlying29 (by kernel_rfl) hr hw
    obtain ⟨d0, d1, d2, d3, d4, rfl⟩ := list5 (hl.trans (by kernel_rfl))
    obtain ⟨z0, h0, g0⟩ := hel 0 3 (by simp)
    rw [show Tryz.prog.cellsOf 3 = 1 by kernel_rfl] at h0
    obtain ⟨x0, r0, b0⟩ := RdW.rd (T := tInt) (cs := [d0]) h0 g0
    obtain ⟨z1, h1, g1⟩ := hel 1 24 (by simp)
    rw [show Tryz.prog.cellsOf 24 = 1 by kernel_rfl] at h1
    obtain ⟨x1, r1, b1⟩ := RdW.rd (T := (tSl tTopic)) (cs := [d1]) h1 g1
    obtain ⟨z2, h2, g2⟩ := hel 2 25 (by simp)
    rw [show Tryz.prog.cellsOf 25 = 1 by kernel_rfl] at h2
    obtain ⟨x2, r2, b2⟩ := RdW.rd (T := (tSl tRule)) (cs := [d2]) h2 g2
    obtain ⟨z3, h3, g3⟩ := hel 3 26 (by simp)
    rw [show Tryz.prog.cellsOf 26 = 1 by kernel_rfl] at h3
    obtain ⟨x3, r3, b3⟩ := RdW.rd (T := (tSl tRate)) (cs := [d3]) h3 g3
    obtain ⟨z4, h4, g4⟩ := hel 4 27 (by simp)
    rw [show Tryz.prog.cellsOf 27 = 1 by kernel_rfl] at h4
    obtain ⟨x4, r4, b4⟩ := RdW.rd (T := (tSl tWay)) (cs := [d4]) h4 g4
    obtain ⟨e0, o0⟩ := r0
    simp only [List.cons.injEq, and_true] at e0
    subst e0
    obtain ⟨sa1, sc1, e1, s1⟩ := r1
    simp only [List.cons.injEq, and_true] at e1
    subst e1
    obtain ⟨sa2, sc2, e2, s2⟩ := r2
    simp only [List.cons.injEq, and_true] at e2
    subst e2
    obtain ⟨sa3, sc3, e3, s3⟩ := r3
    simp only [List.cons.injEq, and_true] at e3
    subst e3
    obtain ⟨sa4, sc4, e4, s4⟩ := r4
    simp only [List.cons.injEq, and_true] at e4
    subst e4
    exact ⟨⟨x0, x1, x2, x3, x4⟩, ⟨sa1, sc1, sa2, sc2, sa3, sc3, sa4, sc4, rfl, ⟨s1, s2, s3, s4⟩, ⟨o0, trivial, trivial, trivial, trivial⟩⟩, ⟨b0, b1, b2, b3, b4⟩⟩

structure Step where
  kind : Int
  name : ByteArray
  topic : ByteArray
  a : Int
  b : Int
  c : Int
  deriving DecidableEq
def Step.ok (x : Step) : Prop := I64 x.kind ∧ x.name.size ≤ maxLen ∧ x.topic.size ≤ maxLen ∧ I64 x.a ∧ I64 x.b ∧ I64 x.c
def Step.small (x : Step) : Prop := True ∧ x.name.size ≤ reachBytes ∧ x.topic.size ≤ reachBytes ∧ True ∧ True ∧ True
def Step.vs (x : Step) : List Value := [.int .i64 x.kind, .string x.name, .string x.topic, .int .i64 x.a, .int .i64 x.b, .int .i64 x.c]
def tStep : Ty Step where
  sz := 6
  rep := fun _ cs x => cs = x.vs ∧ x.ok
  len := fun h => by rw [h.1]; rfl
  mono := fun _ h => h
instance : DEq Tryz.prog 35 2 (fun x : Step => Value.agg x.vs.toArray) (fun x y => decide (x = y)) :=
  deq_struct (vs := Step.vs) (ds := [(false, 3, 0), (false, 9, 1), (false, 9, 2), (false, 3, 3), (false, 3, 4), (false, 3, 5)]) Tryz.underlying35 (by kernel_rfl) (by kernel_rfl) (fun x y => [decide (x.kind = y.kind), decide (x.name = y.name), decide (x.topic = y.topic), decide (x.a = y.a), decide (x.b = y.b), decide (x.c = y.c)]) (fun x y => fieldsAre_cons (eqb := fun x y => decide (x = y)) rfl x.kind y.kind (part_plain Tryz.underlying3 rfl rfl) (part_plain Tryz.underlying3 rfl rfl) (fieldsAre_cons (eqb := fun x y => decide (x = y)) rfl x.name y.name (part_plain Tryz.underlying9 rfl rfl) (part_plain Tryz.underlying9 rfl rfl) (fieldsAre_cons (eqb := fun x y => decide (x = y)) rfl x.topic y.topic (part_plain Tryz.underlying9 rfl rfl) (part_plain Tryz.underlying9 rfl rfl) (fieldsAre_cons (eqb := fun x y => decide (x = y)) rfl x.a y.a (part_plain Tryz.underlying3 rfl rfl) (part_plain Tryz.underlying3 rfl rfl) (fieldsAre_cons (eqb := fun x y => decide (x = y)) rfl x.b y.b (part_plain Tryz.underlying3 rfl rfl) (part_plain Tryz.underlying3 rfl rfl) (fieldsAre_cons (eqb := fun x y => decide (x = y)) rfl x.c y.c (part_plain Tryz.underlying3 rfl rfl) (part_plain Tryz.underlying3 rfl rfl) (trivial))))))) (fun x y => by cases x; cases y; rw [Bool.eq_iff_iff]; simp)
instance : EqG Tryz.prog 35 := ⟨by kernel_rfl⟩
instance : KeyOk Tryz.prog 35 (fun x : Step => Value.agg x.vs.toArray) := key_of_deq (vs := Step.vs) Tryz.underlying35 rfl (fun x v hv => by
  simp only [Step.vs, List.mem_cons, List.not_mem_nil, or_false] at hv
  rcases hv with rfl | rfl | rfl | rfl | rfl | rfl <;> first | exact bits_int _ _ _ | exact bits_str _ _ | exact bits_bool _ _)
theorem Step.one (k : PH) (cs : List Value) (x : Step) (h : tStep.rep k cs x) : ∀ u ∈ cs, u.oneCell' = true := by
  rw [h.1]
  simp [Step.vs, Value.oneCell']
theorem Step.parts {k : PH} {b off : Nat} {x : Step} (h : Cells k b off x.vs) : Cells k b (off + 0) [.int .i64 x.kind] ∧ Cells k b (off + 1) [.string x.name] ∧ Cells k b (off + 2) [.string x.topic] ∧ Cells k b (off + 3) [.int .i64 x.a] ∧ Cells k b (off + 4) [.int .i64 x.b] ∧ Cells k b (off + 5) [.int .i64 x.c] :=
  ⟨h.win (n := 1) 0 rfl, h.win (n := 1) 1 rfl, h.win (n := 1) 2 rfl, h.win (n := 1) 3 rfl, h.win (n := 1) 4 rfl, h.win (n := 1) 5 rfl⟩
theorem list6 {α : Type} {l : List α} (h : l.length = 6) : ∃ a0 a1 a2 a3 a4 a5, l = [a0, a1, a2, a3, a4, a5] := by
  match l, h with
  | [a0, a1, a2, a3, a4, a5], _ => exact ⟨a0, a1, a2, a3, a4, a5, rfl⟩
instance : RdW Tryz.prog 35 tStep Step.small where
  one := by kernel_rfl
  rd := fun hr hw => by
    obtain ⟨hl, m, hel⟩ := struct_fields (fs := [(0, 3), (1, 9), (2, 9), (3, 3), (4, 3), (5, 3)]) Tryz.underlying35 (by kernel_rfl) hr hw
    obtain ⟨d0, d1, d2, d3, d4, d5, rfl⟩ := list6 (hl.trans (by kernel_rfl))
    obtain ⟨z0, h0, g0⟩ := hel 0 3 (by simp)
    rw [show Tryz.prog.cellsOf 3 = 1 by kernel_rfl] at h0
    obtain ⟨x0, r0, b0⟩ := RdW.rd (T := tInt) (cs := [d0]) h0 g0
    obtain ⟨z1, h1, g1⟩ := hel 1 9 (by simp)
    rw [show Tryz.prog.cellsOf 9 = 1 by kernel_rfl] at h1
    obtain ⟨x1, r1, b1⟩ := RdW.rd (T := tStr) (cs := [d1]) h1 g1
    obtain ⟨z2, h2, g2⟩ := hel 2 9 (by simp)
    rw [show Tryz.prog.cellsOf 9 = 1 by kernel_rfl] at h2
    obtain ⟨x2, r2, b2⟩ := RdW.rd (T := tStr) (cs := [d2]) h2 g2
    obtain ⟨z3, h3, g3⟩ := hel 3 3 (by simp)
    rw [show Tryz.prog.cellsOf 3 = 1 by kernel_rfl] at h3
    obtain ⟨x3, r3, b3⟩ := RdW.rd (T := tInt) (cs := [d3]) h3 g3
    obtain ⟨z4, h4, g4⟩ := hel 4 3 (by simp)
    rw [show Tryz.prog.cellsOf 3 = 1 by kernel_rfl] at h4
    obtain ⟨x4, r4, b4⟩ := RdW.rd (T := tInt) (cs := [d4]) h4 g4
    obtain ⟨z5, h5, g5⟩ := hel 5 3 (by simp)
    rw [show Tryz.prog.cellsOf 3 = 1 by kernel_rfl] at h5
    obtain ⟨x5, r5, b5⟩ := RdW.rd (T := tInt) (cs := [d5]) h5 g5
    obtain ⟨e0, o0⟩ := r0
    simp only [List.cons.injEq, and_true] at e0
    subst e0
    obtain ⟨e1, o1⟩ := r1
    simp only [List.cons.injEq, and_true] at e1
    subst e1
    obtain ⟨e2, o2⟩ := r2
    simp only [List.cons.injEq, and_true] at e2
    subst e2
    obtain ⟨e3, o3⟩ := r3
    simp only [List.cons.injEq, and_true] at e3
    subst e3
    obtain ⟨e4, o4⟩ := r4
    simp only [List.cons.injEq, and_true] at e4
    subst e4
    obtain ⟨e5, o5⟩ := r5
    simp only [List.cons.injEq, and_true] at e5
    subst e5
    exact ⟨⟨x0, x1, x2, x3, x4, x5⟩, ⟨rfl, ⟨o0, o1, o2, o3, o4, o5⟩⟩, ⟨b0, b1, b2, b3, b4, b5⟩⟩

structure Tp where
  topic : ByteArray
  part : Int
  home : Int
  deriving DecidableEq
def Tp.ok (x : Tp) : Prop := x.topic.size ≤ maxLen ∧ I64 x.part ∧ I64 x.home
def Tp.small (x : Tp) : Prop := x.topic.size ≤ reachBytes ∧ True ∧ True
def Tp.vs (x : Tp) : List Value := [.string x.topic, .int .i64 x.part, .int .i64 x.home]
def tTp : Ty Tp where
  sz := 3
  rep := fun _ cs x => cs = x.vs ∧ x.ok
  len := fun h => by rw [h.1]; rfl
  mono := fun _ h => h
instance : DEq Tryz.prog 114 2 (fun x : Tp => Value.agg x.vs.toArray) (fun x y => decide (x = y)) :=
  deq_struct (vs := Tp.vs) (ds := [(false, 9, 0), (false, 3, 1), (false, 3, 2)]) Tryz.underlying114 (by kernel_rfl) (by kernel_rfl) (fun x y => [decide (x.topic = y.topic), decide (x.part = y.part), decide (x.home = y.home)]) (fun x y => fieldsAre_cons (eqb := fun x y => decide (x = y)) rfl x.topic y.topic (part_plain Tryz.underlying9 rfl rfl) (part_plain Tryz.underlying9 rfl rfl) (fieldsAre_cons (eqb := fun x y => decide (x = y)) rfl x.part y.part (part_plain Tryz.underlying3 rfl rfl) (part_plain Tryz.underlying3 rfl rfl) (fieldsAre_cons (eqb := fun x y => decide (x = y)) rfl x.home y.home (part_plain Tryz.underlying3 rfl rfl) (part_plain Tryz.underlying3 rfl rfl) (trivial)))) (fun x y => by cases x; cases y; rw [Bool.eq_iff_iff]; simp)
instance : EqG Tryz.prog 114 := ⟨by kernel_rfl⟩
instance : KeyOk Tryz.prog 114 (fun x : Tp => Value.agg x.vs.toArray) := key_of_deq (vs := Tp.vs) Tryz.underlying114 rfl (fun x v hv => by
  simp only [Tp.vs, List.mem_cons, List.not_mem_nil, or_false] at hv
  rcases hv with rfl | rfl | rfl <;> first | exact bits_int _ _ _ | exact bits_str _ _ | exact bits_bool _ _)
theorem Tp.one (k : PH) (cs : List Value) (x : Tp) (h : tTp.rep k cs x) : ∀ u ∈ cs, u.oneCell' = true := by
  rw [h.1]
  simp [Tp.vs, Value.oneCell']
theorem Tp.parts {k : PH} {b off : Nat} {x : Tp} (h : Cells k b off x.vs) : Cells k b (off + 0) [.string x.topic] ∧ Cells k b (off + 1) [.int .i64 x.part] ∧ Cells k b (off + 2) [.int .i64 x.home] :=
  ⟨h.win (n := 1) 0 rfl, h.win (n := 1) 1 rfl, h.win (n := 1) 2 rfl⟩
instance : RdW Tryz.prog 114 tTp Tp.small where
  one := by kernel_rfl
  rd := fun hr hw => by
    obtain ⟨hl, m, hel⟩ := struct_fields (fs := [(0, 9), (1, 3), (2, 3)]) Tryz.underlying114 (by kernel_rfl) hr hw
    obtain ⟨d0, d1, d2, rfl⟩ := list3 (hl.trans (by kernel_rfl))
    obtain ⟨z0, h0, g0⟩ := hel 0 9 (by simp)
    rw [show Tryz.prog.cellsOf 9 = 1 by kernel_rfl] at h0
    obtain ⟨x0, r0, b0⟩ := RdW.rd (T := tStr) (cs := [d0]) h0 g0
    obtain ⟨z1, h1, g1⟩ := hel 1 3 (by simp)
    rw [show Tryz.prog.cellsOf 3 = 1 by kernel_rfl] at h1
    obtain ⟨x1, r1, b1⟩ := RdW.rd (T := tInt) (cs := [d1]) h1 g1
    obtain ⟨z2, h2, g2⟩ := hel 2 3 (by simp)
    rw [show Tryz.prog.cellsOf 3 = 1 by kernel_rfl] at h2
    obtain ⟨x2, r2, b2⟩ := RdW.rd (T := tInt) (cs := [d2]) h2 g2
    obtain ⟨e0, o0⟩ := r0
    simp only [List.cons.injEq, and_true] at e0
    subst e0
    obtain ⟨e1, o1⟩ := r1
    simp only [List.cons.injEq, and_true] at e1
    subst e1
    obtain ⟨e2, o2⟩ := r2
    simp only [List.cons.injEq, and_true] at e2
    subst e2
    exact ⟨⟨x0, x1, x2⟩, ⟨rfl, ⟨o0, o1, o2⟩⟩, ⟨b0, b1, b2⟩⟩
instance : RdW Tryz.prog 103 (tSl tStr) (fun xs => (xs.length * Tryz.prog.bytesOf 9 ≤ reachBytes ∧ ∀ y0 ∈ xs, y0.size ≤ reachBytes)) := rdw_slice Tryz.underlying103 (by kernel_rfl) (by decide)
instance : RdW Tryz.prog 54 (tSl tTp) (fun xs => (xs.length * Tryz.prog.bytesOf 114 ≤ reachBytes ∧ ∀ y0 ∈ xs, y0.small)) := rdw_slice Tryz.underlying54 (by kernel_rfl) (by decide)

structure Member where
  id : ByteArray
  static : ByteArray
  subs : List ByteArray
  own : List Tp
  joined : Bool
  beat : Int
  deriving DecidableEq
def Member.ok (x : Member) : Prop := x.id.size ≤ maxLen ∧ x.static.size ≤ maxLen ∧ True ∧ True ∧ True ∧ I64 x.beat
def Member.small (x : Member) : Prop := x.id.size ≤ reachBytes ∧ x.static.size ≤ reachBytes ∧ (x.subs.length * Tryz.prog.bytesOf 9 ≤ reachBytes ∧ ∀ y0 ∈ x.subs, y0.size ≤ reachBytes) ∧ (x.own.length * Tryz.prog.bytesOf 114 ≤ reachBytes ∧ ∀ y0 ∈ x.own, y0.small) ∧ True ∧ True
def Member.cs (x : Member) (a0 : Option Addr) (c0 : Nat) (a1 : Option Addr) (c1 : Nat) : List Value := [.string x.id, .string x.static, .slice a0 x.subs.length c0, .slice a1 x.own.length c1, .bool x.joined, .int .i64 x.beat]
def tMember : Ty Member where
  sz := 6
  rep := fun h cs x => ∃ a0 c0 a1 c1, cs = x.cs a0 c0 a1 c1 ∧ (Sl tStr h a0 c0 x.subs ∧ Sl tTp h a1 c1 x.own) ∧ x.ok
  len := fun ⟨_, _, _, _, h, _⟩ => by rw [h]; rfl
  mono := fun hl ⟨a0, c0, a1, c1, h, ⟨s0, s1⟩, hk⟩ => ⟨a0, c0, a1, c1, h, ⟨s0.le hl, s1.le hl⟩, hk⟩
theorem Member.one (k : PH) (cs : List Value) (x : Member) (h : tMember.rep k cs x) : ∀ u ∈ cs, u.oneCell' = true := by
  obtain ⟨_, _, _, _, h, _⟩ := h
  rw [h]
  simp [Member.cs, Value.oneCell']
theorem Member.parts {k : PH} {b off : Nat} {x : Member} {a0 a1 : Option Addr} {c0 c1 : Nat} (h : Cells k b off (x.cs a0 c0 a1 c1)) : Cells k b (off + 0) [.string x.id] ∧ Cells k b (off + 1) [.string x.static] ∧ Cells k b (off + 2) [.slice a0 x.subs.length c0] ∧ Cells k b (off + 3) [.slice a1 x.own.length c1] ∧ Cells k b (off + 4) [.bool x.joined] ∧ Cells k b (off + 5) [.int .i64 x.beat] :=
  ⟨h.win (n := 1) 0 rfl, h.win (n := 1) 1 rfl, h.win (n := 1) 2 rfl, h.win (n := 1) 3 rfl, h.win (n := 1) 4 rfl, h.win (n := 1) 5 rfl⟩
instance : RdW Tryz.prog 105 tMember Member.small where
  one := by kernel_rfl
  rd := fun hr hw => by
    obtain ⟨hl, m, hel⟩ := struct_fields (fs := [(0, 9), (1, 9), (2, 103), (3, 54), (4, 4), (5, 3)]) Tryz.underlying105 (by kernel_rfl) hr hw
    obtain ⟨d0, d1, d2, d3, d4, d5, rfl⟩ := list6 (hl.trans (by kernel_rfl))
    obtain ⟨z0, h0, g0⟩ := hel 0 9 (by simp)
    rw [show Tryz.prog.cellsOf 9 = 1 by kernel_rfl] at h0
    obtain ⟨x0, r0, b0⟩ := RdW.rd (T := tStr) (cs := [d0]) h0 g0
    obtain ⟨z1, h1, g1⟩ := hel 1 9 (by simp)
    rw [show Tryz.prog.cellsOf 9 = 1 by kernel_rfl] at h1
    obtain ⟨x1, r1, b1⟩ := RdW.rd (T := tStr) (cs := [d1]) h1 g1
    obtain ⟨z2, h2, g2⟩ := hel 2 103 (by simp)
    rw [show Tryz.prog.cellsOf 103 = 1 by kernel_rfl] at h2
    obtain ⟨x2, r2, b2⟩ := RdW.rd (T := (tSl tStr)) (cs := [d2]) h2 g2
    obtain ⟨z3, h3, g3⟩ := hel 3 54 (by simp)
    rw [show Tryz.prog.cellsOf 54 = 1 by kernel_rfl] at h3
    obtain ⟨x3, r3, b3⟩ := RdW.rd (T := (tSl tTp)) (cs := [d3]) h3 g3
    obtain ⟨z4, h4, g4⟩ := hel 4 4 (by simp)
    rw [show Tryz.prog.cellsOf 4 = 1 by kernel_rfl] at h4
    obtain ⟨x4, r4, b4⟩ := RdW.rd (T := tBool) (cs := [d4]) h4 g4
    obtain ⟨z5, h5, g5⟩ := hel 5 3 (by simp)
    rw [show Tryz.prog.cellsOf 3 = 1 by kernel_rfl] at h5
    obtain ⟨x5, r5, b5⟩ := RdW.rd (T := tInt) (cs := [d5]) h5 g5
    obtain ⟨e0, o0⟩ := r0
    simp only [List.cons.injEq, and_true] at e0
    subst e0
    obtain ⟨e1, o1⟩ := r1
    simp only [List.cons.injEq, and_true] at e1
    subst e1
    obtain ⟨sa2, sc2, e2, s2⟩ := r2
    simp only [List.cons.injEq, and_true] at e2
    subst e2
    obtain ⟨sa3, sc3, e3, s3⟩ := r3
    simp only [List.cons.injEq, and_true] at e3
    subst e3
    have e4 : [d4] = [Value.bool x4] := r4
    simp only [List.cons.injEq, and_true] at e4
    subst e4
    obtain ⟨e5, o5⟩ := r5
    simp only [List.cons.injEq, and_true] at e5
    subst e5
    exact ⟨⟨x0, x1, x2, x3, x4, x5⟩, ⟨sa2, sc2, sa3, sc3, rfl, ⟨s2, s3⟩, ⟨o0, o1, trivial, trivial, trivial, o5⟩⟩, ⟨b0, b1, b2, b3, b4, b5⟩⟩
instance : RdW Tryz.prog 51 (tSl tMember) (fun xs => (xs.length * Tryz.prog.bytesOf 105 ≤ reachBytes ∧ ∀ y0 ∈ xs, y0.small)) := rdw_slice Tryz.underlying51 (by kernel_rfl) (by decide)

structure Group where
  name : ByteArray
  gen : Int
  state : Int
  l : List Member
  deriving DecidableEq
def Group.ok (x : Group) : Prop := x.name.size ≤ maxLen ∧ I64 x.gen ∧ I64 x.state ∧ True
def Group.small (x : Group) : Prop := x.name.size ≤ reachBytes ∧ True ∧ True ∧ (x.l.length * Tryz.prog.bytesOf 105 ≤ reachBytes ∧ ∀ y0 ∈ x.l, y0.small)
def Group.cs (x : Group) (a0 : Option Addr) (c0 : Nat) : List Value := [.string x.name, .int .i64 x.gen, .int .i64 x.state, .slice a0 x.l.length c0]
def tGroup : Ty Group where
  sz := 4
  rep := fun h cs x => ∃ a0 c0, cs = x.cs a0 c0 ∧ (Sl tMember h a0 c0 x.l) ∧ x.ok
  len := fun ⟨_, _, h, _⟩ => by rw [h]; rfl
  mono := fun hl ⟨a0, c0, h, s0, hk⟩ => ⟨a0, c0, h, s0.le hl, hk⟩
theorem Group.one (k : PH) (cs : List Value) (x : Group) (h : tGroup.rep k cs x) : ∀ u ∈ cs, u.oneCell' = true := by
  obtain ⟨_, _, h, _⟩ := h
  rw [h]
  simp [Group.cs, Value.oneCell']
theorem Group.parts {k : PH} {b off : Nat} {x : Group} {a0 : Option Addr} {c0 : Nat} (h : Cells k b off (x.cs a0 c0)) : Cells k b (off + 0) [.string x.name] ∧ Cells k b (off + 1) [.int .i64 x.gen] ∧ Cells k b (off + 2) [.int .i64 x.state] ∧ Cells k b (off + 3) [.slice a0 x.l.length c0] :=
  ⟨h.win (n := 1) 0 rfl, h.win (n := 1) 1 rfl, h.win (n := 1) 2 rfl, h.win (n := 1) 3 rfl⟩
instance : RdW Tryz.prog 53 tGroup Group.small where
  one := by kernel_rfl
  rd := fun hr hw => by
    obtain ⟨hl, m, hel⟩ := struct_fields (fs := [(0, 9), (1, 3), (2, 3), (3, 51)]) Tryz.underlying53 (by kernel_rfl) hr hw
    obtain ⟨d0, d1, d2, d3, rfl⟩ := list4 (hl.trans (by kernel_rfl))
    obtain ⟨z0, h0, g0⟩ := hel 0 9 (by simp)
    rw [show Tryz.prog.cellsOf 9 = 1 by kernel_rfl] at h0
    obtain ⟨x0, r0, b0⟩ := RdW.rd (T := tStr) (cs := [d0]) h0 g0
    obtain ⟨z1, h1, g1⟩ := hel 1 3 (by simp)
    rw [show Tryz.prog.cellsOf 3 = 1 by kernel_rfl] at h1
    obtain ⟨x1, r1, b1⟩ := RdW.rd (T := tInt) (cs := [d1]) h1 g1
    obtain ⟨z2, h2, g2⟩ := hel 2 3 (by simp)
    rw [show Tryz.prog.cellsOf 3 = 1 by kernel_rfl] at h2
    obtain ⟨x2, r2, b2⟩ := RdW.rd (T := tInt) (cs := [d2]) h2 g2
    obtain ⟨z3, h3, g3⟩ := hel 3 51 (by simp)
    rw [show Tryz.prog.cellsOf 51 = 1 by kernel_rfl] at h3
    obtain ⟨x3, r3, b3⟩ := RdW.rd (T := (tSl tMember)) (cs := [d3]) h3 g3
    obtain ⟨e0, o0⟩ := r0
    simp only [List.cons.injEq, and_true] at e0
    subst e0
    obtain ⟨e1, o1⟩ := r1
    simp only [List.cons.injEq, and_true] at e1
    subst e1
    obtain ⟨e2, o2⟩ := r2
    simp only [List.cons.injEq, and_true] at e2
    subst e2
    obtain ⟨sa3, sc3, e3, s3⟩ := r3
    simp only [List.cons.injEq, and_true] at e3
    subst e3
    exact ⟨⟨x0, x1, x2, x3⟩, ⟨sa3, sc3, rfl, s3, ⟨o0, o1, o2, trivial⟩⟩, ⟨b0, b1, b2, b3⟩⟩
end Go.Wm
