/-
  The data of this seat's program, as Lean has them; how they lie in memory, are held against each other and are read. Written by a program of the prover's own out of the dump. Conditions: none.
-/
import Derived.Test.YtfejamdfhbamcaaTypes
import Derived.Test.YtfejamdfhbamcaaCoA
import Derived.Test.YtfejamdfhbamcaaCoB
set_option linter.all false
set_option maxRecDepth 100000
namespace Go.Wm
open Go.RowKit Go.Proofs

theorem Cells.win {k : PH} {b off n : Nat} {vs us : List Value} (h : Cells k b off vs) (j : Nat) (hu : (vs.drop j).take n = us) : Cells k b (off + j) us :=
  h.sub j fun i v hv => by
    rw [← hu] at hv
    rw [List.getElem?_take] at hv
    split at hv
    · rwa [List.getElem?_drop] at hv
    · cases hv

instance : DEq Try.prog 3 1 (fun x : Int => Value.int .i64 x) (fun x y => decide (x = y)) := deq_int Try.underlying3
instance : KeyOk Try.prog 3 (fun x : Int => Value.int .i64 x) := key_int Try.underlying3
instance : RdW Try.prog 3 tInt (fun _ => True) := rdw_int Try.underlying3 (by kernel_rfl)

structure Did where
  seq : Int
  last : Int
  base : Int
  deriving DecidableEq
def Did.ok (x : Did) : Prop := I64 x.seq ∧ I64 x.last ∧ I64 x.base
def Did.small (x : Did) : Prop := True ∧ True ∧ True
def Did.vs (x : Did) : List Value := [.int .i64 x.seq, .int .i64 x.last, .int .i64 x.base]
def tDid : Ty Did where
  sz := 3
  rep := fun _ cs x => cs = x.vs ∧ x.ok
  len := fun h => by rw [h.1]; rfl
  mono := fun _ h => h
instance : DEq Try.prog 101 2 (fun x : Did => Value.agg x.vs.toArray) (fun x y => decide (x = y)) :=
  deq_struct (vs := Did.vs) (ds := [(false, 3, 0), (false, 3, 1), (false, 3, 2)]) Try.underlying101 (by kernel_rfl) (by kernel_rfl) (fun x y => [decide (x.seq = y.seq), decide (x.last = y.last), decide (x.base = y.base)]) (fun x y => fieldsAre_cons (eqb := fun x y => decide (x = y)) rfl x.seq y.seq (part_plain Try.underlying3 rfl rfl) (part_plain Try.underlying3 rfl rfl) (fieldsAre_cons (eqb := fun x y => decide (x = y)) rfl x.last y.last (part_plain Try.underlying3 rfl rfl) (part_plain Try.underlying3 rfl rfl) (fieldsAre_cons (eqb := fun x y => decide (x = y)) rfl x.base y.base (part_plain Try.underlying3 rfl rfl) (part_plain Try.underlying3 rfl rfl) (trivial)))) (fun x y => by cases x; cases y; rw [Bool.eq_iff_iff]; simp)
instance : EqG Try.prog 101 := ⟨by kernel_rfl⟩
instance : KeyOk Try.prog 101 (fun x : Did => Value.agg x.vs.toArray) := key_of_deq (vs := Did.vs) Try.underlying101 rfl (fun x v hv => by
  simp only [Did.vs, List.mem_cons, List.not_mem_nil, or_false] at hv
  rcases hv with rfl | rfl | rfl <;> first | exact bits_int _ _ _ | exact bits_str _ _ | exact bits_bool _ _)
theorem Did.one (k : PH) (cs : List Value) (x : Did) (h : tDid.rep k cs x) : ∀ u ∈ cs, u.oneCell' = true := by
  rw [h.1]
  simp [Did.vs, Value.oneCell']
theorem Did.parts {k : PH} {b off : Nat} {x : Did} (h : Cells k b off x.vs) : Cells k b (off + 0) [.int .i64 x.seq] ∧ Cells k b (off + 1) [.int .i64 x.last] ∧ Cells k b (off + 2) [.int .i64 x.base] :=
  ⟨h.win (n := 1) 0 rfl, h.win (n := 1) 1 rfl, h.win (n := 1) 2 rfl⟩
theorem list3 {α : Type} {l : List α} (h : l.length = 3) : ∃ a0 a1 a2, l = [a0, a1, a2] := by
  match l, h with
  | [a0, a1, a2], _ => exact ⟨a0, a1, a2, rfl⟩
instance : RdW Try.prog 101 tDid Did.small where
  one := by kernel_rfl
  rd := fun hr hw => by
    obtain ⟨hl, m, hel⟩ := struct_fields (fs := [(0, 3), (1, 3), (2, 3)]) Try.underlying101 (by kernel_rfl) hr hw
    obtain ⟨d0, d1, d2, rfl⟩ := list3 (hl.trans (by kernel_rfl))
    obtain ⟨z0, h0, g0⟩ := hel 0 3 (by simp)
    rw [show Try.prog.cellsOf 3 = 1 by kernel_rfl] at h0
    obtain ⟨x0, r0, b0⟩ := RdW.rd (T := tInt) (cs := [d0]) h0 g0
    obtain ⟨z1, h1, g1⟩ := hel 1 3 (by simp)
    rw [show Try.prog.cellsOf 3 = 1 by kernel_rfl] at h1
    obtain ⟨x1, r1, b1⟩ := RdW.rd (T := tInt) (cs := [d1]) h1 g1
    obtain ⟨z2, h2, g2⟩ := hel 2 3 (by simp)
    rw [show Try.prog.cellsOf 3 = 1 by kernel_rfl] at h2
    obtain ⟨x2, r2, b2⟩ := RdW.rd (T := tInt) (cs := [d2]) h2 g2
    obtain ⟨e0, o0⟩ := r0
    simp only [List.cons.injEq, and_true] at e0
    subst e0
    obtain ⟨e1, o1⟩ := r1
    simp only [List.cons.injEq, and_true] at e1
    subst e1
    obtain ⟨e2, o2⟩ := r2
    simp only [List.cons.injEq, and_true] at e2
    subst e2
    exact ⟨⟨x0, x1, x2⟩, ⟨rfl, ⟨o0, o1, o2⟩⟩, ⟨b0, b1, b2⟩⟩
instance : RdW Try.prog 49 (tSl tDid) (fun xs => (xs.length * Try.prog.bytesOf 101 ≤ reachBytes ∧ ∀ y0 ∈ xs, y0.small)) := rdw_slice Try.underlying49 (by kernel_rfl) (by decide)

structure ProdT where
  pid : Int
  gen : Int
  did : List Did
  deriving DecidableEq
def ProdT.ok (x : ProdT) : Prop := I64 x.pid ∧ I64 x.gen ∧ True
def ProdT.small (x : ProdT) : Prop := True ∧ True ∧ (x.did.length * Try.prog.bytesOf 101 ≤ reachBytes ∧ ∀ y0 ∈ x.did, y0.small)
def ProdT.cs (x : ProdT) (a0 : Option Addr) (c0 : Nat) : List Value := [.int .i64 x.pid, .int .i64 x.gen, .slice a0 x.did.length c0]
def tProdT : Ty ProdT where
  sz := 3
  rep := fun h cs x => ∃ a0 c0, cs = x.cs a0 c0 ∧ (Sl tDid h a0 c0 x.did) ∧ x.ok
  len := fun ⟨_, _, h, _⟩ => by rw [h]; rfl
  mono := fun hl ⟨a0, c0, h, s0, hk⟩ => ⟨a0, c0, h, s0.le hl, hk⟩
theorem ProdT.one (k : PH) (cs : List Value) (x : ProdT) (h : tProdT.rep k cs x) : ∀ u ∈ cs, u.oneCell' = true := by
  obtain ⟨_, _, h, _⟩ := h
  rw [h]
  simp [ProdT.cs, Value.oneCell']
theorem ProdT.parts {k : PH} {b off : Nat} {x : ProdT} {a0 : Option Addr} {c0 : Nat} (h : Cells k b off (x.cs a0 c0)) : Cells k b (off + 0) [.int .i64 x.pid] ∧ Cells k b (off + 1) [.int .i64 x.gen] ∧ Cells k b (off + 2) [.slice a0 x.did.length c0] :=
  ⟨h.win (n := 1) 0 rfl, h.win (n := 1) 1 rfl, h.win (n := 1) 2 rfl⟩
instance : RdW Try.prog 51 tProdT ProdT.small where
  one := by kernel_rfl
  rd := fun hr hw => by
    obtain ⟨hl, m, hel⟩ := struct_fields (fs := [(0, 3), (1, 3), (2, 49)]) Try.underlying51 (by kernel_rfl) hr hw
    obtain ⟨d0, d1, d2, rfl⟩ := list3 (hl.trans (by kernel_rfl))
    obtain ⟨z0, h0, g0⟩ := hel 0 3 (by simp)
    rw [show Try.prog.cellsOf 3 = 1 by kernel_rfl] at h0
    obtain ⟨x0, r0, b0⟩ := RdW.rd (T := tInt) (cs := [d0]) h0 g0
    obtain ⟨z1, h1, g1⟩ := hel 1 3 (by simp)
    rw [show Try.prog.cellsOf 3 = 1 by kernel_rfl] at h1
    obtain ⟨x1, r1, b1⟩ := RdW.rd (T := tInt) (cs := [d1]) h1 g1
    obtain ⟨z2, h2, g2⟩ := hel 2 49 (by simp)
    rw [show Try.prog.cellsOf 49 = 1 by kernel_rfl] at h2
    obtain ⟨x2, r2, b2⟩ := RdW.rd (T := (tSl tDid)) (cs := [d2]) h2 g2
    obtain ⟨e0, o0⟩ := r0
    simp only [List.cons.injEq, and_true] at e0
    subst e0
    obtain ⟨e1, o1⟩ := r1
    simp only [List.cons.injEq, and_true] at e1
    subst e1
    obtain ⟨sa2, sc2, e2, s2⟩ := r2
    simp only [List.cons.injEq, and_true] at e2
    subst e2
    exact ⟨⟨x0, x1, x2⟩, ⟨sa2, sc2, rfl, s2, ⟨o0, o1, trivial⟩⟩, ⟨b0, b1, b2⟩⟩
instance : DEq Try.prog 9 1 (fun x : ByteArray => Value.string x) (fun x y => decide (x = y)) := deq_str Try.underlying9
instance : KeyOk Try.prog 9 (fun x : ByteArray => Value.string x) := key_str Try.underlying9
instance : RdW Try.prog 9 tStr (fun s => s.size ≤ reachBytes) := rdw_str Try.underlying9 (by kernel_rfl)
instance : DEq Try.prog 4 1 (fun x : Bool => Value.bool x) (fun x y => decide (x = y)) := deq_bool Try.underlying4
instance : RdW Try.prog 4 tBool (fun _ => True) := rdw_bool Try.underlying4 (by kernel_rfl)

structure Rec where
  off : Int
  key : ByteArray
  val : ByteArray
  dead : Bool
  stamp : Int
  deriving DecidableEq
def Rec.ok (x : Rec) : Prop := I64 x.off ∧ x.key.size ≤ maxLen ∧ x.val.size ≤ maxLen ∧ True ∧ I64 x.stamp
def Rec.small (x : Rec) : Prop := True ∧ x.key.size ≤ reachBytes ∧ x.val.size ≤ reachBytes ∧ True ∧ True
def Rec.vs (x : Rec) : List Value := [.int .i64 x.off, .string x.key, .string x.val, .bool x.dead, .int .i64 x.stamp]
def tRec : Ty Rec where
  sz := 5
  rep := fun _ cs x => cs = x.vs ∧ x.ok
  len := fun h => by rw [h.1]; rfl
  mono := fun _ h => h
instance : DEq Try.prog 135 2 (fun x : Rec => Value.agg x.vs.toArray) (fun x y => decide (x = y)) :=
  deq_struct (vs := Rec.vs) (ds := [(false, 3, 0), (false, 9, 1), (false, 9, 2), (false, 4, 3), (false, 3, 4)]) Try.underlying135 (by kernel_rfl) (by kernel_rfl) (fun x y => [decide (x.off = y.off), decide (x.key = y.key), decide (x.val = y.val), decide (x.dead = y.dead), decide (x.stamp = y.stamp)]) (fun x y => fieldsAre_cons (eqb := fun x y => decide (x = y)) rfl x.off y.off (part_plain Try.underlying3 rfl rfl) (part_plain Try.underlying3 rfl rfl) (fieldsAre_cons (eqb := fun x y => decide (x = y)) rfl x.key y.key (part_plain Try.underlying9 rfl rfl) (part_plain Try.underlying9 rfl rfl) (fieldsAre_cons (eqb := fun x y => decide (x = y)) rfl x.val y.val (part_plain Try.underlying9 rfl rfl) (part_plain Try.underlying9 rfl rfl) (fieldsAre_cons (eqb := fun x y => decide (x = y)) rfl x.dead y.dead (part_plain Try.underlying4 rfl rfl) (part_plain Try.underlying4 rfl rfl) (fieldsAre_cons (eqb := fun x y => decide (x = y)) rfl x.stamp y.stamp (part_plain Try.underlying3 rfl rfl) (part_plain Try.underlying3 rfl rfl) (trivial)))))) (fun x y => by cases x; cases y; rw [Bool.eq_iff_iff]; simp)
instance : EqG Try.prog 135 := ⟨by kernel_rfl⟩
instance : KeyOk Try.prog 135 (fun x : Rec => Value.agg x.vs.toArray) := key_of_deq (vs := Rec.vs) Try.underlying135 rfl (fun x v hv => by
  simp only [Rec.vs, List.mem_cons, List.not_mem_nil, or_false] at hv
  rcases hv with rfl | rfl | rfl | rfl | rfl <;> first | exact bits_int _ _ _ | exact bits_str _ _ | exact bits_bool _ _)
theorem Rec.one (k : PH) (cs : List Value) (x : Rec) (h : tRec.rep k cs x) : ∀ u ∈ cs, u.oneCell' = true := by
  rw [h.1]
  simp [Rec.vs, Value.oneCell']
theorem Rec.parts {k : PH} {b off : Nat} {x : Rec} (h : Cells k b off x.vs) : Cells k b (off + 0) [.int .i64 x.off] ∧ Cells k b (off + 1) [.string x.key] ∧ Cells k b (off + 2) [.string x.val] ∧ Cells k b (off + 3) [.bool x.dead] ∧ Cells k b (off + 4) [.int .i64 x.stamp] :=
  ⟨h.win (n := 1) 0 rfl, h.win (n := 1) 1 rfl, h.win (n := 1) 2 rfl, h.win (n := 1) 3 rfl, h.win (n := 1) 4 rfl⟩
theorem list5 {α : Type} {l : List α} (h : l.length = 5) : ∃ a0 a1 a2 a3 a4, l = [a0, a1, a2, a3, a4] := by
  match l, h with
  | [a0, a1, a2, a3, a4], _ => exact ⟨a0, a1, a2, a3, a4, rfl⟩
instance : RdW Try.prog 135 tRec Rec.small where
  one := by kernel_rfl
  rd := fun hr hw => by
    obtain ⟨hl, m, hel⟩ := struct_fields (fs := [(0, 3), (1, 9), (2, 9), (3, 4), (4, 3)]) Try.underlying135 (by kernel_rfl) hr hw
    obtain ⟨d0, d1, d2, d3, d4, rfl⟩ := list5 (hl.trans (by kernel_rfl))
    obtain ⟨z0, h0, g0⟩ := hel 0 3 (by simp)
    rw [show Try.prog.cellsOf 3 = 1 by kernel_rfl] at h0
    obtain ⟨x0, r0, b0⟩ := RdW.rd (T := tInt) (cs := [d0]) h0 g0
    obtain ⟨z1, h1, g1⟩ := hel 1 9 (by simp)
    rw [show Try.prog.cellsOf 9 = 1 by kernel_rfl] at h1
    obtain ⟨x1, r1, b1⟩ := RdW.rd (T := tStr) (cs := [d1]) h1 g1
    obtain ⟨z2, h2, g2⟩ := hel 2 9 (by simp)
    rw [show Try.prog.cellsOf 9 = 1 by kernel_rfl] at h2
    obtain ⟨x2, r2, b2⟩ := RdW.rd (T := tStr) (cs := [d2]) h2 g2
    obtain ⟨z3, h3, g3⟩ := hel 3 4 (by simp)
    rw [show Try.prog.cellsOf 4 = 1 by kernel_rfl] at h3
    obtain ⟨x3, r3, b3⟩ := RdW.rd (T := tBool) (cs := [d3]) h3 g3
    obtain ⟨z4, h4, g4⟩ := hel 4 3 (by simp)
    rw [show Try.prog.cellsOf 3 = 1 by kernel_rfl] at h4
    obtain ⟨x4, r4, b4⟩ := RdW.rd (T := tInt) (cs := [d4]) h4 g4
    obtain ⟨e0, o0⟩ := r0
    simp only [List.cons.injEq, and_true] at e0
    subst e0
    obtain ⟨e1, o1⟩ := r1
    simp only [List.cons.injEq, and_true] at e1
    subst e1
    obtain ⟨e2, o2⟩ := r2
    simp only [List.cons.injEq, and_true] at e2
    subst e2
    have e3 : [d3] = [Value.bool x3] := r3
    simp only [List.cons.injEq, and_true] at e3
    subst e3
    obtain ⟨e4, o4⟩ := r4
    simp only [List.cons.injEq, and_true] at e4
    subst e4
    exact ⟨⟨x0, x1, x2, x3, x4⟩, ⟨rfl, ⟨o0, o1, o2, trivial, o4⟩⟩, ⟨b0, b1, b2, b3, b4⟩⟩
instance : RdW Try.prog 23 (tSl tRec) (fun xs => (xs.length * Try.prog.bytesOf 135 ≤ reachBytes ∧ ∀ y0 ∈ xs, y0.small)) := rdw_slice Try.underlying23 (by kernel_rfl) (by decide)

structure Batch where
  base : Int
  last : Int
  fromV : Int
  epoch : Int
  pid : Int
  gen : Int
  seq : Int
  txn : Bool
  ctl : Int
  recs : List Rec
  deriving DecidableEq
def Batch.ok (x : Batch) : Prop := I64 x.base ∧ I64 x.last ∧ I64 x.fromV ∧ I64 x.epoch ∧ I64 x.pid ∧ I64 x.gen ∧ I64 x.seq ∧ True ∧ I64 x.ctl ∧ True
def Batch.small (x : Batch) : Prop := True ∧ True ∧ True ∧ True ∧ True ∧ True ∧ True ∧ True ∧ True ∧ (x.recs.length * Try.prog.bytesOf 135 ≤ reachBytes ∧ ∀ y0 ∈ x.recs, y0.small)
def Batch.cs (x : Batch) (a0 : Option Addr) (c0 : Nat) : List Value := [.int .i64 x.base, .int .i64 x.last, .int .i64 x.fromV, .int .i64 x.epoch, .int .i64 x.pid, .int .i64 x.gen, .int .i64 x.seq, .bool x.txn, .int .i64 x.ctl, .slice a0 x.recs.length c0]
def tBatch : Ty Batch where
  sz := 10
  rep := fun h cs x => ∃ a0 c0, cs = x.cs a0 c0 ∧ (Sl tRec h a0 c0 x.recs) ∧ x.ok
  len := fun ⟨_, _, h, _⟩ => by rw [h]; rfl
  mono := fun hl ⟨a0, c0, h, s0, hk⟩ => ⟨a0, c0, h, s0.le hl, hk⟩
theorem Batch.one (k : PH) (cs : List Value) (x : Batch) (h : tBatch.rep k cs x) : ∀ u ∈ cs, u.oneCell' = true := by
  obtain ⟨_, _, h, _⟩ := h
  rw [h]
  simp [Batch.cs, Value.oneCell']
theorem Batch.parts {k : PH} {b off : Nat} {x : Batch} {a0 : Option Addr} {c0 : Nat} (h : Cells k b off (x.cs a0 c0)) : Cells k b (off + 0) [.int .i64 x.base] ∧ Cells k b (off + 1) [.int .i64 x.last] ∧ Cells k b (off + 2) [.int .i64 x.fromV] ∧ Cells k b (off + 3) [.int .i64 x.epoch] ∧ Cells k b (off + 4) [.int .i64 x.pid] ∧ Cells k b (off + 5) [.int .i64 x.gen] ∧ Cells k b (off + 6) [.int .i64 x.seq] ∧ Cells k b (off + 7) [.bool x.txn] ∧ Cells k b (off + 8) [.int .i64 x.ctl] ∧ Cells k b (off + 9) [.slice a0 x.recs.length c0] :=
  ⟨h.win (n := 1) 0 rfl, h.win (n := 1) 1 rfl, h.win (n := 1) 2 rfl, h.win (n := 1) 3 rfl, h.win (n := 1) 4 rfl, h.win (n := 1) 5 rfl, h.win (n := 1) 6 rfl, h.win (n := 1) 7 rfl, h.win (n := 1) 8 rfl, h.win (n := 1) 9 rfl⟩
theorem list10 {α : Type} {l : List α} (h : l.length = 10) : ∃ a0 a1 a2 a3 a4 a5 a6 a7 a8 a9, l = [a0, a1, a2, a3, a4, a5, a6, a7, a8, a9] := by
  match l, h with
  | [a0, a1, a2, a3, a4, a5, a6, a7, a8, a9], _ => exact ⟨a0, a1, a2, a3, a4, a5, a6, a7, a8, a9, rfl⟩
instance : RdW Try.prog 25 tBatch Batch.small where
  one := by kernel_rfl
  rd := fun hr hw => by
    obtain ⟨hl, m, hel⟩ := struct_fields (fs := [(0, 3), (1, 3), (2, 3), (3, 3), (4, 3), (5, 3), (6, 3), (7, 4), (8, 3), (9, 23)]) Try.underlying25 (by kernel_rfl) hr hw
    obtain ⟨d0, d1, d2, d3, d4, d5, d6, d7, d8, d9, rfl⟩ := list10 (hl.trans (by kernel_rfl))
    obtain ⟨z0, h0, g0⟩ := hel 0 3 (by simp)
    rw [show Try.prog.cellsOf 3 = 1 by kernel_rfl] at h0
    obtain ⟨x0, r0, b0⟩ := RdW.rd (T := tInt) (cs := [d0]) h0 g0
    obtain ⟨z1, h1, g1⟩ := hel 1 3 (by simp)
    rw [show Try.prog.cellsOf 3 = 1 by kernel_rfl] at h1
    obtain ⟨x1, r1, b1⟩ := RdW.rd (T := tInt) (cs := [d1]) h1 g1
    obtain ⟨z2, h2, g2⟩ := hel 2 3 (by simp)
    rw [show Try.prog.cellsOf 3 = 1 by kernel_rfl] at h2
    obtain ⟨x2, r2, b2⟩ := RdW.rd (T := tInt) (cs := [d2]) h2 g2
    obtain ⟨z3, h3, g3⟩ := hel 3 3 (by simp)
    rw [show Try.prog.cellsOf 3 = 1 by kernel_rfl] at h3
    obtain ⟨x3, r3, b3⟩ := RdW.rd (T := tInt) (cs := [d3]) h3 g3
    obtain ⟨z4, h4, g4⟩ := hel 4 3 (by simp)
    rw [show Try.prog.cellsOf 3 = 1 by kernel_rfl] at h4
    obtain ⟨x4, r4, b4⟩ := RdW.rd (T := tInt) (cs := [d4]) h4 g4
    obtain ⟨z5, h5, g5⟩ := hel 5 3 (by simp)
    rw [show Try.prog.cellsOf 3 = 1 by kernel_rfl] at h5
    obtain ⟨x5, r5, b5⟩ := RdW.rd (T := tInt) (cs := [d5]) h5 g5
    obtain ⟨z6, h6, g6⟩ := hel 6 3 (by simp)
    rw [show Try.prog.cellsOf 3 = 1 by kernel_rfl] at h6
    obtain ⟨x6, r6, b6⟩ := RdW.rd (T := tInt) (cs := [d6]) h6 g6
    obtain ⟨z7, h7, g7⟩ := hel 7 4 (by simp)
    rw [show Try.prog.cellsOf 4 = 1 by kernel_rfl] at h7
    obtain ⟨x7, r7, b7⟩ := RdW.rd (T := tBool) (cs := [d7]) h7 g7
    obtain ⟨z8, h8, g8⟩ := hel 8 3 (by simp)
    rw [show Try.prog.cellsOf 3 = 1 by kernel_rfl] at h8
    obtain ⟨x8, r8, b8⟩ := RdW.rd (T := tInt) (cs := [d8]) h8 g8
    obtain ⟨z9, h9, g9⟩ := hel 9 23 (by simp)
    rw [show Try.prog.cellsOf 23 = 1 by kernel_rfl] at h9
    obtain ⟨x9, r9, b9⟩ := RdW.rd (T := (tSl tRec)) (cs := [d9]) h9 g9
    obtain ⟨e0, o0⟩ := r0
    simp only [List.cons.injEq, and_true] at e0
    subst e0
    obtain ⟨e1, o1⟩ := r1
    simp only [List.cons.injEq, and_true] at e1
    subst e1
    obtain ⟨e2, o2⟩ := r2
    simp only [List.cons.injEq, and_true] at e2
    subst e2
    obtain ⟨e3, o3⟩ := r3
    simp only [List.cons.injEq, and_true] at e3
    subst e3
    obtain ⟨e4, o4⟩ := r4
    simp only [List.cons.injEq, and_true] at e4
    subst e4
    obtain ⟨e5, o5⟩ := r5
    simp only [List.cons.injEq, and_true] at e5
    subst e5
    obtain ⟨e6, o6⟩ := r6
    simp only [List.cons.injEq, and_true] at e6
    subst e6
    have e7 : [d7] = [Value.bool x7] := r7
    simp only [List.cons.injEq, and_true] at e7
    subst e7
    obtain ⟨e8, o8⟩ := r8
    simp only [List.cons.injEq, and_true] at e8
    subst e8
    obtain ⟨sa9, sc9, e9, s9⟩ := r9
    simp only [List.cons.injEq, and_true] at e9
    subst e9
    exact ⟨⟨x0, x1, x2, x3, x4, x5, x6, x7, x8, x9⟩, ⟨sa9, sc9, rfl, s9, ⟨o0, o1, o2, o3, o4, o5, o6, trivial, o8, trivial⟩⟩, ⟨b0, b1, b2, b3, b4, b5, b6, b7, b8, b9⟩⟩

structure Tp where
  topic : ByteArray
  part : Int
  home : Int
  deriving DecidableEq
def Tp.ok (x : Tp) : Prop := x.topic.size ≤ maxLen ∧ I64 x.part ∧ I64 x.home
def Tp.small (x : Tp) : Prop := x.topic.size ≤ reachBytes ∧ True ∧ True
def Tp.vs (x : Tp) : List Value := [.string x.topic, .int .i64 x.part, .int .i64 x.home]
def tTp : Ty Tp where
  sz := 3
  rep := fun _ cs x => cs = x.vs ∧ x.ok
  len := fun h => by rw [h.1]; rfl
  mono := fun _ h => h
instance : DEq Try.prog 95 2 (fun x : Tp => Value.agg x.vs.toArray) (fun x y => decide (x = y)) :=
  deq_struct (vs := Tp.vs) (ds := [(false, 9, 0), (false, 3, 1), (false, 3, 2)]) Try.underlying95 (by kernel_rfl) (by kernel_rfl) (fun x y => [decide (x.topic = y.topic), decide (x.part = y.part), decide (x.home = y.home)]) (fun x y => fieldsAre_cons (eqb := fun x y => decide (x = y)) rfl x.topic y.topic (part_plain Try.underlying9 rfl rfl) (part_plain Try.underlying9 rfl rfl) (fieldsAre_cons (eqb := fun x y => decide (x = y)) rfl x.part y.part (part_plain Try.underlying3 rfl rfl) (part_plain Try.underlying3 rfl rfl) (fieldsAre_cons (eqb := fun x y => decide (x = y)) rfl x.home y.home (part_plain Try.underlying3 rfl rfl) (part_plain Try.underlying3 rfl rfl) (trivial)))) (fun x y => by cases x; cases y; rw [Bool.eq_iff_iff]; simp)
instance : EqG Try.prog 95 := ⟨by kernel_rfl⟩
instance : KeyOk Try.prog 95 (fun x : Tp => Value.agg x.vs.toArray) := key_of_deq (vs := Tp.vs) Try.underlying95 rfl (fun x v hv => by
  simp only [Tp.vs, List.mem_cons, List.not_mem_nil, or_false] at hv
  rcases hv with rfl | rfl | rfl <;> first | exact bits_int _ _ _ | exact bits_str _ _ | exact bits_bool _ _)
theorem Tp.one (k : PH) (cs : List Value) (x : Tp) (h : tTp.rep k cs x) : ∀ u ∈ cs, u.oneCell' = true := by
  rw [h.1]
  simp [Tp.vs, Value.oneCell']
theorem Tp.parts {k : PH} {b off : Nat} {x : Tp} (h : Cells k b off x.vs) : Cells k b (off + 0) [.string x.topic] ∧ Cells k b (off + 1) [.int .i64 x.part] ∧ Cells k b (off + 2) [.int .i64 x.home] :=
  ⟨h.win (n := 1) 0 rfl, h.win (n := 1) 1 rfl, h.win (n := 1) 2 rfl⟩
instance : RdW Try.prog 95 tTp Tp.small where
  one := by kernel_rfl
  rd := fun hr hw => by
    obtain ⟨hl, m, hel⟩ := struct_fields (fs := [(0, 9), (1, 3), (2, 3)]) Try.underlying95 (by kernel_rfl) hr hw
    obtain ⟨d0, d1, d2, rfl⟩ := list3 (hl.trans (by kernel_rfl))
    obtain ⟨z0, h0, g0⟩ := hel 0 9 (by simp)
    rw [show Try.prog.cellsOf 9 = 1 by kernel_rfl] at h0
    obtain ⟨x0, r0, b0⟩ := RdW.rd (T := tStr) (cs := [d0]) h0 g0
    obtain ⟨z1, h1, g1⟩ := hel 1 3 (by simp)
    rw [show Try.prog.cellsOf 3 = 1 by kernel_rfl] at h1
    obtain ⟨x1, r1, b1⟩ := RdW.rd (T := tInt) (cs := [d1]) h1 g1
    obtain ⟨z2, h2, g2⟩ := hel 2 3 (by simp)
    rw [show Try.prog.cellsOf 3 = 1 by kernel_rfl] at h2
    obtain ⟨x2, r2, b2⟩ := RdW.rd (T := tInt) (cs := [d2]) h2 g2
    obtain ⟨e0, o0⟩ := r0
    simp only [List.cons.injEq, and_true] at e0
    subst e0
    obtain ⟨e1, o1⟩ := r1
    simp only [List.cons.injEq, and_true] at e1
    subst e1
    obtain ⟨e2, o2⟩ := r2
    simp only [List.cons.injEq, and_true] at e2
    subst e2
    exact ⟨⟨x0, x1, x2⟩, ⟨rfl, ⟨o0, o1, o2⟩⟩, ⟨b0, b1, b2⟩⟩
instance : RdW Try.prog 59 (tSl tStr) (fun xs => (xs.length * Try.prog.bytesOf 9 ≤ reachBytes ∧ ∀ y0 ∈ xs, y0.size ≤ reachBytes)) := rdw_slice Try.underlying59 (by kernel_rfl) (by decide)
instance : RdW Try.prog 60 (tSl tTp) (fun xs => (xs.length * Try.prog.bytesOf 95 ≤ reachBytes ∧ ∀ y0 ∈ xs, y0.small)) := rdw_slice Try.underlying60 (by kernel_rfl) (by decide)

structure Member where
  id : ByteArray
  static : ByteArray
  subs : List ByteArray
  own : List Tp
  joined : Bool
  beat : Int
  deriving DecidableEq
def Member.ok (x : Member) : Prop := x.id.size ≤ maxLen ∧ x.static.size ≤ maxLen ∧ True ∧ True ∧ True ∧ I64 x.beat
def Member.small (x : Member) : Prop := x.id.size ≤ reachBytes ∧ x.static.size ≤ reachBytes ∧ (x.subs.length * Try.prog.bytesOf 9 ≤ reachBytes ∧ ∀ y0 ∈ x.subs, y0.size ≤ reachBytes) ∧ (x.own.length * Try.prog.bytesOf 95 ≤ reachBytes ∧ ∀ y0 ∈ x.own, y0.small) ∧ True ∧ True
def Member.cs (x : Member) (a0 : Option Addr) (c0 : Nat) (a1 : Option Addr) (c1 : Nat) : List Value := [.string x.id, .string x.static, .slice a0 x.subs.length c0, .slice a1 x.own.length c1, .bool x.joined, .int .i64 x.beat]
def tMember : Ty Member where
  sz := 6
  rep := fun h cs x => ∃ a0 c0 a1 c1, cs = x.cs a0 c0 a1 c1 ∧ (Sl tStr h a0 c0 x.subs ∧ Sl tTp h a1 c1 x.own) ∧ x.ok
  len := fun ⟨_, _, _, _, h, _⟩ => by rw [h]; rfl
  mono := fun hl ⟨a0, c0, a1, c1, h, ⟨s0, s1⟩, hk⟩ => ⟨a0, c0, a1, c1, h, ⟨s0.le hl, s1.le hl⟩, hk⟩
theorem Member.one (k : PH) (cs : List Value) (x : Member) (h : tMember.rep k cs x) : ∀ u ∈ cs, u.oneCell' = true := by
  obtain ⟨_, _, _, _, h, _⟩ := h
  rw [h]
  simp [Member.cs, Value.oneCell']
theorem Member.parts {k : PH} {b off : Nat} {x : Member} {a0 a1 : Option Addr} {c0 c1 : Nat} (h : Cells k b off (x.cs a0 c0 a1 c1)) : Cells k b (off + 0) [.string x.id] ∧ Cells k b (off + 1) [.string x.static] ∧ Cells k b (off + 2) [.slice a0 x.subs.length c0] ∧ Cells k b (off + 3) [.slice a1 x.own.length c1] ∧ Cells k b (off + 4) [.bool x.joined] ∧ Cells k b (off + 5) [.int .i64 x.beat] :=
  ⟨h.win (n := 1) 0 rfl, h.win (n := 1) 1 rfl, h.win (n := 1) 2 rfl, h.win (n := 1) 3 rfl, h.win (n := 1) 4 rfl, h.win (n := 1) 5 rfl⟩
theorem list6 {α : Type} {l : List α} (h : l.length = 6) : ∃ a0 a1 a2 a3 a4 a5, l = [a0, a1, a2, a3, a4, a5] := by
  match l, h with
  | [a0, a1, a2, a3, a4, a5], _ => exact ⟨a0, a1, a2, a3, a4, a5, rfl⟩
instance : RdW Try.prog 62 tMember Member.small where
  one := by kernel_rfl
  rd := fun hr hw => by
    obtain ⟨hl, m, hel⟩ := struct_fields (fs := [(0, 9), (1, 9), (2, 59), (3, 60), (4, 4), (5, 3)]) Try.underlying62 (by kernel_rfl) hr hw
    obtain ⟨d0, d1, d2, d3, d4, d5, rfl⟩ := list6 (hl.trans (by kernel_rfl))
    obtain ⟨z0, h0, g0⟩ := hel 0 9 (by simp)
    rw [show Try.prog.cellsOf 9 = 1 by kernel_rfl] at h0
    obtain ⟨x0, r0, b0⟩ := RdW.rd (T := tStr) (cs := [d0]) h0 g0
    obtain ⟨z1, h1, g1⟩ := hel 1 9 (by simp)
    rw [show Try.prog.cellsOf 9 = 1 by kernel_rfl] at h1
    obtain ⟨x1, r1, b1⟩ := RdW.rd (T := tStr) (cs := [d1]) h1 g1
    obtain ⟨z2, h2, g2⟩ := hel 2 59 (by simp)
    rw [show Try.prog.cellsOf 59 = 1 by kernel_rfl] at h2
    obtain ⟨x2, r2, b2⟩ := RdW.rd (T := (tSl tStr)) (cs := [d2]) h2 g2
    obtain ⟨z3, h3, g3⟩ := hel 3 60 (by simp)
    rw [show Try.prog.cellsOf 60 = 1 by kernel_rfl] at h3
    obtain ⟨x3, r3, b3⟩ := RdW.rd (T := (tSl tTp)) (cs := [d3]) h3 g3
    obtain ⟨z4, h4, g4⟩ := hel 4 4 (by simp)
    rw [show Try.prog.cellsOf 4 = 1 by kernel_rfl] at h4
    obtain ⟨x4, r4, b4⟩ := RdW.rd (T := tBool) (cs := [d4]) h4 g4
    obtain ⟨z5, h5, g5⟩ := hel 5 3 (by simp)
    rw [show Try.prog.cellsOf 3 = 1 by kernel_rfl] at h5
    obtain ⟨x5, r5, b5⟩ := RdW.rd (T := tInt) (cs := [d5]) h5 g5
    obtain ⟨e0, o0⟩ := r0
    simp only [List.cons.injEq, and_true] at e0
    subst e0
    obtain ⟨e1, o1⟩ := r1
    simp only [List.cons.injEq, and_true] at e1
    subst e1
    obtain ⟨sa2, sc2, e2, s2⟩ := r2
    simp only [List.cons.injEq, and_true] at e2
    subst e2
    obtain ⟨sa3, sc3, e3, s3⟩ := r3
    simp only [List.cons.injEq, and_true] at e3
    subst e3
    have e4 : [d4] = [Value.bool x4] := r4
    simp only [List.cons.injEq, and_true] at e4
    subst e4
    obtain ⟨e5, o5⟩ := r5
    simp only [List.cons.injEq, and_true] at e5
    subst e5
    exact ⟨⟨x0, x1, x2, x3, x4, x5⟩, ⟨sa2, sc2, sa3, sc3, rfl, ⟨s2, s3⟩, ⟨o0, o1, trivial, trivial, trivial, o5⟩⟩, ⟨b0, b1, b2, b3, b4, b5⟩⟩
instance : RdW Try.prog 56 (tSl tMember) (fun xs => (xs.length * Try.prog.bytesOf 62 ≤ reachBytes ∧ ∀ y0 ∈ xs, y0.small)) := rdw_slice Try.underlying56 (by kernel_rfl) (by decide)

structure Group where
  name : ByteArray
  gen : Int
  state : Int
  l : List Member
  deriving DecidableEq
def Group.ok (x : Group) : Prop := x.name.size ≤ maxLen ∧ I64 x.gen ∧ I64 x.state ∧ True
def Group.small (x : Group) : Prop := x.name.size ≤ reachBytes ∧ True ∧ True ∧ (x.l.length * Try.prog.bytesOf 62 ≤ reachBytes ∧ ∀ y0 ∈ x.l, y0.small)
def Group.cs (x : Group) (a0 : Option Addr) (c0 : Nat) : List Value := [.string x.name, .int .i64 x.gen, .int .i64 x.state, .slice a0 x.l.length c0]
def tGroup : Ty Group where
  sz := 4
  rep := fun h cs x => ∃ a0 c0, cs = x.cs a0 c0 ∧ (Sl tMember h a0 c0 x.l) ∧ x.ok
  len := fun ⟨_, _, h, _⟩ => by rw [h]; rfl
  mono := fun hl ⟨a0, c0, h, s0, hk⟩ => ⟨a0, c0, h, s0.le hl, hk⟩
theorem Group.one (k : PH) (cs : List Value) (x : Group) (h : tGroup.rep k cs x) : ∀ u ∈ cs, u.oneCell' = true := by
  obtain ⟨_, _, h, _⟩ := h
  rw [h]
  simp [Group.cs, Value.oneCell']
theorem Group.parts {k : PH} {b off : Nat} {x : Group} {a0 : Option Addr} {c0 : Nat} (h : Cells k b off (x.cs a0 c0)) : Cells k b (off + 0) [.string x.name] ∧ Cells k b (off + 1) [.int .i64 x.gen] ∧ Cells k b (off + 2) [.int .i64 x.state] ∧ Cells k b (off + 3) [.slice a0 x.l.length c0] :=
  ⟨h.win (n := 1) 0 rfl, h.win (n := 1) 1 rfl, h.win (n := 1) 2 rfl, h.win (n := 1) 3 rfl⟩
theorem list4 {α : Type} {l : List α} (h : l.length = 4) : ∃ a0 a1 a2 a3, l = [a0, a1, a2, a3] := by
  match l, h with
  | [a0, a1, a2, a3], _ => exact ⟨a0, a1, a2, a3, rfl⟩
instance : RdW Try.prog 58 tGroup Group.small where
  one := by kernel_rfl
  rd := fun hr hw => by
    obtain ⟨hl, m, hel⟩ := struct_fields (fs := [(0, 9), (1, 3), (2, 3), (3, 56)]) Try.underlying58 (by kernel_rfl) hr hw
    obtain ⟨d0, d1, d2, d3, rfl⟩ := list4 (hl.trans (by kernel_rfl))
    obtain ⟨z0, h0, g0⟩ := hel 0 9 (by simp)
    rw [show Try.prog.cellsOf 9 = 1 by kernel_rfl] at h0
    obtain ⟨x0, r0, b0⟩ := RdW.rd (T := tStr) (cs := [d0]) h0 g0
    obtain ⟨z1, h1, g1⟩ := hel 1 3 (by simp)
    rw [show Try.prog.cellsOf 3 = 1 by kernel_rfl] at h1
    obtain ⟨x1, r1, b1⟩ := RdW.rd (T := tInt) (cs := [d1]) h1 g1
    obtain ⟨z2, h2, g2⟩ := hel 2 3 (by simp)
    rw [show Try.prog.cellsOf 3 = 1 by kernel_rfl] at h2
    obtain ⟨x2, r2, b2⟩ := RdW.rd (T := tInt) (cs := [d2]) h2 g2
    obtain ⟨z3, h3, g3⟩ := hel 3 56 (by simp)
    rw [show Try.prog.cellsOf 56 = 1 by kernel_rfl] at h3
    obtain ⟨x3, r3, b3⟩ := RdW.rd (T := (tSl tMember)) (cs := [d3]) h3 g3
    obtain ⟨e0, o0⟩ := r0
    simp only [List.cons.injEq, and_true] at e0
    subst e0
    obtain ⟨e1, o1⟩ := r1
    simp only [List.cons.injEq, and_true] at e1
    subst e1
    obtain ⟨e2, o2⟩ := r2
    simp only [List.cons.injEq, and_true] at e2
    subst e2
    obtain ⟨sa3, sc3, e3, s3⟩ := r3
    simp only [List.cons.injEq, and_true] at e3
    subst e3
    exact ⟨⟨x0, x1, x2, x3⟩, ⟨sa3, sc3, rfl, s3, ⟨o0, o1, o2, trivial⟩⟩, ⟨b0, b1, b2, b3⟩⟩

structure GOp where
  kind : Int
  m : Member
  gen : Int
  now : Int
  most : Int
  deriving DecidableEq
def GOp.ok (x : GOp) : Prop := I64 x.kind ∧ x.m.ok ∧ I64 x.gen ∧ I64 x.now ∧ I64 x.most
def GOp.small (x : GOp) : Prop := True ∧ x.m.small ∧ True ∧ True ∧ True
def GOp.cs (x : GOp) (a0 : Option Addr) (c0 : Nat) (a1 : Option Addr) (c1 : Nat) : List Value := [.int .i64 x.kind, .string x.m.id, .string x.m.static, .slice a0 x.m.subs.length c0, .slice a1 x.m.own.length c1, .bool x.m.joined, .int .i64 x.m.beat, .int .i64 x.gen, .int .i64 x.now, .int .i64 x.most]
def tGOp : Ty GOp where
  sz := 10
  rep := fun h cs x => ∃ a0 c0 a1 c1, cs = x.cs a0 c0 a1 c1 ∧ (Sl tStr h a0 c0 x.m.subs ∧ Sl tTp h a1 c1 x.m.own) ∧ x.ok
  len := fun ⟨_, _, _, _, h, _⟩ => by rw [h]; rfl
  mono := fun hl ⟨a0, c0, a1, c1, h, ⟨s0, s1⟩, hk⟩ => ⟨a0, c0, a1, c1, h, ⟨s0.le hl, s1.le hl⟩, hk⟩
theorem GOp.one (k : PH) (cs : List Value) (x : GOp) (h : tGOp.rep k cs x) : ∀ u ∈ cs, u.oneCell' = true := by
  obtain ⟨_, _, _, _, h, _⟩ := h
  rw [h]
  simp [GOp.cs, Value.oneCell']
theorem GOp.parts {k : PH} {b off : Nat} {x : GOp} {a0 a1 : Option Addr} {c0 c1 : Nat} (h : Cells k b off (x.cs a0 c0 a1 c1)) : Cells k b (off + 0) [.int .i64 x.kind] ∧ Cells k b (off + 1) (x.m.cs a0 c0 a1 c1) ∧ Cells k b (off + 7) [.int .i64 x.gen] ∧ Cells k b (off + 8) [.int .i64 x.now] ∧ Cells k b (off + 9) [.int .i64 x.most] :=
  ⟨h.win (n := 1) 0 rfl, h.win (n := 6) 1 rfl, h.win (n := 1) 7 rfl, h.win (n := 1) 8 rfl, h.win (n := 1) 9 rfl⟩
instance : RdW Try.prog 85 tGOp GOp.small where
  one := by kernel_rfl
  rd := fun hr hw => by
    obtain ⟨hl, m, hel⟩ := struct_fields (fs := [(0, 3), (1, 62), (7, 3), (8, 3), (9, 3)]) Try.underlying85 (by kernel_rfl) hr hw
    obtain ⟨d0, d1, d2, d3, d4, d5, d6, d7, d8, d9, rfl⟩ := list10 (hl.trans (by kernel_rfl))
    obtain ⟨z0, h0, g0⟩ := hel 0 3 (by simp)
    rw [show Try.prog.cellsOf 3 = 1 by kernel_rfl] at h0
    obtain ⟨x0, r0, b0⟩ := RdW.rd (T := tInt) (cs := [d0]) h0 g0
    obtain ⟨z1, h1, g1⟩ := hel 1 62 (by simp)
    rw [show Try.prog.cellsOf 62 = 6 by kernel_rfl] at h1
    obtain ⟨x1, r1, b1⟩ := RdW.rd (T := tMember) (cs := [d1, d2, d3, d4, d5, d6]) h1 g1
    obtain ⟨z2, h2, g2⟩ := hel 7 3 (by simp)
    rw [show Try.prog.cellsOf 3 = 1 by kernel_rfl] at h2
    obtain ⟨x2, r2, b2⟩ := RdW.rd (T := tInt) (cs := [d7]) h2 g2
    obtain ⟨z3, h3, g3⟩ := hel 8 3 (by simp)
    rw [show Try.prog.cellsOf 3 = 1 by kernel_rfl] at h3
    obtain ⟨x3, r3, b3⟩ := RdW.rd (T := tInt) (cs := [d8]) h3 g3
    obtain ⟨z4, h4, g4⟩ := hel 9 3 (by simp)
    rw [show Try.prog.cellsOf 3 = 1 by kernel_rfl] at h4
    obtain ⟨x4, r4, b4⟩ := RdW.rd (T := tInt) (cs := [d9]) h4 g4
    obtain ⟨e0, o0⟩ := r0
    simp only [List.cons.injEq, and_true] at e0
    subst e0
    obtain ⟨sa1_0, sc1_0, sa1_1, sc1_1, e1, ⟨s1_0, s1_1⟩, o1⟩ := r1
    simp only [Member.cs, List.cons.injEq, and_true] at e1
    obtain ⟨rfl, rfl, rfl, rfl, rfl, rfl⟩ := e1
    obtain ⟨e2, o2⟩ := r2
    simp only [List.cons.injEq, and_true] at e2
    subst e2
    obtain ⟨e3, o3⟩ := r3
    simp only [List.cons.injEq, and_true] at e3
    subst e3
    obtain ⟨e4, o4⟩ := r4
    simp only [List.cons.injEq, and_true] at e4
    subst e4
    exact ⟨⟨x0, x1, x2, x3, x4⟩, ⟨sa1_0, sc1_0, sa1_1, sc1_1, rfl, ⟨s1_0, s1_1⟩, ⟨o0, o1, o2, o3, o4⟩⟩, ⟨b0, b1, b2, b3, b4⟩⟩
end Go.Wm
