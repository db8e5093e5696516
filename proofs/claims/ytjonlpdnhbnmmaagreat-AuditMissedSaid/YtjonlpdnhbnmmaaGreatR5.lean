/-
  Views, the document's: whether they may be, few, what is stable, whether a transaction is below. Conditions: that what is handed in reads as data.
-/
import Derived.RangeFuncBox
import Derived.RangeFuncFrom
import Derived.RangeFuncLeaves
import Derived.Shelf.Abstract
import Derived.WalkKit
import Derived.OwnWalkIn
import Derived.TacticsInMore
import Derived.LoopNIn
import Derived.LoopIn
import Derived.Test.YtjonlpdnhbnmmaaGreatProg
import Derived.Test.YtjonlpdnhbnmmaaGreatCoB
import Derived.Test.YtjonlpdnhbnmmaaGreatDat
set_option linter.all false
namespace Go.Proofs
open Go.RowKit Go.Shelf
attribute [local go_sem] Oper.semAt_some

def uptoN (f : Nat → Int) (k : Nat) : List Int := (List.range k).map f
theorem uptoN_succ (f : Nat → Int) (k : Nat) : uptoN f (k + 1) = uptoN f k ++ [f k] := by simp [uptoN, List.range_succ]
theorem uptoN_length (f : Nat → Int) (k : Nat) : (uptoN f k).length = k := by simp [uptoN]

set_option maxRecDepth 100000 in
set_option maxHeartbeats 2000000 in
theorem firsts1_in (F : Fence) (n : Nat) (h7 : F.fn 79) (hro : F.round = none) (hn : 1 ≤ n) (l Bs n₀ b off len cap : Nat) (a : Option Addr) (p f : Nat → Int) (hreach : len * 8 ≤ 140737488351232) (ha : 0 < len → a = some ⟨b, off, none⟩ ∧ b < n₀) (J Jx : List Int → World → Prop)
    (hJ : ∀ s W W' row, J s W → W.grownBy W' row → (∀ r, row = some r → False) → J s W')
    (hY : ∀ pre x W, J pre W → pre.length < len → YieldAt F (n - 1) Tryz.prog l #[.int .i64 x] W fun e W' =>
      (e = .returned (.bool true) ∧ J (pre ++ [x]) W' ∧ Below n₀ W W') ∨ (e = .returned (.bool false) ∧ Jx (pre ++ [x]) W'))
    (W : World) (hn₀ : n₀ ≤ W.heap.size) (hBs : W.cell? ⟨Bs, 0, none⟩ = some (.slice a len cap)) (hc : ∀ j, j < len → W.cell? ⟨b, off + j * 2, none⟩ = some (.int .i64 (p j)) ∧ W.cell? ⟨b, off + j * 2 + 1, none⟩ = some (.int .i64 (f j))) (h0 : J [] W) :
    CallsIn F n Tryz.prog 79 #[.func (.yield l) #[] #[], .pointer (some ⟨Bs, 0, none⟩)] W fun e W' => (∃ v, e = .returned v) ∧
      ((∃ ys, ys = uptoN f len ∧ J ys W') ∨ (∃ pre, (∃ k, k ≤ len ∧ pre = uptoN f k) ∧ Jx pre W')) := by
  refine callsIn_of_wp Tryz.func79 rfl h7 ?_ hro
  simp only [Tryz.ntmps79, List.size_toArray, List.length_cons, List.length_nil, Nat.reduceAdd, Nat.reduceSub, Array.replicate_succ, Array.replicate_zero, List.push_toArray, List.append_toArray, List.nil_append, List.cons_append]
  gi_wp2
  gi_loopw [7] (fun i wr => ∃ k : Nat, k ≤ len ∧ i = .int .i64 k ∧ J (uptoN f k) wr ∧ Below n₀ W wr)
    (fun i _ => len - (intOf i).toNat)
  case atStart => exact ⟨0, Nat.zero_le _, rfl, h0, Below.refl _ _⟩
  case round =>
    obtain ⟨k, hk, rfl, hJs, hnx⟩ := hrel
    by_cases hlt : k < len
    · obtain ⟨rfl, hb⟩ := ha (by omega)
      have hc1 : wr.cell? ⟨b, off + k * 2, none⟩ = some (.int .i64 (p k)) := (hnx.cell (p := ⟨b, off + k * 2, none⟩) hb).trans (hc k hlt).1
      have hc2 : wr.cell? ⟨b, off + k * 2 + 1, none⟩ = some (.int .i64 (f k)) := (hnx.cell (p := ⟨b, off + k * 2 + 1, none⟩) hb).trans (hc k hlt).2
      have hJ1 : J (uptoN f k) (wr.alloc (.cells #[.int .i64 (p k), .int .i64 (f k)] 72)) := hJ _ _ _ none hJs (World.grownBy_alloc wr _ none) (fun r e => by cases e)
      have hb1 : Below n₀ W (wr.alloc (.cells #[.int .i64 (p k), .int .i64 (f k)] 72)) := hnx.trans ((Below.refl n₀ wr).alloc (Nat.le_trans hn₀ hnx.size) _)
      obtain ⟨fn, tmps, assign, body, hy, hR⟩ := hY _ (f k) _ hJ1 (by rw [uptoN_length]; exact hlt)
      gi_wp2
      refine hR.mono ?_
      rintro e W3 (⟨rfl, hJ3, hk3⟩ | ⟨rfl, hJx3⟩)
      · gi_wp2
        go_roundw
        case rel => exact ⟨k + 1, by omega, by simp, by rw [uptoN_succ]; exact hJ3, hb1.trans hk3⟩
        case measure => simp [intOf]; omega
      · gi_wp2
        refine bodyPost_ret (results_none rfl _ _ _) rfl ?_
        exact ⟨⟨_, rfl⟩, .inr ⟨_, ⟨k + 1, by omega, (uptoN_succ _ _).symm⟩, hJx3⟩⟩
    · obtain rfl : k = len := by omega
      gi_wp2
      go_end0
      exact ⟨⟨_, rfl⟩, .inl ⟨_, rfl, hJs⟩⟩

theorem firsts_stops (F : Fence) (n : Nat) (h7 : F.fn 79) (hro : F.round = none) (hn : 1 ≤ n) (Bs n₀ b off len cap : Nat) (a : Option Addr) (p f : Nat → Int) (hreach : len * 8 ≤ 140737488351232) (ha : 0 < len → a = some ⟨b, off, none⟩ ∧ b < n₀) (w : World) (hB : Bs < w.heap.size) (hn₀ : n₀ ≤ w.heap.size)
    (hBs : w.cell? ⟨Bs, 0, none⟩ = some (.slice a len cap)) (hc : ∀ j, j < len → w.cell? ⟨b, off + j * 2, none⟩ = some (.int .i64 (p j)) ∧ w.cell? ⟨b, off + j * 2 + 1, none⟩ = some (.int .i64 (f j))) :
    SeqStopsK F n Tryz.prog 79 #[.pointer (some ⟨Bs, 0, none⟩)] (fun x : Int => #[Value.int .i64 x]) (Below n₀) (fun ys => ys = uptoN f len) (fun pre => ∃ k, k ≤ len ∧ pre = uptoN f k) len w := fun l J Jx W hW hJ _ hY h0 =>
  firsts1_in F n h7 hro hn l Bs n₀ b off len cap a p f hreach ha J Jx (fun s A B row hs hg hr => hJ s A B row hs hg (fun r e => (hr r e).elim)) hY W (Nat.le_trans hn₀ hW.size) ((hW.cell (p := ⟨Bs, 0, none⟩) hB).trans hBs) (fun j hj => by
    obtain ⟨_, hb⟩ := ha (by omega)
    have := hc j hj
    exact ⟨(hW.cell (p := ⟨b, off + j * 2, none⟩) (Nat.lt_of_lt_of_le hb hn₀)).trans this.1, (hW.cell (p := ⟨b, off + j * 2 + 1, none⟩) (Nat.lt_of_lt_of_le hb hn₀)).trans this.2⟩) h0

set_option maxRecDepth 100000 in
set_option maxHeartbeats 2000000 in
theorem lasts1_in (F : Fence) (n : Nat) (h7 : F.fn 90) (hro : F.round = none) (hn : 1 ≤ n) (l Bs n₀ b off len cap : Nat) (a : Option Addr) (p q r f : Nat → Int) (hreach : len * 8 ≤ 140737488351232) (ha : 0 < len → a = some ⟨b, off, none⟩ ∧ b < n₀) (J Jx : List Int → World → Prop)
    (hJ : ∀ s W W' row, J s W → W.grownBy W' row → (∀ r, row = some r → False) → J s W')
    (hY : ∀ pre x W, J pre W → pre.length < len → YieldAt F (n - 1) Tryz.prog l #[.int .i64 x] W fun e W' =>
      (e = .returned (.bool true) ∧ J (pre ++ [x]) W' ∧ Below n₀ W W') ∨ (e = .returned (.bool false) ∧ Jx (pre ++ [x]) W'))
    (W : World) (hn₀ : n₀ ≤ W.heap.size) (hBs : W.cell? ⟨Bs, 0, none⟩ = some (.slice a len cap)) (hc : ∀ j, j < len → W.cell? ⟨b, off + j * 4, none⟩ = some (.int .i64 (p j)) ∧ W.cell? ⟨b, off + j * 4 + 1, none⟩ = some (.int .i64 (q j)) ∧ W.cell? ⟨b, off + j * 4 + 2, none⟩ = some (.int .i64 (r j)) ∧ W.cell? ⟨b, off + j * 4 + 3, none⟩ = some (.int .i64 (f j))) (h0 : J [] W) :
    CallsIn F n Tryz.prog 90 #[.func (.yield l) #[] #[], .pointer (some ⟨Bs, 0, none⟩)] W fun e W' => (∃ v, e = .returned v) ∧
      ((∃ ys, ys = uptoN f len ∧ J ys W') ∨ (∃ pre, (∃ k, k ≤ len ∧ pre = uptoN f k) ∧ Jx pre W')) := by
  refine callsIn_of_wp Tryz.func90 rfl h7 ?_ hro
  simp only [Tryz.ntmps90, List.size_toArray, List.length_cons, List.length_nil, Nat.reduceAdd, Nat.reduceSub, Array.replicate_succ, Array.replicate_zero, List.push_toArray, List.append_toArray, List.nil_append, List.cons_append]
  gi_wp2
  gi_loopw [7] (fun i wr => ∃ k : Nat, k ≤ len ∧ i = .int .i64 k ∧ J (uptoN f k) wr ∧ Below n₀ W wr)
    (fun i _ => len - (intOf i).toNat)
  case atStart => exact ⟨0, Nat.zero_le _, rfl, h0, Below.refl _ _⟩
  case round =>
    obtain ⟨k, hk, rfl, hJs, hnx⟩ := hrel
    by_cases hlt : k < len
    · obtain ⟨rfl, hb⟩ := ha (by omega)
      have hc1 : wr.cell? ⟨b, off + k * 4, none⟩ = some (.int .i64 (p k)) := (hnx.cell (p := ⟨b, off + k * 4, none⟩) hb).trans (hc k hlt).1
      have hc2 : wr.cell? ⟨b, off + k * 4 + 1, none⟩ = some (.int .i64 (q k)) := (hnx.cell (p := ⟨b, off + k * 4 + 1, none⟩) hb).trans (hc k hlt).2.1
      have hc3 : wr.cell? ⟨b, off + k * 4 + 2, none⟩ = some (.int .i64 (r k)) := (hnx.cell (p := ⟨b, off + k * 4 + 2, none⟩) hb).trans (hc k hlt).2.2.1
      have hc4 : wr.cell? ⟨b, off + k * 4 + 3, none⟩ = some (.int .i64 (f k)) := (hnx.cell (p := ⟨b, off + k * 4 + 3, none⟩) hb).trans (hc k hlt).2.2.2
      have hJ1 : J (uptoN f k) (wr.alloc (.cells #[.int .i64 (p k), .int .i64 (q k), .int .i64 (r k), .int .i64 (f k)] 74)) := hJ _ _ _ none hJs (World.grownBy_alloc wr _ none) (fun r e => by cases e)
      have hb1 : Below n₀ W (wr.alloc (.cells #[.int .i64 (p k), .int .i64 (q k), .int .i64 (r k), .int .i64 (f k)] 74)) := hnx.trans ((Below.refl n₀ wr).alloc (Nat.le_trans hn₀ hnx.size) _)
      obtain ⟨fn, tmps, assign, body, hy, hR⟩ := hY _ (f k) _ hJ1 (by rw [uptoN_length]; exact hlt)
      gi_wp2
      refine hR.mono ?_
      rintro e W3 (⟨rfl, hJ3, hk3⟩ | ⟨rfl, hJx3⟩)
      · gi_wp2
        go_roundw
        case rel => exact ⟨k + 1, by omega, by simp, by rw [uptoN_succ]; exact hJ3, hb1.trans hk3⟩
        case measure => simp [intOf]; omega
      · gi_wp2
        refine bodyPost_ret (results_none rfl _ _ _) rfl ?_
        exact ⟨⟨_, rfl⟩, .inr ⟨_, ⟨k + 1, by omega, (uptoN_succ _ _).symm⟩, hJx3⟩⟩
    · obtain rfl : k = len := by omega
      gi_wp2
      go_end0
      exact ⟨⟨_, rfl⟩, .inl ⟨_, rfl, hJs⟩⟩

theorem lasts_stops (F : Fence) (n : Nat) (h7 : F.fn 90) (hro : F.round = none) (hn : 1 ≤ n) (Bs n₀ b off len cap : Nat) (a : Option Addr) (p q r f : Nat → Int) (hreach : len * 8 ≤ 140737488351232) (ha : 0 < len → a = some ⟨b, off, none⟩ ∧ b < n₀) (w : World) (hB : Bs < w.heap.size) (hn₀ : n₀ ≤ w.heap.size)
    (hBs : w.cell? ⟨Bs, 0, none⟩ = some (.slice a len cap)) (hc : ∀ j, j < len → w.cell? ⟨b, off + j * 4, none⟩ = some (.int .i64 (p j)) ∧ w.cell? ⟨b, off + j * 4 + 1, none⟩ = some (.int .i64 (q j)) ∧ w.cell? ⟨b, off + j * 4 + 2, none⟩ = some (.int .i64 (r j)) ∧ w.cell? ⟨b, off + j * 4 + 3, none⟩ = some (.int .i64 (f j))) :
    SeqStopsK F n Tryz.prog 90 #[.pointer (some ⟨Bs, 0, none⟩)] (fun x : Int => #[Value.int .i64 x]) (Below n₀) (fun ys => ys = uptoN f len) (fun pre => ∃ k, k ≤ len ∧ pre = uptoN f k) len w := fun l J Jx W hW hJ _ hY h0 =>
  lasts1_in F n h7 hro hn l Bs n₀ b off len cap a p q r f hreach ha J Jx (fun s A B row hs hg hr => hJ s A B row hs hg (fun r e => (hr r e).elim)) hY W (Nat.le_trans hn₀ hW.size) ((hW.cell (p := ⟨Bs, 0, none⟩) hB).trans hBs) (fun j hj => by
    obtain ⟨_, hb⟩ := ha (by omega)
    have := hc j hj
    exact ⟨(hW.cell (p := ⟨b, off + j * 4, none⟩) (Nat.lt_of_lt_of_le hb hn₀)).trans this.1, (hW.cell (p := ⟨b, off + j * 4 + 1, none⟩) (Nat.lt_of_lt_of_le hb hn₀)).trans this.2.1, (hW.cell (p := ⟨b, off + j * 4 + 2, none⟩) (Nat.lt_of_lt_of_le hb hn₀)).trans this.2.2.1, (hW.cell (p := ⟨b, off + j * 4 + 3, none⟩) (Nat.lt_of_lt_of_le hb hn₀)).trans this.2.2.2⟩) h0
end Go.Proofs
namespace Go.Proofs
open Go.RowKit Go.Shelf
attribute [local go_sem] Oper.semAt_some

theorem cellN_box {W : World} {B : Nat} {v : Value} {t : TypeId} (h : W.heap[B]? = some (.cells #[v] t (0, 0))) : W.cell? ⟨B, 0, none⟩ = some v ∧ W.frozen? ⟨B, 0, none⟩ = false := by
  constructor <;> simp [World.cell?, World.frozen?, h]
theorem cellN_new (W : World) (v : Value) (t : TypeId) : (W.alloc (.cells #[v] t)).cell? ⟨W.heap.size, 0, none⟩ = some v ∧ (W.alloc (.cells #[v] t)).frozen? ⟨W.heap.size, 0, none⟩ = false :=
  cellN_box (World.alloc_heap_new W _)
theorem cellN_alloc {W : World} {a : Addr} {v : Value} (o : Obj) (h : W.cell? a = some v) : (W.alloc o).cell? a = some v := cell_kept h (World.grownBy_alloc W o none) (fun r e => by cases e)
theorem frozenN_alloc {W : World} {a : Addr} {v : Value} (o : Obj) (h : W.cell? a = some v) (hf : W.frozen? a = false) : (W.alloc o).frozen? a = false := (frozen_kept h (World.grownBy_alloc W o none) (fun r e => by cases e)).trans hf

set_option maxHeartbeats 1000000 in
theorem firsts_in (F : Fence) (n : Nat) (h5 : F.fn 48) (hro : F.round = none) (a : Option Addr) (len cap : Nat) (w : World) :
    CallsIn F n Tryz.prog 48 #[.slice a len cap] w fun e w' => e = .returned (.func (.func 79) #[] #[.pointer (some ⟨w.heap.size, 0, none⟩)]) ∧ w' = w.alloc (.cells #[.slice a len cap] 22) := by
  refine callsIn_of_wp Tryz.func48 rfl h5 ?_ hro
  simp only [Tryz.ntmps48, List.size_toArray, List.length_cons, List.length_nil, Nat.reduceAdd, Nat.reduceSub, Array.replicate_succ, Array.replicate_zero, List.push_toArray, List.append_toArray, List.nil_append, List.cons_append]
  gi_wp2
  go_ret
  exact ⟨rfl, rfl⟩
def minsL (h : Int) (l : List Int) : Int := l.foldl (fun a x => if x < a then x else a) h
theorem minsL_snoc (h : Int) (l : List Int) (x : Int) : minsL h (l ++ [x]) = if x < minsL h l then x else minsL h l := by
  unfold minsL
  rw [List.foldl_append]
  rfl
set_option maxRecDepth 100000 in
set_option maxHeartbeats 2000000 in
theorem stable_in (F : Fence) (n : Nat) (h3 : F.fn 15) (h5 : F.fn 48) (h6 : F.fn 79) (hro : F.round = none) (hn : 3 ≤ n) (b off len cap : Nat) (a : Option Addr) (v1 v2 : Value) (p f : Nat → Int) (high : Int) (w : World) (hreach : len * 8 ≤ 140737488351232) (ha : 0 < len → a = some ⟨b, off, none⟩ ∧ b < w.heap.size)
    (hc : ∀ j, j < len → w.cell? ⟨b, off + j * 2, none⟩ = some (.int .i64 (p j)) ∧ w.cell? ⟨b, off + j * 2 + 1, none⟩ = some (.int .i64 (f j))) :
    CallsIn F n Tryz.prog 15 #[.agg #[.slice a len cap, v1, v2], .int .i64 high] w fun e w' => e = .returned (.int .i64 (minsL high (uptoN f len))) ∧ Below w.heap.size w w' := by
  have h1 : 1 ≤ n := by omega
  refine callsIn_of_wp_marks Tryz.func15 rfl h3 ?_ hro
  simp only [Tryz.ntmps15, List.size_toArray, List.length_cons, List.length_nil, Nat.reduceAdd, Nat.reduceSub, Array.replicate_succ, Array.replicate_zero, List.push_toArray, List.append_toArray, List.nil_append, List.cons_append]
  gi_wp2_with (gi_at_call 48; refine (firsts_in F (n - 1) h5 hro _ _ _ _).mono ?_; rintro e w' ⟨rfl, rfl⟩)
  have cs := cellN_new (w.alloc (.cells #[.slice a len cap, v1, v2] 25)) (.int .i64 high) 3
  have cb := cellN_new ((w.alloc (.cells #[.slice a len cap, v1, v2] 25)).alloc (.cells #[.int .i64 high] 3)) (.slice a len cap) 22
  simp only [World.size_alloc] at cs cb
  have hB0 : Below w.heap.size w (((w.alloc (.cells #[.slice a len cap, v1, v2] 25)).alloc (.cells #[.int .i64 high] 3)).alloc (.cells #[.slice a len cap] 22)) := (((Below.refl _ w).alloc (Nat.le_refl _) _).alloc (by simp) _).alloc (by simp; omega) _
  refine wpIn_rangeFunc_ownF hro h1 (gf := 79) (lb := #[.pointer (some ⟨w.heap.size + 1 + 1, 0, none⟩)]) rfl h6 (enters_of Tryz.func79 (by kernel_rfl) rfl)
    (firsts_stops F (n - 1) h6 hro (by omega) (w.heap.size + 1 + 1) w.heap.size b off len cap a p f hreach ha _ (by simp) (by simp; omega) cb.1 (fun j hj => by
      obtain ⟨_, hb⟩ := ha (by omega)
      have := hc j hj
      exact ⟨(hB0.cell (p := ⟨b, off + j * 2, none⟩) hb).trans this.1, (hB0.cell (p := ⟨b, off + j * 2 + 1, none⟩) hb).trans this.2⟩)) belowK_t (belowK_b (by simp; omega)) (Below.refl _ _) (fun _ => rfl)
    (fun pre W => (W.cell? ⟨w.heap.size + 1, 0, none⟩ = some (.int .i64 (minsL high pre)) ∧ W.frozen? ⟨w.heap.size + 1, 0, none⟩ = false) ∧ Below w.heap.size w W)
    (fun _ _ _ => False)
    (OwnFrom.and (Own.from (fun s A B row hs hg hr => ⟨cell_kept hs.1 hg hr, (frozen_kept hs.1 hg hr).trans hs.2⟩) _) (ownFrom_below (Nat.le_refl _) (by simp; omega)))
    (fun _ _ _ _ _ hs _ _ => hs)
    ⟨⟨cellN_alloc _ cs.1, frozenN_alloc _ cs.1 cs.2⟩, hB0⟩
    (fun x => { tmps := #[.agg #[.slice a len cap, v1, v2], .int .i64 high, .pointer (some ⟨w.heap.size, 0, none⟩), .pointer (some ⟨w.heap.size + 1, 0, none⟩), .int .i64 0, .int .i64 x, .pointer (some ⟨w.heap.size, 0, none⟩), .slice a len cap, .func (.func 79) #[] #[.pointer (some ⟨w.heap.size + 1 + 1, 0, none⟩)], .int .i64 x, undef, undef, undef, undef], defers := [] }) ?assign ?body ?done ?stop
  case assign =>
    intro l x W K hK
    gi_wp2
    exact hK
  case body =>
    rintro l pre x W ⟨⟨hc, hf⟩, hB⟩ _
    gi_wp2
    all_goals exact ⟨KeepsOthers.setCell _ _ _, (Below.refl w.heap.size W).setCell (p := ⟨w.heap.size + 1, 0, none⟩) (by simp) _, ⟨by rw [minsL_snoc]; first | (rw [if_pos (by omega)]; exact World.cell?_setCell_same' _ _ _ (by rw [hc]; rfl)) | (rw [if_neg (by omega)]; exact World.cell?_setCell_same' _ _ _ (by rw [hc]; rfl)), by rw [World.frozen?_setCell]; exact hf⟩, hB.setCell (p := ⟨w.heap.size + 1, 0, none⟩) (by simp) _⟩
  case done =>
    rintro D ys W hD rfl ⟨⟨hc, _⟩, hB⟩ hK
    gi_wp2
    refine ⟨by simp, .inl ⟨_, _, rfl, run_takeDeferred hK, ?_⟩⟩
    exact ⟨_, results_tmp rfl _ _ _, rfl, hB.trans (belowK_b (w := w) (Nat.le_refl _) W D _ _ (by simp at hD; omega) hK rfl rfl)⟩
  case stop =>
    rintro D c pre W _ _ h _
    exact h.elim
end Go.Proofs
namespace Go.Proofs
open Go.RowKit Go.Shelf
attribute [local go_sem] Oper.semAt_some

def risesFrom (m : Int) : List Int → Bool
  | [] => true
  | x :: r => decide (m < x) && risesFrom x r
theorem rises_append : ∀ (a b : List Int) (m : Int), risesFrom m (a ++ b) = (risesFrom m a && risesFrom (a.getLast?.getD m) b)
  | [], b, m => by simp [risesFrom]
  | x :: a, b, m => by
    simp only [List.cons_append, risesFrom]
    rw [rises_append a b x, Bool.and_assoc]
    cases a with
    | nil => simp
    | cons y a => simp [List.getLast?_cons]
theorem upto_prefix (f : Nat → Int) {k n : Nat} (h : k ≤ n) : ∃ r, uptoN f n = uptoN f k ++ r := by
  refine ⟨((List.range n).drop k).map f, ?_⟩
  unfold uptoN
  rw [← List.map_append]
  congr 1
  have : List.range k = (List.range n).take k := by
    apply List.ext_getElem
    · simp; omega
    · intro i h1 h2; simp
  rw [this, List.take_append_drop]

set_option maxRecDepth 100000 in
set_option maxHeartbeats 2000000 in
theorem rises_in (F : Fence) (n : Nat) (h3 : F.fn 71) (h6 : F.fn 90) (hro : F.round = none) (hn : 3 ≤ n) (Bs b off len cap : Nat) (a : Option Addr) (p q r f : Nat → Int) (w : World) (hreach : len * 8 ≤ 140737488351232) (ha : 0 < len → a = some ⟨b, off, none⟩ ∧ b < w.heap.size) (hB : Bs < w.heap.size)
    (hBs : w.cell? ⟨Bs, 0, none⟩ = some (.slice a len cap))
    (hc : ∀ j, j < len → w.cell? ⟨b, off + j * 4, none⟩ = some (.int .i64 (p j)) ∧ w.cell? ⟨b, off + j * 4 + 1, none⟩ = some (.int .i64 (q j)) ∧ w.cell? ⟨b, off + j * 4 + 2, none⟩ = some (.int .i64 (r j)) ∧ w.cell? ⟨b, off + j * 4 + 3, none⟩ = some (.int .i64 (f j))) :
    CallsIn F n Tryz.prog 71 #[.func (.func 90) #[] #[.pointer (some ⟨Bs, 0, none⟩)]] w fun e w' => e = .returned (.bool (risesFrom (-1) (uptoN f len))) ∧ Below w.heap.size w w' := by
  have h1 : 1 ≤ n := by omega
  refine callsIn_of_wp_marks Tryz.func71 rfl h3 ?_ hro
  simp only [Tryz.ntmps71, List.size_toArray, List.length_cons, List.length_nil, Nat.reduceAdd, Nat.reduceSub, Array.replicate_succ, Array.replicate_zero, List.push_toArray, List.append_toArray, List.nil_append, List.cons_append]
  gi_wp2
  have c1 := cellN_new w (.bool false) 4
  have c2 := cellN_new (w.alloc (.cells #[.bool false] 4)) (.int .i64 (-1)) 3
  simp only [World.size_alloc] at c2
  have hB0 : Below w.heap.size w ((w.alloc (.cells #[.bool false] 4)).alloc (.cells #[.int .i64 (-1)] 3)) := ((Below.refl _ w).alloc (Nat.le_refl _) _).alloc (by simp) _
  refine wpIn_rangeFunc_ownF hro h1 (gf := 90) (lb := #[.pointer (some ⟨Bs, 0, none⟩)]) rfl h6 (enters_of Tryz.func90 (by kernel_rfl) rfl)
    (lasts_stops F (n - 1) h6 hro (by omega) Bs w.heap.size b off len cap a p q r f hreach ha _ (by simp; omega) (by simp; omega) ((hB0.cell (p := ⟨Bs, 0, none⟩) hB).trans hBs) (fun j hj => by
      obtain ⟨_, hb⟩ := ha (by omega)
      have := hc j hj
      exact ⟨(hB0.cell (p := ⟨b, off + j * 4, none⟩) hb).trans this.1, (hB0.cell (p := ⟨b, off + j * 4 + 1, none⟩) hb).trans this.2.1, (hB0.cell (p := ⟨b, off + j * 4 + 2, none⟩) hb).trans this.2.2.1, (hB0.cell (p := ⟨b, off + j * 4 + 3, none⟩) hb).trans this.2.2.2⟩)) belowK_t (belowK_b (by simp; omega)) (Below.refl _ _) (fun _ => rfl)
    (fun pre W => (risesFrom (-1) pre = true ∧ W.cell? ⟨w.heap.size + 1, 0, none⟩ = some (.int .i64 (pre.getLast?.getD (-1))) ∧ W.frozen? ⟨w.heap.size + 1, 0, none⟩ = false ∧ W.cell? ⟨w.heap.size, 0, none⟩ = some (.bool false) ∧ W.frozen? ⟨w.heap.size, 0, none⟩ = false) ∧ Below w.heap.size w W)
    (fun c pre W => (c = .ret ∧ risesFrom (-1) pre = false ∧ W.cell? ⟨w.heap.size, 0, none⟩ = some (.bool false)) ∧ Below w.heap.size w W)
    (OwnFrom.and (Own.from (fun s A B row hs hg hr => ⟨hs.1, cell_kept hs.2.1 hg hr, (frozen_kept hs.2.1 hg hr).trans hs.2.2.1, cell_kept hs.2.2.2.1 hg hr, (frozen_kept hs.2.2.2.1 hg hr).trans hs.2.2.2.2⟩) _) (ownFrom_below (Nat.le_refl _) (by simp; omega)))
    (fun c => OwnFrom.and (Own.from (fun s A B row hs hg hr => ⟨hs.1, hs.2.1, cell_kept hs.2.2 hg hr⟩) _) (ownFrom_below (Nat.le_refl _) (by simp; omega)))
    ⟨⟨rfl, c2.1, c2.2, cellN_alloc _ c1.1, frozenN_alloc _ c1.1 c1.2⟩, hB0⟩
    (fun x => { tmps := #[.func (.func 90) #[] #[.pointer (some ⟨Bs, 0, none⟩)], undef, .pointer (some ⟨w.heap.size, 0, none⟩), .pointer (some ⟨w.heap.size + 1, 0, none⟩), .int .i64 x, .func (.func 90) #[] #[.pointer (some ⟨Bs, 0, none⟩)], .int .i64 x, undef, undef, undef, undef], defers := [] }) ?assign ?body ?done ?stop
  case assign =>
    intro l x W K hK
    gi_wp2
    exact hK
  case body =>
    rintro l pre x W ⟨⟨hr, hl, hlf, hcr, hfr⟩, hB⟩ _
    gi_wp2
    · rename_i hx
      exact ⟨KeepsOthers.setCell _ _ _, ⟨rfl, by rw [rises_append, hr]; simp [risesFrom]; omega, World.cell?_setCell_same' _ _ _ (by rw [hcr]; rfl)⟩, hB.setCell (p := ⟨w.heap.size, 0, none⟩) (by simp) _⟩
    · rename_i hx
      exact ⟨KeepsOthers.setCell _ _ _, (Below.refl w.heap.size W).setCell (p := ⟨w.heap.size + 1, 0, none⟩) (by simp) _, ⟨by rw [rises_append, hr]; simp [risesFrom]; omega, by rw [List.getLast?_concat]; exact World.cell?_setCell_same' _ _ _ (by rw [hl]; rfl), by rw [World.frozen?_setCell]; exact hlf, (World.cell?_of_block (Below.heap_setCell W _ _ w.heap.size (by simp))).trans hcr, by rw [World.frozen?_setCell]; exact hfr⟩, hB.setCell (p := ⟨w.heap.size + 1, 0, none⟩) (by simp) _⟩
  case done =>
    rintro D ys W hD rfl ⟨⟨hr, _, _, hcr, hfr⟩, hB⟩ hK
    gi_wp2
    have hK' := (KeepsOthers.setCell W ⟨w.heap.size, 0, none⟩ (.bool true)).same D _ hK rfl
    refine ⟨by simp, .inl ⟨_, _, rfl, run_takeDeferred hK', ?_⟩⟩
    have hc5 := cell_kept (World.cell?_setCell_same' W ⟨w.heap.size, 0, none⟩ (.bool true) (by rw [hcr]; rfl)) (grownBy_putObj' _ D (.deferred none)) (fun r e => by cases e; exact ⟨_, hK', rfl⟩)
    refine ⟨.bool true, ?_, by rw [hr], (hB.setCell (p := ⟨w.heap.size, 0, none⟩) (by simp) _).trans (belowK_b (w := w) (Nat.le_refl _) _ D _ _ (by simp at hD; omega) hK' rfl rfl)⟩
    simp [results, Tryz.f71, go_sem, hc5]
  case stop =>
    rintro D c pre W hD hpre ⟨⟨rfl, hin, hcr⟩, hB⟩ hK
    gi_wp2
    refine ⟨by simp, .inl ⟨_, _, rfl, run_takeDeferred hK, ?_⟩⟩
    have hc5 := cell_kept hcr (grownBy_putObj' _ D (.deferred none)) (fun r e => by cases e; exact ⟨_, hK, rfl⟩)
    obtain ⟨k, hk, rfl⟩ := hpre
    obtain ⟨rr, hrr⟩ := upto_prefix f hk
    refine ⟨.bool false, ?_, by rw [hrr, rises_append, hin, Bool.false_and], hB.trans (belowK_b (w := w) (Nat.le_refl _) W D _ _ (by simp at hD; omega) hK rfl rfl)⟩
    simp [results, Tryz.f71, go_sem, hc5]
end Go.Proofs
namespace Go.Proofs
open Go.RowKit Go.Shelf
attribute [local go_sem] Oper.semAt_some

theorem leaves_all {F : Fence} {n : Nat} {P : Program} {fn : Func} {tmps : Array Value} {R : Ending → World → Prop} (J : World → Prop) : ∀ (ds : List Nat) (W : World), ds.Nodup → (∀ D ∈ ds, W.heap[D]? = some (.deferred (some []))) → J W →
    (∀ W D, D ∈ ds → J W → W.heap[D]? = some (.deferred (some [])) → J (W.putObj D (.deferred none))) → (∀ W, J W → LeavesIn F n P fn tmps R [] .returning W) →
    LeavesInM F n P fn tmps R (ds.map fun D => { target := .collected D, args := #[] }) .returning W
  | [], W, _, _, hJ, _, h => h W hJ
  | D :: ds, W, hn, hD, hJ, hp, h => by
    have h0 := hD D (by simp)
    refine ⟨by simp, .inl ⟨_, _, rfl, run_takeDeferred h0, ?_⟩⟩
    rw [List.nodup_cons] at hn
    refine leaves_all J ds _ hn.2 (fun D' hD' => ?_) (hp W D (by simp) hJ h0) (fun W D' hD' => hp W D' (by simp [hD'])) h
    have hne : D' ≠ D := fun e => hn.1 (e ▸ hD')
    rw [← hD D' (by simp [hD'])]
    have hg := grownBy_putObj' W D (.deferred none)
    exact hg.block D' (Array.getElem?_eq_some_iff.1 (hD D' (by simp [hD']))).1 (fun e => hne (by cases e; rfl))

set_option maxRecDepth 100000 in
set_option maxHeartbeats 2000000 in
theorem behind_in (F : Fence) (n : Nat) (h3 : F.fn 61) (hro : F.round = none) (hn : 3 ≤ n) (base : Int) (ba o : Nat) (gf : Nat → Nat) (Bs : Nat → Nat) (ys : Nat → List Int) (Sp : Nat → List Int → Prop) (w : World) (hba : ba < w.heap.size)
    (hall : ∀ j, j < 3 → w.cell? ⟨ba, o + j, none⟩ = some (.func (.func (gf j)) #[] #[.pointer (some ⟨Bs j, 0, none⟩)])) (hgf : ∀ j, j < 3 → F.fn (gf j)) (hent : ∀ j, j < 3 → ∀ args w, (callFunc (gf j) args).run Tryz.prog w = .ok (.enter (gf j) args) w)
    (hSp : ∀ j pre, j < 3 → Sp j pre → ∃ r, ys j = pre ++ r)
    (hseq : ∀ j, j < 3 → ∀ w1, Below w.heap.size w w1 → SeqStopsK F (n - 1) Tryz.prog (gf j) #[.pointer (some ⟨Bs j, 0, none⟩)] (fun x : Int => #[Value.int .i64 x]) (Below w.heap.size) (fun xs => xs = ys j) (Sp j) (ys j).length w1) :
    CallsIn F n Tryz.prog 61 #[.int .i64 base, .slice (some ⟨ba, o, none⟩) 3 3] w fun e w' => e = .returned (.bool ((List.range 3).all fun j => (ys j).all fun x => decide (x < base))) ∧ Below w.heap.size w w' := by
  have h1 : 1 ≤ n := by omega
  obtain ⟨res, hres⟩ : ∃ res, res = (List.range 3).all fun j => (ys j).all fun x => decide (x < base) := ⟨_, rfl⟩
  rw [← hres]
  refine callsIn_of_wp_marks Tryz.func61 rfl h3 ?_ hro
  simp only [Tryz.ntmps61, List.size_toArray, List.length_cons, List.length_nil, Nat.reduceAdd, Nat.reduceSub, Array.replicate_succ, Array.replicate_zero, List.push_toArray, List.append_toArray, List.nil_append, List.cons_append]
  gi_wp2
  have hB0 : Below w.heap.size w ((w.alloc (.cells #[.int .i64 base] 3)).alloc (.cells #[.bool false] 4)) := ((Below.refl _ w).alloc (Nat.le_refl _) _).alloc (by simp) _
  have c1 := cellN_new w (.int .i64 base) 3
  have c2 := cellN_new (w.alloc (.cells #[.int .i64 base] 3)) (.bool false) 4
  simp only [World.size_alloc] at c2
  refine wpIn_loop (fun a' w' => ∃ (i : Nat) (ds : List Nat) (u6 u7 u11 u12 u13 u14 u15 u16 u17 u18 u19 : Value), i ≤ 3 ∧ (∀ j, j < i → ∀ x ∈ ys j, x < base) ∧ ds.Nodup ∧ (∀ D ∈ ds, w.heap.size + 2 ≤ D ∧ w'.heap[D]? = some (.deferred (some []))) ∧
      (w'.cell? ⟨w.heap.size, 0, none⟩ = some (.int .i64 base) ∧ w'.cell? ⟨w.heap.size + 1, 0, none⟩ = some (.bool false) ∧ w'.frozen? ⟨w.heap.size + 1, 0, none⟩ = false ∧ w.heap.size + 2 ≤ w'.heap.size) ∧ Below w.heap.size w w' ∧
      a' = { tmps := #[.int .i64 base, .slice (some ⟨ba, o, none⟩) 3 3, .pointer (some ⟨w.heap.size, 0, none⟩), undef, .pointer (some ⟨w.heap.size + 1, 0, none⟩), undef, u6, u7, .slice (some ⟨ba, o, none⟩) 3 3, .int .i64 3, .int .i64 (i : Int), u11, u12, u13, u14, u15, u16, u17, u18, u19], defers := ds.map fun D => { target := .collected D, args := #[] } })
    (fun a' _ => 3 - (intOf (a'.tmps.getD 10 undef)).toNat) ⟨0, [], _, _, _, _, _, _, _, _, _, _, _, Nat.zero_le _, fun j hj => by omega, by simp, fun D hD => by simp at hD, ⟨cellN_alloc _ c1.1, c2.1, c2.2, by simp⟩, hB0, rfl⟩ ?_
  rintro a' w' ⟨i, ds, u6, u7, u11, u12, u13, u14, u15, u16, u17, u18, u19, hi, hys, hnd, hds, ⟨hcb, hcr, hfr, hsz⟩, hB, rfl⟩
  by_cases hlt : i < 3
  · have hcell := (hB.cell (p := ⟨ba, o + i, none⟩) hba).trans (hall i hlt)
    gi_wp2
    have hown : OwnFrom w'.heap.size (fun (_ : List Int) (W : World) => ∀ D ∈ ds, W.heap[D]? = some (.deferred (some []))) := fun s A B row hs hg hr D hD => by
      have h0 := hs D hD
      rw [hg.block D (Array.getElem?_eq_some_iff.1 h0).1 (fun e => ?_)]
      · exact h0
      · obtain ⟨hr1, _⟩ := hr D e.symm
        have := (Array.getElem?_eq_some_iff.1 (hds D hD).2).1
        omega
    refine wpIn_rangeFunc_ownF hro h1 (gf := gf i) (lb := #[.pointer (some ⟨Bs i, 0, none⟩)]) rfl (hgf i hlt) (hent i hlt) (hseq i hlt w' hB) belowK_t (belowK_b (n₀ := w.heap.size) hB.size) (Below.refl _ _) (fun _ => rfl)
      (fun pre W => ((∀ x ∈ pre, x < base) ∧ W.cell? ⟨w.heap.size, 0, none⟩ = some (.int .i64 base) ∧ W.cell? ⟨w.heap.size + 1, 0, none⟩ = some (.bool false) ∧ W.frozen? ⟨w.heap.size + 1, 0, none⟩ = false) ∧ ((∀ D ∈ ds, W.heap[D]? = some (.deferred (some []))) ∧ (Below w.heap.size w W ∧ w'.heap.size ≤ W.heap.size)))
      (fun c pre W => (c = .ret ∧ (∃ x ∈ pre, ¬ x < base) ∧ W.cell? ⟨w.heap.size + 1, 0, none⟩ = some (.bool false)) ∧ ((∀ D ∈ ds, W.heap[D]? = some (.deferred (some []))) ∧ Below w.heap.size w W))
      (OwnFrom.and (Own.from (fun s A B row hs hg hr => ⟨hs.1, cell_kept hs.2.1 hg hr, cell_kept hs.2.2.1 hg hr, (frozen_kept hs.2.2.1 hg hr).trans hs.2.2.2⟩) _) (OwnFrom.and hown (OwnFrom.and (ownFrom_below (Nat.le_refl _) (by omega)) (fun s A B row hs hg hr => Nat.le_trans hs hg.size))))
      (fun c => OwnFrom.and (Own.from (fun s A B row hs hg hr => ⟨hs.1, hs.2.1, cell_kept hs.2.2 hg hr⟩) _) (OwnFrom.and hown (ownFrom_below (Nat.le_refl _) (by omega))))
      ⟨⟨fun x hx => by simp at hx, hcb, hcr, hfr⟩, fun D hD => (hds D hD).2, hB, Nat.le_refl _⟩
      (fun x => { tmps := #[.int .i64 base, .slice (some ⟨ba, o, none⟩) 3 3, .pointer (some ⟨w.heap.size, 0, none⟩), undef, .pointer (some ⟨w.heap.size + 1, 0, none⟩), undef, .func (.func (gf i)) #[] #[.pointer (some ⟨Bs i, 0, none⟩)], .int .i64 x, .slice (some ⟨ba, o, none⟩) 3 3, .int .i64 3, .int .i64 (i : Int), .bool true, .pointer (some ⟨ba, o + i, none⟩), .func (.func (gf i)) #[] #[.pointer (some ⟨Bs i, 0, none⟩)], .func (.func (gf i)) #[] #[.pointer (some ⟨Bs i, 0, none⟩)], .int .i64 x, u16, u17, u18, u19], defers := [] }) ?assign ?body ?done ?stop
    case assign =>
      intro l x W K hK
      gi_wp2
      exact hK
    case body =>
      rintro l pre x W ⟨⟨hp, hcb, hcr, hfr⟩, hD, hB2, hsz2⟩ _
      gi_wp2
      · exact ⟨KeepsOthers.setCell _ _ _, ⟨rfl, ⟨x, by simp, by omega⟩, World.cell?_setCell_same' _ _ _ (by rw [hcr]; rfl)⟩, fun D hDm => by rw [← hD D hDm]; exact Below.heap_setCell _ _ _ _ (by simp; have := (hds D hDm).1; omega), hB2.setCell (p := ⟨w.heap.size + 1, 0, none⟩) (by simp) _⟩
      · refine ⟨KeepsOthers.refl _, Below.refl _ _, ⟨fun y hy => ?_, hcb, hcr, hfr⟩, hD, hB2, hsz2⟩
        rcases List.mem_append.1 hy with hy | hy
        · exact hp y hy
        · simp at hy; subst hy; omega
    case done =>
      rintro D xs W hDl rfl ⟨⟨hp, hcb, hcr, hfr⟩, hD, hB2, hsz2⟩ hK
      gi_wp2
      have hDn : D ∉ ds := fun h => by have := (Array.getElem?_eq_some_iff.1 (hds D h).2).1; omega
      refine ⟨⟨i + 1, D :: ds, _, _, _, _, _, _, _, _, _, _, _, by omega, fun j hj => ?_, List.nodup_cons.2 ⟨hDn, hnd⟩, fun D' hD' => ?_, ⟨hcb, hcr, hfr, by omega⟩, hB2, by rfl⟩, ?_⟩
      · by_cases e : j = i
        · subst e; exact hp
        · exact hys j (by omega)
      · rcases List.mem_cons.1 hD' with rfl | hD'
        · exact ⟨by omega, hK⟩
        · exact ⟨(hds D' hD').1, hD D' hD'⟩
      · simp [intOf]; omega
    case stop =>
      rintro D c pre W hDl hpre ⟨⟨rfl, ⟨x, hx, hxb⟩, hcr⟩, hD, hB2⟩ hK
      obtain ⟨r, hr⟩ := hSp i pre hlt hpre
      have hall0 : ((List.range 3).all fun j => (ys j).all fun x => decide (x < base)) = false := by
        rw [List.all_eq_false]
        refine ⟨i, by simpa using hlt, ?_⟩
        simp only [List.all_eq_true, decide_eq_true_eq]
        exact fun h => hxb (h x (by rw [hr]; simp [hx]))
      rw [hall0] at hres
      gi_wp2
      have hDn : D ∉ ds := fun h => by have := (Array.getElem?_eq_some_iff.1 (hds D h).2).1; omega
      refine leaves_all (fun W => W.cell? ⟨w.heap.size + 1, 0, none⟩ = some (.bool false) ∧ Below w.heap.size w W) (D :: ds) _ (List.nodup_cons.2 ⟨hDn, hnd⟩) (fun D' hD' => ?_) ⟨hcr, hB2⟩ (fun W D' hD' ⟨h2, h3⟩ hK => ⟨cell_kept h2 (grownBy_putObj' _ D' (.deferred none)) (fun r e => by cases e; exact ⟨_, hK, rfl⟩), h3.trans (belowK_b (w := w) (Nat.le_refl _) W D' _ _ ?_ hK rfl rfl)⟩) ?_
      · rcases List.mem_cons.1 hD' with rfl | hD'
        · exact hK
        · exact hD D' hD'
      · rcases List.mem_cons.1 hD' with rfl | hD'
        · omega
        · have := (hds D' hD').1; omega
      · rintro W ⟨hc5, hB5⟩
        refine ⟨.bool false, ?_, by first | rfl | rw [hres], hB5⟩
        simp [results, Tryz.f61, go_sem, hc5]
  · have : i = 3 := by omega
    subst this
    gi_wp2
    refine leaves_all (fun W => W.cell? ⟨w.heap.size + 1, 0, none⟩ = some (.bool true) ∧ Below w.heap.size w W) ds _ hnd (fun D hD => ?_) ⟨World.cell?_setCell_same' _ _ _ (by rw [hcr]; rfl), hB.setCell (p := ⟨w.heap.size + 1, 0, none⟩) (by simp) _⟩ (fun W D hD ⟨h2, h3⟩ hK => ⟨cell_kept h2 (grownBy_putObj' _ D (.deferred none)) (fun r e => by cases e; exact ⟨_, hK, rfl⟩), h3.trans (belowK_b (w := w) (Nat.le_refl _) W D _ _ (by have := (hds D hD).1; omega) hK rfl rfl)⟩) ?_
    · rw [← (hds D hD).2]
      exact Below.heap_setCell _ _ _ _ (by simp; have := (hds D hD).1; omega)
    · rintro W ⟨hc5, hB5⟩
      refine ⟨.bool true, ?_, ?_, hB5⟩
      · simp [results, Tryz.f61, go_sem, hc5]
      · rw [hres, show ((List.range 3).all fun j => (ys j).all fun x => decide (x < base)) = true from ?_]
        rw [List.all_eq_true]
        intro j hj
        rw [List.all_eq_true]
        exact fun x hx => decide_eq_true (hys j (by simpa using hj) x hx)
end Go.Proofs
namespace Go.Wm
open Go.RowKit

theorem dec_low {s : ByteArray} {i : Nat} (h : (s.get! i).toNat < 128) : Utf8.decode s i = ((s.get! i).toNat, 1) := by
  simp [Utf8.decode, h]
theorem dec_high {s : ByteArray} {i : Nat} (h : 128 ≤ (s.get! i).toNat) : 128 ≤ (Utf8.decode s i).1 ∧ 1 ≤ (Utf8.decode s i).2 := by
  unfold Utf8.decode
  simp only [Nat.add_zero]
  rw [if_neg (by omega)]
  split
  · split
    · rename_i h2; exact ⟨h2, by simp⟩
    · simp [Utf8.runeError]
  · split
    · split
      · rename_i h2
        simp only [Bool.and_eq_true, decide_eq_true_eq] at h2
        exact ⟨Nat.le_trans (by decide) h2.1, by simp⟩
      · simp [Utf8.runeError]
    · split
      · split
        · rename_i h2
          simp only [Bool.and_eq_true, decide_eq_true_eq] at h2
          exact ⟨Nat.le_trans (by decide) h2.1, by simp⟩
        · simp [Utf8.runeError]
      · simp [Utf8.runeError]

section
variable {P : Program} {F : Fr} {n : Nat} {ops : Array Oper} {Q : Exit → Act → World → Prop} {rest : List Oper} {o : Oper} {e : Env} {k : PH}
theorem a_rangeS {t : TypeId} {x : Operand} {s : ByteArray} [ht : TyU P t .string] (hop : o.op = .range t x) (hx : opv e x = some (.string s)) : Alc P e k o (fun b => .pointer (some ⟨b, 0, none⟩)) (.stringIter s 0) := by
  intro ev w hev hs
  rw [hop] at hev
  have hr : (Instr.range t (.string s)).run P w = .ok (.pointer (some ⟨w.heap.size, 0, none⟩)) (w.alloc (.stringIter s 0)) := by
    simp [Instr.range, run_underlying ht.eq, run_newObj_alloc]
  simp [execOp, hop, hev x (by simp [Op.operands]) _ hx, hr]
theorem run_nextS (w : World) (ty : TypeId) (it : Nat) (s : ByteArray) (pos : Nat) (hi : w.heap[it]? = some (.stringIter s pos)) :
    (Instr.next (.pointer (some ⟨it, 0, none⟩)) true ty).run P w = if pos < s.size then .ok (.tuple #[.bool true, .int .i64 (pos : Int), .int .i32 ((Utf8.decode s pos).1 : Int)]) { w with heap := w.heap.setIfInBounds it (.stringIter s (pos + (Utf8.decode s pos).2)) } else .ok (.tuple #[.bool false]) w := by
  by_cases h : pos < s.size
  · simp only [Instr.next, getObj, Sem.run_bind, Sem.run, hi, Result.andThen, h, if_true, setObj]
    rfl
  · simp only [Instr.next, getObj, Sem.run_bind, Sem.run, hi, Result.andThen, h, if_false]
    rfl
theorem r_nextS {x : Operand} {it pos d : Nat} {s : ByteArray} (hd : o.dst = some d) (hf : Nat.blt d n = true) (hdet : det e = true) (hg : o.guard = none) (hop : o.op = .next x true) (hx : opv e x = some (.pointer (some ⟨it, 0, none⟩)))
    (hi : k it = some (.stringIter s pos)) (hown : F.w0.heap.size ≤ it)
    (h0 : ¬ pos < s.size → RG P F n ops Q rest ((d, .is (.tuple #[.bool false])) :: e) k)
    (h1 : pos < s.size → ∀ k', Turn1 k k' it → k' it = some (.stringIter s (pos + (Utf8.decode s pos).2)) → RG P F n ops Q rest ((d, .is (.tuple #[.bool true, .int .i64 (pos : Int), .int .i32 ((Utf8.decode s pos).1 : Int)])) :: e) k') : RG P F n ops Q (o :: rest) e k := by
  intro a w ha hs
  unfold wpList
  rw [if_pos (by simp [Region.wanted, hg])]
  have hev := evs_of (ops := ops) (o := o) (ag_looks ha)
  rw [hop] at hev
  have e1 := hev x (by simp [Op.operands]) _ hx
  have hwi := hs.sub _ _ hi
  have hrun := run_nextS (P := P) w o.type it s pos hwi
  by_cases h : pos < s.size
  · rw [if_pos h] at hrun
    have hx : (execOp a.eval o).run P w = .ok (.value (.tuple #[.bool true, .int .i64 (pos : Int), .int .i32 ((Utf8.decode s pos).1 : Int)])) { w with heap := w.heap.setIfInBounds it (.stringIter s (pos + (Utf8.decode s pos).2)) } := by
      simp [execOp, hop, e1, hrun]
    refine .inl (ex_value hx _ _ ?_)
    rintro u w' ⟨rfl, rfl⟩
    rw [hd]
    exact h1 h _ (turn1_upd k it _) (upd_same _ _ _) _ _ ((ha.heap hdet).put (d := some d) (p := .is _) hf rfl) (hs.turn (.inl hown) rfl rfl rfl (by simp) (heap_setObj hwi) fun i hi _ => by simp [Array.getElem?_setIfInBounds, Ne.symm hi])
  · rw [if_neg h] at hrun
    have hx : (execOp a.eval o).run P w = .ok (.value (.tuple #[.bool false])) w := by
      simp [execOp, hop, e1, hrun]
    refine .inl (ex_value hx _ _ ?_)
    rintro u w' ⟨rfl, rfl⟩
    rw [hd]
    exact h0 h _ _ (ha.put (d := some d) (p := .is _) hf rfl) hs
/-- Whole numbers of one kind, held against each other. -/
theorem d_cmp {op : BinOp} {t t' : TypeId} {x y : Operand} {kd : IntKind} {a b : Int} {r : Bool} (hop : o.op = .binOp op t x y t') (hx : opv e x = some (.int kd a)) (hy : opv e y = some (.int kd b)) (hr : cmpI op a b = some r) : Det P e k o (.bool r) := by
  intro ev w hev _
  rw [hop] at hev
  have h1 := hev x (by simp [Op.operands]) _ hx
  have h2 := hev y (by simp [Op.operands]) _ hy
  cases op <;> simp only [cmpI] at hr <;> cases hr <;> simp [execOp, hop, h1, h2, eqGuard, binOp, Op.intCmp, pure, Sem.run, bind, Sem.bind]
end
end Go.Wm
namespace Go.Wm
open Go.RowKit Go.Proofs
attribute [local irreducible] RG CG EG WA Loc Det Alc CT Exit.then Exit.inBlock Code.wp bodyPost

def okB (x : UInt8) : Bool := decide (33 ≤ x.toNat) && decide (x.toNat ≤ 126)
/-- Is a text a name? -/
def isName (s : ByteArray) : Bool := decide (∀ i, (h : i < s.size) → okB s[i] = true) && (decide (1 ≤ s.size) && decide (s.size ≤ 64))
def tpP (t : Tp) : Bool := isName t.topic && (decide (0 ≤ t.part) && (decide (t.part < 6) && (decide (0 ≤ t.home) && decide (t.home < 4))))
def strLt (a b : ByteArray) : Bool := decide (a.data.toList < b.data.toList)
def tpLess (a b : Tp) : Bool := if a.topic ≠ b.topic then strLt a.topic b.topic else if a.part ≠ b.part then decide (a.part < b.part) else decide (a.home < b.home)

end Go.Wm
-- cut by zcut
namespace Go.Wm

def minI (a b : Int) : Int := if b < a then b else a
theorem minI_left (a b : Int) : minI a b ≤ a := by unfold minI; split <;> omega
theorem minI_right (a b : Int) : minI a b ≤ b := by unfold minI; split <;> omega
theorem le_minI {a b c : Int} (h1 : c ≤ a) (h2 : c ≤ b) : c ≤ minI a b := by unfold minI; split <;> omega
/-- The least of a number and of those of a list that are so. -/
def foldMin {γ : Type} (c : γ → Bool) (f : γ → Int) (a : Int) (l : List γ) : Int := l.foldl (fun a g => if c g then minI a (f g) else a) a
section
variable {γ : Type} {c : γ → Bool} {f : γ → Int}
theorem foldMin_cons (a : Int) (g : γ) (l : List γ) : foldMin c f a (g :: l) = foldMin c f (if c g then minI a (f g) else a) l := rfl
theorem foldMin_le : ∀ (l : List γ) (a : Int), foldMin c f a l ≤ a
  | [], a => Int.le_refl _
  | g :: l, a => by
    rw [foldMin_cons]
    refine Int.le_trans (foldMin_le l _) ?_
    split
    · exact minI_left _ _
    · exact Int.le_refl _
theorem foldMin_at : ∀ (l : List γ) (a : Int) (g : γ), g ∈ l → c g = true → foldMin c f a l ≤ f g
  | x :: l, a, g, hm, hc => by
    rw [foldMin_cons]
    rcases List.mem_cons.1 hm with rfl | hm
    · rw [if_pos hc]
      exact Int.le_trans (foldMin_le l _) (minI_right _ _)
    · exact foldMin_at l _ g hm hc
theorem le_foldMin : ∀ (l : List γ) (a x : Int), x ≤ a → (∀ g ∈ l, c g = true → x ≤ f g) → x ≤ foldMin c f a l
  | [], a, x, h, _ => h
  | g :: l, a, x, h, hl => by
    rw [foldMin_cons]
    refine le_foldMin l _ x ?_ fun g' hg' => hl g' (by simp [hg'])
    split
    · rename_i hc
      exact le_minI h (hl g (by simp) hc)
    · exact h
end

/-- Up to where all is decided. -/
def stabP (t : Tx) (high : Int) : Int := foldMin (fun _ => true) (fun o : OpenT => o.first) high t.openV
/-- Is a transaction below the marks wherever it stands? -/
def belowP (l : List View) (m : List Int) (pid no : Int) : Bool := (l.zip m).all fun p => p.1.tx.done.all fun g => !((decide (g.pid = pid) && decide (g.no = no)) && decide (p.2 ≤ g.last))
def lowV (l : List View) (m : List Int) (p : View × Int) : Int :=
  foldMin (fun g : Gone => decide (p.2 ≤ g.last)) (fun g => g.first) (foldMin (fun g : Gone => !belowP l m g.pid g.no) (fun g => g.first) p.2 p.1.tx.done) p.1.tx.gone
/-- Marks that are lowered once. -/
def lowP (l : List View) (m : List Int) : List Int := (l.zip m).map (lowV l m)
theorem belowP_false {l : List View} {m : List Int} {pid no : Int} : belowP l m pid no = false ↔ ∃ i, ∃ (hi : i < l.length) (hm : i < m.length), ∃ g ∈ l[i].tx.done, g.pid = pid ∧ g.no = no ∧ m[i] ≤ g.last := by
  unfold belowP
  rw [List.all_eq_false]
  constructor
  · rintro ⟨p, hp, h⟩
    obtain ⟨i, hi, rfl⟩ := List.getElem_of_mem hp
    simp only [List.length_zip] at hi
    simp only [List.getElem_zip, Bool.not_eq_true, List.all_eq_false] at h
    obtain ⟨g, hg, h⟩ := h
    simp at h
    exact ⟨i, by omega, by omega, g, hg, h.1.1, h.1.2, h.2⟩
  · rintro ⟨i, hi, hm, g, hg, h1, h2, h3⟩
    refine ⟨(l[i], m[i]), ?_, ?_⟩
    · have : i < (l.zip m).length := by simp; omega
      have e := List.getElem_zip (l := l) (l' := m) (i := i) (h := this)
      rw [← e]
      exact List.getElem_mem this
    · simp only [Bool.not_eq_true, List.all_eq_false]
      exact ⟨g, hg, by simp [h1, h2, h3]⟩

/-- Each is at most the other's. -/
def PW (c m : List Int) : Prop := c.length = m.length ∧ ∀ i, (h : i < c.length) → (h' : i < m.length) → c[i] ≤ m[i]
theorem PW.refl (m : List Int) : PW m m := ⟨rfl, fun _ _ _ => Int.le_refl _⟩
theorem PW.trans {a b c : List Int} (h : PW a b) (h' : PW b c) : PW a c := ⟨h.1.trans h'.1, fun i hi hi' => Int.le_trans (h.2 i hi (by rw [← h.1]; exact hi)) (h'.2 i (by rw [← h.1]; exact hi) hi')⟩
theorem PW.antisymm {a b : List Int} (h : PW a b) (h' : PW b a) : a = b := List.ext_getElem h.1 fun i h1 h2 => Int.le_antisymm (h.2 i h1 h2) (h'.2 i h2 h1)
/-- A whole cut: nothing is lowered. -/
def WholeM (l : List View) (m : List Int) : Prop :=
  (∀ i, (hi : i < l.length) → (hm : i < m.length) → ∀ g ∈ l[i].tx.done, belowP l m g.pid g.no = false → m[i] ≤ g.first) ∧
  (∀ i, (hi : i < l.length) → (hm : i < m.length) → ∀ g ∈ l[i].tx.gone, m[i] ≤ g.last → m[i] ≤ g.first)
/-- The greatest cut that is whole, below what is stable. -/
structure IsCut (l : List View) (s m : List Int) : Prop where
  len : m.length = l.length
  whole : WholeM l m
  safe : PW m s
  top : ∀ c, WholeM l c → PW c s → PW c m
theorem IsCut.same {l : List View} {s m m' : List Int} (h : IsCut l s m) (h' : IsCut l s m') : m = m' := (h'.top m h.whole h.safe).antisymm (h.top m' h'.whole h'.safe)
end Go.Wm
namespace Go.Wm
open Go.RowKit Go.Proofs
attribute [local irreducible] RG CG EG WA Loc Det Alc CT Exit.then Exit.inBlock Code.wp bodyPost

def inO (n : Int) : Bool := decide (0 ≤ n) && decide (n ≤ 1099511627776)
/-- May one that has ended be? -/
def okGone (g : Gone) : Bool := inO g.pid && (decide (0 ≤ g.no) && (decide (g.no ≤ 1048576) && (decide (0 ≤ g.first) && (decide (g.first < g.last) && inO g.last))))
/-- Those that have ended, by rising ends. -/
def Ended (l : List Gone) : Prop := ∀ i, (h : i < l.length) → okGone l[i] = true ∧ (0 < i → l[i - 1].last < l[i].last)
instance (l : List Gone) : Decidable (Ended l) := by unfold Ended; infer_instance
/-- Those that are open, by rising numbers. -/
def Opens (l : List OpenT) : Prop := ∀ i, (h : i < l.length) → (inO l[i].pid && inO l[i].first) = true ∧ (0 < i → l[i - 1].pid < l[i].pid)
instance (l : List OpenT) : Decidable (Opens l) := by unfold Opens; infer_instance
def errOf (b : Bool) (n : Int) : Value := .int .i64 (if b then 0 else n)
def txP (t : Tx) : Bool := decide (Opens t.openV) && (decide (Ended t.gone) && decide (Ended t.done))

end Go.Wm
namespace Go.Wm
open Go.RowKit Go.Proofs
attribute [local irreducible] RG CG EG WA Loc Det Alc CT Exit.then Exit.inBlock Code.wp bodyPost

/-- A partition's transactions, handed over by value. -/
structure TxAt (k : PH) (t : Tx) (a0 : Option Addr) (c0 : Nat) (a1 : Option Addr) (c1 : Nat) (a2 : Option Addr) (c2 : Nat) : Prop where
  o : Sl tOpenT k a0 c0 t.openV
  g : Sl tGone k a1 c1 t.gone
  d : Sl tGone k a2 c2 t.done
theorem TxAt.le {k k' : PH} {t : Tx} {a0 : Option Addr} {c0 : Nat} {a1 : Option Addr} {c1 : Nat} {a2 : Option Addr} {c2 : Nat} (h : TxAt k t a0 c0 a1 c1 a2 c2) (hl : Le k k') : TxAt k' t a0 c0 a1 c1 a2 c2 := ⟨h.o.le hl, h.g.le hl, h.d.le hl⟩

end Go.Wm
namespace Go.Wm
open Go.RowKit Go.Proofs
attribute [local irreducible] RG CG EG WA Loc Det Alc CT Exit.then Exit.inBlock Code.wp bodyPost

/-- A partition's mark. -/
def markP (l : List Mark) (tp : Tp) : Option Int := (l.find? fun m => decide (m.tp = tp)).map (·.off)
def leastM (a b : List Mark) : List Mark := a.filterMap fun m => (markP b m.tp).map fun n => ⟨m.tp, minI n m.off⟩
def belowM (a b : List Mark) : Bool := a.all fun m => match markP b m.tp with
  | none => false
  | some n => decide (m.off ≤ n)
end Go.Wm
-- cut by zcut
namespace Go.Wm
open Go.RowKit Go.Proofs
attribute [local irreducible] RG CG EG WA Loc Det Alc CT Exit.then Exit.inBlock Code.wp bodyPost

def stableL (l : List View) : List Int := l.map fun v => stabP v.tx v.high
theorem foldMin_I64 {γ : Type} {c : γ → Bool} {f : γ → Int} {a : Int} {l : List γ} (ha : I64 a) (h : ∀ g ∈ l, I64 (f g)) : I64 (foldMin c f a l) :=
  ⟨le_foldMin _ _ _ ha.1 fun g hg _ => (h g hg).1, Int.le_trans (foldMin_le _ _) ha.2⟩
theorem open_ok {k : PH} {a : Option Addr} {c : Nat} {l : List OpenT} (hl : Sl tOpenT k a c l) : ∀ m ∈ l, m.ok := fun m hm => by
  obtain ⟨i, hi, rfl⟩ := List.getElem_of_mem hm
  obtain ⟨_, _, _, _, ⟨_, h⟩, _⟩ := hl.el i l[i] (List.getElem?_eq_getElem hi)
  exact h
theorem stabP_I64 {t : Tx} {h : Int} (hh : I64 h) (ho : ∀ m ∈ t.openV, m.ok) : I64 (stabP t h) := foldMin_I64 hh fun g hg => (ho g hg).2
theorem stableL_I64 {k : PH} {a : Option Addr} {c : Nat} {l : List View} (hl : Sl tView k a c l) : ∀ n ∈ stableL l, I64 n := fun n hn => by
  unfold stableL at hn
  rw [List.mem_map] at hn
  obtain ⟨v, hv, rfl⟩ := hn
  obtain ⟨i, hi, rfl⟩ := List.getElem_of_mem hv
  obtain ⟨_, _, _, _, ⟨_, _, _, _, _, _, _, ⟨so, _, _⟩, hk⟩, _⟩ := hl.el i l[i] (List.getElem?_eq_getElem hi)
  exact stabP_I64 hk.2.2 (open_ok so)

end Go.Wm
-- cut by zcut
