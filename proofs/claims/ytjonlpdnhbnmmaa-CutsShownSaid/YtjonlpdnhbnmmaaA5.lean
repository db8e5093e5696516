/-
  What lists hand to a loop, the program's iterators. Conditions: that what is handed in reads as data.
-/
import Derived.RangeFuncBox
import Derived.RangeFuncFrom
import Derived.RangeFuncLeaves
import Derived.Shelf.Abstract
import Derived.WalkKit
import Derived.OwnWalkIn
import Derived.TacticsInMore
import Derived.LoopNIn
import Derived.LoopIn
import Derived.Test.YtjonlpdnhbnmmaaProg
set_option linter.all false
namespace Go.Proofs
open Go.RowKit Go.Shelf
attribute [local go_sem] Oper.semAt_some

def uptoN (f : Nat → Int) (k : Nat) : List Int := (List.range k).map f
theorem uptoN_succ (f : Nat → Int) (k : Nat) : uptoN f (k + 1) = uptoN f k ++ [f k] := by simp [uptoN, List.range_succ]
theorem uptoN_length (f : Nat → Int) (k : Nat) : (uptoN f k).length = k := by simp [uptoN]

set_option maxRecDepth 100000 in
set_option maxHeartbeats 2000000 in
theorem firsts1_in (F : Fence) (n : Nat) (h7 : F.fn 108) (hro : F.round = none) (hn : 1 ≤ n) (l Bs n₀ b off len cap : Nat) (a : Option Addr) (p f : Nat → Int) (hreach : len * 8 ≤ 140737488351232) (ha : 0 < len → a = some ⟨b, off, none⟩ ∧ b < n₀) (J Jx : List Int → World → Prop)
    (hJ : ∀ s W W' row, J s W → W.grownBy W' row → (∀ r, row = some r → False) → J s W')
    (hY : ∀ pre x W, J pre W → pre.length < len → YieldAt F (n - 1) Try.prog l #[.int .i64 x] W fun e W' =>
      (e = .returned (.bool true) ∧ J (pre ++ [x]) W' ∧ Below n₀ W W') ∨ (e = .returned (.bool false) ∧ Jx (pre ++ [x]) W'))
    (W : World) (hn₀ : n₀ ≤ W.heap.size) (hBs : W.cell? ⟨Bs, 0, none⟩ = some (.slice a len cap)) (hc : ∀ j, j < len → W.cell? ⟨b, off + j * 2, none⟩ = some (.int .i64 (p j)) ∧ W.cell? ⟨b, off + j * 2 + 1, none⟩ = some (.int .i64 (f j))) (h0 : J [] W) :
    CallsIn F n Try.prog 108 #[.func (.yield l) #[] #[], .pointer (some ⟨Bs, 0, none⟩)] W fun e W' => (∃ v, e = .returned v) ∧
      ((∃ ys, ys = uptoN f len ∧ J ys W') ∨ (∃ pre, (∃ k, k ≤ len ∧ pre = uptoN f k) ∧ Jx pre W')) := by
  refine callsIn_of_wp Try.func108 rfl h7 ?_ hro
  simp only [Try.ntmps108, List.size_toArray, List.length_cons, List.length_nil, Nat.reduceAdd, Nat.reduceSub, Array.replicate_succ, Array.replicate_zero, List.push_toArray, List.append_toArray, List.nil_append, List.cons_append]
  gi_wp2
  gi_loopw [7] (fun i wr => ∃ k : Nat, k ≤ len ∧ i = .int .i64 k ∧ J (uptoN f k) wr ∧ Below n₀ W wr)
    (fun i _ => len - (intOf i).toNat)
  case atStart => exact ⟨0, Nat.zero_le _, rfl, h0, Below.refl _ _⟩
  case round =>
    obtain ⟨k, hk, rfl, hJs, hnx⟩ := hrel
    by_cases hlt : k < len
    · obtain ⟨rfl, hb⟩ := ha (by omega)
      have hc1 : wr.cell? ⟨b, off + k * 2, none⟩ = some (.int .i64 (p k)) := (hnx.cell (p := ⟨b, off + k * 2, none⟩) hb).trans (hc k hlt).1
      have hc2 : wr.cell? ⟨b, off + k * 2 + 1, none⟩ = some (.int .i64 (f k)) := (hnx.cell (p := ⟨b, off + k * 2 + 1, none⟩) hb).trans (hc k hlt).2
      have hJ1 : J (uptoN f k) (wr.alloc (.cells #[.int .i64 (p k), .int .i64 (f k)] 76)) := hJ _ _ _ none hJs (World.grownBy_alloc wr _ none) (fun r e => by cases e)
      have hb1 : Below n₀ W (wr.alloc (.cells #[.int .i64 (p k), .int .i64 (f k)] 76)) := hnx.trans ((Below.refl n₀ wr).alloc (Nat.le_trans hn₀ hnx.size) _)
      obtain ⟨fn, tmps, assign, body, hy, hR⟩ := hY _ (f k) _ hJ1 (by rw [uptoN_length]; exact hlt)
      gi_wp2
      refine hR.mono ?_
      rintro e W3 (⟨rfl, hJ3, hk3⟩ | ⟨rfl, hJx3⟩)
      · gi_wp2
        go_roundw
        case rel => exact ⟨k + 1, by omega, by simp, by rw [uptoN_succ]; exact hJ3, hb1.trans hk3⟩
        case measure => simp [intOf]; omega
      · gi_wp2
        refine bodyPost_ret (results_none rfl _ _ _) rfl ?_
        exact ⟨⟨_, rfl⟩, .inr ⟨_, ⟨k + 1, by omega, (uptoN_succ _ _).symm⟩, hJx3⟩⟩
    · obtain rfl : k = len := by omega
      gi_wp2
      go_end0
      exact ⟨⟨_, rfl⟩, .inl ⟨_, rfl, hJs⟩⟩

theorem firsts_stops (F : Fence) (n : Nat) (h7 : F.fn 108) (hro : F.round = none) (hn : 1 ≤ n) (Bs n₀ b off len cap : Nat) (a : Option Addr) (p f : Nat → Int) (hreach : len * 8 ≤ 140737488351232) (ha : 0 < len → a = some ⟨b, off, none⟩ ∧ b < n₀) (w : World) (hB : Bs < w.heap.size) (hn₀ : n₀ ≤ w.heap.size)
    (hBs : w.cell? ⟨Bs, 0, none⟩ = some (.slice a len cap)) (hc : ∀ j, j < len → w.cell? ⟨b, off + j * 2, none⟩ = some (.int .i64 (p j)) ∧ w.cell? ⟨b, off + j * 2 + 1, none⟩ = some (.int .i64 (f j))) :
    SeqStopsK F n Try.prog 108 #[.pointer (some ⟨Bs, 0, none⟩)] (fun x : Int => #[Value.int .i64 x]) (Below n₀) (fun ys => ys = uptoN f len) (fun pre => ∃ k, k ≤ len ∧ pre = uptoN f k) len w := fun l J Jx W hW hJ _ hY h0 =>
  firsts1_in F n h7 hro hn l Bs n₀ b off len cap a p f hreach ha J Jx (fun s A B row hs hg hr => hJ s A B row hs hg (fun r e => (hr r e).elim)) hY W (Nat.le_trans hn₀ hW.size) ((hW.cell (p := ⟨Bs, 0, none⟩) hB).trans hBs) (fun j hj => by
    obtain ⟨_, hb⟩ := ha (by omega)
    have := hc j hj
    exact ⟨(hW.cell (p := ⟨b, off + j * 2, none⟩) (Nat.lt_of_lt_of_le hb hn₀)).trans this.1, (hW.cell (p := ⟨b, off + j * 2 + 1, none⟩) (Nat.lt_of_lt_of_le hb hn₀)).trans this.2⟩) h0

set_option maxRecDepth 100000 in
set_option maxHeartbeats 2000000 in
theorem lasts1_in (F : Fence) (n : Nat) (h7 : F.fn 110) (hro : F.round = none) (hn : 1 ≤ n) (l Bs n₀ b off len cap : Nat) (a : Option Addr) (p q r f : Nat → Int) (hreach : len * 8 ≤ 140737488351232) (ha : 0 < len → a = some ⟨b, off, none⟩ ∧ b < n₀) (J Jx : List Int → World → Prop)
    (hJ : ∀ s W W' row, J s W → W.grownBy W' row → (∀ r, row = some r → False) → J s W')
    (hY : ∀ pre x W, J pre W → pre.length < len → YieldAt F (n - 1) Try.prog l #[.int .i64 x] W fun e W' =>
      (e = .returned (.bool true) ∧ J (pre ++ [x]) W' ∧ Below n₀ W W') ∨ (e = .returned (.bool false) ∧ Jx (pre ++ [x]) W'))
    (W : World) (hn₀ : n₀ ≤ W.heap.size) (hBs : W.cell? ⟨Bs, 0, none⟩ = some (.slice a len cap)) (hc : ∀ j, j < len → W.cell? ⟨b, off + j * 4, none⟩ = some (.int .i64 (p j)) ∧ W.cell? ⟨b, off + j * 4 + 1, none⟩ = some (.int .i64 (q j)) ∧ W.cell? ⟨b, off + j * 4 + 2, none⟩ = some (.int .i64 (r j)) ∧ W.cell? ⟨b, off + j * 4 + 3, none⟩ = some (.int .i64 (f j))) (h0 : J [] W) :
    CallsIn F n Try.prog 110 #[.func (.yield l) #[] #[], .pointer (some ⟨Bs, 0, none⟩)] W fun e W' => (∃ v, e = .returned v) ∧
      ((∃ ys, ys = uptoN f len ∧ J ys W') ∨ (∃ pre, (∃ k, k ≤ len ∧ pre = uptoN f k) ∧ Jx pre W')) := by
  refine callsIn_of_wp Try.func110 rfl h7 ?_ hro
  simp only [Try.ntmps110, List.size_toArray, List.length_cons, List.length_nil, Nat.reduceAdd, Nat.reduceSub, Array.replicate_succ, Array.replicate_zero, List.push_toArray, List.append_toArray, List.nil_append, List.cons_append]
  gi_wp2
  gi_loopw [7] (fun i wr => ∃ k : Nat, k ≤ len ∧ i = .int .i64 k ∧ J (uptoN f k) wr ∧ Below n₀ W wr)
    (fun i _ => len - (intOf i).toNat)
  case atStart => exact ⟨0, Nat.zero_le _, rfl, h0, Below.refl _ _⟩
  case round =>
    obtain ⟨k, hk, rfl, hJs, hnx⟩ := hrel
    by_cases hlt : k < len
    · obtain ⟨rfl, hb⟩ := ha (by omega)
      have hc1 : wr.cell? ⟨b, off + k * 4, none⟩ = some (.int .i64 (p k)) := (hnx.cell (p := ⟨b, off + k * 4, none⟩) hb).trans (hc k hlt).1
      have hc2 : wr.cell? ⟨b, off + k * 4 + 1, none⟩ = some (.int .i64 (q k)) := (hnx.cell (p := ⟨b, off + k * 4 + 1, none⟩) hb).trans (hc k hlt).2.1
      have hc3 : wr.cell? ⟨b, off + k * 4 + 2, none⟩ = some (.int .i64 (r k)) := (hnx.cell (p := ⟨b, off + k * 4 + 2, none⟩) hb).trans (hc k hlt).2.2.1
      have hc4 : wr.cell? ⟨b, off + k * 4 + 3, none⟩ = some (.int .i64 (f k)) := (hnx.cell (p := ⟨b, off + k * 4 + 3, none⟩) hb).trans (hc k hlt).2.2.2
      have hJ1 : J (uptoN f k) (wr.alloc (.cells #[.int .i64 (p k), .int .i64 (q k), .int .i64 (r k), .int .i64 (f k)] 56)) := hJ _ _ _ none hJs (World.grownBy_alloc wr _ none) (fun r e => by cases e)
      have hb1 : Below n₀ W (wr.alloc (.cells #[.int .i64 (p k), .int .i64 (q k), .int .i64 (r k), .int .i64 (f k)] 56)) := hnx.trans ((Below.refl n₀ wr).alloc (Nat.le_trans hn₀ hnx.size) _)
      obtain ⟨fn, tmps, assign, body, hy, hR⟩ := hY _ (f k) _ hJ1 (by rw [uptoN_length]; exact hlt)
      gi_wp2
      refine hR.mono ?_
      rintro e W3 (⟨rfl, hJ3, hk3⟩ | ⟨rfl, hJx3⟩)
      · gi_wp2
        go_roundw
        case rel => exact ⟨k + 1, by omega, by simp, by rw [uptoN_succ]; exact hJ3, hb1.trans hk3⟩
        case measure => simp [intOf]; omega
      · gi_wp2
        refine bodyPost_ret (results_none rfl _ _ _) rfl ?_
        exact ⟨⟨_, rfl⟩, .inr ⟨_, ⟨k + 1, by omega, (uptoN_succ _ _).symm⟩, hJx3⟩⟩
    · obtain rfl : k = len := by omega
      gi_wp2
      go_end0
      exact ⟨⟨_, rfl⟩, .inl ⟨_, rfl, hJs⟩⟩

theorem lasts_stops (F : Fence) (n : Nat) (h7 : F.fn 110) (hro : F.round = none) (hn : 1 ≤ n) (Bs n₀ b off len cap : Nat) (a : Option Addr) (p q r f : Nat → Int) (hreach : len * 8 ≤ 140737488351232) (ha : 0 < len → a = some ⟨b, off, none⟩ ∧ b < n₀) (w : World) (hB : Bs < w.heap.size) (hn₀ : n₀ ≤ w.heap.size)
    (hBs : w.cell? ⟨Bs, 0, none⟩ = some (.slice a len cap)) (hc : ∀ j, j < len → w.cell? ⟨b, off + j * 4, none⟩ = some (.int .i64 (p j)) ∧ w.cell? ⟨b, off + j * 4 + 1, none⟩ = some (.int .i64 (q j)) ∧ w.cell? ⟨b, off + j * 4 + 2, none⟩ = some (.int .i64 (r j)) ∧ w.cell? ⟨b, off + j * 4 + 3, none⟩ = some (.int .i64 (f j))) :
    SeqStopsK F n Try.prog 110 #[.pointer (some ⟨Bs, 0, none⟩)] (fun x : Int => #[Value.int .i64 x]) (Below n₀) (fun ys => ys = uptoN f len) (fun pre => ∃ k, k ≤ len ∧ pre = uptoN f k) len w := fun l J Jx W hW hJ _ hY h0 =>
  lasts1_in F n h7 hro hn l Bs n₀ b off len cap a p q r f hreach ha J Jx (fun s A B row hs hg hr => hJ s A B row hs hg (fun r e => (hr r e).elim)) hY W (Nat.le_trans hn₀ hW.size) ((hW.cell (p := ⟨Bs, 0, none⟩) hB).trans hBs) (fun j hj => by
    obtain ⟨_, hb⟩ := ha (by omega)
    have := hc j hj
    exact ⟨(hW.cell (p := ⟨b, off + j * 4, none⟩) (Nat.lt_of_lt_of_le hb hn₀)).trans this.1, (hW.cell (p := ⟨b, off + j * 4 + 1, none⟩) (Nat.lt_of_lt_of_le hb hn₀)).trans this.2.1, (hW.cell (p := ⟨b, off + j * 4 + 2, none⟩) (Nat.lt_of_lt_of_le hb hn₀)).trans this.2.2.1, (hW.cell (p := ⟨b, off + j * 4 + 3, none⟩) (Nat.lt_of_lt_of_le hb hn₀)).trans this.2.2.2⟩) h0
end Go.Proofs
