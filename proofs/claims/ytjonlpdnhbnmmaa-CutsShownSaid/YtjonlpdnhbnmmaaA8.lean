/-
  Whether what a list hands over rises, the program's: by the kit's law of loops over functions. Conditions: that what is handed in lies in memory.
-/
import Derived.Test.YtjonlpdnhbnmmaaA6
set_option linter.all false
namespace Go.Proofs
open Go.RowKit Go.Shelf
attribute [local go_sem] Oper.semAt_some

def risesFrom (m : Int) : List Int → Bool
  | [] => true
  | x :: r => decide (m < x) && risesFrom x r
theorem rises_append : ∀ (a b : List Int) (m : Int), risesFrom m (a ++ b) = (risesFrom m a && risesFrom (a.getLast?.getD m) b)
  | [], b, m => by simp [risesFrom]
  | x :: a, b, m => by
    simp only [List.cons_append, risesFrom]
    rw [rises_append a b x, Bool.and_assoc]
    cases a with
    | nil => simp
    | cons y a => simp [List.getLast?_cons]
theorem upto_prefix (f : Nat → Int) {k n : Nat} (h : k ≤ n) : ∃ r, uptoN f n = uptoN f k ++ r := by
  refine ⟨((List.range n).drop k).map f, ?_⟩
  unfold uptoN
  rw [← List.map_append]
  congr 1
  have : List.range k = (List.range n).take k := by
    apply List.ext_getElem
    · simp; omega
    · intro i h1 h2; simp
  rw [this, List.take_append_drop]

set_option maxRecDepth 100000 in
set_option maxHeartbeats 2000000 in
theorem rises_in (F : Fence) (n : Nat) (h3 : F.fn 87) (h6 : F.fn 110) (hro : F.round = none) (hn : 3 ≤ n) (Bs b off len cap : Nat) (a : Option Addr) (p q r f : Nat → Int) (w : World) (hreach : len * 8 ≤ 140737488351232) (ha : 0 < len → a = some ⟨b, off, none⟩ ∧ b < w.heap.size) (hB : Bs < w.heap.size)
    (hBs : w.cell? ⟨Bs, 0, none⟩ = some (.slice a len cap))
    (hc : ∀ j, j < len → w.cell? ⟨b, off + j * 4, none⟩ = some (.int .i64 (p j)) ∧ w.cell? ⟨b, off + j * 4 + 1, none⟩ = some (.int .i64 (q j)) ∧ w.cell? ⟨b, off + j * 4 + 2, none⟩ = some (.int .i64 (r j)) ∧ w.cell? ⟨b, off + j * 4 + 3, none⟩ = some (.int .i64 (f j))) :
    CallsIn F n Try.prog 87 #[.func (.func 110) #[] #[.pointer (some ⟨Bs, 0, none⟩)]] w fun e w' => e = .returned (.bool (risesFrom (-1) (uptoN f len))) ∧ Below w.heap.size w w' := by
  have h1 : 1 ≤ n := by omega
  refine callsIn_of_wp_marks Try.func87 rfl h3 ?_ hro
  simp only [Try.ntmps87, List.size_toArray, List.length_cons, List.length_nil, Nat.reduceAdd, Nat.reduceSub, Array.replicate_succ, Array.replicate_zero, List.push_toArray, List.append_toArray, List.nil_append, List.cons_append]
  gi_wp2
  have c1 := cellN_new w (.bool false) 4
  have c2 := cellN_new (w.alloc (.cells #[.bool false] 4)) (.int .i64 (-1)) 3
  simp only [World.size_alloc] at c2
  have hB0 : Below w.heap.size w ((w.alloc (.cells #[.bool false] 4)).alloc (.cells #[.int .i64 (-1)] 3)) := ((Below.refl _ w).alloc (Nat.le_refl _) _).alloc (by simp) _
  refine wpIn_rangeFunc_ownF hro h1 (gf := 110) (lb := #[.pointer (some ⟨Bs, 0, none⟩)]) rfl h6 (enters_of Try.func110 (by kernel_rfl) rfl)
    (lasts_stops F (n - 1) h6 hro (by omega) Bs w.heap.size b off len cap a p q r f hreach ha _ (by simp; omega) (by simp; omega) ((hB0.cell (p := ⟨Bs, 0, none⟩) hB).trans hBs) (fun j hj => by
      obtain ⟨_, hb⟩ := ha (by omega)
      have := hc j hj
      exact ⟨(hB0.cell (p := ⟨b, off + j * 4, none⟩) hb).trans this.1, (hB0.cell (p := ⟨b, off + j * 4 + 1, none⟩) hb).trans this.2.1, (hB0.cell (p := ⟨b, off + j * 4 + 2, none⟩) hb).trans this.2.2.1, (hB0.cell (p := ⟨b, off + j * 4 + 3, none⟩) hb).trans this.2.2.2⟩)) belowK_t (belowK_b (by simp; omega)) (Below.refl _ _) (fun _ => rfl)
    (fun pre W => (risesFrom (-1) pre = true ∧ W.cell? ⟨w.heap.size + 1, 0, none⟩ = some (.int .i64 (pre.getLast?.getD (-1))) ∧ W.frozen? ⟨w.heap.size + 1, 0, none⟩ = false ∧ W.cell? ⟨w.heap.size, 0, none⟩ = some (.bool false) ∧ W.frozen? ⟨w.heap.size, 0, none⟩ = false) ∧ Below w.heap.size w W)
    (fun c pre W => (c = .ret ∧ risesFrom (-1) pre = false ∧ W.cell? ⟨w.heap.size, 0, none⟩ = some (.bool false)) ∧ Below w.heap.size w W)
    (OwnFrom.and (Own.from (fun s A B row hs hg hr => ⟨hs.1, cell_kept hs.2.1 hg hr, (frozen_kept hs.2.1 hg hr).trans hs.2.2.1, cell_kept hs.2.2.2.1 hg hr, (frozen_kept hs.2.2.2.1 hg hr).trans hs.2.2.2.2⟩) _) (ownFrom_below (Nat.le_refl _) (by simp; omega)))
    (fun c => OwnFrom.and (Own.from (fun s A B row hs hg hr => ⟨hs.1, hs.2.1, cell_kept hs.2.2 hg hr⟩) _) (ownFrom_below (Nat.le_refl _) (by simp; omega)))
    ⟨⟨rfl, c2.1, c2.2, cellN_alloc _ c1.1, frozenN_alloc _ c1.1 c1.2⟩, hB0⟩
    (fun x => { tmps := #[.func (.func 110) #[] #[.pointer (some ⟨Bs, 0, none⟩)], undef, .pointer (some ⟨w.heap.size, 0, none⟩), .pointer (some ⟨w.heap.size + 1, 0, none⟩), .int .i64 x, .func (.func 110) #[] #[.pointer (some ⟨Bs, 0, none⟩)], .int .i64 x, undef, undef, undef, undef], defers := [] }) ?assign ?body ?done ?stop
  case assign =>
    intro l x W K hK
    gi_wp2
    exact hK
  case body =>
    rintro l pre x W ⟨⟨hr, hl, hlf, hcr, hfr⟩, hB⟩ _
    gi_wp2
    · rename_i hx
      exact ⟨KeepsOthers.setCell _ _ _, ⟨rfl, by rw [rises_append, hr]; simp [risesFrom]; omega, World.cell?_setCell_same' _ _ _ (by rw [hcr]; rfl)⟩, hB.setCell (p := ⟨w.heap.size, 0, none⟩) (by simp) _⟩
    · rename_i hx
      exact ⟨KeepsOthers.setCell _ _ _, (Below.refl w.heap.size W).setCell (p := ⟨w.heap.size + 1, 0, none⟩) (by simp) _, ⟨by rw [rises_append, hr]; simp [risesFrom]; omega, by rw [List.getLast?_concat]; exact World.cell?_setCell_same' _ _ _ (by rw [hl]; rfl), by rw [World.frozen?_setCell]; exact hlf, (World.cell?_of_block (Below.heap_setCell W _ _ w.heap.size (by simp))).trans hcr, by rw [World.frozen?_setCell]; exact hfr⟩, hB.setCell (p := ⟨w.heap.size + 1, 0, none⟩) (by simp) _⟩
  case done =>
    rintro D ys W hD rfl ⟨⟨hr, _, _, hcr, hfr⟩, hB⟩ hK
    gi_wp2
    have hK' := (KeepsOthers.setCell W ⟨w.heap.size, 0, none⟩ (.bool true)).same D _ hK rfl
    refine ⟨by simp, .inl ⟨_, _, rfl, run_takeDeferred hK', ?_⟩⟩
    have hc5 := cell_kept (World.cell?_setCell_same' W ⟨w.heap.size, 0, none⟩ (.bool true) (by rw [hcr]; rfl)) (grownBy_putObj' _ D (.deferred none)) (fun r e => by cases e; exact ⟨_, hK', rfl⟩)
    refine ⟨.bool true, ?_, by rw [hr], (hB.setCell (p := ⟨w.heap.size, 0, none⟩) (by simp) _).trans (belowK_b (w := w) (Nat.le_refl _) _ D _ _ (by simp at hD; omega) hK' rfl rfl)⟩
    simp [results, Try.f87, go_sem, hc5]
  case stop =>
    rintro D c pre W hD hpre ⟨⟨rfl, hin, hcr⟩, hB⟩ hK
    gi_wp2
    refine ⟨by simp, .inl ⟨_, _, rfl, run_takeDeferred hK, ?_⟩⟩
    have hc5 := cell_kept hcr (grownBy_putObj' _ D (.deferred none)) (fun r e => by cases e; exact ⟨_, hK, rfl⟩)
    obtain ⟨k, hk, rfl⟩ := hpre
    obtain ⟨rr, hrr⟩ := upto_prefix f hk
    refine ⟨.bool false, ?_, by rw [hrr, rises_append, hin, Bool.false_and], hB.trans (belowK_b (w := w) (Nat.le_refl _) W D _ _ (by simp at hD; omega) hK rfl rfl)⟩
    simp [results, Try.f87, go_sem, hc5]
end Go.Proofs
