/-
  Up to where all is decided, the program's: by the kit's law of loops over functions. Conditions: that what is handed in lies in memory.
-/
import Derived.Test.YtjonlpdnhbnmmaaA5
set_option linter.all false
namespace Go.Proofs
open Go.RowKit Go.Shelf
attribute [local go_sem] Oper.semAt_some

theorem cellN_box {W : World} {B : Nat} {v : Value} {t : TypeId} (h : W.heap[B]? = some (.cells #[v] t (0, 0))) : W.cell? ⟨B, 0, none⟩ = some v ∧ W.frozen? ⟨B, 0, none⟩ = false := by
  constructor <;> simp [World.cell?, World.frozen?, h]
theorem cellN_new (W : World) (v : Value) (t : TypeId) : (W.alloc (.cells #[v] t)).cell? ⟨W.heap.size, 0, none⟩ = some v ∧ (W.alloc (.cells #[v] t)).frozen? ⟨W.heap.size, 0, none⟩ = false :=
  cellN_box (World.alloc_heap_new W _)
theorem cellN_alloc {W : World} {a : Addr} {v : Value} (o : Obj) (h : W.cell? a = some v) : (W.alloc o).cell? a = some v := cell_kept h (World.grownBy_alloc W o none) (fun r e => by cases e)
theorem frozenN_alloc {W : World} {a : Addr} {v : Value} (o : Obj) (h : W.cell? a = some v) (hf : W.frozen? a = false) : (W.alloc o).frozen? a = false := (frozen_kept h (World.grownBy_alloc W o none) (fun r e => by cases e)).trans hf

set_option maxHeartbeats 1000000 in
theorem firsts_in (F : Fence) (n : Nat) (h5 : F.fn 69) (hro : F.round = none) (a : Option Addr) (len cap : Nat) (w : World) :
    CallsIn F n Try.prog 69 #[.slice a len cap] w fun e w' => e = .returned (.func (.func 108) #[] #[.pointer (some ⟨w.heap.size, 0, none⟩)]) ∧ w' = w.alloc (.cells #[.slice a len cap] 40) := by
  refine callsIn_of_wp Try.func69 rfl h5 ?_ hro
  simp only [Try.ntmps69, List.size_toArray, List.length_cons, List.length_nil, Nat.reduceAdd, Nat.reduceSub, Array.replicate_succ, Array.replicate_zero, List.push_toArray, List.append_toArray, List.nil_append, List.cons_append]
  gi_wp2
  go_ret
  exact ⟨rfl, rfl⟩
def minsL (h : Int) (l : List Int) : Int := l.foldl (fun a x => if x < a then x else a) h
theorem minsL_snoc (h : Int) (l : List Int) (x : Int) : minsL h (l ++ [x]) = if x < minsL h l then x else minsL h l := by
  unfold minsL
  rw [List.foldl_append]
  rfl
set_option maxRecDepth 100000 in
set_option maxHeartbeats 2000000 in
theorem stable_in (F : Fence) (n : Nat) (h3 : F.fn 32) (h5 : F.fn 69) (h6 : F.fn 108) (hro : F.round = none) (hn : 3 ≤ n) (b off len cap : Nat) (a : Option Addr) (v1 v2 : Value) (p f : Nat → Int) (high : Int) (w : World) (hreach : len * 8 ≤ 140737488351232) (ha : 0 < len → a = some ⟨b, off, none⟩ ∧ b < w.heap.size)
    (hc : ∀ j, j < len → w.cell? ⟨b, off + j * 2, none⟩ = some (.int .i64 (p j)) ∧ w.cell? ⟨b, off + j * 2 + 1, none⟩ = some (.int .i64 (f j))) :
    CallsIn F n Try.prog 32 #[.agg #[.slice a len cap, v1, v2], .int .i64 high] w fun e w' => e = .returned (.int .i64 (minsL high (uptoN f len))) ∧ Below w.heap.size w w' := by
  have h1 : 1 ≤ n := by omega
  refine callsIn_of_wp_marks Try.func32 rfl h3 ?_ hro
  simp only [Try.ntmps32, List.size_toArray, List.length_cons, List.length_nil, Nat.reduceAdd, Nat.reduceSub, Array.replicate_succ, Array.replicate_zero, List.push_toArray, List.append_toArray, List.nil_append, List.cons_append]
  gi_wp2_with (gi_at_call 69; refine (firsts_in F (n - 1) h5 hro _ _ _ _).mono ?_; rintro e w' ⟨rfl, rfl⟩)
  have cs := cellN_new (w.alloc (.cells #[.slice a len cap, v1, v2] 43)) (.int .i64 high) 3
  have cb := cellN_new ((w.alloc (.cells #[.slice a len cap, v1, v2] 43)).alloc (.cells #[.int .i64 high] 3)) (.slice a len cap) 40
  simp only [World.size_alloc] at cs cb
  have hB0 : Below w.heap.size w (((w.alloc (.cells #[.slice a len cap, v1, v2] 43)).alloc (.cells #[.int .i64 high] 3)).alloc (.cells #[.slice a len cap] 40)) := (((Below.refl _ w).alloc (Nat.le_refl _) _).alloc (by simp) _).alloc (by simp; omega) _
  refine wpIn_rangeFunc_ownF hro h1 (gf := 108) (lb := #[.pointer (some ⟨w.heap.size + 1 + 1, 0, none⟩)]) rfl h6 (enters_of Try.func108 (by kernel_rfl) rfl)
    (firsts_stops F (n - 1) h6 hro (by omega) (w.heap.size + 1 + 1) w.heap.size b off len cap a p f hreach ha _ (by simp) (by simp; omega) cb.1 (fun j hj => by
      obtain ⟨_, hb⟩ := ha (by omega)
      have := hc j hj
      exact ⟨(hB0.cell (p := ⟨b, off + j * 2, none⟩) hb).trans this.1, (hB0.cell (p := ⟨b, off + j * 2 + 1, none⟩) hb).trans this.2⟩)) belowK_t (belowK_b (by simp; omega)) (Below.refl _ _) (fun _ => rfl)
    (fun pre W => (W.cell? ⟨w.heap.size + 1, 0, none⟩ = some (.int .i64 (minsL high pre)) ∧ W.frozen? ⟨w.heap.size + 1, 0, none⟩ = false) ∧ Below w.heap.size w W)
    (fun _ _ _ => False)
    (OwnFrom.and (Own.from (fun s A B row hs hg hr => ⟨cell_kept hs.1 hg hr, (frozen_kept hs.1 hg hr).trans hs.2⟩) _) (ownFrom_below (Nat.le_refl _) (by simp; omega)))
    (fun _ _ _ _ _ hs _ _ => hs)
    ⟨⟨cellN_alloc _ cs.1, frozenN_alloc _ cs.1 cs.2⟩, hB0⟩
    (fun x => { tmps := #[.agg #[.slice a len cap, v1, v2], .int .i64 high, .pointer (some ⟨w.heap.size, 0, none⟩), .pointer (some ⟨w.heap.size + 1, 0, none⟩), .int .i64 0, .int .i64 x, .pointer (some ⟨w.heap.size, 0, none⟩), .slice a len cap, .func (.func 108) #[] #[.pointer (some ⟨w.heap.size + 1 + 1, 0, none⟩)], .int .i64 x, undef, undef, undef, undef], defers := [] }) ?assign ?body ?done ?stop
  case assign =>
    intro l x W K hK
    gi_wp2
    exact hK
  case body =>
    rintro l pre x W ⟨⟨hc, hf⟩, hB⟩ _
    gi_wp2
    all_goals exact ⟨KeepsOthers.setCell _ _ _, (Below.refl w.heap.size W).setCell (p := ⟨w.heap.size + 1, 0, none⟩) (by simp) _, ⟨by rw [minsL_snoc]; first | (rw [if_pos (by omega)]; exact World.cell?_setCell_same' _ _ _ (by rw [hc]; rfl)) | (rw [if_neg (by omega)]; exact World.cell?_setCell_same' _ _ _ (by rw [hc]; rfl)), by rw [World.frozen?_setCell]; exact hf⟩, hB.setCell (p := ⟨w.heap.size + 1, 0, none⟩) (by simp) _⟩
  case done =>
    rintro D ys W hD rfl ⟨⟨hc, _⟩, hB⟩ hK
    gi_wp2
    refine ⟨by simp, .inl ⟨_, _, rfl, run_takeDeferred hK, ?_⟩⟩
    exact ⟨_, results_tmp rfl _ _ _, rfl, hB.trans (belowK_b (w := w) (Nat.le_refl _) W D _ _ (by simp at hD; omega) hK rfl rfl)⟩
  case stop =>
    rintro D c pre W _ _ h _
    exact h.elim
end Go.Proofs
