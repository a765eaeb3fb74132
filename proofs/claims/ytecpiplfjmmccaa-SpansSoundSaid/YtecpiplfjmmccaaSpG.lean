/-
  Spans: Find, walked by the base's laws.
  Conditions: none.
-/
import Derived.Test.YtecpiplfjmmccaaSpF
import Derived.RangeFuncNested
namespace Go.Proofs.Ytecpiplfjmmccaa.AM
open Go Go.Proofs Go.RowKit Go.Shelf

attribute [local go_sem] Oper.semAt_some

theorem boxed_new' {W : World} {k : Nat} {t : TypeId} {v : Value} (hk : k = W.heap.size) : Boxed (W.alloc (.cells #[v] t)) k t v := hk ▸ Boxed.new W t v

set_option maxRecDepth 100000 in
set_option maxHeartbeats 1000000 in
theorem find_in (F : Fence) (n : Nat) (h27 : F.fn 27) (h63 : F.fn 63) (h83 : F.fn 83) (hro : F.round = none) (hn : 3 ≤ n) (ep v : Int) (a : Option Addr) (len cap : Nat) (zs : List (Int × Int)) (hreach : zs.length ≤ 9223372036854775807) (w : World) (hI : SpsAt w.heap.size w (.slice a len cap) zs) :
    CallsIn F n Try.prog 27 #[.agg #[.int .u32 ep, .slice a len cap], .int .i64 v] w fun e W' =>
      ((e = .returned (.int .i64 (-1)) ∧ ∀ j, j < zs.length → ¬ (zs[j]?.getD (0, 0)).1 ≤ v) ∨ (∃ k : Nat, k < zs.length ∧ e = .returned (.int .i64 (backAt zs k).2.2) ∧ (backAt zs k).2.1 ≤ v ∧ ∀ j, j < k → ¬ (backAt zs j).2.1 ≤ v)) ∧ Below w.heap.size w W' := by
  have h1 : 1 ≤ n := by omega
  refine callsIn_of_wp_marks Try.func27 rfl h27 ?_ hro
  simp only [Try.ntmps27, List.size_toArray, List.length_cons, List.length_nil, Nat.reduceAdd, Nat.reduceSub, Array.replicate_succ, Array.replicate_zero, List.push_toArray, List.append_toArray, List.nil_append, List.cons_append]
  gi_wp2_with (gi_at_call 63; refine (back_in F (n - 1) h63 hro _ _ _ _).mono ?_; rintro e w' ⟨rfl, rfl⟩)
  generalize hW0 : (((w.alloc (Obj.cells #[Value.int IntKind.u32 ep, Value.slice a len cap] 36)).alloc (Obj.cells #[Value.int IntKind.i64 v] 3)).alloc (Obj.cells #[Value.int IntKind.i64 0] 3)).alloc (Obj.cells #[Value.slice a len cap] 34) = W0
  have hsz : W0.heap.size = w.heap.size + 4 := by rw [← hW0]; simp
  have hB0 : Below w.heap.size w W0 := by
    rw [← hW0]
    exact ((((Below.refl _ w).alloc (Nat.le_refl _) _).alloc (by simp) _).alloc (by simp; omega) _).alloc (by simp; omega) _
  have b3 : Boxed W0 (w.heap.size + 3) 34 (.slice a len cap) := by rw [← hW0]; exact boxed_new' (by simp)
  have b2 : Boxed W0 (w.heap.size + 2) 3 (.int .i64 0) := by rw [← hW0]; exact (boxed_new' (by simp)).alloc _
  have b1 : Boxed W0 (w.heap.size + 1) 3 (.int .i64 v) := by rw [← hW0]; exact ((boxed_new' (by simp)).alloc _).alloc _
  clear hW0
  have facts : ∀ W, Below W0.heap.size W0 W → W.cell? ⟨w.heap.size + 1, 0, none⟩ = some (.int .i64 v) ∧ W.cell? ⟨w.heap.size + 1 + 1, 0, none⟩ = some (.int .i64 0) ∧ W.frozen? ⟨w.heap.size + 1 + 1, 0, none⟩ = false := fun W hB =>
    ⟨(hB.cell (p := ⟨w.heap.size + 1, 0, none⟩) (by show w.heap.size + 1 < _; omega)).trans b1.cell, (hB.cell (p := ⟨w.heap.size + 2, 0, none⟩) (by show w.heap.size + 2 < _; omega)).trans b2.cell,
     (hB.frozen (p := ⟨w.heap.size + 2, 0, none⟩) (by show w.heap.size + 2 < _; omega)).trans b2.frozen⟩
  refine wpIn_rangeFunc_ownH hro h1 (gf := 83) (lb := #[.pointer (some ⟨w.heap.size + 1 + 1 + 1, 0, none⟩)]) rfl h83 (enters_of Try.func83 (by kernel_rfl) rfl)
    (back_stops F (n - 1) h83 hro (by omega) (w.heap.size + 3) w.heap.size _ zs hreach W0 (by omega) (by omega) b3.cell (hI.below hB0)) belowK_t (belowK_b (Nat.le_refl _)) (Below.refl _ _) (fun _ => rfl)
    (fun pre W => (∀ p ∈ pre, v < p.2.1) ∧ Below W0.heap.size W0 W)
    (fun c pre W => (c = .ret ∧ ∃ ini last, pre = ini ++ [last] ∧ (∀ p ∈ ini, v < p.2.1) ∧ last.2.1 ≤ v ∧ W.cell? ⟨w.heap.size + 2, 0, none⟩ = some (.int .i64 last.2.2)) ∧ Below w.heap.size w W)
    (OwnFrom.and (ownFrom_pure _ _) (ownFrom_below (Nat.le_refl _) (Nat.le_refl _)))
    (fun c => OwnFrom.and (Own.from (fun s A B row hs hg hr => by obtain ⟨hc, ini, last, e1, e2, e3, e4⟩ := hs; exact ⟨hc, ini, last, e1, e2, e3, cell_kept e4 hg hr⟩) _) (ownFrom_below (Nat.le_refl _) (by omega)))
    ⟨by simp, Below.refl _ _⟩
    (fun x a' W => ∃ B, W0.heap.size ≤ B ∧ W.cell? ⟨B, 0, none⟩ = some (.int .i64 x.2.1) ∧ W.cell? ⟨B, 1, none⟩ = some (.int .i64 x.2.2) ∧
      a' = { tmps := #[.agg #[.int .u32 ep, .slice a len cap], .int .i64 v, .pointer (some ⟨w.heap.size, 0, none⟩), .pointer (some ⟨w.heap.size + 1, 0, none⟩), .pointer (some ⟨w.heap.size + 1 + 1, 0, none⟩), undef, .pointer (some ⟨B, 0, none⟩),
        .pointer (some ⟨w.heap.size, 1, none⟩), .slice a len cap, .func (.func 83) #[] #[.pointer (some ⟨w.heap.size + 1 + 1 + 1, 0, none⟩)], .int .i64 (x.1 : Int), .agg #[.int .i64 x.2.1, .int .i64 x.2.2], undef, undef, undef, undef, undef, undef], defers := [] })
    (fun x a' => fun _ X Y row hs hg hr => by
      obtain ⟨B, e1, e2, e3, e4⟩ := hs
      exact ⟨B, e1, cell_kept e2 hg (fun r e => (hr r e).2), cell_kept e3 hg (fun r e => (hr r e).2), e4⟩) ?assign ?body ?done ?stop
  case assign =>
    intro l pre x W K hI hK
    dsimp only [encB]
    gi_wp2
    have hWs := hI.2.size
    refine hK _ _ ((KeepsOthers.alloc _ _).from _) ((Below.refl _ W).alloc hWs _) ⟨hI.1, hI.2.trans ((Below.refl _ W).alloc hWs _)⟩ ⟨W.heap.size, hWs, ?_, ?_, rfl⟩
    · unfold World.cell?; rw [World.alloc_heap_new]; rfl
    · unfold World.cell?; rw [World.alloc_heap_new]; rfl
  case body =>
    rintro l pre x a' W hl _ ⟨hp, hB⟩ ⟨B, g1, g2, g3, rfl⟩ _
    obtain ⟨c1, c2, f2⟩ := facts W hB
    have hBw : Below w.heap.size w W := hB0.trans (hB.mono (by omega))
    gi_wp2
    · have hx : x.2.1 ≤ v := by assumption
      exact ⟨(KeepsOthers.setCell _ _ _).from _, ⟨rfl, pre, x, rfl, hp, hx, World.cell?_setCell_same' _ _ _ (by rw [c2]; rfl)⟩, hBw.setCell (p := ⟨w.heap.size + 1 + 1, 0, none⟩) (by show w.heap.size ≤ w.heap.size + 1 + 1; omega) _⟩
    · have hx : v < x.2.1 := by omega
      exact ⟨KeepsFrom.refl _ _, Below.refl _ _, fun p hp' => (List.mem_append.1 hp').elim (hp p) (fun e => by simp at e; subst e; exact hx), hB⟩
  case done =>
    rintro D ys W hD rfl ⟨hne, hB⟩ hK
    obtain ⟨c1, c2, f2⟩ := facts W hB
    have hBw : Below w.heap.size w W := hB0.trans (hB.mono (by omega))
    gi_wp2
    have hK' := (KeepsOthers.setCell W ⟨w.heap.size + 1 + 1, 0, none⟩ (.int .i64 (-1))).same D _ hK rfl
    refine ⟨by simp, .inl ⟨_, _, rfl, run_takeDeferred hK', ?_⟩⟩
    have hc5 := cell_kept (World.cell?_setCell_same' W ⟨w.heap.size + 1 + 1, 0, none⟩ (.int .i64 (-1)) (by rw [c2]; rfl)) (grownBy_putObj' _ D (.deferred none)) (fun r e => by cases e; exact ⟨_, hK', rfl⟩)
    refine ⟨.int .i64 (-1), ?_, .inl ⟨rfl, fun j hj => ?_⟩, (hBw.setCell (p := ⟨w.heap.size + 1 + 1, 0, none⟩) (by show w.heap.size ≤ w.heap.size + 1 + 1; omega) _).trans (belowK_b (w := w) (Nat.le_refl _) _ D _ _ (by omega) hK' rfl rfl)⟩
    · simp [results, Try.f27, go_sem, hc5]
    · have := hne (backAt zs (zs.length - 1 - j)) (by simp only [backTo, List.mem_map, List.mem_range]; exact ⟨zs.length - 1 - j, by omega, rfl⟩)
      unfold backAt at this
      rw [show zs.length - 1 - (zs.length - 1 - j) = j by omega] at this
      exact this
  case stop =>
    rintro D c pre W hD ⟨k, hk, rfl⟩ ⟨⟨rfl, ini, last, e1, e2, e3, hcr⟩, hBw⟩ hK
    gi_wp2
    refine ⟨by simp, .inl ⟨_, _, rfl, run_takeDeferred hK, ?_⟩⟩
    have hc5 := cell_kept hcr (grownBy_putObj' _ D (.deferred none)) (fun r e => by cases e; exact ⟨_, hK, rfl⟩)
    obtain ⟨k', rfl⟩ : ∃ k', k = k' + 1 := by
      cases k with
      | zero => simp [backTo] at e1
      | succ k' => exact ⟨k', rfl⟩
    rw [backTo_succ] at e1
    obtain ⟨rfl, e5⟩ := List.append_inj' e1 rfl
    obtain rfl : backAt zs k' = last := by simpa using e5
    refine ⟨.int .i64 (backAt zs k').2.2, ?_, .inr ⟨k', by omega, rfl, e3, fun j hj => e2 _ (by simp only [backTo, List.mem_map, List.mem_range]; exact ⟨j, hj, rfl⟩)⟩, hBw.trans (belowK_b (w := w) (Nat.le_refl _) W D _ _ (by omega) hK rfl rfl)⟩
    simp [results, Try.f27, go_sem, hc5]
end Go.Proofs.Ytecpiplfjmmccaa.AM
