/-
  Spans: Find, by the library's slices.Backward: a range over a function, walked by the base's own laws; then told without addresses.
  Conditions: none.
-/
import Derived.RangeFuncBox
import Derived.RangeFuncLeaves
import Derived.Shelf.Abstract
import Derived.WalkKit
import Derived.OwnWalkIn
import Derived.TacticsInMore
import Derived.LoopNIn
import Derived.LoopIn
import Derived.Test.YtecpiplfjmmccaaProg
namespace Go.Proofs.Ytecpiplfjmmccaa.AM
open Go Go.Proofs Go.RowKit Go.Shelf

attribute [local go_sem] Oper.semAt_some

/-- The i-th that comes, from the back. -/
def backAt (l : List (Int × Int)) (k : Nat) : Nat × (Int × Int) := (l.length - 1 - k, l[l.length - 1 - k]?.getD (0, 0))
def backTo (l : List (Int × Int)) (k : Nat) : List (Nat × (Int × Int)) := (List.range k).map (backAt l)
theorem backTo_succ (l : List (Int × Int)) (k : Nat) : backTo l (k + 1) = backTo l k ++ [backAt l k] := by simp [backTo, List.range_succ]
theorem backTo_length (l : List (Int × Int)) (k : Nat) : (backTo l k).length = k := by simp [backTo]
def encB (x : Nat × (Int × Int)) : Array Value := #[.int .i64 (x.1 : Int), .agg #[.int .i64 x.2.1, .int .i64 x.2.2]]

set_option maxRecDepth 100000 in
set_option maxHeartbeats 2000000 in
/-- slices.Backward's closure. -/
theorem back1_in (F : Fence) (n : Nat) (h7 : F.fn 83) (hro : F.round = none) (hn : 1 ≤ n) (l Bs n₀ b off cap : Nat) (zs : List (Int × Int)) (hreach : zs.length ≤ 9223372036854775807) (hb : b < n₀) (J Jx : List (Nat × (Int × Int)) → World → Prop)
    (hY : ∀ pre x W, J pre W → pre.length < zs.length → YieldAt F (n - 1) Try.prog l (encB x) W fun e W' =>
      (e = .returned (.bool true) ∧ J (pre ++ [x]) W' ∧ Below n₀ W W') ∨ (e = .returned (.bool false) ∧ Jx (pre ++ [x]) W'))
    (W : World) (hBs : W.cell? ⟨Bs, 0, none⟩ = some (.slice (some ⟨b, off, none⟩) zs.length cap))
    (hc0 : ∀ j, j < zs.length → W.cell? ⟨b, off + j * 2, none⟩ = some (.int .i64 (zs[j]?.getD (0, 0)).1)) (hc1 : ∀ j, j < zs.length → W.cell? ⟨b, off + j * 2 + 1, none⟩ = some (.int .i64 (zs[j]?.getD (0, 0)).2)) (h0 : J [] W) (hBn : Bs < n₀) :
    CallsIn F n Try.prog 83 #[.func (.yield l) #[] #[], .pointer (some ⟨Bs, 0, none⟩)] W fun e W' => (∃ v, e = .returned v) ∧
      ((∃ ys, ys = backTo zs zs.length ∧ J ys W') ∨ (∃ pre, (∃ k, k ≤ zs.length ∧ pre = backTo zs k) ∧ Jx pre W')) := by
  refine callsIn_of_wp Try.func83 rfl h7 ?_ hro
  simp only [Try.ntmps83, List.size_toArray, List.length_cons, List.length_nil, Nat.reduceAdd, Nat.reduceSub, Array.replicate_succ, Array.replicate_zero, List.push_toArray, List.append_toArray, List.nil_append, List.cons_append]
  gi_wp2
  gi_loopw [3] (fun i wr => ∃ k : Nat, k ≤ zs.length ∧ i = .int .i64 ((zs.length : Int) - 1 - k) ∧ J (backTo zs k) wr ∧ Below n₀ W wr)
    (fun i _ => (intOf i + 1).toNat)
  case atStart =>
    refine ⟨0, Nat.zero_le _, ?_, h0, Below.refl _ _⟩
    simp
  case round =>
    obtain ⟨k, hk, rfl, hJs, hnx⟩ := hrel
    by_cases hlt : k < zs.length
    · have hcB : wr.cell? ⟨Bs, 0, none⟩ = some (.slice (some ⟨b, off, none⟩) zs.length cap) := (hnx.cell (p := ⟨Bs, 0, none⟩) hBn).trans hBs
      have hcx0 : wr.cell? ⟨b, off + (zs.length - 1 - k) * 2, none⟩ = some (.int .i64 (backAt zs k).2.1) := (hnx.cell (p := ⟨b, off + (zs.length - 1 - k) * 2, none⟩) hb).trans (hc0 _ (by omega))
      have hcx1 : wr.cell? ⟨b, off + (zs.length - 1 - k) * 2 + 1, none⟩ = some (.int .i64 (backAt zs k).2.2) := (hnx.cell (p := ⟨b, off + (zs.length - 1 - k) * 2 + 1, none⟩) hb).trans (hc1 _ (by omega))
      obtain ⟨fn, tmps, assign, body, hy, hR⟩ := hY _ (backAt zs k) wr hJs (by rw [backTo_length]; exact hlt)
      have e1 : ((zs.length : Int) - 1 - k) = ((zs.length - 1 - k : Nat) : Int) := by omega
      rw [e1]
      have hxs : backTo zs (k + 1) = backTo zs k ++ [backAt zs k] := backTo_succ zs k
      have hyb : (encB (backAt zs k)) = #[.int .i64 ((zs.length - 1 - k : Nat) : Int), .agg #[.int .i64 (backAt zs k).2.1, .int .i64 (backAt zs k).2.2]] := rfl
      rw [hyb] at hy
      clear hyb
      generalize backAt zs k = x at *
      generalize hm : zs.length - 1 - k = m at *
      have hmlt : m < zs.length := by omega
      gi_wp2
      refine hR.mono ?_
      rintro e W3 (⟨rfl, hJ3, hk3⟩ | ⟨rfl, hJx3⟩)
      · gi_wp2
        go_roundw
        case rel =>
          refine ⟨k + 1, by omega, ?_, by rw [hxs]; exact hJ3, hnx.trans hk3⟩
          congr 1
          omega
        case measure => simp [intOf]
      · gi_wp2
        refine bodyPost_ret (results_none rfl _ _ _) rfl ?_
        exact ⟨⟨_, rfl⟩, .inr ⟨_, ⟨k + 1, by omega, hxs.symm⟩, hJx3⟩⟩
    · obtain rfl : k = zs.length := by omega
      have e1 : ((zs.length : Int) - 1 - zs.length) = -1 := by omega
      rw [e1]
      gi_wp2
      go_end0
      exact ⟨⟨_, rfl⟩, .inl ⟨_, rfl, hJs⟩⟩

set_option maxRecDepth 100000 in
set_option maxHeartbeats 1000000 in
/-- .. of a slice without elements, whatever its address. -/
theorem back1_nil_in (F : Fence) (n : Nat) (h7 : F.fn 83) (hro : F.round = none) (l Bs cap : Nat) (A : Option Addr) (J : List (Nat × (Int × Int)) → World → Prop) (W : World) (hBs : W.cell? ⟨Bs, 0, none⟩ = some (.slice A 0 cap)) (h0 : J [] W) :
    CallsIn F n Try.prog 83 #[.func (.yield l) #[] #[], .pointer (some ⟨Bs, 0, none⟩)] W fun e W' => (∃ v, e = .returned v) ∧ J [] W' := by
  refine callsIn_of_wp Try.func83 rfl h7 ?_ hro
  simp only [Try.ntmps83, List.size_toArray, List.length_cons, List.length_nil, Nat.reduceAdd, Nat.reduceSub, Array.replicate_succ, Array.replicate_zero, List.push_toArray, List.append_toArray, List.nil_append, List.cons_append]
  gi_wp2
  gi_loopw [3] (fun i wr => i = .int .i64 (-1) ∧ J [] wr) (fun _ _ => 0)
  case atStart => exact ⟨rfl, h0⟩
  case round =>
    obtain ⟨rfl, hJs⟩ := hrel
    gi_wp2
    go_end0
    exact ⟨⟨_, rfl⟩, hJs⟩

set_option maxHeartbeats 1000000 in
/-- slices.Backward: the slice is boxed; the function value captures the box. -/
theorem back_in (F : Fence) (n : Nat) (h5 : F.fn 63) (hro : F.round = none) (a : Option Addr) (len cap : Nat) (w : World) :
    CallsIn F n Try.prog 63 #[.slice a len cap] w fun e w' => e = .returned (.func (.func 83) #[] #[.pointer (some ⟨w.heap.size, 0, none⟩)]) ∧ w' = w.alloc (.cells #[.slice a len cap] 34) := by
  refine callsIn_of_wp Try.func63 rfl h5 ?_ hro
  simp only [Try.ntmps63, List.size_toArray, List.length_cons, List.length_nil, Nat.reduceAdd, Nat.reduceSub, Array.replicate_succ, Array.replicate_zero, List.push_toArray, List.append_toArray, List.nil_append, List.cons_append]
  gi_wp2
  go_ret
  exact ⟨rfl, rfl⟩

/-- The slice value holds the spans zs, in a block below n₀; or there are none. -/
def SpsAt (n₀ : Nat) (W : World) (sv : Value) (zs : List (Int × Int)) : Prop :=
  (∃ A cap, sv = .slice A 0 cap ∧ zs = []) ∨ ∃ b off cap, sv = .slice (some ⟨b, off, none⟩) zs.length cap ∧ b < n₀ ∧ (∀ j, j < zs.length → W.cell? ⟨b, off + j * 2, none⟩ = some (.int .i64 (zs[j]?.getD (0, 0)).1)) ∧ ∀ j, j < zs.length → W.cell? ⟨b, off + j * 2 + 1, none⟩ = some (.int .i64 (zs[j]?.getD (0, 0)).2)
theorem SpsAt.below {n₀ : Nat} {A B : World} (h : Below n₀ A B) {sv : Value} {zs : List (Int × Int)} : SpsAt n₀ A sv zs → SpsAt n₀ B sv zs
  | .inl e => .inl e
  | .inr ⟨b, off, cap, e, hb, h0, h1⟩ => .inr ⟨b, off, cap, e, hb, fun j hj => (h.cell (p := ⟨b, off + j * 2, none⟩) hb).trans (h0 j hj), fun j hj => (h.cell (p := ⟨b, off + j * 2 + 1, none⟩) hb).trans (h1 j hj)⟩

theorem back_stops (F : Fence) (n : Nat) (h7 : F.fn 83) (hro : F.round = none) (hn : 1 ≤ n) (Bs n₀ : Nat) (sv : Value) (zs : List (Int × Int)) (hreach : zs.length ≤ 9223372036854775807) (w : World) (hBs : Bs < w.heap.size) (hn₀ : n₀ ≤ w.heap.size)
    (hc : w.cell? ⟨Bs, 0, none⟩ = some sv) (hI : SpsAt n₀ w sv zs) :
    SeqStopsK F n Try.prog 83 #[.pointer (some ⟨Bs, 0, none⟩)] encB (Below w.heap.size) (fun ys => ys = backTo zs zs.length) (fun pre => ∃ k, k ≤ zs.length ∧ pre = backTo zs k) zs.length w := fun l J Jx W hW _ _ hY h0 => by
  have hc' := (hW.cell (p := ⟨Bs, 0, none⟩) hBs).trans hc
  rcases hI.below (hW.mono hn₀) with ⟨A, cap, rfl, rfl⟩ | ⟨b, off, cap, rfl, hb, hcs0, hcs1⟩
  · exact (back1_nil_in F n h7 hro l Bs cap A J W hc' h0).mono fun e W' ⟨he, hj⟩ => ⟨he, .inl ⟨_, rfl, hj⟩⟩
  · refine (back1_in F n h7 hro hn l Bs w.heap.size b off cap zs hreach (by omega) J Jx hY W hc' hcs0 hcs1 h0 hBs).mono ?_
    rintro e W' ⟨he, ⟨ys, rfl, hj⟩ | ⟨pre, ⟨k, hk, rfl⟩, hj⟩⟩
    · exact ⟨he, .inl ⟨_, rfl, hj⟩⟩
    · exact ⟨he, .inr ⟨_, ⟨k, hk, rfl⟩, hj⟩⟩
end Go.Proofs.Ytecpiplfjmmccaa.AM
