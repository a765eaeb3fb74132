/-
  Spans: Find, told without addresses.
  Conditions: none.
-/
import Derived.Test.YtecpiplfjmmccaaSpG
import Derived.Test.YtecpiplfjmmccaaSpD
namespace Go.Proofs.Ytecpiplfjmmccaa.AM
open Go Go.RowKit

theorem find_none {l : List Sp} {v : Int} (h : ∀ s ∈ l, v < s.1) (n : Int) : l.foldl (fun n s => if s.1 ≤ v then s.2 else n) n = n := by
  induction l generalizing n with
  | nil => rfl
  | cons s l ih =>
    have := h s (List.mem_cons_self ..)
    simp only [List.foldl_cons]
    rw [if_neg (by omega)]
    exact ih (fun t ht => h t (List.mem_cons_of_mem _ ht)) n
theorem find_at {l : List Sp} {v : Int} {m : Nat} (hm : m < l.length) (h1 : l[m].1 ≤ v) (h2 : ∀ j (h : j < l.length), m < j → v < l[j].1) : find l v = l[m].2 := by
  have e : l = (l.take m ++ [l[m]]) ++ l.drop (m + 1) := by rw [← take_snoc hm, List.take_append_drop]
  unfold find
  conv => lhs; rw [e]
  rw [List.foldl_append, List.foldl_append, List.foldl_cons, List.foldl_nil, if_pos h1]
  refine find_none (fun s hs => ?_) _
  obtain ⟨j, hj, rfl⟩ := List.mem_iff_getElem.1 hs
  rw [List.getElem_drop]
  exact h2 _ _ (by omega)

/-- What a call leaves, that turns nothing that was there. -/
theorem of_belowN {G : Gh} {w w' : World} (hH : HSim G w AH.none) (hb : Below w.heap.size w w') : HSim G w' AH.none ∧ Le G w G w' ∧ Ext G AH.none w G AH.none w' := by
  have hle : Le G w G w' := Le.of_agree (fun b h => hb.block b (hH.imm_lt h)) (fun b s hs => by rw [← hs]; exact shape_of_heap (hb.block b (lt_of_shape hs)))
  refine ⟨hH.same hle hb.size (fun b h => ?_), hle, { os := hb.os, tape := hb.tape, output := hb.output, size := hb.size, block := fun b h _ => ⟨hb.block b h, rfl, rfl⟩, mb := fun _ _ _ e => .inl ⟨_, e⟩, muts := fun _ _ h => h }⟩
  rcases h with ⟨id, z, _, h⟩ | ⟨c, h⟩
  · exact hb.block b (hH.mb_lt h)
  · exact hb.block b (hH.own_lt h)

theorem f27_ok (e : Int) (l : List Sp) (v : Int) : PC Try.prog 27 [mapV e l, .int .i64 v] fun r => r = .int .i64 (find l v) := by
  refine ⟨pur2 (mapV_pur e l) (pur2 (.int _ _) pur0), ⟨_, _, Try.func27, by kernel_rfl, rfl⟩, fun G w vs hH hr => ?_⟩
  obtain ⟨hl, hr⟩ := hr
  match vs, hl with
  | [m, x], _ =>
  have h0 := hr 0 _ rfl
  have h1 := hr 1 _ rfl
  simp only [List.getD_cons_zero, List.getD_cons_succ] at h0 h1
  cases h1
  cases h0 with
  | agg _ ms hms _ hmr =>
  have m0 := hmr 0 _ rfl
  have m1 := hmr 1 _ rfl
  have hms2 : ms.size = 2 := hms
  obtain ⟨a, b, rfl⟩ : ∃ a b, ms = #[a, b] := by
    obtain ⟨ml⟩ := ms
    match ml, hms2 with
    | [a, b], _ => exact ⟨a, b, rfl⟩
  have m0 : Rep G w (.int .u32 e) a := m0
  have m1 : Rep G w (spS l) b := m1
  cases m0
  have hfit : Fit (spS l) := ⟨G, w, b, m1⟩
  have hlen := spS_len hfit
  have hI : ∃ A len cap, b = .slice A len cap ∧ SpsAt w.heap.size w b l := by
    cases m1 with
    | sl _ _ _ A c bb o f hz hlc hc hk hp hcell h1 hrr =>
    refine ⟨A, _, c, rfl, ?_⟩
    rcases hp with ⟨h0, _⟩ | ⟨rfl, him, _⟩
    · left
      rw [h0]
      exact ⟨A, c, rfl, by simpa using h0⟩
    · rcases Nat.eq_zero_or_pos l.length with h0 | h0
      · left
        have : l = [] := List.eq_nil_of_length_eq_zero h0
        subst this
        exact ⟨_, c, rfl, rfl⟩
      · right
        have hcs : ∀ j (h : j < l.length), w.cell? ⟨bb, o + j * 2, none⟩ = some (.int .i64 l[j].1) ∧ w.cell? ⟨bb, o + j * 2 + 1, none⟩ = some (.int .i64 l[j].2) := by
          intro j hj
          have a0 : cellAt (l.map spR) j 0 = some (.int .i64 l[j].1) := by simp [cellAt, hj, spR]
          have a1 : cellAt (l.map spR) j 1 = some (.int .i64 l[j].2) := by simp [cellAt, hj, spR]
          have c0 := hcell _ _ _ a0
          have c1 := hcell _ _ _ a1
          have r0 := hrr _ _ _ a0
          have r1 := hrr _ _ _ a1
          generalize f j 0 = y0 at c0 r0
          generalize f j 1 = y1 at c1 r1
          cases r0; cases r1
          exact ⟨c0, c1⟩
        refine ⟨bb, o, c, by simp, ?_, fun j hj => ?_, fun j hj => ?_⟩
        · have : 0 < G.imm bb := by simp at him; omega
          exact hH.imm_lt this
        · simpa [hj] using (hcs j hj).1
        · simpa [hj] using (hcs j hj).2
  obtain ⟨A, len, cap, rfl, hI⟩ := hI
  refine (callsIn_wide.1 (find_in Fence.wide 3 trivial trivial trivial rfl (Nat.le_refl _) e v A len cap l hlen w hI)).mono ?_
  rintro en w' ⟨h, hb⟩
  obtain ⟨q1, q2, q3⟩ := of_belowN hH hb
  have fin : ∀ k : Int, en = .returned (.int .i64 k) → k = find l v → ∃ r cr G' H', en = .returned cr ∧ Rep G' w' r cr ∧ HSim G' w' H' ∧ Le G w G' w' ∧ Ext G AH.none w G' H' w' ∧ ∃ r', Ws r r' ∧ Pur r' ∧ r' = .int .i64 (find l v) :=
    fun k h1 h2 => ⟨.int .i64 k, _, G, AH.none, h1, .int _ _, q1, q2, q3, _, .refl _, .int _ _, by rw [h2]⟩
  rcases h with ⟨h1, h2⟩ | ⟨k, hk, h1, h2, h3⟩
  · refine fin _ h1 (find_none (fun s hs => ?_) _).symm
    obtain ⟨j, hj, rfl⟩ := List.mem_iff_getElem.1 hs
    have := h2 j hj
    simp [hj] at this
    omega
  · refine fin _ h1 ?_
    have hm : l.length - 1 - k < l.length := by omega
    have e1 : backAt l k = (l.length - 1 - k, l[l.length - 1 - k]) := by simp [backAt, hm]
    rw [e1] at h2 ⊢
    refine (find_at hm h2 fun j hj hlt => ?_).symm
    have h4 := h3 (l.length - 1 - j) (by omega)
    have e2 : backAt l (l.length - 1 - j) = (j, l[j]) := by
      unfold backAt
      rw [show l.length - 1 - (l.length - 1 - j) = j by omega]
      simp [hj]
    rw [e2] at h4
    dsimp only at h4
    omega
end Go.Proofs.Ytecpiplfjmmccaa.AM
