/-
  The keys of a map of numbers, sorted (slices.Sorted of maps.Keys): by the base's own laws; told without addresses.
  Conditions: the map's keys are numbers of their kind.
-/
import Derived.Test.YtecpiplfjmmccaaAmKeys
import Derived.Test.YtecpiplfjmmccaaSpE
import Derived.Test.YtecpiplfjmmccaaShelf
namespace Go.Proofs.Ytecpiplfjmmccaa.AM
open Go Go.Proofs Go.RowKit Go.Maps Go.Sort Go.Shelf

/-- slices.Sort's two contracts at this dump, at the fence that asks nothing. -/
theorem sortsA (m : Nat) : AnyZI.SortsIn Try.prog Try.sortedA_ren Fence.wide m :=
  ⟨fun blk off cap ss W hH hblk hsz => callsIn_wide.2 (AnyM.slices_Sort_int Try.sortA blk off cap ss W hH hblk hsz),
   fun p cap W => callsIn_wide.2 (AnyM.slices_Sort_int_none Try.sortA p cap W)⟩

theorem f59_ok (H : AH) (id : Nat) : AC Try.prog 59 [.map id] H fun r H' => r = .fn 80 [] [.ptr H.blks.length 0 0] ∧ H' = H.push (.rows 1 [[.map id]]) := by
  refine AC.of_vc (md := fun | 1 => 2 | 1000000 => 1 | _ => 0) (qt := fun _ => true) ty_ok mix Try.func59 (by kernel_rfl) rfl (by kernel_rfl) ?_
  conv => whnf
  exact ⟨rfl, rfl⟩

set_option maxHeartbeats 1000000 in
theorem f58_ok (H : AH) (id idb : Nat) (es : List (Int × AV)) (pd : Option (Int × Nat)) (hi : H.blks[id]? = some (.map .i64 es pd)) (hib : H.blks[idb]? = some (.rows 1 [[.map id]])) (hw : ∀ p ∈ es, (Lit.int .i64 p.1).wf = true) (hl : es.length ≤ 1000000000000) :
    AC Try.prog 58 [.fn 80 [] [.ptr idb 0 0]] H fun r H' => H' = H ∧ ∃ l : List Int, l.Perm (es.map (·.1)) ∧ l.Pairwise (fun a b => a ≤ b) ∧ ((l = [] ∧ r = .nils) ∨ r = intS l) := by
  refine ⟨⟨_, _, Try.func58, by kernel_rfl, rfl⟩, fun G w vs hH hr => ?_⟩
  obtain ⟨hlv, hr⟩ := hr
  match vs, hlv with
  | [v], _ =>
  have h0 := hr 0 _ rfl
  simp only [List.getD_cons_zero] at h0
  cases h0 with
  | fn _ _ _ fv cv hf hc hfr hcr =>
  have hf0 : fv = #[] := Array.eq_empty_of_size_eq_zero hf
  subst hf0
  obtain ⟨c0, rfl⟩ : ∃ c0, cv = #[c0] := by
    obtain ⟨cl⟩ := cv
    match cl, hc with
    | [c0], _ => exact ⟨c0, rfl⟩
  have h1 : Rep G w (.ptr idb 0 0) c0 := hcr 0 _ rfl
  cases h1 with
  | ptr _ _ _ B z hmb =>
  obtain ⟨rfl, _, us, e, g1, _, g3, g4⟩ := rows_at (S := ⟨0, [], [], H⟩) hH hib hmb
  have g5 := g4 0 0 (.map id) rfl
  simp only [Nat.zero_mul, Nat.add_zero] at g5
  rcases g5 with g5 | ⟨_, g5⟩
  · cases g5
  generalize hu0 : us.getD 0 Go.undef = u0 at g5
  cases g5 with
  | map _ b hmb2 =>
  obtain ⟨en, clock, hat⟩ := map_at (S := ⟨0, [], [], H⟩) hH hi hmb2
  have hk3 : Try.prog.underlying 3 = some (.int .i64) := Try.underlying3
  obtain ⟨D, hown, hDl, hDp⟩ := map_owns (P := Try.prog) hat hk3 hw (by have : maxLen = 9223372036854775807 := rfl; omega)
  have hcB : w.cell? ⟨B, 0, none⟩ = some (.map (some b)) := by
    have := cell_row (w := w) g1 (j := 0) (by simp at g3; omega)
    rw [this, hu0]
  have hseq : SeqGives Fence.wide 2 Try.prog 80 #[.pointer (some ⟨B, 0, none⟩)] encZ (fun ss => ss.Perm (intKeys (.map D))) (Maps.size (.map D)) w :=
    AnyZI.keys_gives (ρ := Try.keysA_ren) { Try.keysA with } Fence.wide _ trivial rfl (by omega) B b es.length (.map D) _ (lt_of_heap g1) hcB hown
  have hsz : Maps.size (.map D) = es.length := hDl
  have cS := AnyZI.sorted_in Try.sortedA Fence.wide 5 trivial trivial trivial trivial rfl (by omega) (sortsA _) (enters_of Try.func79 (by kernel_rfl) rfl) 80 #[.pointer (some ⟨B, 0, none⟩)] trivial (enters_of Try.func80 (by kernel_rfl) rfl) _ _ (by rw [hsz]; have : maxLen = 9223372036854775807 := rfl; omega) (by rw [hsz]; omega) _ hseq
  change CallsIn _ _ Try.prog 58 _ _ _ at cS
  simp only [Nat.zero_mul, Nat.add_zero]
  refine (callsIn_wide.1 cS).mono ?_
  rintro en' w' ⟨v, ss, rfl, hperm, hrow, hnil, hb⟩
  have hkeys : (intKeys (.map D)).Perm (es.map (·.1)) := by
    have := hDp.map Go.intOf
    rw [List.map_map, List.map_map] at this
    exact this
  obtain ⟨G', q1, q2, q3, q4⟩ := owns_rep (q := .i64) (l := ss.mergeSort fun x y => decide (x ≤ y)) hH hb (by rw [List.length_mergeSort]; exact hrow) (by
    rw [hnil]
    constructor
    · rintro rfl; simp
    · intro h
      have := List.length_mergeSort (le := fun x y : Int => decide (x ≤ y)) ss
      rw [h] at this
      exact List.eq_nil_of_length_eq_zero this.symm)
  have hp1 : (ss.mergeSort fun x y => decide (x ≤ y)).Perm (es.map (·.1)) := ((List.mergeSort_perm ss _).trans hperm).trans hkeys
  have hs1 : (ss.mergeSort fun x y => decide (x ≤ y)).Pairwise (fun a b => a ≤ b) := by
    have := List.pairwise_mergeSort (le := fun x y : Int => decide (x ≤ y)) (fun a b c h1 h2 => by simp at *; omega) (fun a b => by simp; omega) ss
    exact this.imp fun h => by simpa using h
  rcases q4 with ⟨q4, q5⟩ | q4
  · exact ⟨.nils, v, G', H, rfl, q5, q3, q1, q2, rfl, _, hp1, hs1, .inl ⟨q4, rfl⟩⟩
  · exact ⟨_, v, G', H, rfl, q4, q3, q1, q2, rfl, _, hp1, hs1, .inr rfl⟩
end Go.Proofs.Ytecpiplfjmmccaa.AM
