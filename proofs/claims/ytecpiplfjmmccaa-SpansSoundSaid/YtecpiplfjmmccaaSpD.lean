/-
  Spans: Sound, the reference's and the program's, walked.
  Conditions: none.
-/
import Derived.Test.YtecpiplfjmmccaaSpC
namespace Go.Proofs.Ytecpiplfjmmccaa.AM
open Go
set_option maxRecDepth 20000

/-- A span may stand where it stands. -/
def OkAt (l : List Sp) (size nodes : Int) (i : Nat) (h : i < l.length) : Prop :=
  0 ≤ l[i].2 ∧ l[i].2 < nodes ∧ l[i].2 < 6 ∧ l[i].1 < size ∧ (i = 0 → l[i].1 = 0) ∧ (∀ h' : 0 < i, l[i - 1].1 < l[i].1 ∧ l[i].2 ≠ l[i - 1].2)
def Snd (l : List Sp) (size nodes : Int) : Prop := 1 ≤ l.length ∧ l.length ≤ 40 ∧ ∀ i (h : i < l.length), OkAt l size nodes i h

theorem min_lt {a b c : Int} (h : ¬ (if b < a then b else a) ≤ c) : c < a ∧ c < b := by split at h <;> omega
theorem min_ge {a b c : Int} (h : (if b < a then b else a) ≤ c) : a ≤ c ∨ b ≤ c := by split at h <;> omega

theorem f26_ok (e : Int) (l : List Sp) (size nodes : Int) : PC Try.prog 26 [mapV e l, .int .i64 size, .int .i64 nodes] fun r => ∃ b, r = .bool b ∧ (b = true ↔ Snd l size nodes) := by
  refine PC.of_vc (fun _ => 0) (fun _ => true) ty_ok mix Try.func26 (by kernel_rfl) rfl (by kernel_rfl) (pur2 (mapV_pur e l) (pur2 (.int _ _) (pur2 (.int _ _) pur0))) fun hf => ?_
  have hla := mapV_len (e := e) (l := l) (hf _ (by simp))
  have no : ¬ Snd l size nodes → ∃ r', Ws (one? [AV.bool false]) r' ∧ Pur r' ∧ ∃ b, r' = .bool b ∧ (b = true ↔ Snd l size nodes) := fun h => fin (.bool _) ⟨false, rfl, by simp [h]⟩
  conv => whnf
  refine ⟨Nat, fun i => ⟨100, [(3, .lptr 3 0), (1, .int .i64 size), (2, .int .i64 nodes), (7, .int .i64 i)], [(3, [.int .u32 e, spS l])], AH.none⟩, fun i => i ≤ l.length ∧ ∀ j (h : j < l.length), j < i → OkAt l size nodes j h, fun i => l.length - i, ⟨0, by simp, rfl, ?_, ?_, .tips [] rfl⟩, ?_⟩
  · refine leT_cons (Wk.refl _) (leT_cons (Wk.refl _) (leT_cons (Wk.refl _) (leT_cons (Wk.refl _) (leT_nil))))
  · refine leL_cons rfl (leC_refl _) (leL_nil)
  intro i hi
  conv => whnf
  refine bsp_intro ?_ ?_
  · intro h
    have hlt : i < l.length := by simpa using h
    have bad : ¬ OkAt l size nodes i hlt → ∃ r', Ws (one? [AV.bool false]) r' ∧ Pur r' ∧ ∃ b, r' = .bool b ∧ (b = true ↔ Snd l size nodes) := fun h => no fun hs => h (hs.2.2 i hlt)
    conv => whnf
    refine ⟨_, by omega, rows_get hlt, ?_⟩
    conv => whnf
    refine bsp_intro ?_ ?_
    · intro h1
      have h1 := of_decide_eq_true h1
      conv => whnf
      exact bad fun ho => by have := ho.1; omega
    intro h1
    have h1 := of_decide_eq_false h1
    conv => whnf
    refine ⟨_, by omega, rows_get hlt, ?_⟩
    conv => whnf
    refine bsp_intro ?_ ?_
    · intro h2
      have h2 := min_ge (of_decide_eq_true h2)
      conv => whnf
      exact bad fun ho => by have := ho.2.1; have := ho.2.2.1; omega
    intro h2
    have h2 := min_lt (of_decide_eq_false h2)
    conv => whnf
    refine ⟨_, by omega, rows_get hlt, ?_⟩
    conv => whnf
    refine bsp_intro ?_ ?_
    · intro h3
      have h3 := of_decide_eq_true h3
      conv => whnf
      exact bad fun ho => by have := ho.2.2.2.1; omega
    intro h3
    have h3 := of_decide_eq_false h3
    conv => whnf
    have step : OkAt l size nodes i hlt → ∃ x', (fun i => i ≤ l.length ∧ ∀ j (h : j < l.length), j < i → OkAt l size nodes j h) x' ∧ l.length - x' < l.length - i ∧ x' = i + 1 := fun ho =>
      ⟨i + 1, ⟨by omega, fun j hj hji => by
        rcases Nat.lt_or_ge j i with hj' | hj'
        · exact hi.2 j hj hj'
        · have : j = i := by omega
          subst this; exact ho⟩, by omega, rfl⟩
    refine bsp_intro ?_ ?_
    · intro h4
      have h4 : i = 0 := by simp at h4; omega
      conv => whnf
      refine ⟨_, by omega, rows_get hlt, ?_⟩
      conv => whnf
      refine bsp_intro ?_ ?_
      · intro h5
        have h5 : l[i].1 ≠ 0 := by simpa using h5
        conv => whnf
        exact bad fun ho => h5 (ho.2.2.2.2.1 h4)
      intro h5
      have h5 : l[i].1 = 0 := by simpa using h5
      conv => whnf
      refine DrawVC.go [0, 1, 2, 3, 4, 5, 6, 7, 8, 9, 10, 11, 12, 13, 14, 15, 16, 17, 18, 19, 20, 21, 22, 23, 24, 25, 26, 27, 28, 29, 30, 31, 32, 33] (by kernel_rfl) ?_
      conv => whnf
      refine bsp_intro ?_ ?_
      · intro h6
        simp at h6; omega
      intro h6
      conv => whnf
      obtain ⟨x', g1, g2, rfl⟩ := step ⟨by omega, h2.1, h2.2, by omega, fun _ => h5, fun h => by omega⟩
      refine ⟨i + 1, g1, g2, rfl, ?_, ?_, .tips [] rfl⟩
      · refine leT_cons (Wk.refl _) (leT_cons (Wk.refl _) (leT_cons (Wk.refl _) (leT_cons (Wk.int ?_) (leT_nil))))
        rw [IntWalk.i64_in _ (by omega)]; rfl
      · refine leL_cons rfl (leC_refl _) (leL_nil)
    intro h4
    have h4 : i ≠ 0 := by simp at h4; omega
    conv => whnf
    refine DrawVC.go [0, 1, 2, 3, 4, 5, 6, 7, 8, 9, 10, 11, 12, 13, 14, 15, 16, 17, 18, 19, 20, 21, 22, 23, 24, 25, 26, 27, 28, 29, 30, 31, 32, 33] (by kernel_rfl) ?_
    conv => whnf
    refine bsp_intro ?_ ?_
    · intro h6
      conv => whnf
      refine ⟨_, by omega, rows_get hlt, ?_⟩
      conv => whnf
      have e1 : IntKind.i64.wrap ((i : Int) - 1) = ((i - 1 : Nat) : Int) := by rw [IntWalk.i64_in _ (by omega)]; omega
      rw [e1]
      have hlt' : i - 1 < l.length := by omega
      refine ⟨_, by omega, rows_get hlt', ?_⟩
      conv => whnf
      refine bsp_intro ?_ ?_
      · intro h7
        have h7 := of_decide_eq_true h7
        conv => whnf
        exact bad fun ho => by have := (ho.2.2.2.2.2 (by omega)).1; omega
      intro h7
      have h7 := of_decide_eq_false h7
      conv => whnf
      refine ⟨_, by omega, rows_get hlt, ?_⟩
      conv => whnf
      rw [e1]
      refine ⟨_, by omega, rows_get hlt', ?_⟩
      conv => whnf
      refine bsp_intro ?_ ?_
      · intro h8
        have h8 : l[i].2 = l[i - 1].2 := by simpa using h8
        conv => whnf
        exact bad fun ho => (ho.2.2.2.2.2 (by omega)).2 h8
      intro h8
      have h8 : l[i].2 ≠ l[i - 1].2 := by simpa using h8
      conv => whnf
      obtain ⟨x', g1, g2, rfl⟩ := step ⟨by omega, h2.1, h2.2, by omega, fun h => absurd h h4, fun _ => ⟨by omega, h8⟩⟩
      refine ⟨i + 1, g1, g2, rfl, ?_, ?_, .tips [] rfl⟩
      · refine leT_cons (Wk.refl _) (leT_cons (Wk.refl _) (leT_cons (Wk.refl _) (leT_cons (Wk.int ?_) (leT_nil))))
        rw [IntWalk.i64_in _ (by omega)]; rfl
      · refine leL_cons rfl (leC_refl _) (leL_nil)
    · intro h6
      simp at h6; omega
  · intro h
    have hge : l.length ≤ i := by simpa using h
    have hall : ∀ j (h : j < l.length), OkAt l size nodes j h := fun j hj => hi.2 j hj (by omega)
    conv => whnf
    refine bsp_intro ?_ ?_
    · intro h1
      have h1 : 1 ≤ l.length := by simp at h1; omega
      conv => whnf
      refine fin (.bool _) ⟨_, rfl, ?_⟩
      simp only [List.length_map, decide_eq_true_eq]
      exact ⟨fun h => ⟨h1, by omega, hall⟩, fun h => by have := h.2.1; omega⟩
    · intro h1
      have h1 : ¬ 1 ≤ l.length := by simp at h1; omega
      conv => whnf
      exact no fun h => h1 h.1

theorem f25_ok (e : Int) (l : List Sp) (size nodes : Int) : PC Try.prog 25 [mapV e l, .int .i64 size, .int .i64 nodes] fun r => ∃ b, r = .bool b ∧ (b = true ↔ Snd l size nodes) := by
  refine PC.of_vc (fun _ => 0) (fun _ => true) ty_ok mix Try.func25 (by kernel_rfl) rfl (by kernel_rfl) (pur2 (mapV_pur e l) (pur2 (.int _ _) (pur2 (.int _ _) pur0))) fun hf => ?_
  have hla := mapV_len (e := e) (l := l) (hf _ (by simp))
  have no : ¬ Snd l size nodes → ∃ r', Ws (one? [AV.bool false]) r' ∧ Pur r' ∧ ∃ b, r' = .bool b ∧ (b = true ↔ Snd l size nodes) := fun h => fin (.bool _) ⟨false, rfl, by simp [h]⟩
  conv => whnf
  refine bsp_intro ?_ ?_
  · intro h
    have h : l.length = 0 := by simp at h; simp [h]
    conv => whnf
    exact no fun hs => by have := hs.1; omega
  intro h
  have hpos : 0 < l.length := by simp at h; exact List.length_pos_iff.2 h
  conv => whnf
  refine bsp_intro ?_ ?_
  · intro h
    conv => whnf
    exact no fun hs => by have := hs.2.1; simp at h; omega
  intro h
  have h40 : l.length ≤ 40 := by simp at h; omega
  conv => whnf
  refine ⟨_, by omega, rows_get (i := 0) hpos, ?_⟩
  conv => whnf
  refine bsp_intro ?_ ?_
  · intro h
    have h : l[0].1 ≠ 0 := by simpa using h
    conv => whnf
    exact no fun hs => h ((hs.2.2 0 hpos).2.2.2.2.1 rfl)
  intro h
  have h00 : l[0].1 = 0 := by simpa using h
  conv => whnf
  refine ⟨Nat × Sp, fun p => ⟨68, [(3, .lptr 3 0), (1, .int .i64 size), (2, .int .i64 nodes), (7, .lptr 7 0), (30, spS l), (31, .int .i64 l.length), (32, .int .i64 p.1)], [(3, [.int .u32 e, spS l]), (7, [.int .i64 p.2.1, .int .i64 p.2.2])], AH.none⟩,
    fun p => p.1 ≤ l.length ∧ (∀ j (h : j < l.length), j < p.1 → OkAt l size nodes j h) ∧ (p.1 = 0 → p.2 = (-1, -1)) ∧ (∀ (h : 0 < p.1) (h' : p.1 - 1 < l.length), p.2 = l[p.1 - 1]), fun p => l.length - p.1, ⟨(0, (-1, -1)), ⟨by simp, by simp, by simp, by simp⟩, rfl, ?_, ?_, .tips [] rfl⟩, ?_⟩
  · refine leT_cons (Wk.refl _) (leT_cons (Wk.refl _) (leT_cons (Wk.refl _) (leT_cons (Wk.refl _) (leT_cons (Wk.refl _) (leT_cons (Wk.int (by simp)) (leT_cons (Wk.refl _) (leT_nil)))))))
  · refine leL_cons rfl (leC_refl _) (leL_cons rfl (leC_cons (Wk.int ?_) (leC_cons (Wk.int ?_) (leC_nil))) (leL_nil))
    · rfl
    · rfl
  rintro ⟨i, s⟩ ⟨hi1, hi2, hi3, hi4⟩
  dsimp only at hi1 hi2 hi3 hi4
  conv => whnf
  refine bsp_intro ?_ ?_
  · intro h
    have hlt : i < l.length := by simpa using h
    have bad : ¬ OkAt l size nodes i hlt → ∃ r', Ws (one? [AV.bool false]) r' ∧ Pur r' ∧ ∃ b, r' = .bool b ∧ (b = true ↔ Snd l size nodes) := fun h => no fun hs => h (hs.2.2 i hlt)
    have hs : (i = 0 ∧ s = (-1, -1) ∧ l[i].1 = 0) ∨ ∃ h : 0 < i, s = l[i - 1] := by
      rcases Nat.eq_zero_or_pos i with h0 | h0
      · left
        refine ⟨h0, hi3 h0, ?_⟩
        subst h0; exact h00
      · exact .inr ⟨h0, hi4 h0 (by omega)⟩
    conv => whnf
    refine ⟨_, by omega, rows_get hlt, ?_⟩
    conv => whnf
    refine bsp_intro ?_ ?_
    · intro h1
      have h1 : l[i].1 ≤ s.1 := of_decide_eq_true h1
      conv => whnf
      refine bad fun ho => ?_
      rcases hs with ⟨h0, rfl, h2⟩ | ⟨h0, rfl⟩
      · dsimp only at h1; omega
      · have := (ho.2.2.2.2.2 h0).1; omega
    intro h1
    have h1 : ¬ l[i].1 ≤ s.1 := of_decide_eq_false h1
    conv => whnf
    refine bsp_intro ?_ ?_
    · intro h2
      have h2 := of_decide_eq_true h2
      conv => whnf
      exact bad fun ho => by have := ho.2.2.2.1; omega
    intro h2
    have h2 := of_decide_eq_false h2
    conv => whnf
    refine bsp_intro ?_ ?_
    · intro h3
      have h3 : l[i].2 = s.2 := by simpa using h3
      conv => whnf
      refine bad fun ho => ?_
      rcases hs with ⟨h0, rfl, _⟩ | ⟨h0, rfl⟩
      · have := ho.1; dsimp only at h3; omega
      · exact (ho.2.2.2.2.2 h0).2 h3
    intro h3
    have h3 : l[i].2 ≠ s.2 := by simpa using h3
    conv => whnf
    refine bsp_intro ?_ ?_
    · intro h4
      have h4 := of_decide_eq_true h4
      conv => whnf
      exact bad fun ho => by have := ho.1; omega
    intro h4
    have h4 := of_decide_eq_false h4
    conv => whnf
    refine bsp_intro ?_ ?_
    · intro h5
      have h5 := min_ge (of_decide_eq_true h5)
      conv => whnf
      exact bad fun ho => by have := ho.2.1; have := ho.2.2.1; omega
    intro h5
    have h5 := min_lt (of_decide_eq_false h5)
    conv => whnf
    refine ⟨(i + 1, l[i]), ⟨by dsimp only; omega, fun j hj hji => ?_, fun h => by dsimp only at h; omega, fun _ _ => rfl⟩, by dsimp only; omega, rfl, ?_, ?_, .tips [] rfl⟩
    · dsimp only at hji
      rcases Nat.lt_or_ge j i with hj' | hj'
      · exact hi2 j hj hj'
      · have : j = i := by omega
        subst this
        refine ⟨by omega, h5.1, h5.2, by omega, fun h0 => ?_, fun h0 => ?_⟩
        · rcases hs with ⟨_, _, h⟩ | ⟨h, _⟩
          · exact h
          · omega
        · rcases hs with ⟨h, _, _⟩ | ⟨_, rfl⟩
          · omega
          · exact ⟨by omega, h3⟩
    · refine leT_cons (Wk.refl _) (leT_cons (Wk.refl _) (leT_cons (Wk.refl _) (leT_cons (Wk.refl _) (leT_cons (Wk.refl _) (leT_cons (Wk.refl _) (leT_cons (Wk.int ?_) (leT_nil)))))))
      rw [IntWalk.i64_in _ (by omega)]; rfl
    · refine leL_cons rfl (leC_refl _) (leL_cons rfl (leC_refl _) (leL_nil))
  · intro h
    have hge : l.length ≤ i := by simpa using h
    conv => whnf
    refine fin (.bool _) ⟨true, rfl, ?_⟩
    simp only [true_iff]
    exact ⟨hpos, h40, fun j hj => hi2 j hj (by omega)⟩
end Go.Proofs.Ytecpiplfjmmccaa.AM
