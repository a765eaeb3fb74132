/-
  Spans: Parts, walked.
  Conditions: none.
-/
import Derived.Test.YtecpiplfjmmccaaSpK
namespace Go.Proofs.Ytecpiplfjmmccaa.AM
open Go
set_option maxRecDepth 20000

theorem f31_ok (e : Int) (m : List Sp) (l : List Fc) (node : Int) (hl : FcOK l) : PC Try.prog 31 [mapV e m, factS l, .int .i64 node] fun r => r = factS (partsOf m l node) := by
  refine PC.of_vc (fun _ => 0) (fun _ => true) ty_ok mix Try.func31 (by kernel_rfl) rfl (by kernel_rfl) (pur2 (mapV_pur e m) (pur2 (factS_pur l) (pur2 (.int _ _) pur0))) fun hf => ?_
  have hla := factS_len (l := l) (hf _ (by simp))
  conv => whnf
  refine ⟨Nat, fun i => ⟨41, [(3, .lptr 3 0), (1, factS l), (2, .int .i64 node), (7, .sl 2 ((partsOf m (l.take i) node).map factR) (some 0)), (10, factS l), (11, .int .i64 l.length), (12, .int .i64 i)], [(3, [.int .u32 e, spS m])], ⟨[], [(2, ((partsOf m (l.take i) node).map factR).length)]⟩⟩, fun i => i ≤ l.length, fun i => l.length - i, ⟨0, by simp, rfl, ?_, ?_, .tips [2] rfl⟩, ?_⟩
  · refine leT_cons (Wk.refl _) (leT_cons (Wk.refl _) (leT_cons (Wk.refl _) (leT_cons (.nil 2 (some 0) (by omega)) (leT_cons (Wk.refl _) (leT_cons (Wk.int (by simp)) (leT_cons (Wk.refl _) (leT_nil)))))))
  · refine leL_cons rfl (leC_refl _) (leL_nil)
  intro i hi
  conv => whnf
  refine bsp_intro ?_ ?_
  · intro h
    have hlt : i < l.length := by simpa using h
    have hps := partsOf_snoc m (node := node) hlt
    have next : ∀ q, partsOf m [l[i]] node = q → partsOf m (l.take (i + 1)) node = partsOf m (l.take i) node ++ q := fun q h => by rw [hps, h]
    conv => whnf
    refine ⟨_, by omega, rows_get hlt, ?_⟩
    conv => whnf
    refine DrawVC.go [0, 1, 2, 3, 4, 5, 6, 7, 8, 9, 11, 10, 12, 13] (by kernel_rfl) ?_
    conv => whnf
    refine bsp_intro ?_ ?_
    · intro h1
      have hk : ∃ k ks, l[i].1 = k :: ks := by
        cases hc : l[i].1 with
        | nil => simp [hc] at h1
        | cons k ks => exact ⟨k, ks, rfl⟩
      obtain ⟨k, ks, hk⟩ := hk
      conv => whnf
      refine ⟨intR k, by omega, by simp [hk], ?_⟩
      conv => whnf
      refine (f27_ok e m k).quiet (Wss.refl _) ?_
      rintro r rfl
      conv => whnf
      have hp : partsOf m [l[i]] node = if find m k == node then [l[i]] else [] := by
        unfold partsOf
        rw [List.filter_cons, hk]
        rfl
      refine bsp_intro ?_ ?_
      · intro h2
        have hp2 := next _ (by rw [hp, if_pos h2])
        conv => whnf
        refine DrawVC.go [0, 1, 2, 4, 5, 3, 6, 7, 8, 9] (by kernel_rfl) ?_
        conv => whnf
        refine (f65_ok l[i].1 (hl.2 _ (List.getElem_mem hlt))).quiet (Wss.refl _) ?_
        rintro r rfl
        conv => whnf
        refine ⟨⟨rfl, ?_⟩, ?_⟩
        · have := partsOf_len m (l.take i) node
          have := hl.1
          simp at *
          omega
        conv => whnf
        refine ⟨i + 1, by omega, by dsimp only; omega, rfl, ?_, ?_, .tips [] ?_⟩
        · refine leT_cons (Wk.refl _) (leT_cons (Wk.refl _) (leT_cons (Wk.refl _) (leT_cons (Wk.rows ?_) (leT_cons (Wk.refl _) (leT_cons (Wk.refl _) (leT_cons (Wk.int ?_) (leT_nil)))))))
          · rw [hp2, List.map_append]; rfl
          · exact IntWalk.i64_in _ (by omega)
        · refine leL_cons rfl (leC_refl _) (leL_nil)
        · dsimp only; rw [hp2, List.map_append]; rfl
      · intro h2
        have hp2 := next _ (by rw [hp, if_neg (by simpa using h2)])
        rw [List.append_nil] at hp2
        conv => whnf
        refine ⟨i + 1, by omega, by dsimp only; omega, rfl, ?_, ?_, .tips [] ?_⟩
        · refine leT_cons (Wk.refl _) (leT_cons (Wk.refl _) (leT_cons (Wk.refl _) (leT_cons (Wk.rows ?_) (leT_cons (Wk.refl _) (leT_cons (Wk.refl _) (leT_cons (Wk.int ?_) (leT_nil)))))))
          · rw [hp2]
          · exact IntWalk.i64_in _ (by omega)
        · refine leL_cons rfl (leC_refl _) (leL_nil)
        · dsimp only; rw [hp2]; rfl
    · intro h1
      have hk : l[i].1 = [] := by simpa using h1
      have hp2 := next [] (by unfold partsOf; rw [List.filter_cons, hk]; rfl)
      rw [List.append_nil] at hp2
      conv => whnf
      refine ⟨i + 1, by omega, by dsimp only; omega, rfl, ?_, ?_, .tips [] ?_⟩
      · refine leT_cons (Wk.refl _) (leT_cons (Wk.refl _) (leT_cons (Wk.refl _) (leT_cons (Wk.rows ?_) (leT_cons (Wk.refl _) (leT_cons (Wk.refl _) (leT_cons (Wk.int ?_) (leT_nil)))))))
        · rw [hp2]
        · exact IntWalk.i64_in _ (by omega)
      · refine leL_cons rfl (leC_refl _) (leL_nil)
      · dsimp only; rw [hp2]; rfl
  · intro h
    have hge : l.length ≤ i := by simpa using h
    conv => whnf
    rw [List.take_of_length_le hge]
    exact ⟨_, ws_factS _ _, factS_pur _, rfl⟩
end Go.Proofs.Ytecpiplfjmmccaa.AM
