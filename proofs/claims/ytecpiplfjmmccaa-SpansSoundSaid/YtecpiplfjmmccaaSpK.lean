/-
  Spans: facts: copies, parts; walked.
  Conditions: none.
-/
import Derived.Test.YtecpiplfjmmccaaSpJ
import Derived.Test.YtecpiplfjmmccaaSpH
namespace Go.Proofs.Ytecpiplfjmmccaa.AM
open Go
set_option maxRecDepth 20000

abbrev Fc := List Int × Int
def factR (f : Fc) : List AV := [intS f.1, .int .i64 f.2]
def factS (l : List Fc) : AV := .sl 2 (l.map factR) none
theorem factS_pur (l : List Fc) : Pur (factS l) := by
  refine .sl 2 _ fun i j x hx => ?_
  obtain ⟨r, h1, h2⟩ := cellAt_some hx
  rw [List.getElem?_map] at h1
  obtain ⟨s, _, rfl⟩ := Option.map_eq_some_iff.1 h1
  match j, h2 with
  | 0, h2 => simp [factR] at h2; subst h2; exact intS_pur _
  | 1, h2 => simp [factR] at h2; subst h2; exact .int _ _
theorem ws_factS (l : List Fc) (tok : Option Nat) : Ws (.sl 2 (l.map factR) tok) (factS l) := by
  refine .drop 2 _ tok (fun r hr => ?_) (fun i j x hx => ?_)
  · obtain ⟨s, _, rfl⟩ := List.mem_map.1 hr; rfl
  · obtain ⟨r, h1, h2⟩ := cellAt_some hx
    rw [List.getElem?_map] at h1
    obtain ⟨s, _, rfl⟩ := Option.map_eq_some_iff.1 h1
    match j, h2 with
    | 0, h2 => simp [factR] at h2; subst h2; rfl
    | 1, h2 => simp [factR] at h2; subst h2; rfl
theorem factS_len {l : List Fc} (h : Fit (factS l)) : l.length ≤ 9223372036854775807 := by simpa using h.sl.1
/-- Facts that memory bears. -/
def FcOK (l : List Fc) : Prop := l.length * 32 ≤ 140737488355328 ∧ ∀ f ∈ l, f.1.length * 8 ≤ 140737488355328

theorem f66_ok (l : List Fc) (hl : FcOK l) : PC Try.prog 66 [factS l] fun r => r = factS l := by
  refine PC.of_vc (fun _ => 0) (fun _ => true) ty_ok mix Try.func66 (by kernel_rfl) rfl (by kernel_rfl) (pur2 (factS_pur l) pur0) fun hf => ?_
  have hla := factS_len (l := l) (hf _ (by simp))
  conv => whnf
  refine ⟨Nat, fun i => ⟨30, [(0, factS l), (4, .int .i64 i), (3, .sl 2 ((l.take i).map factR) (some 0))], [], ⟨[], [(2, ((l.take i).map factR).length)]⟩⟩, fun i => i ≤ l.length, fun i => l.length - i, ⟨0, by simp, rfl, ?_, ?_, .tips [2] rfl⟩, ?_⟩
  · refine leT_cons (Wk.refl _) (leT_cons (Wk.refl _) (leT_cons (.nil 2 (some 0) (by omega)) (leT_nil)))
  · refine leL_nil
  intro i hi
  conv => whnf
  refine bsp_intro ?_ ?_
  · intro h
    have hlt : i < l.length := by simpa using h
    conv => whnf
    refine ⟨_, by omega, rows_get hlt, ?_⟩
    conv => whnf
    refine ⟨?_, ?_⟩
    · simpa using hl.2 _ (List.getElem_mem hlt)
    conv => whnf
    refine ⟨_, by omega, rows_get hlt, ?_⟩
    conv => whnf
    refine ⟨⟨rfl, ?_⟩, ?_⟩
    · have := hl.1
      simp; omega
    conv => whnf
    refine ⟨i + 1, by omega, by dsimp only; omega, rfl, ?_, ?_, .tips [] ?_⟩
    · refine leT_cons (Wk.refl _) (leT_cons (Wk.int ?_) (leT_cons (Wk.rows ?_) (leT_nil)))
      · exact IntWalk.i64_in _ (by omega)
      · rw [take_snoc hlt, List.map_append]; rfl
    · refine leL_nil
    · dsimp only; rw [take_snoc hlt, List.map_append]; rfl
  · intro h
    have hge : l.length ≤ i := by simpa using h
    conv => whnf
    rw [List.take_of_length_le hge]
    exact ⟨_, ws_factS _ _, factS_pur _, rfl⟩

/-- A node's facts. -/
def partsOf (m : List Sp) (l : List Fc) (node : Int) : List Fc := l.filter fun f => match f.1 with
  | [] => false
  | k :: _ => find m k == node
theorem partsOf_snoc (m : List Sp) {l : List Fc} {node : Int} {i : Nat} (h : i < l.length) : partsOf m (l.take (i + 1)) node = partsOf m (l.take i) node ++ partsOf m [l[i]] node := by
  rw [take_snoc h]; unfold partsOf; rw [List.filter_append]
theorem partsOf_len (m : List Sp) (l : List Fc) (node : Int) : (partsOf m l node).length ≤ l.length := List.length_filter_le ..
theorem partsOf_ok {m : List Sp} {l : List Fc} {node : Int} (h : FcOK l) : FcOK (partsOf m l node) := by
  refine ⟨?_, fun f hf => h.2 f ((List.mem_filter.1 hf).1)⟩
  have := partsOf_len m l node
  have := h.1
  omega

theorem f32_ok (e : Int) (m : List Sp) (l : List Fc) (node : Int) (hl : FcOK l) : PC Try.prog 32 [mapV e m, factS l, .int .i64 node] fun r => r = factS (partsOf m l node) := by
  refine PC.of_vc (fun _ => 0) (fun _ => true) ty_ok mix Try.func32 (by kernel_rfl) rfl (by kernel_rfl) (pur2 (mapV_pur e m) (pur2 (factS_pur l) (pur2 (.int _ _) pur0))) fun hf => ?_
  have hla := factS_len (l := l) (hf _ (by simp))
  conv => whnf
  refine ⟨Nat, fun i => ⟨44, [(3, .lptr 3 0), (1, factS l), (2, .int .i64 node), (7, .sl 2 ((partsOf m (l.take i) node).map factR) (some 0)), (8, .int .i64 i)], [(3, [.int .u32 e, spS m])], ⟨[], [(2, ((partsOf m (l.take i) node).map factR).length)]⟩⟩, fun i => i ≤ l.length, fun i => l.length - i, ⟨0, by simp, rfl, ?_, ?_, .tips [2] rfl⟩, ?_⟩
  · refine leT_cons (Wk.refl _) (leT_cons (Wk.refl _) (leT_cons (Wk.refl _) (leT_cons (.nil 2 (some 0) (by omega)) (leT_cons (Wk.refl _) (leT_nil)))))
  · refine leL_cons rfl (leC_refl _) (leL_nil)
  intro i hi
  conv => whnf
  refine bsp_intro ?_ ?_
  · intro h
    have hlt : i < l.length := by simpa using h
    have hps := partsOf_snoc m (node := node) hlt
    have next : ∀ q, partsOf m [l[i]] node = q → partsOf m (l.take (i + 1)) node = partsOf m (l.take i) node ++ q := fun q h => by rw [hps, h]
    conv => whnf
    refine DrawVC.go [0, 1, 2, 3, 4, 5, 6, 7, 8, 9, 10, 11, 12, 13, 14, 15, 17, 16, 18, 19] (by kernel_rfl) ?_
    conv => whnf
    refine ⟨_, by omega, rows_get hlt, ?_⟩
    conv => whnf
    have skip : partsOf m [l[i]] node = [] → ∃ x', x' ≤ l.length ∧ l.length - x' < l.length - i ∧ x' = i + 1 ∧ partsOf m (l.take x') node = partsOf m (l.take i) node := fun h => ⟨i + 1, by omega, by omega, rfl, by rw [hps, h, List.append_nil]⟩
    refine bsp_intro ?_ ?_
    · intro h1
      have hk : ∃ k ks, l[i].1 = k :: ks := by
        cases hc : l[i].1 with
        | nil => simp [hc] at h1
        | cons k ks => exact ⟨k, ks, rfl⟩
      obtain ⟨k, ks, hk⟩ := hk
      conv => whnf
      refine ⟨_, by omega, rows_get hlt, ?_⟩
      conv => whnf
      refine ⟨intR k, by omega, by simp [hk], ?_⟩
      conv => whnf
      refine (f28_ok e m k).quiet (Wss.refl _) ?_
      rintro r rfl
      conv => whnf
      have hp : partsOf m [l[i]] node = if find m k == node then [l[i]] else [] := by
        unfold partsOf
        rw [List.filter_cons, hk]
        rfl
      refine bsp_intro ?_ ?_
      · intro h2
        have hp2 := next _ (by rw [hp, if_pos h2])
        conv => whnf
        refine ⟨_, by omega, rows_get hlt, ?_⟩
        conv => whnf
        refine ⟨⟨rfl, ?_⟩, ?_⟩
        · have := partsOf_len m (l.take i) node
          have := hl.1
          simp at *
          omega
        conv => whnf
        refine ⟨i + 1, by omega, by dsimp only; omega, rfl, ?_, ?_, .tips [] ?_⟩
        · refine leT_cons (Wk.refl _) (leT_cons (Wk.refl _) (leT_cons (Wk.refl _) (leT_cons (Wk.rows ?_) (leT_cons (Wk.int ?_) (leT_nil)))))
          · rw [hp2, List.map_append]; rfl
          · exact IntWalk.i64_in _ (by omega)
        · refine leL_cons rfl (leC_refl _) (leL_nil)
        · dsimp only; rw [hp2, List.map_append]; rfl
      · intro h2
        have hp2 := next _ (by rw [hp, if_neg (by simpa using h2)])
        rw [List.append_nil] at hp2
        conv => whnf
        refine ⟨i + 1, by omega, by dsimp only; omega, rfl, ?_, ?_, .tips [] ?_⟩
        · refine leT_cons (Wk.refl _) (leT_cons (Wk.refl _) (leT_cons (Wk.refl _) (leT_cons (Wk.rows ?_) (leT_cons (Wk.int ?_) (leT_nil)))))
          · rw [hp2]
          · exact IntWalk.i64_in _ (by omega)
        · refine leL_cons rfl (leC_refl _) (leL_nil)
        · dsimp only; rw [hp2]; rfl
    · intro h1
      have hk : l[i].1 = [] := by simpa using h1
      have hp2 := next [] (by unfold partsOf; rw [List.filter_cons, hk]; rfl)
      rw [List.append_nil] at hp2
      conv => whnf
      refine ⟨i + 1, by omega, by dsimp only; omega, rfl, ?_, ?_, .tips [] ?_⟩
      · refine leT_cons (Wk.refl _) (leT_cons (Wk.refl _) (leT_cons (Wk.refl _) (leT_cons (Wk.rows ?_) (leT_cons (Wk.int ?_) (leT_nil)))))
        · rw [hp2]
        · exact IntWalk.i64_in _ (by omega)
      · refine leL_cons rfl (leC_refl _) (leL_nil)
      · dsimp only; rw [hp2]; rfl
  · intro h
    have hge : l.length ≤ i := by simpa using h
    conv => whnf
    rw [List.take_of_length_le hge]
    refine (f66_ok _ (partsOf_ok hl)).quiet (.cons (ws_factS _ _) .nil) ?_
    rintro r rfl
    conv => whnf
    exact fin (factS_pur _) rfl
end Go.Proofs.Ytecpiplfjmmccaa.AM
