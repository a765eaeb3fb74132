/-
  Spans: whether maps are alike; the first map; walked.
  Conditions: none.
-/
import Derived.Test.YtecpiplfjmmccaaSpB
namespace Go.Proofs.Ytecpiplfjmmccaa.AM
open Go
set_option maxRecDepth 20000

theorem f23_ok (e : Int) (l : List Sp) (e' : Int) (l' : List Sp) : PC Try.prog 23 [mapV e l, mapV e' l'] fun r => r = .bool (decide (e = e' ∧ l = l')) := by
  refine PC.of_vc (fun _ => 0) (fun _ => true) ty_ok mix Try.func23 (by kernel_rfl) rfl (by kernel_rfl) (pur2 (mapV_pur e l) (pur2 (mapV_pur e' l') pur0)) fun hf => ?_
  conv => whnf
  refine bsp_intro ?_ ?_
  · intro h
    have he : e = e' := by simpa using h
    conv => whnf
    refine (f62_ok l l').quiet (Wss.refl _) ?_
    rintro r rfl
    conv => whnf
    refine fin (.bool _) ?_
    simp only [he, true_and]
    rfl
  · intro h
    have he : e ≠ e' := by simpa using h
    conv => whnf
    refine fin (.bool _) ?_
    simp only [he, false_and, decide_false]
    rfl

theorem f29_ok (e : Int) (a : List Sp) (e' : Int) (b : List Sp) : PC Try.prog 29 [mapV e a, mapV e' b] fun r => r = .bool (decide (e = e' ∧ a = b)) := by
  refine PC.of_vc (fun _ => 0) (fun _ => true) ty_ok mix Try.func29 (by kernel_rfl) rfl (by kernel_rfl) (pur2 (mapV_pur e a) (pur2 (mapV_pur e' b) pur0)) fun hf => ?_
  have hla := mapV_len (e := e) (l := a) (hf _ (by simp))
  conv => whnf
  have no : ¬ (e = e' ∧ a = b) → ∃ r', Ws (one? [AV.bool false]) r' ∧ Pur r' ∧ r' = .bool (decide (e = e' ∧ a = b)) := fun h => fin (.bool _) (by rw [decide_eq_false h]; rfl)
  refine bsp_intro ?_ ?_
  · intro h
    have he : e ≠ e' := by simpa using h
    conv => whnf
    exact no fun h => he h.1
  intro h
  have he : e = e' := by simpa using h
  conv => whnf
  refine bsp_intro ?_ ?_
  · intro h
    have hne : a.length ≠ b.length := by simp at h; omega
    conv => whnf
    exact no fun h => hne (by rw [h.2])
  intro h
  have hlen : a.length = b.length := by simp at h; omega
  conv => whnf
  refine ⟨Nat, fun i => ⟨38, [(2, .lptr 2 0), (3, .lptr 3 0), (5, .int .i64 i)], [(2, [.int .u32 e, spS a]), (3, [.int .u32 e', spS b])], AH.none⟩, fun i => i ≤ a.length ∧ a.take i = b.take i, fun i => a.length - i, ⟨0, by simp, rfl, ?_, ?_, .tips [] rfl⟩, ?_⟩
  · refine leT_cons (Wk.refl _) (leT_cons (Wk.refl _) (leT_cons (Wk.refl _) (leT_nil)))
  · refine leL_cons rfl (leC_refl _) (leL_cons rfl (leC_refl _) (leL_nil))
  intro i hi
  conv => whnf
  refine bsp_intro ?_ ?_
  · intro h
    have hlt : i < a.length := by simpa using h
    have hlt' : i < b.length := by omega
    conv => whnf
    refine DrawVC.go [0, 1, 2, 3, 4, 5, 6, 7, 8, 9, 10] (by kernel_rfl) ?_
    conv => whnf
    refine ⟨_, by omega, rows_get hlt, ?_⟩
    conv => whnf
    refine ⟨_, by omega, rows_get hlt', ?_⟩
    conv => whnf
    refine bsp_intro ?_ ?_
    · intro h
      have hne : a[i] ≠ b[i] := fun e => by simp [e] at h
      conv => whnf
      exact no fun e => hne (by simp [e.2])
    · intro h
      have heq : a[i] = b[i] := by simp at h; exact Prod.ext h.1 h.2
      conv => whnf
      refine ⟨i + 1, ⟨by omega, take_eq hlt hlt' hi.2 heq⟩, by dsimp only; omega, rfl, ?_, ?_, .tips [] rfl⟩
      · refine leT_cons (Wk.refl _) (leT_cons (Wk.refl _) (leT_cons (Wk.int ?_) (leT_nil)))
        rw [IntWalk.i64_in _ (by omega)]; rfl
      · refine leL_cons rfl (leC_refl _) (leL_cons rfl (leC_refl _) (leL_nil))
  · intro h
    have hge : a.length ≤ i := by simpa using h
    conv => whnf
    refine fin (.bool _) ?_
    have : a = b := by
      have := hi.2
      rwa [List.take_of_length_le hge, List.take_of_length_le (by omega)] at this
    rw [decide_eq_true ⟨he, this⟩]
    rfl

theorem ws_spS (l : List Sp) (tok : Option Nat) : Ws (.sl 2 (l.map spR) tok) (spS l) := by
  refine .drop 2 _ tok (fun r hr => ?_) (fun i j x hx => ?_)
  · obtain ⟨s, _, rfl⟩ := List.mem_map.1 hr; rfl
  · obtain ⟨r, h1, h2⟩ := cellAt_some hx
    rw [List.getElem?_map] at h1
    obtain ⟨s, _, rfl⟩ := Option.map_eq_some_iff.1 h1
    match j, h2 with
    | 0, h2 => simp [spR] at h2; subst h2; rfl
    | 1, h2 => simp [spR] at h2; subst h2; rfl
theorem ws_agg2 {a b c d : AV} (h1 : c.one = true) (h2 : d.one = true) (k1 : Ws a c) (k2 : Ws b d) : Ws (.agg [a, b]) (.agg [c, d]) := by
  refine .agg _ _ (fun j => if j = 0 then a else b) rfl (fun j x hx => ?_) (fun j x hx => ?_) (fun j x hx => ?_) <;> match j, hx with
  | 0, hx => simp at hx; subst hx; first | rfl | exact h1 | exact k1
  | 1, hx => simp at hx; subst hx; first | rfl | exact h2 | exact k2
theorem ws_mapV (e : Int) (l : List Sp) (tok : Option Nat) : Ws (.agg [.int .u32 e, .sl 2 (l.map spR) tok]) (mapV e l) := ws_agg2 rfl rfl (.refl _) (ws_spS l tok)
theorem ws_nilV (e : Int) : Ws (.agg [.int .u32 e, .nils]) (mapV e []) := ws_agg2 rfl rfl (.refl _) (.nil 2 (by omega))

theorem f49_ok : PC Try.prog 49 [] fun r => r = mapV 1 [(0, 0)] := by
  refine PC.of_vc (fun _ => 0) (fun _ => true) ty_ok mix Try.func49 (by kernel_rfl) rfl (by kernel_rfl) pur0 fun hf => ?_
  conv => whnf
  exact fin (mapV_pur 1 [(0, 0)]) rfl
theorem f57_ok : PC Try.prog 57 [] fun r => r = mapV 1 [(0, 0)] := by
  refine PC.of_vc (fun _ => 0) (fun _ => true) ty_ok mix Try.func57 (by kernel_rfl) rfl (by kernel_rfl) pur0 fun hf => ?_
  conv => whnf
  exact fin (mapV_pur 1 [(0, 0)]) rfl
end Go.Proofs.Ytecpiplfjmmccaa.AM
