/-
  Spans: clones; a number among numbers; walked.
  Conditions: none.
-/
import Derived.Test.YtecpiplfjmmccaaSpE
namespace Go.Proofs.Ytecpiplfjmmccaa.AM
open Go
set_option maxRecDepth 20000

def md5 (t : Nat) : Nat := match t with | 5 => 1 | _ => 0

theorem f65_ok (l : List Int) (hl : l.length * 8 ≤ 140737488355328) : PC Try.prog 65 [intS l] fun r => r = intS l := by
  refine PC.of_vc md5 (fun _ => true) ty_ok mix Try.func65 (by kernel_rfl) rfl (by kernel_rfl) (pur2 (intS_pur l) pur0) fun hf => ?_
  conv => whnf
  refine ⟨fun b hb => ?_⟩
  cases b
  · conv => whnf
    refine ⟨⟨rfl, ?_⟩, ?_⟩
    · simpa using hl
    conv => whnf
    exact ⟨_, ws_intS l _, intS_pur _, rfl⟩
  · have : l = [] := by simpa using hb rfl
    subst this
    conv => whnf
    exact ⟨_, .nil 1 (by omega), intS_pur [], rfl⟩
theorem f54_ok (l : List Sp) (hl : l.length * 16 ≤ 140737488355328) : PC Try.prog 54 [spS l] fun r => r = spS l := by
  refine PC.of_vc md5 (fun _ => true) ty_ok mix Try.func54 (by kernel_rfl) rfl (by kernel_rfl) (pur2 (spS_pur l) pur0) fun hf => ?_
  conv => whnf
  refine ⟨fun b hb => ?_⟩
  cases b
  · conv => whnf
    refine ⟨⟨rfl, ?_⟩, ?_⟩
    · simpa using hl
    conv => whnf
    exact ⟨_, ws_spS l _, spS_pur _, rfl⟩
  · have : l = [] := by simpa using hb rfl
    subst this
    conv => whnf
    exact ⟨_, .nil 2 (by omega), spS_pur [], rfl⟩

theorem f24_ok (l : List Int) (x : Int) : PC Try.prog 24 [intS l, .int .i64 x] fun r => r = .bool (l.contains x) := by
  refine PC.of_vc (fun _ => 0) (fun _ => true) ty_ok mix Try.func24 (by kernel_rfl) rfl (by kernel_rfl) (pur2 (intS_pur l) (pur2 (.int _ _) pur0)) fun hf => ?_
  have hla := intS_len (l := l) (hf _ (by simp))
  conv => whnf
  refine ⟨Nat, fun i => ⟨18, [(0, intS l), (1, .int .i64 x), (5, .int .i64 i)], [], AH.none⟩, fun i => i ≤ l.length ∧ x ∉ l.take i, fun i => l.length - i, ⟨0, by simp, rfl, ?_, ?_, .tips [] rfl⟩, ?_⟩
  · refine leT_cons (Wk.refl _) (leT_cons (Wk.refl _) (leT_cons (Wk.refl _) (leT_nil)))
  · refine leL_nil
  intro i hi
  conv => whnf
  refine bsp_intro ?_ ?_
  · intro h
    have hlt : i < l.length := by simpa using h
    conv => whnf
    refine ⟨_, by omega, rows_get hlt, ?_⟩
    conv => whnf
    refine bsp_intro ?_ ?_
    · intro h
      have h : l[i] = x := by simpa using h
      conv => whnf
      refine fin (.bool _) ?_
      have : l.contains x = true := by simp; rw [← h]; exact List.getElem_mem hlt
      rw [this]; rfl
    · intro h
      have h : l[i] ≠ x := by simpa using h
      conv => whnf
      refine ⟨i + 1, ⟨by omega, ?_⟩, by dsimp only; omega, rfl, ?_, ?_, .tips [] rfl⟩
      · rw [take_snoc hlt]
        simp only [List.mem_append, List.mem_singleton]
        rintro (h' | h')
        · exact hi.2 h'
        · exact h h'.symm
      · refine leT_cons (Wk.refl _) (leT_cons (Wk.refl _) (leT_cons (Wk.int ?_) (leT_nil)))
        exact IntWalk.i64_in _ (by omega)
      · refine leL_nil
  · intro h
    have hge : l.length ≤ i := by simpa using h
    conv => whnf
    refine fin (.bool _) ?_
    have h2 := hi.2
    rw [List.take_of_length_le hge] at h2
    have : l.contains x = false := by simpa using h2
    rw [this]; rfl
end Go.Proofs.Ytecpiplfjmmccaa.AM
