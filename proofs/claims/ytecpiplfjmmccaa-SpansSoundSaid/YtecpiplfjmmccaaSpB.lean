/-
  Spans: whether numbers, spans, maps are alike, walked.
  Conditions: none.
-/
import Derived.Test.YtecpiplfjmmccaaSpA
namespace Go.Proofs.Ytecpiplfjmmccaa.AM
open Go

def intR (n : Int) : List AV := [.int .i64 n]
def intS (l : List Int) : AV := .sl 1 (l.map intR) none
theorem intS_pur (l : List Int) : Pur (intS l) := by
  refine .sl 1 _ fun i j x hx => ?_
  obtain ⟨r, h1, h2⟩ := cellAt_some hx
  rw [List.getElem?_map] at h1
  obtain ⟨s, _, rfl⟩ := Option.map_eq_some_iff.1 h1
  match j, h2 with
  | 0, h2 => simp [intR] at h2; subst h2; exact .int _ _
theorem intS_len {l : List Int} (h : Fit (intS l)) : l.length ≤ 9223372036854775807 := by simpa using h.sl.1
theorem spS_len {l : List Sp} (h : Fit (spS l)) : l.length ≤ 9223372036854775807 := by simpa using h.sl.1
theorem mapV_len {e : Int} {l : List Sp} (h : Fit (mapV e l)) : l.length ≤ 9223372036854775807 := spS_len (h.agg _ (by simp))

set_option maxRecDepth 20000
theorem f33_ok (a b : List Int) : PC Try.prog 33 [intS a, intS b] fun r => r = .bool (decide (a = b)) := by
  refine PC.of_vc (fun _ => 0) (fun _ => true) ty_ok mix Try.func33 (by kernel_rfl) rfl (by kernel_rfl) (pur2 (intS_pur a) (pur2 (intS_pur b) pur0)) fun hf => ?_
  have hla := intS_len (l := a) (hf _ (by simp))
  conv => whnf
  refine bsp_intro ?_ ?_
  · intro h
    have hne : a.length ≠ b.length := by simp at h; omega
    conv => whnf
    refine fin (.bool _) ?_
    rw [decide_eq_false (fun e => hne (by rw [e]))]
    rfl
  · intro h
    have hlen : a.length = b.length := by simp at h; omega
    conv => whnf
    refine ⟨Nat, fun i => ⟨26, [(0, intS a), (1, intS b), (5, .int .i64 i)], [], AH.none⟩, fun i => i ≤ a.length ∧ a.take i = b.take i, fun i => a.length - i, ⟨0, by simp, rfl, ?_, ?_, .tips [] rfl⟩, ?_⟩
    · refine leT_cons (Wk.refl _) (leT_cons (Wk.refl _) (leT_cons (Wk.refl _) (leT_nil)))
    · refine leL_nil
    intro i hi
    conv => whnf
    refine bsp_intro ?_ ?_
    · intro h
      have hlt : i < a.length := by simpa using h
      have hlt' : i < b.length := by omega
      conv => whnf
      refine DrawVC.go [0, 1, 2, 3, 4, 5, 6, 7, 8] (by kernel_rfl) ?_
      conv => whnf
      refine ⟨_, by omega, rows_get hlt, ?_⟩
      conv => whnf
      refine ⟨_, by omega, rows_get hlt', ?_⟩
      conv => whnf
      refine bsp_intro ?_ ?_
      · intro h
        have hne : a[i] ≠ b[i] := by simpa using h
        conv => whnf
        refine fin (.bool _) ?_
        rw [decide_eq_false (fun e => hne (by simp [e]))]
        rfl
      · intro h
        have heq : a[i] = b[i] := by simpa using h
        conv => whnf
        refine ⟨i + 1, ⟨by omega, take_eq hlt hlt' hi.2 heq⟩, by dsimp only; omega, rfl, ?_, ?_, .tips [] rfl⟩
        · refine leT_cons (Wk.refl _) (leT_cons (Wk.refl _) (leT_cons (Wk.int ?_) (leT_nil)))
          rw [IntWalk.i64_in _ (by omega)]; rfl
        · refine leL_nil
    · intro h
      have hge : a.length ≤ i := by simpa using h
      conv => whnf
      refine fin (.bool _) ?_
      have : a = b := by
        have := hi.2
        rwa [List.take_of_length_le hge, List.take_of_length_le (by omega)] at this
      rw [decide_eq_true this]
      rfl
theorem f60_ok (a b : List Int) : PC Try.prog 60 [intS a, intS b] fun r => r = .bool (decide (a = b)) := by
  refine PC.of_vc (fun _ => 0) (fun _ => true) ty_ok mix Try.func60 (by kernel_rfl) rfl (by kernel_rfl) (pur2 (intS_pur a) (pur2 (intS_pur b) pur0)) fun hf => ?_
  have hla := intS_len (l := a) (hf _ (by simp))
  conv => whnf
  refine bsp_intro ?_ ?_
  · intro h
    have hne : a.length ≠ b.length := by simp at h; omega
    conv => whnf
    refine fin (.bool _) ?_
    rw [decide_eq_false (fun e => hne (by rw [e]))]
    rfl
  · intro h
    have hlen : a.length = b.length := by simp at h; omega
    conv => whnf
    refine ⟨Nat, fun i => ⟨26, [(0, intS a), (1, intS b), (12, .int .i64 a.length), (13, .int .i64 i)], [], AH.none⟩, fun i => i ≤ a.length ∧ a.take i = b.take i, fun i => a.length - i, ⟨0, by simp, rfl, ?_, ?_, .tips [] rfl⟩, ?_⟩
    · refine leT_cons (Wk.refl _) (leT_cons (Wk.refl _) (leT_cons (Wk.int (by simp)) (leT_cons (Wk.refl _) (leT_nil))))
    · refine leL_nil
    intro i hi
    conv => whnf
    refine bsp_intro ?_ ?_
    · intro h
      have hlt : i < a.length := by simpa using h
      have hlt' : i < b.length := by omega
      conv => whnf
      refine DrawVC.go [0, 1, 2, 3, 4, 5, 6, 7, 8] (by kernel_rfl) ?_
      conv => whnf
      refine ⟨_, by omega, rows_get hlt, ?_⟩
      conv => whnf
      refine ⟨_, by omega, rows_get hlt', ?_⟩
      conv => whnf
      refine bsp_intro ?_ ?_
      · intro h
        have hne : a[i] ≠ b[i] := by simpa using h
        conv => whnf
        refine fin (.bool _) ?_
        rw [decide_eq_false (fun e => hne (by simp [e]))]
        rfl
      · intro h
        have heq : a[i] = b[i] := by simpa using h
        conv => whnf
        refine ⟨i + 1, ⟨by omega, take_eq hlt hlt' hi.2 heq⟩, by dsimp only; omega, rfl, ?_, ?_, .tips [] rfl⟩
        · refine leT_cons (Wk.refl _) (leT_cons (Wk.refl _) (leT_cons (Wk.refl _) (leT_cons (Wk.int ?_) (leT_nil))))
          rw [IntWalk.i64_in _ (by omega)]; rfl
        · refine leL_nil
    · intro h
      have hge : a.length ≤ i := by simpa using h
      conv => whnf
      refine fin (.bool _) ?_
      have : a = b := by
        have := hi.2
        rwa [List.take_of_length_le hge, List.take_of_length_le (by omega)] at this
      rw [decide_eq_true this]
      rfl
theorem f62_ok (a b : List Sp) : PC Try.prog 62 [spS a, spS b] fun r => r = .bool (decide (a = b)) := by
  refine PC.of_vc (fun _ => 0) (fun _ => true) ty_ok mix Try.func62 (by kernel_rfl) rfl (by kernel_rfl) (pur2 (spS_pur a) (pur2 (spS_pur b) pur0)) fun hf => ?_
  have hla := spS_len (l := a) (hf _ (by simp))
  conv => whnf
  refine bsp_intro ?_ ?_
  · intro h
    have hne : a.length ≠ b.length := by simp at h; omega
    conv => whnf
    refine fin (.bool _) ?_
    rw [decide_eq_false (fun e => hne (by rw [e]))]
    rfl
  · intro h
    have hlen : a.length = b.length := by simp at h; omega
    conv => whnf
    refine ⟨Nat, fun i => ⟨26, [(0, spS a), (1, spS b), (12, .int .i64 a.length), (13, .int .i64 i)], [], AH.none⟩, fun i => i ≤ a.length ∧ a.take i = b.take i, fun i => a.length - i, ⟨0, by simp, rfl, ?_, ?_, .tips [] rfl⟩, ?_⟩
    · refine leT_cons (Wk.refl _) (leT_cons (Wk.refl _) (leT_cons (Wk.int (by simp)) (leT_cons (Wk.refl _) (leT_nil))))
    · refine leL_nil
    intro i hi
    conv => whnf
    refine bsp_intro ?_ ?_
    · intro h
      have hlt : i < a.length := by simpa using h
      have hlt' : i < b.length := by omega
      conv => whnf
      refine DrawVC.go [0, 1, 2, 3, 4, 5, 6, 7, 8] (by kernel_rfl) ?_
      conv => whnf
      refine ⟨_, by omega, rows_get hlt, ?_⟩
      conv => whnf
      refine ⟨_, by omega, rows_get hlt', ?_⟩
      conv => whnf
      refine bsp_intro ?_ ?_
      · intro h
        have hne : a[i] ≠ b[i] := fun e => by simp [e] at h
        conv => whnf
        refine fin (.bool _) ?_
        rw [decide_eq_false (fun e => hne (by simp [e]))]
        rfl
      · intro h
        have heq : a[i] = b[i] := by simp at h; exact Prod.ext h.1 h.2
        conv => whnf
        refine ⟨i + 1, ⟨by omega, take_eq hlt hlt' hi.2 heq⟩, by dsimp only; omega, rfl, ?_, ?_, .tips [] rfl⟩
        · refine leT_cons (Wk.refl _) (leT_cons (Wk.refl _) (leT_cons (Wk.refl _) (leT_cons (Wk.int ?_) (leT_nil))))
          rw [IntWalk.i64_in _ (by omega)]; rfl
        · refine leL_nil
    · intro h
      have hge : a.length ≤ i := by simpa using h
      conv => whnf
      refine fin (.bool _) ?_
      have : a = b := by
        have := hi.2
        rwa [List.take_of_length_le hge, List.take_of_length_le (by omega)] at this
      rw [decide_eq_true this]
      rfl
end Go.Proofs.Ytecpiplfjmmccaa.AM
