/-
  Spans: the law SpansSound, walked.
  Conditions: none.
-/
import Derived.Test.YtecpiplfjmmccaaSpV
namespace Go.Proofs.Ytecpiplfjmmccaa.AM
open Go
set_option maxRecDepth 20000

theorem f6_ok (e : Int) (l : List Sp) (e' : Int) (l' : List Sp) (size nodes member : Int) : PC Try.prog 6 [mapV e l, mapV e' l', .int .i64 size, .int .i64 nodes, .int .i64 member] fun r => r = .bool true := by
  refine PC.of_vc (fun _ => 0) (fun _ => true) ty_ok mix Try.func6 (by kernel_rfl) rfl (by kernel_rfl) (pur2 (mapV_pur e l) (pur2 (mapV_pur e' l') (pur2 (.int _ _) (pur2 (.int _ _) (pur2 (.int _ _) pur0))))) fun hf => ?_
  have rest : ∀ (K : Prop), K → K := fun _ h => h
  conv => whnf
  refine bsp_intro ?_ ?_
  · intro _
    conv => whnf
    refine f21_ok.quiet (Wss.refl _) ?_
    rintro r rfl
    conv => whnf
    exact fin (.bool _) rfl
  intro _
  conv => whnf
  refine bsp_intro ?_ ?_
  · intro _
    conv => whnf
    refine f21_ok.quiet (Wss.refl _) ?_
    rintro r rfl
    conv => whnf
    exact fin (.bool _) rfl
  intro _
  conv => whnf
  refine f21_ok.quiet (Wss.refl _) ?_
  rintro r rfl
  conv => whnf
  refine DrawVC.go [0, 1, 2, 4, 5, 6, 3, 7, 8, 9, 10, 11, 13, 14, 12, 15, 16, 17, 18, 19, 20, 22, 23, 21, 24, 25, 26, 27] (by kernel_rfl) ?_
  conv => whnf
  refine (f25_ok e l size nodes).quiet (Wss.refl _) ?_
  rintro r ⟨b1, rfl, hb1⟩
  conv => whnf
  refine (f26_ok e l size nodes).quiet (Wss.refl _) ?_
  rintro r ⟨b2, rfl, hb2⟩
  have hb : b1 = b2 := by cases b1 <;> cases b2 <;> simp_all
  subst hb
  conv => whnf
  refine bsp_intro ?_ ?_
  · intro _
    conv => whnf
    refine (f27_ok e l member).quiet (Wss.refl _) ?_
    rintro r rfl
    conv => whnf
    refine (f28_ok e l member).quiet (Wss.refl _) ?_
    rintro r rfl
    conv => whnf
    refine bsp_intro ?_ ?_
    · intro _
      conv => whnf
      refine (f23_ok e l e' l').quiet (Wss.refl _) ?_
      rintro r rfl
      conv => whnf
      refine (f29_ok e l e' l').quiet (Wss.refl _) ?_
      rintro r rfl
      conv => whnf
      exact fin (.bool _) (by simp [one?])
    · intro h; simp at h
  · intro h; simp at h
end Go.Proofs.Ytecpiplfjmmccaa.AM
