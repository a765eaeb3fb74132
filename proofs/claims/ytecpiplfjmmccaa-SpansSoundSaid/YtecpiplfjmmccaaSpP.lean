/-
  Spans: glued's test, walked.
  Conditions: none.
-/
import Derived.Test.YtecpiplfjmmccaaSpC
namespace Go.Proofs.Ytecpiplfjmmccaa.AM
open Go
set_option maxRecDepth 20000
theorem spR_pur (s : Sp) : Pur (.agg (spR s)) := by
  refine .agg _ fun j x hx => ?_
  match j, hx with
  | 0, hx => simp [spR] at hx; subst hx; exact .int _ _
  | 1, hx => simp [spR] at hx; subst hx; exact .int _ _
theorem f82_ok (a b : Sp) : PC Try.prog 82 [.agg (spR a), .agg (spR b)] fun r => r = .bool (a.2 == b.2) := by
  refine PC.of_vc (fun _ => 0) (fun _ => true) ty_ok mix Try.func82 (by kernel_rfl) rfl (by kernel_rfl) (pur2 (spR_pur a) (pur2 (spR_pur b) pur0)) fun hf => ?_
  conv => whnf
  exact fin (.bool _) rfl
end Go.Proofs.Ytecpiplfjmmccaa.AM
