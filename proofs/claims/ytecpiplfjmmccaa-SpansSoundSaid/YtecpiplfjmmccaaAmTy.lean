/-
  A search tree holds what it gives.
  No program in sight. Conditions: none.
-/
import Derived.Test.YtecpiplfjmmccaaAmVc2
import Derived.KernelRfl
namespace Go.Proofs.Ytecpiplfjmmccaa.AM
open Go
def Tr.list : Tr → List (Nat × TI)
  | .leaf => []
  | .node l k v r => l.list ++ (k, v) :: r.list
theorem Tr.get_mem {t : Nat} {v : TI} : ∀ {T : Tr}, T.get t = some v → (t, v) ∈ T.list
  | .leaf, h => by cases h
  | .node l k x r, h => by
    simp only [Tr.get] at h
    unfold Tr.list
    split at h
    · rename_i hk
      have hk := Nat.eq_of_beq_eq_true hk
      simp only [Option.some.injEq] at h
      subst h; subst hk
      simp
    · split at h
      · exact List.mem_append_left _ (Tr.get_mem h)
      · exact List.mem_append_right _ (List.mem_cons_of_mem _ (Tr.get_mem h))
end Go.Proofs.Ytecpiplfjmmccaa.AM
