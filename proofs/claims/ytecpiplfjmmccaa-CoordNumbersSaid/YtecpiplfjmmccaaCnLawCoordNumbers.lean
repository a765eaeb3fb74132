/-
  CoordNumbers: numbers are told once: each start's are its own: for every input the law answers true, and its arguments read behind the call as they read before.
  Conditions: none beyond the given statement's own.
-/
import Derived.Test.YtecpiplfjmmccaaCn5
import Derived.Test.YtecpiplfjmmccaaCn7
namespace Go.Proofs.Ytecpiplfjmmccaa.AM
open Go Go.ChangeShapes Go.WideShapes Go.ChangeAt Go.RowKit
theorem own : ownKnob Try.prog.godebug = none := by kernel_rfl
theorem laidOut : laidOutB Try.prog = true := by kernel_rfl

theorem law_pc (xs : List AV) (m : Nat) (h : FitA [(false, [.sl 1 [.int .u8]])] xs m) : PC Try.prog 3 xs fun r => r = .bool true := by
  cases h with  | cons h0 t =>
  cases t
  obtain ⟨l0, rfl, w0⟩ := fit_u8s h0
  exact numbers_ok _ w0

set_option maxRecDepth 100000 in
theorem law_lifted (os : Os) (started : os.Started) (H : Type) (enc : TypeId × Value → H) :
    ReturnsInHanded {} Try.checked os 3 .any (Rows.coordNumbersSpec.pre6 enc Try.prog Try.f3 Rows.coordNumbersRow.domain false) (Rows.coordNumbersSpec.post enc Try.prog Try.f3 false true false false) := by
  refine returnsInHanded_of_change_sized (C := Try.checked) own started (by kernel_rfl) Try.func3
    (ChangeSpec.witness6 (enc := enc) (C := Try.checked) false ⟨#[], #[.slice none 0 0], []⟩ 8 (by kernel_rfl) (by kernel_rfl) (by kernel_rfl) (by kernel_rfl)) ?_
  intro W base args ds gs before hval hW hcnd hsz _
  exact law_contract (s := Rows.coordNumbersSpec) laidOut (by kernel_rfl) (by kernel_rfl) ⟨4, by kernel_rfl, by kernel_rfl⟩ rfl (fun ds h => by match ds, h with | [_], _ => rfl) hval hW (Nat.le_refl _) (fun xs m h _ => law_pc xs m h)
theorem law_over : Rows.coordNumbersRow.holds Try.pinned (OpenSpec.ofChange Rows.coordNumbersSpec) :=
  OpenClaim.holds_of_wide 3 Try.f3 rfl rfl rfl rfl rfl rfl rfl ⟨rfl, rfl, rfl, rfl, rfl⟩ rfl rfl rfl rfl rfl (by kernel_rfl) Try.func3 (by kernel_rfl)
    (of_decide_eq_true (by kernel_rfl)) (by unfold Func.isWrapper; first | (rw [if_pos (by decide +kernel)]; kernel_rfl) | (rw [if_neg (by decide +kernel)]; exact ⟨rfl, rfl⟩))
    (fun os started H enc _ => law_lifted os started H enc)
end Go.Proofs.Ytecpiplfjmmccaa.AM
namespace Go.Proofs.Ytecpiplfjmmccaa
/-- The row, under a short name, for the claim. -/
theorem coordNumbers_holds : Rows.CoordNumbersSaid := AM.law_over
#print axioms coordNumbers_holds
end Go.Proofs.Ytecpiplfjmmccaa
