/-
  SpansBack: a range that is given, and given back, is where it was; but the epoch is two more: for every input the law answers true, and its arguments read behind the call as they read before.
  Conditions: none beyond the given statement's own.
-/
import Derived.Test.YtecpiplfjmmccaaBn5
import Derived.Test.YtecpiplfjmmccaaBn6
namespace Go.Proofs.Ytecpiplfjmmccaa.AM
open Go Go.ChangeShapes Go.WideShapes Go.ChangeAt Go.RowKit
theorem own : ownKnob Try.prog.godebug = none := by kernel_rfl
theorem laidOut : laidOutB Try.prog = true := by kernel_rfl

theorem law_pc (xs : List AV) (m : Nat) (h : FitA [(false, [.sl 3 schCut]), (false, [.int .u16]), (true, schCut)] xs m) : PC Try.prog 4 xs fun r => r = .bool true := by
  cases h with | cons h0 t => cases t with | cons h1 t => cases t with | cons h2 t =>
  cases t
  obtain ⟨l0, rfl, w0⟩ := fit_cuts h0
  obtain ⟨a1, rfl, w1⟩ := fit_k h1
  obtain ⟨l2, rfl, w2⟩ := fit_cut h2
  exact f4_ok _ _ _ w0 (wf_u16 w1) w2

set_option maxRecDepth 100000 in
theorem law_lifted (os : Os) (started : os.Started) (H : Type) (enc : TypeId × Value → H) :
    ReturnsInHanded {} Try.checked os 4 .any (Rows.spansBackSpec.pre6 enc Try.prog Try.f4 Rows.spansBackRow.domain false) (Rows.spansBackSpec.post enc Try.prog Try.f4 false true false false) := by
  refine returnsInHanded_of_change_sized (C := Try.checked) own started (by kernel_rfl) Try.func4
    (ChangeSpec.witness6 (enc := enc) (C := Try.checked) false ⟨#[], #[.slice none 0 0, .int .u16 0, .agg #[.int .u16 0, .int .u16 0, .int .u8 0]], []⟩ 8 (by kernel_rfl) (by kernel_rfl) (by kernel_rfl) (by kernel_rfl)) ?_
  intro W base args ds gs before hval hW hcnd hsz _
  exact law_contract (s := Rows.spansBackSpec) laidOut (by kernel_rfl) (by kernel_rfl) ⟨4, by kernel_rfl, by kernel_rfl⟩ rfl (fun ds h => by match ds, h with | [_, _, _], _ => rfl) hval hW (Nat.le_refl _) (fun xs m h _ => law_pc xs m h)
theorem law_over : Rows.spansBackRow.holds Try.pinned (OpenSpec.ofChange Rows.spansBackSpec) :=
  OpenClaim.holds_of_wide 4 Try.f4 rfl rfl rfl rfl rfl rfl rfl ⟨rfl, rfl, rfl, rfl, rfl⟩ rfl rfl rfl rfl rfl (by kernel_rfl) Try.func4 (by kernel_rfl)
    (of_decide_eq_true (by kernel_rfl)) (by unfold Func.isWrapper; first | (rw [if_pos (by decide +kernel)]; kernel_rfl) | (rw [if_neg (by decide +kernel)]; exact ⟨rfl, rfl⟩))
    (fun os started H enc _ => law_lifted os started H enc)
end Go.Proofs.Ytecpiplfjmmccaa.AM
namespace Go.Proofs.Ytecpiplfjmmccaa
/-- The row, under a short name, for the claim. -/
theorem spansBack_holds : Rows.SpansBackSaid := AM.law_over
#print axioms spansBack_holds
end Go.Proofs.Ytecpiplfjmmccaa
