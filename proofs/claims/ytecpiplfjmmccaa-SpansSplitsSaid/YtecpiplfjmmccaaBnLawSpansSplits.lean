/-
  SpansSplits: Split of any map, of any range, is what the chapter says: for every input the law answers true, and its arguments read behind the call as they read before.
  Conditions: none beyond the given statement's own.
-/
import Derived.Test.YtecpiplfjmmccaaBn5
import Derived.Test.YtecpiplfjmmccaaBn6
namespace Go.Proofs.Ytecpiplfjmmccaa.AM
open Go Go.ChangeShapes Go.WideShapes Go.ChangeAt Go.RowKit
theorem own : ownKnob Try.prog.godebug = none := by kernel_rfl
theorem laidOut : laidOutB Try.prog = true := by kernel_rfl

theorem law_pc (xs : List AV) (m : Nat) (h : FitA [(true, schSp), (false, [.sl 3 schCut]), (false, [.int .i64]), (false, [.int .i64]), (false, [.int .i64]), (false, [.int .i64]), (false, [.int .i64])] xs m) : PC Try.prog 8 xs fun r => r = .bool true := by
  cases h with | cons h0 t => cases t with | cons h1 t => cases t with | cons h2 t => cases t with | cons h3 t => cases t with | cons h4 t => cases t with | cons h5 t => cases t with | cons h6 t =>
  cases t
  obtain ⟨e0, l0, rfl, w0⟩ := fit_map h0
  obtain ⟨l1, rfl, w1⟩ := fit_cuts h1
  obtain ⟨a2, rfl, w2⟩ := fit_k h2
  obtain ⟨a3, rfl, w3⟩ := fit_k h3
  obtain ⟨a4, rfl, w4⟩ := fit_k h4
  obtain ⟨a5, rfl, w5⟩ := fit_k h5
  obtain ⟨a6, rfl, w6⟩ := fit_k h6
  exact f8_ok _ _ _ _ _ _ _ _ w1

set_option maxRecDepth 100000 in
theorem law_lifted (os : Os) (started : os.Started) (H : Type) (enc : TypeId × Value → H) :
    ReturnsInHanded {} Try.checked os 8 .any (Rows.spansSplitsSpec.pre6 enc Try.prog Try.f8 Rows.spansSplitsRow.domain false) (Rows.spansSplitsSpec.post enc Try.prog Try.f8 false true false false) := by
  refine returnsInHanded_of_change_sized (C := Try.checked) own started (by kernel_rfl) Try.func8
    (ChangeSpec.witness6 (enc := enc) (C := Try.checked) false ⟨#[], #[.agg #[.int .u32 0, .slice none 0 0], .slice none 0 0, .int .i64 0, .int .i64 0, .int .i64 0, .int .i64 0, .int .i64 0], []⟩ 8 (by kernel_rfl) (by kernel_rfl) (by kernel_rfl) (by kernel_rfl)) ?_
  intro W base args ds gs before hval hW hcnd hsz _
  exact law_contract (s := Rows.spansSplitsSpec) laidOut (by kernel_rfl) (by kernel_rfl) ⟨4, by kernel_rfl, by kernel_rfl⟩ rfl (fun ds h => by match ds, h with | [_, _, _, _, _, _, _], _ => rfl) hval hW (Nat.le_refl _) (fun xs m h _ => law_pc xs m h)
theorem law_over : Rows.spansSplitsRow.holds Try.pinned (OpenSpec.ofChange Rows.spansSplitsSpec) :=
  OpenClaim.holds_of_wide 8 Try.f8 rfl rfl rfl rfl rfl rfl rfl ⟨rfl, rfl, rfl, rfl, rfl⟩ rfl rfl rfl rfl rfl (by kernel_rfl) Try.func8 (by kernel_rfl)
    (of_decide_eq_true (by kernel_rfl)) (by unfold Func.isWrapper; first | (rw [if_pos (by decide +kernel)]; kernel_rfl) | (rw [if_neg (by decide +kernel)]; exact ⟨rfl, rfl⟩))
    (fun os started H enc _ => law_lifted os started H enc)
end Go.Proofs.Ytecpiplfjmmccaa.AM
namespace Go.Proofs.Ytecpiplfjmmccaa
/-- The row, under a short name, for the claim. -/
theorem spansSplits_holds : Rows.SpansSplitsSaid := AM.law_over
#print axioms spansSplits_holds
end Go.Proofs.Ytecpiplfjmmccaa
