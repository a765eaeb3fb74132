/-
  SpansParts: Parts and Nodes of any map are what the chapter says: for every input of the second form's bound the law answers true, and its arguments read behind the call as they read before.
  Conditions: none beyond the given statement's own.
-/
import Derived.Test.YtecpiplfjmmccaaBn5
import Derived.Test.YtecpiplfjmmccaaBn6
namespace Go.Proofs.Ytecpiplfjmmccaa.AM
open Go Go.ChangeShapes Go.WideShapes Go.ChangeAt Go.RowKit
theorem own : ownKnob Try.prog.godebug = none := by kernel_rfl
theorem laidOut : laidOutB Try.prog = true := by kernel_rfl

theorem law_pc (xs : List AV) (m : Nat) (h : FitA [(true, schSp), (false, [.sl 3 schCut]), (false, [.sl 2 [.sl 1 [.int .i64], .int .i64]]), (false, [.int .i64]), (false, [.int .i64]), (false, [.int .i64])] xs m) (hm : m ≤ 1048576) : PC Try.prog 7 xs fun r => r = .bool true := by
  cases h with | cons h0 t => cases t with | cons h1 t => cases t with | cons h2 t => cases t with | cons h3 t => cases t with | cons h4 t => cases t with | cons h5 t =>
  cases t
  obtain ⟨e0, l0, rfl, w0⟩ := fit_map h0
  obtain ⟨l1, rfl, w1⟩ := fit_cuts h1
  obtain ⟨l2, rfl, w2⟩ := fit_facts h2
  obtain ⟨a3, rfl, w3⟩ := fit_k h3
  obtain ⟨a4, rfl, w4⟩ := fit_k h4
  obtain ⟨a5, rfl, w5⟩ := fit_k h5
  exact f7_ok _ _ _ _ _ _ _ w1 (by omega)

set_option maxRecDepth 100000 in
theorem law_lifted (os : Os) (started : os.Started) (H : Type) (enc : TypeId × Value → H) (F : Stop.Interp) :
    ReturnsInHanded {} Try.checked os 7 .any ((Rows.OpenSpec.upto Rows.spansPartsSpec).pre6 enc Try.prog Try.f7 Rows.spansPartsUptoRow.domain false) (((Rows.OpenSpec.upto Rows.spansPartsSpec).at F).post enc Try.prog Try.f7 false true false false) := by
  refine returnsInHanded_of_cond (C := Try.checked) (s := Rows.OpenSpec.upto Rows.spansPartsSpec) (k := Rows.uptoSmall) rfl own started (by kernel_rfl) Try.func7
    (OpenSpec.witness (enc := enc) (C := Try.checked) (s := Rows.OpenSpec.upto Rows.spansPartsSpec) (k := Rows.uptoSmall) rfl false ⟨#[], #[.agg #[.int .u32 0, .slice none 0 0], .slice none 0 0, .slice none 0 0, .int .i64 0, .int .i64 0, .int .i64 0], []⟩ 8 (by kernel_rfl) (by kernel_rfl) (by kernel_rfl)
      (x := ([.agg [.lit (.int .u32 0), .nil], .nil, .nil, .lit (.int .i64 0), .lit (.int .i64 0), .lit (.int .i64 0)], [], [])) (by kernel_rfl) rfl (by kernel_rfl)) ?_
  intro W base args ds gs before hval hW _ hk _
  exact law_contract (s := Rows.spansPartsSpec) laidOut (by kernel_rfl) (by kernel_rfl) ⟨4, by kernel_rfl, by kernel_rfl⟩ rfl (fun ds h => by match ds, h with | [_, _, _, _, _, _], _ => rfl) hval hW (Nat.le_trans (bulk_append ds gs) (of_decide_eq_true hk)) (fun xs m h hm => law_pc xs m h hm)
theorem law_over : Rows.spansPartsUptoRow.holds Try.pinned (Rows.OpenSpec.upto Rows.spansPartsSpec) :=
  OpenClaim.holds_of_cond 7 Try.f7 rfl rfl rfl rfl rfl rfl rfl ⟨rfl, rfl, rfl, rfl, rfl⟩ rfl rfl rfl rfl rfl (by kernel_rfl) Try.func7 (by kernel_rfl)
    (of_decide_eq_true (by kernel_rfl)) (by unfold Func.isWrapper; first | (rw [if_pos (by decide +kernel)]; kernel_rfl) | (rw [if_neg (by decide +kernel)]; exact ⟨rfl, rfl⟩))
    (fun os started H enc _ F => law_lifted os started H enc F)
end Go.Proofs.Ytecpiplfjmmccaa.AM
namespace Go.Proofs.Ytecpiplfjmmccaa
/-- The row, under a short name, for the claim. -/
theorem spansParts_holds : Rows.SpansPartsUptoSaid := AM.law_over
#print axioms spansParts_holds
end Go.Proofs.Ytecpiplfjmmccaa
