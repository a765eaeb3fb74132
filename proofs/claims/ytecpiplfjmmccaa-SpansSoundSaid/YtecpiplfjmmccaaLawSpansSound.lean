/-
  SpansSound: Sound, Find and Same of any maps are what the chapter says: for every input the law answers true, and its arguments read behind the call as they read before.
  Conditions: none beyond the given statement's own.
-/
import Derived.Test.YtecpiplfjmmccaaSpArgs
import Derived.Test.YtecpiplfjmmccaaSpW
namespace Go.Proofs.Ytecpiplfjmmccaa.AM
open Go Go.ChangeShapes Go.WideShapes Go.ChangeAt Go.RowKit
theorem own : ownKnob Try.prog.godebug = none := by kernel_rfl
theorem laidOut : laidOutB Try.prog = true := by kernel_rfl

theorem sound_pc (xs : List AV) (m : Nat) (h : FitA [(true, schSp), (true, schSp), (false, [.int .i64]), (false, [.int .i64]), (false, [.int .i64])] xs m) : PC Try.prog 6 xs fun r => r = .bool true := by
  cases h with | cons h0 t => cases t with | cons h1 t => cases t with | cons h2 t => cases t with | cons h3 t => cases t with | cons h4 t =>
  cases t
  obtain ⟨e, l, rfl, _⟩ := fit_map h0
  obtain ⟨e', l', rfl, _⟩ := fit_map h1
  obtain ⟨a, rfl, _⟩ := fit_i64 h2
  obtain ⟨b, rfl, _⟩ := fit_i64 h3
  obtain ⟨c, rfl, _⟩ := fit_i64 h4
  exact f6_ok e l e' l' a b c

set_option maxRecDepth 100000 in
theorem sound_lifted (os : Os) (started : os.Started) (H : Type) (enc : TypeId × Value → H) :
    ReturnsInHanded {} Try.checked os 6 .any (Rows.spansSoundSpec.pre6 enc Try.prog Try.f6 Rows.spansSoundRow.domain false) (Rows.spansSoundSpec.post enc Try.prog Try.f6 false true false false) := by
  refine returnsInHanded_of_change_sized (C := Try.checked) own started (by kernel_rfl) Try.func6
    (ChangeSpec.witness6 (enc := enc) (C := Try.checked) false ⟨#[], #[.agg #[.int .u32 0, .slice none 0 0], .agg #[.int .u32 0, .slice none 0 0], .int .i64 0, .int .i64 0, .int .i64 0], []⟩ 8 (by kernel_rfl) (by kernel_rfl) (by kernel_rfl) (by kernel_rfl)) ?_
  intro W base args ds gs before hval hW hcnd hsz _
  exact law_contract (s := Rows.spansSoundSpec) laidOut (by kernel_rfl) (by kernel_rfl) ⟨4, by kernel_rfl, by kernel_rfl⟩ rfl (fun ds h => by match ds, h with | [_, _, _, _, _], _ => rfl) hval hW (Nat.le_refl _) (fun xs m h _ => sound_pc xs m h)
theorem sound_over : Rows.spansSoundRow.holds Try.pinned (OpenSpec.ofChange Rows.spansSoundSpec) :=
  OpenClaim.holds_of_wide 6 Try.f6 rfl rfl rfl rfl rfl rfl rfl ⟨rfl, rfl, rfl, rfl, rfl⟩ rfl rfl rfl rfl rfl (by kernel_rfl) Try.func6 (by kernel_rfl)
    (of_decide_eq_true (by kernel_rfl)) (by unfold Func.isWrapper; first | (rw [if_pos (by decide +kernel)]; kernel_rfl) | (rw [if_neg (by decide +kernel)]; exact ⟨rfl, rfl⟩))
    (fun os started H enc _ => sound_lifted os started H enc)
end Go.Proofs.Ytecpiplfjmmccaa.AM
namespace Go.Proofs.Ytecpiplfjmmccaa
/-- The row, under a short name, for the claim. -/
theorem spansSound_holds : Rows.SpansSoundSaid := AM.sound_over
#print axioms spansSound_holds
end Go.Proofs.Ytecpiplfjmmccaa
