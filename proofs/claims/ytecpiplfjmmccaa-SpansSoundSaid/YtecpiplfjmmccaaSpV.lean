/-
  Spans: the chapter's example, walked.
  Conditions: none.
-/
import Derived.Test.YtecpiplfjmmccaaSpU
import Derived.Test.YtecpiplfjmmccaaSpL
import Derived.Test.YtecpiplfjmmccaaSpC
namespace Go.Proofs.Ytecpiplfjmmccaa.AM
open Go
set_option maxRecDepth 20000

theorem split_eq {e : Int} {l : List Sp} {size nodes a b node : Int} (hv : Valid l size nodes a b node) (ho : Other l a b node size.toNat) (hg : (glue (preOf l size a b node)).length ≤ 40) : splitOf e l size nodes a b node = (IntKind.u32.wrap (e + 1), glue (preOf l size a b node), 0) := by
  have := glue_pre (l := l) (size := size) (nodes := nodes) (a := a) (b := b) (node := node) hv.1 hv.2.1 hv.2.2.1 hv.2.2.2.1 hv.2.2.2.2.1
  unfold splitOf
  rw [if_pos ⟨hv, ho⟩, if_neg (by rw [← this]; omega), ← this]
theorem known_split : splitOf 1 [(0, 0)] 100 2 30 60 1 = (2, [(0, 0), (30, 1), (60, 0)], 0) := by
  have h1 : Snd [(0, 0)] 100 2 := ⟨by simp, by simp, fun i h => by
    have : i = 0 := by simp at h; exact h
    subst this
    exact ⟨by simp, by simp, by simp, by simp, fun _ => rfl, fun h => by omega⟩⟩
  have h2 : glue (preOf [(0, 0)] 100 30 60 1) = [(0, 0), (30, 1), (60, 0)] := by decide
  rw [split_eq ⟨h1, by decide, by decide, by decide, by decide, by decide, by decide, by decide⟩ ⟨30, by decide, by decide, by decide, by decide⟩ (by rw [h2]; decide), h2]
  rfl
theorem known_nodes : nodesOf [(0, 0), (30, 1), (60, 0)] 0 100 = [0, 1] := by kernel_rfl
theorem known_snd : Snd [(0, 0), (30, 1), (60, 0)] 100 2 := ⟨by simp, by simp, fun i h => by
  have h3 : i = 0 ∨ i = 1 ∨ i = 2 := by simp at h; omega
  rcases h3 with rfl | rfl | rfl
  · exact ⟨by simp, by simp, by simp, by simp, fun _ => rfl, fun h => by omega⟩
  · exact ⟨by simp, by simp, by simp, by simp, fun h => by omega, fun _ => ⟨by simp, by simp⟩⟩
  · exact ⟨by simp, by simp, by simp, by simp, fun h => by omega, fun _ => ⟨by simp, by simp⟩⟩⟩

theorem f21_ok : PC Try.prog 21 [] fun r => r = .bool true := by
  refine PC.of_vc (fun _ => 0) (fun _ => true) ty_ok mix Try.func21 (by kernel_rfl) rfl (by kernel_rfl) pur0 fun hf => ?_
  conv => whnf
  refine f49_ok.quiet (Wss.refl _) ?_
  rintro r rfl
  conv => whnf
  refine (f22_ok 1 [(0, 0)] 100 2 30 60 1).quiet (Wss.refl _) ?_
  rw [known_split]
  rintro r rfl
  conv => whnf
  refine (f20_ok 2 [(0, 0), (30, 1), (60, 0)] 0 100).quiet (Wss.refl _) ?_
  rw [known_nodes]
  rintro r rfl
  conv => whnf
  refine ⟨_, by omega, rfl, ?_⟩
  conv => whnf
  refine ⟨_, by omega, rfl, ?_⟩
  conv => whnf
  refine (f27_ok 2 [(0, 0), (30, 1), (60, 0)] 59).quiet (Wss.refl _) ?_
  rintro r rfl
  conv => whnf
  refine (f27_ok 2 [(0, 0), (30, 1), (60, 0)] 60).quiet (Wss.refl _) ?_
  rintro r rfl
  conv => whnf
  refine (f25_ok 2 [(0, 0), (30, 1), (60, 0)] 100 2).quiet (Wss.refl _) ?_
  rintro r ⟨b, rfl, hb⟩
  have hb := hb.2 known_snd
  subst hb
  conv => whnf
  refine (f23_ok 2 [(0, 0), (30, 1), (60, 0)] 2 [(0, 0), (30, 1), (60, 0)]).quiet (Wss.refl _) ?_
  rintro r rfl
  conv => whnf
  refine (f31_ok 2 [(0, 0), (30, 1), (60, 0)] [([31], 0)] 1 ⟨by simp, by simp⟩).quiet (Wss.refl _) ?_
  rintro r rfl
  conv => whnf
  exact fin (.bool _) rfl
end Go.Proofs.Ytecpiplfjmmccaa.AM
