/-
  Spans: the reference's Find, walked.
  Conditions: none.
-/
import Derived.Test.YtecpiplfjmmccaaTy
import Derived.Test.YtecpiplfjmmccaaAmPure
import Derived.IntWalk
namespace Go.Proofs.Ytecpiplfjmmccaa.AM
open Go
theorem mix : Try.prog.follows .mixedOrders = true := by kernel_rfl

abbrev Sp := Int × Int
def spR (s : Sp) : List AV := [.int .i64 s.1, .int .i64 s.2]
def spS (l : List Sp) : AV := .sl 2 (l.map spR) none
def mapV (e : Int) (l : List Sp) : AV := .agg [.int .u32 e, spS l]
theorem spS_pur (l : List Sp) : Pur (spS l) := by
  refine .sl 2 _ fun i j x hx => ?_
  obtain ⟨r, h1, h2⟩ := cellAt_some hx
  rw [List.getElem?_map] at h1
  obtain ⟨s, _, rfl⟩ := Option.map_eq_some_iff.1 h1
  match j, h2 with
  | 0, h2 => simp [spR] at h2; subst h2; exact .int _ _
  | 1, h2 => simp [spR] at h2; subst h2; exact .int _ _
theorem mapV_pur (e : Int) (l : List Sp) : Pur (mapV e l) := by
  refine .agg _ fun j x hx => ?_
  match j, hx with
  | 0, hx => simp at hx; subst hx; exact .int _ _
  | 1, hx => simp at hx; subst hx; exact spS_pur l

/-- A member's node: that of the last span that begins no later. -/
def find (l : List Sp) (v : Int) : Int := l.foldl (fun n s => if s.1 ≤ v then s.2 else n) (-1)

set_option maxRecDepth 20000
theorem f28_ok (e : Int) (l : List Sp) (v : Int) : PC Try.prog 28 [mapV e l, .int .i64 v] fun r => r = .int .i64 (find l v) := by
  refine PC.of_vc (fun _ => 0) (fun _ => true) ty_ok mix Try.func28 (by kernel_rfl) rfl (by kernel_rfl) (pur2 (mapV_pur e l) (pur2 (.int _ _) pur0)) fun hf => ?_
  have hlen : l.length ≤ 9223372036854775807 := by
    have := ((hf _ (List.mem_cons_self ..)).agg (spS l) (by simp)).sl.1
    simpa using this
  conv => whnf
  refine ⟨Nat, fun i => ⟨29, [(6, .int .i64 i), (2, .lptr 2 0), (1, .int .i64 v), (5, .int .i64 (find (l.take i) v))], [(2, [.int .u32 e, spS l])], AH.none⟩, fun i => i ≤ l.length, fun i => l.length - i, ⟨0, Nat.zero_le _, rfl, ?_, ?_, .tips [] rfl⟩, ?_⟩
  · refine leT_cons (Wk.refl _) (leT_cons (Wk.refl _) (leT_cons (Wk.refl _) (leT_cons (Wk.refl _) (leT_nil))))
  · refine leL_cons rfl (leC_refl _) (leL_nil)
  intro i hi
  conv => whnf
  refine bsp_intro ?_ ?_
  · intro h
    conv => whnf
    have hlt : i < l.length := by simpa using h
    have hrow : (l.map spR)[(i : Int).toNat]? = some (spR l[i]) := by simp [hlt]
    refine ⟨_, by omega, hrow, ?_⟩
    conv => whnf
    have hstep : find (l.take (i + 1)) v = if l[i].1 ≤ v then l[i].2 else find (l.take i) v := by
      simp only [find, take_snoc hlt, List.foldl_append, List.foldl_cons, List.foldl_nil]
    refine bsp_intro ?_ ?_
    · intro h2
      conv => whnf
      refine ⟨_, by omega, hrow, ?_⟩
      conv => whnf
      refine ⟨i + 1, by omega, by dsimp only; omega, rfl, ?_, ?_, .tips [] rfl⟩
      · refine leT_cons (Wk.int ?_) (leT_cons (Wk.refl _) (leT_cons (Wk.refl _) (leT_cons (Wk.int ?_) (leT_nil))))
        · rw [IntWalk.i64_in _ (by omega)]; rfl
        · rw [hstep, if_pos (of_decide_eq_true h2)]
      · refine leL_cons rfl (leC_refl _) (leL_nil)
    · intro h2
      conv => whnf
      refine ⟨i + 1, by omega, by dsimp only; omega, rfl, ?_, ?_, .tips [] rfl⟩
      · refine leT_cons (Wk.int ?_) (leT_cons (Wk.refl _) (leT_cons (Wk.refl _) (leT_cons (Wk.int ?_) (leT_nil))))
        · rw [IntWalk.i64_in _ (by omega)]; rfl
        · rw [hstep, if_neg (of_decide_eq_false h2)]
      · refine leL_cons rfl (leC_refl _) (leL_nil)
  · intro h
    conv => whnf
    have hge : l.length ≤ i := by simpa using h
    refine ⟨_, .refl _, .int _ _, ?_⟩
    rw [List.take_of_length_le hge]
    rfl
end Go.Proofs.Ytecpiplfjmmccaa.AM
