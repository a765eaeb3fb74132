/-
  Spans: a map that splits make; walked.
  Conditions: none.
-/
import Derived.Test.YtecpiplfjmmccaaSpI
namespace Go.Proofs.Ytecpiplfjmmccaa.AM
open Go
set_option maxRecDepth 20000

/-- A split, as choices say: from, to, node. -/
abbrev Ct := Int × Int × Int
def cutR (c : Ct) : List AV := [.int .u16 c.1, .int .u16 c.2.1, .int .u8 c.2.2]
def cutS (l : List Ct) : AV := .sl 3 (l.map cutR) none
theorem cutS_pur (l : List Ct) : Pur (cutS l) := by
  refine .sl 3 _ fun i j x hx => ?_
  obtain ⟨r, h1, h2⟩ := cellAt_some hx
  rw [List.getElem?_map] at h1
  obtain ⟨s, _, rfl⟩ := Option.map_eq_some_iff.1 h1
  match j, h2 with
  | 0, h2 => simp [cutR] at h2; subst h2; exact .int _ _
  | 1, h2 => simp [cutR] at h2; subst h2; exact .int _ _
  | 2, h2 => simp [cutR] at h2; subst h2; exact .int _ _
theorem cutS_len {l : List Ct} (h : Fit (cutS l)) : l.length ≤ 9223372036854775807 := by simpa using h.sl.1
def cutFrom (size : Int) (c : Ct) : Int := c.1.tmod size
def cutTo (size : Int) (c : Ct) : Int := cutFrom size c + 1 + c.2.1.tmod (size - cutFrom size c)
def cutNode (nodes : Int) (c : Ct) : Int := c.2.2.tmod nodes
/-- A choice is what its kinds bear. -/
def CtOK (c : Ct) : Prop := 0 ≤ c.1 ∧ c.1 < 65536 ∧ 0 ≤ c.2.1 ∧ c.2.1 < 65536 ∧ 0 ≤ c.2.2 ∧ c.2.2 < 256
noncomputable def ofStep (size nodes : Int) (m : Int × List Sp) (c : Ct) : Int × List Sp :=
  if (splitOf m.1 m.2 size nodes (cutFrom size c) (cutTo size c) (cutNode nodes c)).2.2 = 0 then
    ((splitOf m.1 m.2 size nodes (cutFrom size c) (cutTo size c) (cutNode nodes c)).1, (splitOf m.1 m.2 size nodes (cutFrom size c) (cutTo size c) (cutNode nodes c)).2.1)
  else m
theorem ofStep_eq (size nodes : Int) (m : Int × List Sp) (c : Ct) : ofStep size nodes m c = if (splitOf m.1 m.2 size nodes (cutFrom size c) (cutTo size c) (cutNode nodes c)).2.2 = 0 then
    ((splitOf m.1 m.2 size nodes (cutFrom size c) (cutTo size c) (cutNode nodes c)).1, (splitOf m.1 m.2 size nodes (cutFrom size c) (cutTo size c) (cutNode nodes c)).2.1) else m := rfl
noncomputable def ofMap (size nodes : Int) (l : List Ct) : Int × List Sp := (l.take 30).foldl (ofStep size nodes) (1, [(0, 0)])

theorem f19_ok (size nodes : Int) (l : List Ct) (hs : 1 ≤ size ∧ size ≤ 10000) (hn : 1 ≤ nodes ∧ nodes ≤ 10000) (hc : ∀ c ∈ l, CtOK c) : PC Try.prog 19 [.int .i64 size, .int .i64 nodes, cutS l] fun r => r = mapV (ofMap size nodes l).1 (ofMap size nodes l).2 := by
  refine PC.of_vc (fun _ => 0) (fun _ => true) ty_ok mix Try.func19 (by kernel_rfl) rfl (by kernel_rfl) (pur2 (.int _ _) (pur2 (.int _ _) (pur2 (cutS_pur l) pur0))) fun hf => ?_
  have hla := cutS_len (l := l) (hf _ (by simp))
  conv => whnf
  refine (f57_ok).quiet (Wss.refl _) ?_
  rintro r rfl
  conv => whnf
  refine ⟨Nat, fun i => ⟨66, [(0, .int .i64 size), (1, .int .i64 nodes), (2, cutS l), (6, .lptr 6 0), (7, .lptr 7 0), (8, .int .i64 i)],
      [(6, [.int .u32 0, .nils]), (7, [.int .u32 ((l.take i).foldl (ofStep size nodes) (1, [(0, 0)])).1, spS ((l.take i).foldl (ofStep size nodes) (1, [(0, 0)])).2])], AH.none⟩, fun i => i ≤ l.length ∧ i ≤ 30, fun i => l.length - i, ⟨0, by omega, rfl, ?_, ?_, .tips [] rfl⟩, ?_⟩
  · refine leT_cons (Wk.refl _) (leT_cons (Wk.refl _) (leT_cons (Wk.refl _) (leT_cons (Wk.refl _) (leT_cons (Wk.refl _) (leT_cons (Wk.refl _) (leT_nil))))))
  · refine leL_cons rfl (leC_refl _) (leL_cons rfl (leC_refl _) (leL_nil))
  intro i hi
  conv => whnf
  refine bsp_intro ?_ ?_
  · intro h
    have hlt : i < l.length := by simpa using h
    have hcc := hc _ (List.getElem_mem hlt)
    conv => whnf
    refine bsp_intro ?_ ?_
    · intro h2d
      have h2 : i < 30 := by have := of_decide_eq_true h2d; omega
      conv => whnf
      refine ⟨_, by omega, rows_get hlt, ?_⟩
      conv => whnf
      refine ⟨by omega, ?_⟩
      conv => whnf
      have e1 : (IntKind.i64.wrap l[i].1).tmod size = cutFrom size l[i] := by rw [IntWalk.i64_in _ (by unfold CtOK at hcc; omega)]; rfl
      have hb1 : 0 ≤ cutFrom size l[i] ∧ cutFrom size l[i] < size := ⟨Int.tmod_nonneg _ hcc.1, Int.tmod_lt_of_pos _ (by omega)⟩
      simp only [e1]
      refine ⟨_, by omega, rows_get hlt, ?_⟩
      have e2 : IntKind.i64.wrap (size - cutFrom size l[i]) = size - cutFrom size l[i] := IntWalk.i64_in _ (by omega)
      conv => whnf
      simp only [e2]
      refine ⟨by omega, ?_⟩
      have e3 : (IntKind.i64.wrap l[i].2.1).tmod (size - cutFrom size l[i]) = l[i].2.1.tmod (size - cutFrom size l[i]) := by rw [IntWalk.i64_in _ (by unfold CtOK at hcc; omega)]
      have hb2 : 0 ≤ l[i].2.1.tmod (size - cutFrom size l[i]) ∧ l[i].2.1.tmod (size - cutFrom size l[i]) < size - cutFrom size l[i] := ⟨Int.tmod_nonneg _ hcc.2.2.1, Int.tmod_lt_of_pos _ (by omega)⟩
      have e4 : IntKind.i64.wrap (IntKind.i64.wrap (cutFrom size l[i] + 1) + l[i].2.1.tmod (size - cutFrom size l[i])) = cutTo size l[i] := by
        rw [IntWalk.i64_in (cutFrom size l[i] + 1) (by omega), IntWalk.i64_in _ (by omega)]; rfl
      conv => whnf
      simp only [e3, e4]
      refine DrawVC.go [0, 1, 2, 3, 4, 5, 6, 7, 8, 9, 10, 11, 12, 17, 13, 14, 15, 16, 18, 19] (by kernel_rfl) ?_
      conv => whnf
      refine ⟨_, by omega, rows_get hlt, ?_⟩
      conv => whnf
      refine ⟨by omega, ?_⟩
      have e5 : (IntKind.i64.wrap l[i].2.2).tmod nodes = cutNode nodes l[i] := by rw [IntWalk.i64_in _ (by unfold CtOK at hcc; omega)]; rfl
      simp only [e5]
      conv => whnf
      refine (f35_ok _ _ size nodes (cutFrom size l[i]) (cutTo size l[i]) (cutNode nodes l[i])).quiet (Wss.refl _) ?_
      rintro r rfl
      generalize hsp : splitOf ((l.take i).foldl (ofStep size nodes) (1, [(0, 0)])).1 ((l.take i).foldl (ofStep size nodes) (1, [(0, 0)])).2 size nodes (cutFrom size l[i]) (cutTo size l[i]) (cutNode nodes l[i]) = sp
      have hst : (l.take (i + 1)).foldl (ofStep size nodes) (1, [(0, 0)]) = if sp.2.2 = 0 then (sp.1, sp.2.1) else (l.take i).foldl (ofStep size nodes) (1, [(0, 0)]) := by
        rw [take_snoc hlt, List.foldl_append, List.foldl_cons, List.foldl_nil]
        rw [ofStep_eq, hsp]
      conv => whnf
      refine bsp_intro ?_ ?_
      · intro h3
        have h3 : sp.2.2 = 0 := by simpa using h3
        rw [if_pos h3] at hst
        conv => whnf
        refine ⟨i + 1, ⟨by omega, by omega⟩, by omega, rfl, ?_, ?_, .tips [] rfl⟩
        · refine leT_cons (Wk.refl _) (leT_cons (Wk.refl _) (leT_cons (Wk.refl _) (leT_cons (Wk.refl _) (leT_cons (Wk.refl _) (leT_cons (Wk.int ?_) (leT_nil))))))
          exact IntWalk.i64_in _ (by omega)
        · refine leL_cons rfl (leC_refl _) (leL_cons rfl (leC_cons (Wk.int ?_) (leC_cons (Wk.rows ?_) (leC_nil))) (leL_nil))
          · rw [hst]
          · rw [hst]
      · intro h3
        have h3 : sp.2.2 ≠ 0 := by simpa using h3
        rw [if_neg h3] at hst
        conv => whnf
        refine ⟨i + 1, ⟨by omega, by omega⟩, by omega, rfl, ?_, ?_, .tips [] rfl⟩
        · refine leT_cons (Wk.refl _) (leT_cons (Wk.refl _) (leT_cons (Wk.refl _) (leT_cons (Wk.refl _) (leT_cons (Wk.refl _) (leT_cons (Wk.int ?_) (leT_nil))))))
          exact IntWalk.i64_in _ (by omega)
        · refine leL_cons rfl (leC_refl _) (leL_cons rfl (leC_cons (Wk.int ?_) (leC_cons (Wk.rows ?_) (leC_nil))) (leL_nil))
          · rw [hst]
          · rw [hst]
    · intro h2
      have h2 : i = 30 := by simp at h2; omega
      subst h2
      conv => whnf
      exact fin (mapV_pur _ _) rfl
  · intro h
    have hge : l.length ≤ i := by simpa using h
    conv => whnf
    refine fin (mapV_pur _ _) ?_
    unfold ofMap
    rw [List.take_of_length_le hge, List.take_of_length_le (by omega)]
    rfl
end Go.Proofs.Ytecpiplfjmmccaa.AM
