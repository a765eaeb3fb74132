/-
  Spans: the reference's Nodes, walked.
  Conditions: none.
-/
import Derived.Test.YtecpiplfjmmccaaSpD
namespace Go.Proofs.Ytecpiplfjmmccaa.AM
open Go
set_option maxRecDepth 20000

/-- Is one of the members from lo to v the node n's? -/
def anyN (l : List Sp) (lo v n : Int) : Bool := (List.range (v - lo).toNat).any fun k => find l (lo + k) == n
theorem anyN_self (l : List Sp) (lo n : Int) : anyN l lo lo n = false := by simp [anyN]
theorem anyN_ge {l : List Sp} {lo v n : Int} (h : v ≤ lo) : anyN l lo v n = false := by
  unfold anyN
  rw [show (v - lo).toNat = 0 by omega]
  rfl
theorem anyN_succ {l : List Sp} {lo v n : Int} (h : lo ≤ v) : anyN l lo (v + 1) n = (anyN l lo v n || find l v == n) := by
  unfold anyN
  rw [show (v + 1 - lo).toNat = (v - lo).toNat + 1 by omega, List.range_succ, List.any_append]
  simp only [List.any_cons, List.any_nil, Bool.or_false]
  rw [show lo + ((v - lo).toNat : Int) = v by omega]
theorem anyN_mono {l : List Sp} {lo v v' n : Int} (h : v ≤ v') (ha : anyN l lo v n = true) : anyN l lo v' n = true := by
  unfold anyN at ha ⊢
  rw [List.any_eq_true] at ha ⊢
  obtain ⟨k, h1, h2⟩ := ha
  exact ⟨k, by rw [List.mem_range] at h1 ⊢; omega, h2⟩
def lo0 (a : Int) : Int := if 0 > a then 0 else a
def hi0 (b : Int) : Int := if 10000 < b then 10000 else b
/-- The nodes of a range, below n. -/
def nodesTo (l : List Sp) (a b : Int) (n : Nat) : List Int := ((List.range n).filter fun (k : Nat) => anyN l (lo0 a) (hi0 b) (k : Int)).map fun (k : Nat) => (k : Int)
def nodesOf (l : List Sp) (a b : Int) : List Int := nodesTo l a b 6
theorem nodesTo_succ (l : List Sp) (a b : Int) (n : Nat) : nodesTo l a b (n + 1) = if anyN l (lo0 a) (hi0 b) n then nodesTo l a b n ++ [(n : Int)] else nodesTo l a b n := by
  unfold nodesTo
  rw [List.range_succ, List.filter_append, List.map_append]
  by_cases h : anyN l (lo0 a) (hi0 b) n = true <;> simp [h]
theorem nodesTo_len (l : List Sp) (a b : Int) (n : Nat) : (nodesTo l a b n).length ≤ n := by
  unfold nodesTo
  rw [List.length_map]
  exact Nat.le_trans (List.length_filter_le ..) (by simp)

theorem ws_intS (l : List Int) (tok : Option Nat) : Ws (.sl 1 (l.map intR) tok) (intS l) := by
  refine .drop 1 _ tok (fun r hr => ?_) (fun i j x hx => ?_)
  · obtain ⟨s, _, rfl⟩ := List.mem_map.1 hr; rfl
  · obtain ⟨r, h1, h2⟩ := cellAt_some hx
    rw [List.getElem?_map] at h1
    obtain ⟨s, _, rfl⟩ := Option.map_eq_some_iff.1 h1
    match j, h2 with
    | 0, h2 => simp [intR] at h2; subst h2; rfl

theorem f34_ok (e : Int) (l : List Sp) (a b : Int) : PC Try.prog 34 [mapV e l, .int .i64 a, .int .i64 b] fun r => r = intS (nodesOf l a b) := by
  refine PC.of_vc (fun _ => 0) (fun _ => true) ty_ok mix Try.func34 (by kernel_rfl) rfl (by kernel_rfl) (pur2 (mapV_pur e l) (pur2 (.int _ _) (pur2 (.int _ _) pur0))) fun hf => ?_
  conv => whnf
  refine ⟨Nat, fun n => ⟨38, [(3, .lptr 3 0), (1, .int .i64 a), (2, .int .i64 b), (7, .sl 1 ((nodesTo l a b n).map intR) (some 0)), (8, .int .i64 n)], [(3, [.int .u32 e, spS l])], ⟨[], [(1, ((nodesTo l a b n).map intR).length)]⟩⟩, fun n => n ≤ 6, fun n => 6 - n, ⟨0, by omega, rfl, ?_, ?_, .tips [1] rfl⟩, ?_⟩
  · refine leT_cons (Wk.refl _) (leT_cons (Wk.refl _) (leT_cons (Wk.refl _) (leT_cons (.nil 1 (some 0) (by omega)) (leT_cons (Wk.refl _) (leT_nil)))))
  · refine leL_cons rfl (leC_refl _) (leL_nil)
  intro n hn
  conv => whnf
  refine bsp_intro ?_ ?_
  · intro h
    have hn6 : n < 6 := by have := of_decide_eq_true h; omega
    conv => whnf
    refine ⟨Int × Bool, fun p => ⟨38, [(3, .lptr 3 0), (1, .int .i64 a), (2, .int .i64 b), (7, .sl 1 ((nodesTo l a b n).map intR) (some 0)), (8, .int .i64 n), (10, .int .i64 p.1), (9, .bool p.2)], [(3, [.int .u32 e, spS l])], ⟨[], [(1, ((nodesTo l a b n).map intR).length)]⟩⟩,
      fun p => lo0 a ≤ p.1 ∧ (p.1 ≤ lo0 a ∨ p.1 ≤ hi0 b) ∧ p.2 = anyN l (lo0 a) p.1 n, fun p => (hi0 b - p.1).toNat, ⟨(lo0 a, false), ⟨Int.le_refl _, .inl (Int.le_refl _), (anyN_self _ _ _).symm⟩, rfl, ?_, ?_, .tips [] rfl⟩, ?_⟩
    · refine leT_cons (Wk.refl _) (leT_cons (Wk.refl _) (leT_cons (Wk.refl _) (leT_cons (Wk.refl _) (leT_cons (Wk.refl _) (leT_cons (Wk.refl _) (leT_cons (Wk.refl _) (leT_nil)))))))
    · refine leL_cons rfl (leC_refl _) (leL_nil)
    rintro ⟨v, has⟩ ⟨h1, h2, h3⟩
    dsimp only at h1 h2 h3
    -- behind the inner loop
    have fin2 : ∀ v has, (lo0 a ≤ v ∧ (v ≤ lo0 a ∨ v ≤ hi0 b) ∧ has = anyN l (lo0 a) v n) → (has = true ∨ hi0 b ≤ v) → has = anyN l (lo0 a) (hi0 b) n := by
      rintro v has ⟨g1, g2, g3⟩ g4
      rcases g4 with g4 | g4
      · subst g4
        rcases g2 with g2 | g2
        · rw [show v = lo0 a by omega, anyN_self] at g3; cases g3
        · exact (anyN_mono g2 g3.symm).symm
      · rcases g2 with g2 | g2
        · rw [anyN_ge (by omega), g3, anyN_ge (by omega)]
        · rw [show hi0 b = v by omega]; exact g3
    conv => whnf
    refine bsp_intro ?_ ?_
    · intro h4
      have h4 : v < hi0 b := of_decide_eq_true h4
      conv => whnf
      refine bsp_intro ?_ ?_
      · intro h5
        have h5 : has = false := by simpa using h5
        subst h5
        conv => whnf
        refine (f28_ok e l v).quiet (Wss.refl _) ?_
        rintro r rfl
        conv => whnf
        have hi1 : hi0 b ≤ 10000 := by unfold hi0; split <;> omega
        have hl1 : 0 ≤ lo0 a := by unfold lo0; split <;> omega
        refine ⟨(v + 1, find l v == (n : Int)), ⟨by dsimp only; omega, .inr (by dsimp only; omega), ?_⟩, by dsimp only; omega, rfl, ?_, ?_, .tips [] rfl⟩
        · dsimp only
          rw [anyN_succ h1, ← h3, Bool.false_or]
        · refine leT_cons (Wk.refl _) (leT_cons (Wk.refl _) (leT_cons (Wk.refl _) (leT_cons (Wk.refl _) (leT_cons (Wk.refl _) (leT_cons (Wk.int ?_) (leT_cons (Wk.refl _) (leT_nil)))))))
          exact IntWalk.i64_in _ (by omega)
        · refine leL_cons rfl (leC_refl _) (leL_nil)
      · intro h5
        have h5 : has = true := by simpa using h5
        subst h5
        have hany := fin2 v true ⟨h1, h2, h3⟩ (.inl rfl)
        conv => whnf
        refine ⟨⟨rfl, ?_⟩, ?_⟩
        · have := nodesTo_len l a b n
          simp; omega
        conv => whnf
        refine ⟨n + 1, by omega, by dsimp only; omega, rfl, ?_, ?_, .tips [] ?_⟩
        · refine leT_cons (Wk.refl _) (leT_cons (Wk.refl _) (leT_cons (Wk.refl _) (leT_cons (Wk.rows ?_) (leT_cons (Wk.int ?_) (leT_nil)))))
          · rw [nodesTo_succ, ← hany]; simp [intR]
          · exact IntWalk.i64_in _ (by omega)
        · refine leL_cons rfl (leC_refl _) (leL_nil)
        · dsimp only; rw [nodesTo_succ, ← hany]; simp
    · intro h4
      have h4 : ¬ v < hi0 b := of_decide_eq_false h4
      have hany := fin2 v has ⟨h1, h2, h3⟩ (.inr (by omega))
      conv => whnf
      refine bsp_intro ?_ ?_
      · intro h5
        subst h5
        conv => whnf
        refine ⟨⟨rfl, ?_⟩, ?_⟩
        · have := nodesTo_len l a b n
          simp; omega
        conv => whnf
        refine ⟨n + 1, by omega, by dsimp only; omega, rfl, ?_, ?_, .tips [] ?_⟩
        · refine leT_cons (Wk.refl _) (leT_cons (Wk.refl _) (leT_cons (Wk.refl _) (leT_cons (Wk.rows ?_) (leT_cons (Wk.int ?_) (leT_nil)))))
          · rw [nodesTo_succ, ← hany]; simp [intR]
          · exact IntWalk.i64_in _ (by omega)
        · refine leL_cons rfl (leC_refl _) (leL_nil)
        · dsimp only; rw [nodesTo_succ, ← hany]; simp
      · intro h5
        subst h5
        conv => whnf
        refine ⟨n + 1, by omega, by dsimp only; omega, rfl, ?_, ?_, .tips [] ?_⟩
        · refine leT_cons (Wk.refl _) (leT_cons (Wk.refl _) (leT_cons (Wk.refl _) (leT_cons (Wk.rows ?_) (leT_cons (Wk.int ?_) (leT_nil)))))
          · rw [nodesTo_succ, ← hany]; simp
          · exact IntWalk.i64_in _ (by omega)
        · refine leL_cons rfl (leC_refl _) (leL_nil)
        · dsimp only; rw [nodesTo_succ, ← hany]; simp
  · intro h
    have hn6 : n = 6 := by have := of_decide_eq_false h; omega
    subst hn6
    conv => whnf
    exact ⟨_, ws_intS _ _, intS_pur _, rfl⟩
end Go.Proofs.Ytecpiplfjmmccaa.AM
