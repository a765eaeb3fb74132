/-
  Spans: the reference's Split, walked.
  Conditions: none.
-/
import Derived.Test.YtecpiplfjmmccaaSpE
namespace Go.Proofs.Ytecpiplfjmmccaa.AM
open Go
set_option maxRecDepth 20000

/-- The spans of a map in which member v is node f v, for the first n members; and the last one's node. -/
def runs (f : Nat → Int) : Nat → List Sp × Int
  | 0 => ([], -1)
  | n + 1 => if f n ≠ (runs f n).2 then ((runs f n).1 ++ [((n : Int), f n)], f n) else runs f n
theorem runs_len (f : Nat → Int) : ∀ n, (runs f n).1.length ≤ n
  | 0 => Nat.le_refl _
  | n + 1 => by
    have := runs_len f n
    unfold runs
    split
    · simp; omega
    · omega
def ndOf (l : List Sp) (a b node : Int) (v : Nat) : Int := if a ≤ (v : Int) ∧ (v : Int) < b then node else find l v
/-- Is a member of the range another node's? -/
def Other (l : List Sp) (a b node : Int) (n : Nat) : Prop := ∃ v : Nat, v < n ∧ a ≤ (v : Int) ∧ (v : Int) < b ∧ find l v ≠ node
def Valid (l : List Sp) (size nodes a b node : Int) : Prop := Snd l size nodes ∧ 0 ≤ a ∧ a < b ∧ b ≤ size ∧ 0 ≤ node ∧ node < nodes ∧ node < 6 ∧ size ≤ 10000
open Classical in
noncomputable def splitOf (e : Int) (l : List Sp) (size nodes a b node : Int) : Int × List Sp × Int :=
  if Valid l size nodes a b node ∧ Other l a b node size.toNat then
    (if 40 < (runs (ndOf l a b node) size.toNat).1.length then (0, [], 3) else (IntKind.u32.wrap (e + 1), (runs (ndOf l a b node) size.toNat).1, 0))
  else (0, [], 120)

theorem ws_tup2 {a b c d : AV} (k1 : Ws a c) (k2 : Ws b d) : Ws (.tup [a, b]) (.tup [c, d]) := by
  refine .tup _ _ (fun j => if j = 0 then a else b) rfl (fun j x hx => ?_) (fun j x hx => ?_) <;> match j, hx with
  | 0, hx => simp at hx; subst hx; first | rfl | exact k1
  | 1, hx => simp at hx; subst hx; first | rfl | exact k2
theorem pur_tup2 {a b : AV} (h1 : Pur a) (h2 : Pur b) : Pur (.tup [a, b]) := by
  refine .tup _ fun j x hx => ?_
  match j, hx with
  | 0, hx => simp at hx; subst hx; exact h1
  | 1, hx => simp at hx; subst hx; exact h2

theorem f35_ok (e : Int) (l : List Sp) (size nodes a b node : Int) : PC Try.prog 35 [mapV e l, .int .i64 size, .int .i64 nodes, .int .i64 a, .int .i64 b, .int .i64 node] fun r =>
    r = .tup [mapV (splitOf e l size nodes a b node).1 (splitOf e l size nodes a b node).2.1, .int .i64 (splitOf e l size nodes a b node).2.2] := by
  refine PC.of_vc (fun _ => 0) (fun _ => true) ty_ok mix Try.func35 (by kernel_rfl) rfl (by kernel_rfl) (pur2 (mapV_pur e l) (pur2 (.int _ _) (pur2 (.int _ _) (pur2 (.int _ _) (pur2 (.int _ _) (pur2 (.int _ _) pur0)))))) fun hf => ?_
  have bad : ¬ (Valid l size nodes a b node ∧ Other l a b node size.toNat) → ∃ r', Ws (one? [AV.agg [.int .u32 0, .nils], .int .i64 120]) r' ∧ Pur r' ∧ r' = .tup [mapV (splitOf e l size nodes a b node).1 (splitOf e l size nodes a b node).2.1, .int .i64 (splitOf e l size nodes a b node).2.2] := fun h =>
    ⟨_, ws_tup2 (ws_nilV 0) (.refl _), pur_tup2 (mapV_pur _ _) (.int _ _), by unfold splitOf; rw [if_neg h]⟩
  conv => whnf
  refine (f26_ok e l size nodes).quiet (Wss.refl _) ?_
  rintro r ⟨s, rfl, hs⟩
  conv => whnf
  refine bsp_intro ?_ ?_
  · intro h
    have h : ¬ Snd l size nodes := fun h' => by rw [hs.2 h'] at h; cases h
    conv => whnf
    exact bad fun hv => h hv.1.1
  intro h
  have hsnd : Snd l size nodes := hs.1 (by simpa using h)
  conv => whnf
  refine bsp_intro ?_ ?_
  · intro h
    have h := of_decide_eq_true h
    conv => whnf
    exact bad fun hv => by have := hv.1.2.1; omega
  intro h
  have hv1 := of_decide_eq_false h
  conv => whnf
  refine bsp_intro ?_ ?_
  · intro h
    have h := of_decide_eq_true h
    conv => whnf
    exact bad fun hv => by have := hv.1.2.2.1; omega
  intro h
  have hv2 := of_decide_eq_false h
  conv => whnf
  refine bsp_intro ?_ ?_
  · intro h
    have h := of_decide_eq_true h
    conv => whnf
    exact bad fun hv => by have := hv.1.2.2.2.1; omega
  intro h
  have hv3 := of_decide_eq_false h
  conv => whnf
  refine bsp_intro ?_ ?_
  · intro h
    have h := of_decide_eq_true h
    conv => whnf
    exact bad fun hv => by have := hv.1.2.2.2.2.1; omega
  intro h
  have hv4 := of_decide_eq_false h
  conv => whnf
  refine bsp_intro ?_ ?_
  · intro h
    have h := min_ge (of_decide_eq_true h)
    conv => whnf
    exact bad fun hv => by have := hv.1.2.2.2.2.2; omega
  intro h
  have hv5 := min_lt (of_decide_eq_false h)
  conv => whnf
  refine bsp_intro ?_ ?_
  · intro h
    have h := of_decide_eq_true h
    conv => whnf
    exact bad fun hv => by have := hv.1.2.2.2.2.2.2.2; omega
  intro h
  have hv6 := of_decide_eq_false h
  have hvalid : Valid l size nodes a b node := ⟨hsnd, by omega, by omega, by omega, by omega, hv5.1, hv5.2, by omega⟩
  conv => whnf
  refine ⟨Nat × Bool, fun p => ⟨101, [(6, .lptr 6 0), (12, .lptr 12 0), (1, .int .i64 size), (3, .int .i64 a), (4, .int .i64 b), (5, .int .i64 node), (13, .int .i64 0), (14, .bool p.2), (15, .lptr 15 0), (16, .int .i64 (runs (ndOf l a b node) p.1).2), (17, .int .i64 p.1)],
      [(6, [.int .u32 e, spS l]), (12, [.int .u32 0, .nils]), (15, [.int .u32 (IntKind.u32.wrap (e + 1)), .sl 2 ((runs (ndOf l a b node) p.1).1.map spR) (some 0)])], ⟨[], [(2, ((runs (ndOf l a b node) p.1).1.map spR).length)]⟩⟩,
    fun p => p.1 ≤ size.toNat ∧ (p.2 = true ↔ Other l a b node p.1), fun p => size.toNat - p.1, ⟨(0, false), ⟨Nat.zero_le _, by simp [Other]⟩, rfl, ?_, ?_, .tips [2] rfl⟩, ?_⟩
  · refine leT_cons (Wk.refl _) (leT_cons (Wk.refl _) (leT_cons (Wk.refl _) (leT_cons (Wk.refl _) (leT_cons (Wk.refl _) (leT_cons (Wk.refl _) (leT_cons (Wk.refl _) (leT_cons (Wk.refl _) (leT_cons (Wk.refl _) (leT_cons (Wk.refl _) (leT_cons (Wk.refl _) (leT_nil)))))))))))
  · refine leL_cons rfl (leC_refl _) (leL_cons rfl (leC_refl _) (leL_cons rfl (leC_cons (Wk.refl _) (leC_cons (.nil 2 (some 0) (by omega)) (leC_nil))) (leL_nil)))
  rintro ⟨v, o⟩ ⟨h1, h2⟩
  dsimp only at h1 h2
  conv => whnf
  refine bsp_intro ?_ ?_
  · intro h3d
    have h3 : (v : Int) < size := of_decide_eq_true h3d
    have hO : ∀ P : Prop, (a ≤ (v : Int) ∧ (v : Int) < b ∧ find l v ≠ node ↔ P) → (Other l a b node (v + 1) ↔ Other l a b node v ∨ P) := fun P hP => by
      constructor
      · rintro ⟨u, g1, g2⟩
        rcases Nat.lt_or_ge u v with g | g
        · exact .inl ⟨u, g, g2⟩
        · have : u = v := by omega
          subst this; exact .inr (hP.1 g2)
      · rintro (⟨u, g1, g2⟩ | g)
        · exact ⟨u, by omega, g2⟩
        · exact ⟨v, by omega, hP.2 g⟩
    conv => whnf
    refine (f28_ok e l v).quiet (Wss.refl _) ?_
    rintro r rfl
    conv => whnf
    refine bsp_intro ?_ ?_
    · intro h4d
      have h4 : a ≤ (v : Int) := of_decide_eq_true h4d
      conv => whnf
      refine bsp_intro ?_ ?_
      · intro h5d
        have h5 : (v : Int) < b := of_decide_eq_true h5d
        conv => whnf
        refine bsp_intro ?_ ?_
        · intro h6
          subst h6
          conv => whnf
          have hnd : ndOf l a b node v = node := by unfold ndOf; rw [if_pos ⟨h4, h5⟩]
          refine bsp_intro ?_ ?_
          · intro h7d
            have h7 : node ≠ (runs (ndOf l a b node) v).2 := by simpa using h7d
            have hr : runs (ndOf l a b node) (v + 1) = ((runs (ndOf l a b node) v).1 ++ [((v : Int), node)], node) := by
              conv => lhs; unfold runs
              rw [hnd, if_pos h7]
            conv => whnf
            refine ⟨⟨rfl, ?_⟩, ?_⟩
            · have := runs_len (ndOf l a b node) v
              simp; omega
            conv => whnf
            refine ⟨(v + 1, true), ⟨by dsimp only; omega, by have := (hO _ Iff.rfl).2 (.inl (h2.1 rfl)); simp [this]⟩, by dsimp only; omega, rfl, ?_, ?_, .tips [] ?_⟩
            · refine leT_cons (Wk.refl _) (leT_cons (Wk.refl _) (leT_cons (Wk.refl _) (leT_cons (Wk.refl _) (leT_cons (Wk.refl _) (leT_cons (Wk.refl _) (leT_cons (Wk.refl _) (leT_cons (Wk.refl _) (leT_cons (Wk.refl _) (leT_cons (Wk.int ?_) (leT_cons (Wk.int ?_) (leT_nil)))))))))))
              · rw [hr]
              · exact IntWalk.i64_in _ (by omega)
            · refine leL_cons rfl (leC_refl _) (leL_cons rfl (leC_refl _) (leL_cons rfl (leC_cons (Wk.refl _) (leC_cons (Wk.rows ?_) (leC_nil))) (leL_nil)))
              rw [hr]; simp [spR]
            · dsimp only; rw [hr]; simp
          · intro h7d
            have h7 : node = (runs (ndOf l a b node) v).2 := by simpa using h7d
            have hr : runs (ndOf l a b node) (v + 1) = runs (ndOf l a b node) v := by
              conv => lhs; unfold runs
              rw [hnd, if_neg (fun h => h h7)]
            conv => whnf
            refine ⟨(v + 1, true), ⟨by dsimp only; omega, by have := (hO _ Iff.rfl).2 (.inl (h2.1 rfl)); simp [this]⟩, by dsimp only; omega, rfl, ?_, ?_, .tips [] ?_⟩
            · refine leT_cons (Wk.refl _) (leT_cons (Wk.refl _) (leT_cons (Wk.refl _) (leT_cons (Wk.refl _) (leT_cons (Wk.refl _) (leT_cons (Wk.refl _) (leT_cons (Wk.refl _) (leT_cons (Wk.refl _) (leT_cons (Wk.refl _) (leT_cons (Wk.int ?_) (leT_cons (Wk.int ?_) (leT_nil)))))))))))
              · rw [hr]
              · exact IntWalk.i64_in _ (by omega)
            · refine leL_cons rfl (leC_refl _) (leL_cons rfl (leC_refl _) (leL_cons rfl (leC_cons (Wk.refl _) (leC_cons (Wk.rows ?_) (leC_nil))) (leL_nil)))
              rw [hr]
            · dsimp only; rw [hr]; rfl
        · intro h6
          subst h6
          have h2' : ¬ Other l a b node v := fun h => by simpa using h2.2 h
          conv => whnf
          have hnd : ndOf l a b node v = node := by unfold ndOf; rw [if_pos ⟨h4, h5⟩]
          refine bsp_intro ?_ ?_
          · intro h7d
            have h7 : node ≠ (runs (ndOf l a b node) v).2 := by simpa using h7d
            have hr : runs (ndOf l a b node) (v + 1) = ((runs (ndOf l a b node) v).1 ++ [((v : Int), node)], node) := by
              conv => lhs; unfold runs
              rw [hnd, if_pos h7]
            conv => whnf
            refine ⟨⟨rfl, ?_⟩, ?_⟩
            · have := runs_len (ndOf l a b node) v
              simp; omega
            conv => whnf
            refine ⟨(v + 1, (find l v != node)), ⟨by dsimp only; omega, by rw [hO (find l v ≠ node) ⟨fun h => h.2.2, fun h => ⟨h4, h5, h⟩⟩]; simp [h2']⟩, by dsimp only; omega, rfl, ?_, ?_, .tips [] ?_⟩
            · refine leT_cons (Wk.refl _) (leT_cons (Wk.refl _) (leT_cons (Wk.refl _) (leT_cons (Wk.refl _) (leT_cons (Wk.refl _) (leT_cons (Wk.refl _) (leT_cons (Wk.refl _) (leT_cons (Wk.refl _) (leT_cons (Wk.refl _) (leT_cons (Wk.int ?_) (leT_cons (Wk.int ?_) (leT_nil)))))))))))
              · rw [hr]
              · exact IntWalk.i64_in _ (by omega)
            · refine leL_cons rfl (leC_refl _) (leL_cons rfl (leC_refl _) (leL_cons rfl (leC_cons (Wk.refl _) (leC_cons (Wk.rows ?_) (leC_nil))) (leL_nil)))
              rw [hr]; simp [spR]
            · dsimp only; rw [hr]; simp
          · intro h7d
            have h7 : node = (runs (ndOf l a b node) v).2 := by simpa using h7d
            have hr : runs (ndOf l a b node) (v + 1) = runs (ndOf l a b node) v := by
              conv => lhs; unfold runs
              rw [hnd, if_neg (fun h => h h7)]
            conv => whnf
            refine ⟨(v + 1, (find l v != node)), ⟨by dsimp only; omega, by rw [hO (find l v ≠ node) ⟨fun h => h.2.2, fun h => ⟨h4, h5, h⟩⟩]; simp [h2']⟩, by dsimp only; omega, rfl, ?_, ?_, .tips [] ?_⟩
            · refine leT_cons (Wk.refl _) (leT_cons (Wk.refl _) (leT_cons (Wk.refl _) (leT_cons (Wk.refl _) (leT_cons (Wk.refl _) (leT_cons (Wk.refl _) (leT_cons (Wk.refl _) (leT_cons (Wk.refl _) (leT_cons (Wk.refl _) (leT_cons (Wk.int ?_) (leT_cons (Wk.int ?_) (leT_nil)))))))))))
              · rw [hr]
              · exact IntWalk.i64_in _ (by omega)
            · refine leL_cons rfl (leC_refl _) (leL_cons rfl (leC_refl _) (leL_cons rfl (leC_cons (Wk.refl _) (leC_cons (Wk.rows ?_) (leC_nil))) (leL_nil)))
              rw [hr]
            · dsimp only; rw [hr]; rfl
      · intro h5d
        have h5 : ¬ (v : Int) < b := of_decide_eq_false h5d
        conv => whnf
        have hnd : ndOf l a b node v = find l v := by unfold ndOf; rw [if_neg (fun h => h5 h.2)]
        refine bsp_intro ?_ ?_
        · intro h7d
          have h7 : find l v ≠ (runs (ndOf l a b node) v).2 := by simpa using h7d
          have hr : runs (ndOf l a b node) (v + 1) = ((runs (ndOf l a b node) v).1 ++ [((v : Int), find l v)], find l v) := by
            conv => lhs; unfold runs
            rw [hnd, if_pos h7]
          conv => whnf
          refine ⟨⟨rfl, ?_⟩, ?_⟩
          · have := runs_len (ndOf l a b node) v
            simp; omega
          conv => whnf
          refine ⟨(v + 1, o), ⟨by dsimp only; omega, by rw [hO False ⟨fun h => h5 h.2.1, False.elim⟩]; simp [h2]⟩, by dsimp only; omega, rfl, ?_, ?_, .tips [] ?_⟩
          · refine leT_cons (Wk.refl _) (leT_cons (Wk.refl _) (leT_cons (Wk.refl _) (leT_cons (Wk.refl _) (leT_cons (Wk.refl _) (leT_cons (Wk.refl _) (leT_cons (Wk.refl _) (leT_cons (Wk.refl _) (leT_cons (Wk.refl _) (leT_cons (Wk.int ?_) (leT_cons (Wk.int ?_) (leT_nil)))))))))))
            · rw [hr]
            · exact IntWalk.i64_in _ (by omega)
          · refine leL_cons rfl (leC_refl _) (leL_cons rfl (leC_refl _) (leL_cons rfl (leC_cons (Wk.refl _) (leC_cons (Wk.rows ?_) (leC_nil))) (leL_nil)))
            rw [hr]; simp [spR]
          · dsimp only; rw [hr]; simp
        · intro h7d
          have h7 : find l v = (runs (ndOf l a b node) v).2 := by simpa using h7d
          have hr : runs (ndOf l a b node) (v + 1) = runs (ndOf l a b node) v := by
            conv => lhs; unfold runs
            rw [hnd, if_neg (fun h => h h7)]
          conv => whnf
          refine ⟨(v + 1, o), ⟨by dsimp only; omega, by rw [hO False ⟨fun h => h5 h.2.1, False.elim⟩]; simp [h2]⟩, by dsimp only; omega, rfl, ?_, ?_, .tips [] ?_⟩
          · refine leT_cons (Wk.refl _) (leT_cons (Wk.refl _) (leT_cons (Wk.refl _) (leT_cons (Wk.refl _) (leT_cons (Wk.refl _) (leT_cons (Wk.refl _) (leT_cons (Wk.refl _) (leT_cons (Wk.refl _) (leT_cons (Wk.refl _) (leT_cons (Wk.int ?_) (leT_cons (Wk.int ?_) (leT_nil)))))))))))
            · rw [hr]
            · exact IntWalk.i64_in _ (by omega)
          · refine leL_cons rfl (leC_refl _) (leL_cons rfl (leC_refl _) (leL_cons rfl (leC_cons (Wk.refl _) (leC_cons (Wk.rows ?_) (leC_nil))) (leL_nil)))
            rw [hr]
          · dsimp only; rw [hr]; rfl
    · intro h4d
      have h4 : ¬ a ≤ (v : Int) := of_decide_eq_false h4d
      conv => whnf
      have hnd : ndOf l a b node v = find l v := by unfold ndOf; rw [if_neg (fun h => h4 h.1)]
      refine bsp_intro ?_ ?_
      · intro h7d
        have h7 : find l v ≠ (runs (ndOf l a b node) v).2 := by simpa using h7d
        have hr : runs (ndOf l a b node) (v + 1) = ((runs (ndOf l a b node) v).1 ++ [((v : Int), find l v)], find l v) := by
          conv => lhs; unfold runs
          rw [hnd, if_pos h7]
        conv => whnf
        refine ⟨⟨rfl, ?_⟩, ?_⟩
        · have := runs_len (ndOf l a b node) v
          simp; omega
        conv => whnf
        refine ⟨(v + 1, o), ⟨by dsimp only; omega, by rw [hO False ⟨fun h => h4 h.1, False.elim⟩]; simp [h2]⟩, by dsimp only; omega, rfl, ?_, ?_, .tips [] ?_⟩
        · refine leT_cons (Wk.refl _) (leT_cons (Wk.refl _) (leT_cons (Wk.refl _) (leT_cons (Wk.refl _) (leT_cons (Wk.refl _) (leT_cons (Wk.refl _) (leT_cons (Wk.refl _) (leT_cons (Wk.refl _) (leT_cons (Wk.refl _) (leT_cons (Wk.int ?_) (leT_cons (Wk.int ?_) (leT_nil)))))))))))
          · rw [hr]
          · exact IntWalk.i64_in _ (by omega)
        · refine leL_cons rfl (leC_refl _) (leL_cons rfl (leC_refl _) (leL_cons rfl (leC_cons (Wk.refl _) (leC_cons (Wk.rows ?_) (leC_nil))) (leL_nil)))
          rw [hr]; simp [spR]
        · dsimp only; rw [hr]; simp
      · intro h7d
        have h7 : find l v = (runs (ndOf l a b node) v).2 := by simpa using h7d
        have hr : runs (ndOf l a b node) (v + 1) = runs (ndOf l a b node) v := by
          conv => lhs; unfold runs
          rw [hnd, if_neg (fun h => h h7)]
        conv => whnf
        refine ⟨(v + 1, o), ⟨by dsimp only; omega, by rw [hO False ⟨fun h => h4 h.1, False.elim⟩]; simp [h2]⟩, by dsimp only; omega, rfl, ?_, ?_, .tips [] ?_⟩
        · refine leT_cons (Wk.refl _) (leT_cons (Wk.refl _) (leT_cons (Wk.refl _) (leT_cons (Wk.refl _) (leT_cons (Wk.refl _) (leT_cons (Wk.refl _) (leT_cons (Wk.refl _) (leT_cons (Wk.refl _) (leT_cons (Wk.refl _) (leT_cons (Wk.int ?_) (leT_cons (Wk.int ?_) (leT_nil)))))))))))
          · rw [hr]
          · exact IntWalk.i64_in _ (by omega)
        · refine leL_cons rfl (leC_refl _) (leL_cons rfl (leC_refl _) (leL_cons rfl (leC_cons (Wk.refl _) (leC_cons (Wk.rows ?_) (leC_nil))) (leL_nil)))
          rw [hr]
        · dsimp only; rw [hr]; rfl
  · intro h3d
    have h3 : ¬ (v : Int) < size := of_decide_eq_false h3d
    have hv : v = size.toNat := by omega
    subst hv
    conv => whnf
    refine bsp_intro ?_ ?_
    · intro h4d
      have h4 : o = false := by simpa using h4d
      subst h4
      conv => whnf
      exact bad fun h => by simpa using h2.2 h.2
    intro h4d
    have h4 : o = true := by simpa using h4d
    subst h4
    have hoth := h2.1 rfl
    conv => whnf
    refine bsp_intro ?_ ?_
    · intro h5d
      have h5 : 40 < (runs (ndOf l a b node) size.toNat).1.length := by have := of_decide_eq_true h5d; simp at this; omega
      conv => whnf
      refine ⟨_, ws_tup2 (ws_nilV 0) (.refl _), pur_tup2 (mapV_pur _ _) (.int _ _), ?_⟩
      unfold splitOf; rw [if_pos ⟨hvalid, hoth⟩, if_pos h5]
    · intro h5d
      have h5 : ¬ 40 < (runs (ndOf l a b node) size.toNat).1.length := by have := of_decide_eq_false h5d; simp at this; omega
      conv => whnf
      refine ⟨_, ws_tup2 (ws_mapV _ _ _) (.refl _), pur_tup2 (mapV_pur _ _) (.int _ _), ?_⟩
      unfold splitOf; rw [if_pos ⟨hvalid, hoth⟩, if_neg h5]
end Go.Proofs.Ytecpiplfjmmccaa.AM
