/-
  Texts laid together by program (bundle.py): each part says in its own head what is proved. What is proved here serves the law's row.
  Conditions: as each part says.
-/
import Derived.Test.YtecpiplfjmmccaaCnTy
import Derived.Test.YtecpiplfjmmccaaCn4
import Derived.IntWalk
import Derived.RangeFuncBox
import Derived.RangeFuncLeaves
import Derived.Shelf.Abstract
import Derived.WalkKit
import Derived.OwnWalkIn
import Derived.TacticsInMore
import Derived.LoopNIn
import Derived.LoopIn
import Derived.Test.YtecpiplfjmmccaaProg
import Derived.RangeFuncNested
import Derived.Test.YtecpiplfjmmccaaCn2
import Derived.Lib.SlKeysI
import Derived.Carry
/-
  Spans: the reference's Find, walked.
  Conditions: none.
-/
namespace Go.Proofs.Ytecpiplfjmmccaa.AM
open Go
theorem mix : Try.prog.follows .mixedOrders = true := by kernel_rfl

abbrev Sp := Int × Int
def spR (s : Sp) : List AV := [.int .i64 s.1, .int .i64 s.2]
def spS (l : List Sp) : AV := .sl 2 (l.map spR) none
def mapV (e : Int) (l : List Sp) : AV := .agg [.int .u32 e, spS l]
theorem spS_pur (l : List Sp) : Pur (spS l) := by
  refine .sl 2 _ fun i j x hx => ?_
  obtain ⟨r, h1, h2⟩ := cellAt_some hx
  rw [List.getElem?_map] at h1
  obtain ⟨s, _, rfl⟩ := Option.map_eq_some_iff.1 h1
  match j, h2 with
  | 0, h2 => simp [spR] at h2; subst h2; exact .int _ _
  | 1, h2 => simp [spR] at h2; subst h2; exact .int _ _
theorem mapV_pur (e : Int) (l : List Sp) : Pur (mapV e l) := by
  refine .agg _ fun j x hx => ?_
  match j, hx with
  | 0, hx => simp at hx; subst hx; exact .int _ _
  | 1, hx => simp at hx; subst hx; exact spS_pur l

/-- A member's node: that of the last span that begins no later. -/
def find (l : List Sp) (v : Int) : Int := l.foldl (fun n s => if s.1 ≤ v then s.2 else n) (-1)

set_option maxRecDepth 20000
theorem f28_ok (e : Int) (l : List Sp) (v : Int) : PC Try.prog 28 [mapV e l, .int .i64 v] fun r => r = .int .i64 (find l v) := by
  refine PC.of_vc (fun _ => 0) (fun _ => true) ty_ok mix Try.func28 (by kernel_rfl) rfl (by kernel_rfl) (pur2 (mapV_pur e l) (pur2 (.int _ _) pur0)) fun hf => ?_
  have hlen : l.length ≤ 9223372036854775807 := by
    have := ((hf _ (List.mem_cons_self ..)).agg (spS l) (by simp)).sl.1
    simpa using this
  conv => whnf
  refine ⟨Nat, fun i => ⟨29, [(6, .int .i64 i), (2, .lptr 2 0), (1, .int .i64 v), (5, .int .i64 (find (l.take i) v))], [(2, [.int .u32 e, spS l])], AH.none⟩, fun i => i ≤ l.length, fun i => l.length - i, ⟨0, Nat.zero_le _, rfl, ?_, ?_, .tips [] rfl⟩, ?_⟩
  · refine leT_cons (Wk.refl _) (leT_cons (Wk.refl _) (leT_cons (Wk.refl _) (leT_cons (Wk.refl _) (leT_nil))))
  · refine leL_cons rfl (leC_refl _) (leL_nil)
  intro i hi
  conv => whnf
  refine bsp_intro ?_ ?_
  · intro h
    conv => whnf
    have hlt : i < l.length := by simpa using h
    have hrow : (l.map spR)[(i : Int).toNat]? = some (spR l[i]) := by simp [hlt]
    refine ⟨_, by omega, hrow, ?_⟩
    conv => whnf
    have hstep : find (l.take (i + 1)) v = if l[i].1 ≤ v then l[i].2 else find (l.take i) v := by
      simp only [find, take_snoc hlt, List.foldl_append, List.foldl_cons, List.foldl_nil]
    refine bsp_intro ?_ ?_
    · intro h2
      conv => whnf
      refine ⟨_, by omega, hrow, ?_⟩
      conv => whnf
      refine ⟨i + 1, by omega, by dsimp only; omega, rfl, ?_, ?_, .tips [] rfl⟩
      · refine leT_cons (Wk.int ?_) (leT_cons (Wk.refl _) (leT_cons (Wk.refl _) (leT_cons (Wk.int ?_) (leT_nil))))
        · rw [IntWalk.i64_in _ (by omega)]; rfl
        · rw [hstep, if_pos (of_decide_eq_true h2)]
      · refine leL_cons rfl (leC_refl _) (leL_nil)
    · intro h2
      conv => whnf
      refine ⟨i + 1, by omega, by dsimp only; omega, rfl, ?_, ?_, .tips [] rfl⟩
      · refine leT_cons (Wk.int ?_) (leT_cons (Wk.refl _) (leT_cons (Wk.refl _) (leT_cons (Wk.int ?_) (leT_nil))))
        · rw [IntWalk.i64_in _ (by omega)]; rfl
        · rw [hstep, if_neg (of_decide_eq_false h2)]
      · refine leL_cons rfl (leC_refl _) (leL_nil)
  · intro h
    conv => whnf
    have hge : l.length ≤ i := by simpa using h
    refine ⟨_, .refl _, .int _ _, ?_⟩
    rw [List.take_of_length_le hge]
    rfl
end Go.Proofs.Ytecpiplfjmmccaa.AM

/-
  Spans: whether numbers, spans, maps are alike, walked.
  Conditions: none.
-/
namespace Go.Proofs.Ytecpiplfjmmccaa.AM
open Go

def intR (n : Int) : List AV := [.int .i64 n]
def intS (l : List Int) : AV := .sl 1 (l.map intR) none
theorem intS_pur (l : List Int) : Pur (intS l) := by
  refine .sl 1 _ fun i j x hx => ?_
  obtain ⟨r, h1, h2⟩ := cellAt_some hx
  rw [List.getElem?_map] at h1
  obtain ⟨s, _, rfl⟩ := Option.map_eq_some_iff.1 h1
  match j, h2 with
  | 0, h2 => simp [intR] at h2; subst h2; exact .int _ _
theorem intS_len {l : List Int} (h : Fit (intS l)) : l.length ≤ 9223372036854775807 := by simpa using h.sl.1
theorem spS_len {l : List Sp} (h : Fit (spS l)) : l.length ≤ 9223372036854775807 := by simpa using h.sl.1
theorem mapV_len {e : Int} {l : List Sp} (h : Fit (mapV e l)) : l.length ≤ 9223372036854775807 := spS_len (h.agg _ (by simp))

set_option maxRecDepth 20000
theorem f33_ok (a b : List Int) : PC Try.prog 33 [intS a, intS b] fun r => r = .bool (decide (a = b)) := by
  refine PC.of_vc (fun _ => 0) (fun _ => true) ty_ok mix Try.func33 (by kernel_rfl) rfl (by kernel_rfl) (pur2 (intS_pur a) (pur2 (intS_pur b) pur0)) fun hf => ?_
  have hla := intS_len (l := a) (hf _ (by simp))
  conv => whnf
  refine bsp_intro ?_ ?_
  · intro h
    have hne : a.length ≠ b.length := by simp at h; omega
    conv => whnf
    refine fin (.bool _) ?_
    rw [decide_eq_false (fun e => hne (by rw [e]))]
    rfl
  · intro h
    have hlen : a.length = b.length := by simp at h; omega
    conv => whnf
    refine ⟨Nat, fun i => ⟨26, [(0, intS a), (1, intS b), (5, .int .i64 i)], [], AH.none⟩, fun i => i ≤ a.length ∧ a.take i = b.take i, fun i => a.length - i, ⟨0, by simp, rfl, ?_, ?_, .tips [] rfl⟩, ?_⟩
    · refine leT_cons (Wk.refl _) (leT_cons (Wk.refl _) (leT_cons (Wk.refl _) (leT_nil)))
    · refine leL_nil
    intro i hi
    conv => whnf
    refine bsp_intro ?_ ?_
    · intro h
      have hlt : i < a.length := by simpa using h
      have hlt' : i < b.length := by omega
      conv => whnf
      refine DrawVC.go [0, 1, 2, 3, 4, 5, 6, 7, 8] (by kernel_rfl) ?_
      conv => whnf
      refine ⟨_, by omega, rows_get hlt, ?_⟩
      conv => whnf
      refine ⟨_, by omega, rows_get hlt', ?_⟩
      conv => whnf
      refine bsp_intro ?_ ?_
      · intro h
        have hne : a[i] ≠ b[i] := by simpa using h
        conv => whnf
        refine fin (.bool _) ?_
        rw [decide_eq_false (fun e => hne (by simp [e]))]
        rfl
      · intro h
        have heq : a[i] = b[i] := by simpa using h
        conv => whnf
        refine ⟨i + 1, ⟨by omega, take_eq hlt hlt' hi.2 heq⟩, by dsimp only; omega, rfl, ?_, ?_, .tips [] rfl⟩
        · refine leT_cons (Wk.refl _) (leT_cons (Wk.refl _) (leT_cons (Wk.int ?_) (leT_nil)))
          rw [IntWalk.i64_in _ (by omega)]; rfl
        · refine leL_nil
    · intro h
      have hge : a.length ≤ i := by simpa using h
      conv => whnf
      refine fin (.bool _) ?_
      have : a = b := by
        have := hi.2
        rwa [List.take_of_length_le hge, List.take_of_length_le (by omega)] at this
      rw [decide_eq_true this]
      rfl
theorem f60_ok (a b : List Int) : PC Try.prog 60 [intS a, intS b] fun r => r = .bool (decide (a = b)) := by
  refine PC.of_vc (fun _ => 0) (fun _ => true) ty_ok mix Try.func60 (by kernel_rfl) rfl (by kernel_rfl) (pur2 (intS_pur a) (pur2 (intS_pur b) pur0)) fun hf => ?_
  have hla := intS_len (l := a) (hf _ (by simp))
  conv => whnf
  refine bsp_intro ?_ ?_
  · intro h
    have hne : a.length ≠ b.length := by simp at h; omega
    conv => whnf
    refine fin (.bool _) ?_
    rw [decide_eq_false (fun e => hne (by rw [e]))]
    rfl
  · intro h
    have hlen : a.length = b.length := by simp at h; omega
    conv => whnf
    refine ⟨Nat, fun i => ⟨26, [(0, intS a), (1, intS b), (12, .int .i64 a.length), (13, .int .i64 i)], [], AH.none⟩, fun i => i ≤ a.length ∧ a.take i = b.take i, fun i => a.length - i, ⟨0, by simp, rfl, ?_, ?_, .tips [] rfl⟩, ?_⟩
    · refine leT_cons (Wk.refl _) (leT_cons (Wk.refl _) (leT_cons (Wk.int (by simp)) (leT_cons (Wk.refl _) (leT_nil))))
    · refine leL_nil
    intro i hi
    conv => whnf
    refine bsp_intro ?_ ?_
    · intro h
      have hlt : i < a.length := by simpa using h
      have hlt' : i < b.length := by omega
      conv => whnf
      refine DrawVC.go [0, 1, 2, 3, 4, 5, 6, 7, 8] (by kernel_rfl) ?_
      conv => whnf
      refine ⟨_, by omega, rows_get hlt, ?_⟩
      conv => whnf
      refine ⟨_, by omega, rows_get hlt', ?_⟩
      conv => whnf
      refine bsp_intro ?_ ?_
      · intro h
        have hne : a[i] ≠ b[i] := by simpa using h
        conv => whnf
        refine fin (.bool _) ?_
        rw [decide_eq_false (fun e => hne (by simp [e]))]
        rfl
      · intro h
        have heq : a[i] = b[i] := by simpa using h
        conv => whnf
        refine ⟨i + 1, ⟨by omega, take_eq hlt hlt' hi.2 heq⟩, by dsimp only; omega, rfl, ?_, ?_, .tips [] rfl⟩
        · refine leT_cons (Wk.refl _) (leT_cons (Wk.refl _) (leT_cons (Wk.refl _) (leT_cons (Wk.int ?_) (leT_nil))))
          rw [IntWalk.i64_in _ (by omega)]; rfl
        · refine leL_nil
    · intro h
      have hge : a.length ≤ i := by simpa using h
      conv => whnf
      refine fin (.bool _) ?_
      have : a = b := by
        have := hi.2
        rwa [List.take_of_length_le hge, List.take_of_length_le (by omega)] at this
      rw [decide_eq_true this]
      rfl
theorem f62_ok (a b : List Sp) : PC Try.prog 62 [spS a, spS b] fun r => r = .bool (decide (a = b)) := by
  refine PC.of_vc (fun _ => 0) (fun _ => true) ty_ok mix Try.func62 (by kernel_rfl) rfl (by kernel_rfl) (pur2 (spS_pur a) (pur2 (spS_pur b) pur0)) fun hf => ?_
  have hla := spS_len (l := a) (hf _ (by simp))
  conv => whnf
  refine bsp_intro ?_ ?_
  · intro h
    have hne : a.length ≠ b.length := by simp at h; omega
    conv => whnf
    refine fin (.bool _) ?_
    rw [decide_eq_false (fun e => hne (by rw [e]))]
    rfl
  · intro h
    have hlen : a.length = b.length := by simp at h; omega
    conv => whnf
    refine ⟨Nat, fun i => ⟨26, [(0, spS a), (1, spS b), (12, .int .i64 a.length), (13, .int .i64 i)], [], AH.none⟩, fun i => i ≤ a.length ∧ a.take i = b.take i, fun i => a.length - i, ⟨0, by simp, rfl, ?_, ?_, .tips [] rfl⟩, ?_⟩
    · refine leT_cons (Wk.refl _) (leT_cons (Wk.refl _) (leT_cons (Wk.int (by simp)) (leT_cons (Wk.refl _) (leT_nil))))
    · refine leL_nil
    intro i hi
    conv => whnf
    refine bsp_intro ?_ ?_
    · intro h
      have hlt : i < a.length := by simpa using h
      have hlt' : i < b.length := by omega
      conv => whnf
      refine DrawVC.go [0, 1, 2, 3, 4, 5, 6, 7, 8] (by kernel_rfl) ?_
      conv => whnf
      refine ⟨_, by omega, rows_get hlt, ?_⟩
      conv => whnf
      refine ⟨_, by omega, rows_get hlt', ?_⟩
      conv => whnf
      refine bsp_intro ?_ ?_
      · intro h
        have hne : a[i] ≠ b[i] := fun e => by simp [e] at h
        conv => whnf
        refine fin (.bool _) ?_
        rw [decide_eq_false (fun e => hne (by simp [e]))]
        rfl
      · intro h
        have heq : a[i] = b[i] := by simp at h; exact Prod.ext h.1 h.2
        conv => whnf
        refine ⟨i + 1, ⟨by omega, take_eq hlt hlt' hi.2 heq⟩, by dsimp only; omega, rfl, ?_, ?_, .tips [] rfl⟩
        · refine leT_cons (Wk.refl _) (leT_cons (Wk.refl _) (leT_cons (Wk.refl _) (leT_cons (Wk.int ?_) (leT_nil))))
          rw [IntWalk.i64_in _ (by omega)]; rfl
        · refine leL_nil
    · intro h
      have hge : a.length ≤ i := by simpa using h
      conv => whnf
      refine fin (.bool _) ?_
      have : a = b := by
        have := hi.2
        rwa [List.take_of_length_le hge, List.take_of_length_le (by omega)] at this
      rw [decide_eq_true this]
      rfl
end Go.Proofs.Ytecpiplfjmmccaa.AM

/-
  Spans: whether maps are alike; the first map; walked.
  Conditions: none.
-/
namespace Go.Proofs.Ytecpiplfjmmccaa.AM
open Go
set_option maxRecDepth 20000

theorem f23_ok (e : Int) (l : List Sp) (e' : Int) (l' : List Sp) : PC Try.prog 23 [mapV e l, mapV e' l'] fun r => r = .bool (decide (e = e' ∧ l = l')) := by
  refine PC.of_vc (fun _ => 0) (fun _ => true) ty_ok mix Try.func23 (by kernel_rfl) rfl (by kernel_rfl) (pur2 (mapV_pur e l) (pur2 (mapV_pur e' l') pur0)) fun hf => ?_
  conv => whnf
  refine bsp_intro ?_ ?_
  · intro h
    have he : e = e' := by simpa using h
    conv => whnf
    refine (f62_ok l l').quiet (Wss.refl _) ?_
    rintro r rfl
    conv => whnf
    refine fin (.bool _) ?_
    simp only [he, true_and]
    rfl
  · intro h
    have he : e ≠ e' := by simpa using h
    conv => whnf
    refine fin (.bool _) ?_
    simp only [he, false_and, decide_false]
    rfl

theorem f29_ok (e : Int) (a : List Sp) (e' : Int) (b : List Sp) : PC Try.prog 29 [mapV e a, mapV e' b] fun r => r = .bool (decide (e = e' ∧ a = b)) := by
  refine PC.of_vc (fun _ => 0) (fun _ => true) ty_ok mix Try.func29 (by kernel_rfl) rfl (by kernel_rfl) (pur2 (mapV_pur e a) (pur2 (mapV_pur e' b) pur0)) fun hf => ?_
  have hla := mapV_len (e := e) (l := a) (hf _ (by simp))
  conv => whnf
  have no : ¬ (e = e' ∧ a = b) → ∃ r', Ws (one? [AV.bool false]) r' ∧ Pur r' ∧ r' = .bool (decide (e = e' ∧ a = b)) := fun h => fin (.bool _) (by rw [decide_eq_false h]; rfl)
  refine bsp_intro ?_ ?_
  · intro h
    have he : e ≠ e' := by simpa using h
    conv => whnf
    exact no fun h => he h.1
  intro h
  have he : e = e' := by simpa using h
  conv => whnf
  refine bsp_intro ?_ ?_
  · intro h
    have hne : a.length ≠ b.length := by simp at h; omega
    conv => whnf
    exact no fun h => hne (by rw [h.2])
  intro h
  have hlen : a.length = b.length := by simp at h; omega
  conv => whnf
  refine ⟨Nat, fun i => ⟨38, [(2, .lptr 2 0), (3, .lptr 3 0), (5, .int .i64 i)], [(2, [.int .u32 e, spS a]), (3, [.int .u32 e', spS b])], AH.none⟩, fun i => i ≤ a.length ∧ a.take i = b.take i, fun i => a.length - i, ⟨0, by simp, rfl, ?_, ?_, .tips [] rfl⟩, ?_⟩
  · refine leT_cons (Wk.refl _) (leT_cons (Wk.refl _) (leT_cons (Wk.refl _) (leT_nil)))
  · refine leL_cons rfl (leC_refl _) (leL_cons rfl (leC_refl _) (leL_nil))
  intro i hi
  conv => whnf
  refine bsp_intro ?_ ?_
  · intro h
    have hlt : i < a.length := by simpa using h
    have hlt' : i < b.length := by omega
    conv => whnf
    refine DrawVC.go [0, 1, 2, 3, 4, 5, 6, 7, 8, 9, 10] (by kernel_rfl) ?_
    conv => whnf
    refine ⟨_, by omega, rows_get hlt, ?_⟩
    conv => whnf
    refine ⟨_, by omega, rows_get hlt', ?_⟩
    conv => whnf
    refine bsp_intro ?_ ?_
    · intro h
      have hne : a[i] ≠ b[i] := fun e => by simp [e] at h
      conv => whnf
      exact no fun e => hne (by simp [e.2])
    · intro h
      have heq : a[i] = b[i] := by simp at h; exact Prod.ext h.1 h.2
      conv => whnf
      refine ⟨i + 1, ⟨by omega, take_eq hlt hlt' hi.2 heq⟩, by dsimp only; omega, rfl, ?_, ?_, .tips [] rfl⟩
      · refine leT_cons (Wk.refl _) (leT_cons (Wk.refl _) (leT_cons (Wk.int ?_) (leT_nil)))
        rw [IntWalk.i64_in _ (by omega)]; rfl
      · refine leL_cons rfl (leC_refl _) (leL_cons rfl (leC_refl _) (leL_nil))
  · intro h
    have hge : a.length ≤ i := by simpa using h
    conv => whnf
    refine fin (.bool _) ?_
    have : a = b := by
      have := hi.2
      rwa [List.take_of_length_le hge, List.take_of_length_le (by omega)] at this
    rw [decide_eq_true ⟨he, this⟩]
    rfl

theorem ws_spS (l : List Sp) (tok : Option Nat) : Ws (.sl 2 (l.map spR) tok) (spS l) := by
  refine .drop 2 _ tok (fun r hr => ?_) (fun i j x hx => ?_)
  · obtain ⟨s, _, rfl⟩ := List.mem_map.1 hr; rfl
  · obtain ⟨r, h1, h2⟩ := cellAt_some hx
    rw [List.getElem?_map] at h1
    obtain ⟨s, _, rfl⟩ := Option.map_eq_some_iff.1 h1
    match j, h2 with
    | 0, h2 => simp [spR] at h2; subst h2; rfl
    | 1, h2 => simp [spR] at h2; subst h2; rfl
theorem ws_agg2 {a b c d : AV} (h1 : c.one = true) (h2 : d.one = true) (k1 : Ws a c) (k2 : Ws b d) : Ws (.agg [a, b]) (.agg [c, d]) := by
  refine .agg _ _ (fun j => if j = 0 then a else b) rfl (fun j x hx => ?_) (fun j x hx => ?_) (fun j x hx => ?_) <;> match j, hx with
  | 0, hx => simp at hx; subst hx; first | rfl | exact h1 | exact k1
  | 1, hx => simp at hx; subst hx; first | rfl | exact h2 | exact k2
theorem ws_mapV (e : Int) (l : List Sp) (tok : Option Nat) : Ws (.agg [.int .u32 e, .sl 2 (l.map spR) tok]) (mapV e l) := ws_agg2 rfl rfl (.refl _) (ws_spS l tok)
theorem ws_nilV (e : Int) : Ws (.agg [.int .u32 e, .nils]) (mapV e []) := ws_agg2 rfl rfl (.refl _) (.nil 2 (by omega))

theorem f49_ok : PC Try.prog 49 [] fun r => r = mapV 1 [(0, 0)] := by
  refine PC.of_vc (fun _ => 0) (fun _ => true) ty_ok mix Try.func49 (by kernel_rfl) rfl (by kernel_rfl) pur0 fun hf => ?_
  conv => whnf
  exact fin (mapV_pur 1 [(0, 0)]) rfl
theorem f57_ok : PC Try.prog 57 [] fun r => r = mapV 1 [(0, 0)] := by
  refine PC.of_vc (fun _ => 0) (fun _ => true) ty_ok mix Try.func57 (by kernel_rfl) rfl (by kernel_rfl) pur0 fun hf => ?_
  conv => whnf
  exact fin (mapV_pur 1 [(0, 0)]) rfl
end Go.Proofs.Ytecpiplfjmmccaa.AM

/-
  Spans: Sound, the reference's and the program's, walked.
  Conditions: none.
-/
namespace Go.Proofs.Ytecpiplfjmmccaa.AM
open Go
set_option maxRecDepth 20000

/-- A span may stand where it stands. -/
def OkAt (l : List Sp) (size nodes : Int) (i : Nat) (h : i < l.length) : Prop :=
  0 ≤ l[i].2 ∧ l[i].2 < nodes ∧ l[i].2 < 6 ∧ l[i].1 < size ∧ (i = 0 → l[i].1 = 0) ∧ (∀ h' : 0 < i, l[i - 1].1 < l[i].1 ∧ l[i].2 ≠ l[i - 1].2)
def Snd (l : List Sp) (size nodes : Int) : Prop := 1 ≤ l.length ∧ l.length ≤ 40 ∧ ∀ i (h : i < l.length), OkAt l size nodes i h

theorem min_lt {a b c : Int} (h : ¬ (if b < a then b else a) ≤ c) : c < a ∧ c < b := by split at h <;> omega
theorem min_ge {a b c : Int} (h : (if b < a then b else a) ≤ c) : a ≤ c ∨ b ≤ c := by split at h <;> omega

theorem f26_ok (e : Int) (l : List Sp) (size nodes : Int) : PC Try.prog 26 [mapV e l, .int .i64 size, .int .i64 nodes] fun r => ∃ b, r = .bool b ∧ (b = true ↔ Snd l size nodes) := by
  refine PC.of_vc (fun _ => 0) (fun _ => true) ty_ok mix Try.func26 (by kernel_rfl) rfl (by kernel_rfl) (pur2 (mapV_pur e l) (pur2 (.int _ _) (pur2 (.int _ _) pur0))) fun hf => ?_
  have hla := mapV_len (e := e) (l := l) (hf _ (by simp))
  have no : ¬ Snd l size nodes → ∃ r', Ws (one? [AV.bool false]) r' ∧ Pur r' ∧ ∃ b, r' = .bool b ∧ (b = true ↔ Snd l size nodes) := fun h => fin (.bool _) ⟨false, rfl, by simp [h]⟩
  conv => whnf
  refine ⟨Nat, fun i => ⟨100, [(3, .lptr 3 0), (1, .int .i64 size), (2, .int .i64 nodes), (7, .int .i64 i)], [(3, [.int .u32 e, spS l])], AH.none⟩, fun i => i ≤ l.length ∧ ∀ j (h : j < l.length), j < i → OkAt l size nodes j h, fun i => l.length - i, ⟨0, by simp, rfl, ?_, ?_, .tips [] rfl⟩, ?_⟩
  · refine leT_cons (Wk.refl _) (leT_cons (Wk.refl _) (leT_cons (Wk.refl _) (leT_cons (Wk.refl _) (leT_nil))))
  · refine leL_cons rfl (leC_refl _) (leL_nil)
  intro i hi
  conv => whnf
  refine bsp_intro ?_ ?_
  · intro h
    have hlt : i < l.length := by simpa using h
    have bad : ¬ OkAt l size nodes i hlt → ∃ r', Ws (one? [AV.bool false]) r' ∧ Pur r' ∧ ∃ b, r' = .bool b ∧ (b = true ↔ Snd l size nodes) := fun h => no fun hs => h (hs.2.2 i hlt)
    conv => whnf
    refine ⟨_, by omega, rows_get hlt, ?_⟩
    conv => whnf
    refine bsp_intro ?_ ?_
    · intro h1
      have h1 := of_decide_eq_true h1
      conv => whnf
      exact bad fun ho => by have := ho.1; omega
    intro h1
    have h1 := of_decide_eq_false h1
    conv => whnf
    refine ⟨_, by omega, rows_get hlt, ?_⟩
    conv => whnf
    refine bsp_intro ?_ ?_
    · intro h2
      have h2 := min_ge (of_decide_eq_true h2)
      conv => whnf
      exact bad fun ho => by have := ho.2.1; have := ho.2.2.1; omega
    intro h2
    have h2 := min_lt (of_decide_eq_false h2)
    conv => whnf
    refine ⟨_, by omega, rows_get hlt, ?_⟩
    conv => whnf
    refine bsp_intro ?_ ?_
    · intro h3
      have h3 := of_decide_eq_true h3
      conv => whnf
      exact bad fun ho => by have := ho.2.2.2.1; omega
    intro h3
    have h3 := of_decide_eq_false h3
    conv => whnf
    have step : OkAt l size nodes i hlt → ∃ x', (fun i => i ≤ l.length ∧ ∀ j (h : j < l.length), j < i → OkAt l size nodes j h) x' ∧ l.length - x' < l.length - i ∧ x' = i + 1 := fun ho =>
      ⟨i + 1, ⟨by omega, fun j hj hji => by
        rcases Nat.lt_or_ge j i with hj' | hj'
        · exact hi.2 j hj hj'
        · have : j = i := by omega
          subst this; exact ho⟩, by omega, rfl⟩
    refine bsp_intro ?_ ?_
    · intro h4
      have h4 : i = 0 := by simp at h4; omega
      conv => whnf
      refine ⟨_, by omega, rows_get hlt, ?_⟩
      conv => whnf
      refine bsp_intro ?_ ?_
      · intro h5
        have h5 : l[i].1 ≠ 0 := by simpa using h5
        conv => whnf
        exact bad fun ho => h5 (ho.2.2.2.2.1 h4)
      intro h5
      have h5 : l[i].1 = 0 := by simpa using h5
      conv => whnf
      refine DrawVC.go [0, 1, 2, 3, 4, 5, 6, 7, 8, 9, 10, 11, 12, 13, 14, 15, 16, 17, 18, 19, 20, 21, 22, 23, 24, 25, 26, 27, 28, 29, 30, 31, 32, 33] (by kernel_rfl) ?_
      conv => whnf
      refine bsp_intro ?_ ?_
      · intro h6
        simp at h6; omega
      intro h6
      conv => whnf
      obtain ⟨x', g1, g2, rfl⟩ := step ⟨by omega, h2.1, h2.2, by omega, fun _ => h5, fun h => by omega⟩
      refine ⟨i + 1, g1, g2, rfl, ?_, ?_, .tips [] rfl⟩
      · refine leT_cons (Wk.refl _) (leT_cons (Wk.refl _) (leT_cons (Wk.refl _) (leT_cons (Wk.int ?_) (leT_nil))))
        rw [IntWalk.i64_in _ (by omega)]; rfl
      · refine leL_cons rfl (leC_refl _) (leL_nil)
    intro h4
    have h4 : i ≠ 0 := by simp at h4; omega
    conv => whnf
    refine DrawVC.go [0, 1, 2, 3, 4, 5, 6, 7, 8, 9, 10, 11, 12, 13, 14, 15, 16, 17, 18, 19, 20, 21, 22, 23, 24, 25, 26, 27, 28, 29, 30, 31, 32, 33] (by kernel_rfl) ?_
    conv => whnf
    refine bsp_intro ?_ ?_
    · intro h6
      conv => whnf
      refine ⟨_, by omega, rows_get hlt, ?_⟩
      conv => whnf
      have e1 : IntKind.i64.wrap ((i : Int) - 1) = ((i - 1 : Nat) : Int) := by rw [IntWalk.i64_in _ (by omega)]; omega
      rw [e1]
      have hlt' : i - 1 < l.length := by omega
      refine ⟨_, by omega, rows_get hlt', ?_⟩
      conv => whnf
      refine bsp_intro ?_ ?_
      · intro h7
        have h7 := of_decide_eq_true h7
        conv => whnf
        exact bad fun ho => by have := (ho.2.2.2.2.2 (by omega)).1; omega
      intro h7
      have h7 := of_decide_eq_false h7
      conv => whnf
      refine ⟨_, by omega, rows_get hlt, ?_⟩
      conv => whnf
      rw [e1]
      refine ⟨_, by omega, rows_get hlt', ?_⟩
      conv => whnf
      refine bsp_intro ?_ ?_
      · intro h8
        have h8 : l[i].2 = l[i - 1].2 := by simpa using h8
        conv => whnf
        exact bad fun ho => (ho.2.2.2.2.2 (by omega)).2 h8
      intro h8
      have h8 : l[i].2 ≠ l[i - 1].2 := by simpa using h8
      conv => whnf
      obtain ⟨x', g1, g2, rfl⟩ := step ⟨by omega, h2.1, h2.2, by omega, fun h => absurd h h4, fun _ => ⟨by omega, h8⟩⟩
      refine ⟨i + 1, g1, g2, rfl, ?_, ?_, .tips [] rfl⟩
      · refine leT_cons (Wk.refl _) (leT_cons (Wk.refl _) (leT_cons (Wk.refl _) (leT_cons (Wk.int ?_) (leT_nil))))
        rw [IntWalk.i64_in _ (by omega)]; rfl
      · refine leL_cons rfl (leC_refl _) (leL_nil)
    · intro h6
      simp at h6; omega
  · intro h
    have hge : l.length ≤ i := by simpa using h
    have hall : ∀ j (h : j < l.length), OkAt l size nodes j h := fun j hj => hi.2 j hj (by omega)
    conv => whnf
    refine bsp_intro ?_ ?_
    · intro h1
      have h1 : 1 ≤ l.length := by simp at h1; omega
      conv => whnf
      refine fin (.bool _) ⟨_, rfl, ?_⟩
      simp only [List.length_map, decide_eq_true_eq]
      exact ⟨fun h => ⟨h1, by omega, hall⟩, fun h => by have := h.2.1; omega⟩
    · intro h1
      have h1 : ¬ 1 ≤ l.length := by simp at h1; omega
      conv => whnf
      exact no fun h => h1 h.1

theorem f25_ok (e : Int) (l : List Sp) (size nodes : Int) : PC Try.prog 25 [mapV e l, .int .i64 size, .int .i64 nodes] fun r => ∃ b, r = .bool b ∧ (b = true ↔ Snd l size nodes) := by
  refine PC.of_vc (fun _ => 0) (fun _ => true) ty_ok mix Try.func25 (by kernel_rfl) rfl (by kernel_rfl) (pur2 (mapV_pur e l) (pur2 (.int _ _) (pur2 (.int _ _) pur0))) fun hf => ?_
  have hla := mapV_len (e := e) (l := l) (hf _ (by simp))
  have no : ¬ Snd l size nodes → ∃ r', Ws (one? [AV.bool false]) r' ∧ Pur r' ∧ ∃ b, r' = .bool b ∧ (b = true ↔ Snd l size nodes) := fun h => fin (.bool _) ⟨false, rfl, by simp [h]⟩
  conv => whnf
  refine bsp_intro ?_ ?_
  · intro h
    have h : l.length = 0 := by simp at h; simp [h]
    conv => whnf
    exact no fun hs => by have := hs.1; omega
  intro h
  have hpos : 0 < l.length := by simp at h; exact List.length_pos_iff.2 h
  conv => whnf
  refine bsp_intro ?_ ?_
  · intro h
    conv => whnf
    exact no fun hs => by have := hs.2.1; simp at h; omega
  intro h
  have h40 : l.length ≤ 40 := by simp at h; omega
  conv => whnf
  refine ⟨_, by omega, rows_get (i := 0) hpos, ?_⟩
  conv => whnf
  refine bsp_intro ?_ ?_
  · intro h
    have h : l[0].1 ≠ 0 := by simpa using h
    conv => whnf
    exact no fun hs => h ((hs.2.2 0 hpos).2.2.2.2.1 rfl)
  intro h
  have h00 : l[0].1 = 0 := by simpa using h
  conv => whnf
  refine ⟨Nat × Sp, fun p => ⟨68, [(3, .lptr 3 0), (1, .int .i64 size), (2, .int .i64 nodes), (7, .lptr 7 0), (30, spS l), (31, .int .i64 l.length), (32, .int .i64 p.1)], [(3, [.int .u32 e, spS l]), (7, [.int .i64 p.2.1, .int .i64 p.2.2])], AH.none⟩,
    fun p => p.1 ≤ l.length ∧ (∀ j (h : j < l.length), j < p.1 → OkAt l size nodes j h) ∧ (p.1 = 0 → p.2 = (-1, -1)) ∧ (∀ (h : 0 < p.1) (h' : p.1 - 1 < l.length), p.2 = l[p.1 - 1]), fun p => l.length - p.1, ⟨(0, (-1, -1)), ⟨by simp, by simp, by simp, by simp⟩, rfl, ?_, ?_, .tips [] rfl⟩, ?_⟩
  · refine leT_cons (Wk.refl _) (leT_cons (Wk.refl _) (leT_cons (Wk.refl _) (leT_cons (Wk.refl _) (leT_cons (Wk.refl _) (leT_cons (Wk.int (by simp)) (leT_cons (Wk.refl _) (leT_nil)))))))
  · refine leL_cons rfl (leC_refl _) (leL_cons rfl (leC_cons (Wk.int ?_) (leC_cons (Wk.int ?_) (leC_nil))) (leL_nil))
    · rfl
    · rfl
  rintro ⟨i, s⟩ ⟨hi1, hi2, hi3, hi4⟩
  dsimp only at hi1 hi2 hi3 hi4
  conv => whnf
  refine bsp_intro ?_ ?_
  · intro h
    have hlt : i < l.length := by simpa using h
    have bad : ¬ OkAt l size nodes i hlt → ∃ r', Ws (one? [AV.bool false]) r' ∧ Pur r' ∧ ∃ b, r' = .bool b ∧ (b = true ↔ Snd l size nodes) := fun h => no fun hs => h (hs.2.2 i hlt)
    have hs : (i = 0 ∧ s = (-1, -1) ∧ l[i].1 = 0) ∨ ∃ h : 0 < i, s = l[i - 1] := by
      rcases Nat.eq_zero_or_pos i with h0 | h0
      · left
        refine ⟨h0, hi3 h0, ?_⟩
        subst h0; exact h00
      · exact .inr ⟨h0, hi4 h0 (by omega)⟩
    conv => whnf
    refine ⟨_, by omega, rows_get hlt, ?_⟩
    conv => whnf
    refine bsp_intro ?_ ?_
    · intro h1
      have h1 : l[i].1 ≤ s.1 := of_decide_eq_true h1
      conv => whnf
      refine bad fun ho => ?_
      rcases hs with ⟨h0, rfl, h2⟩ | ⟨h0, rfl⟩
      · dsimp only at h1; omega
      · have := (ho.2.2.2.2.2 h0).1; omega
    intro h1
    have h1 : ¬ l[i].1 ≤ s.1 := of_decide_eq_false h1
    conv => whnf
    refine bsp_intro ?_ ?_
    · intro h2
      have h2 := of_decide_eq_true h2
      conv => whnf
      exact bad fun ho => by have := ho.2.2.2.1; omega
    intro h2
    have h2 := of_decide_eq_false h2
    conv => whnf
    refine bsp_intro ?_ ?_
    · intro h3
      have h3 : l[i].2 = s.2 := by simpa using h3
      conv => whnf
      refine bad fun ho => ?_
      rcases hs with ⟨h0, rfl, _⟩ | ⟨h0, rfl⟩
      · have := ho.1; dsimp only at h3; omega
      · exact (ho.2.2.2.2.2 h0).2 h3
    intro h3
    have h3 : l[i].2 ≠ s.2 := by simpa using h3
    conv => whnf
    refine bsp_intro ?_ ?_
    · intro h4
      have h4 := of_decide_eq_true h4
      conv => whnf
      exact bad fun ho => by have := ho.1; omega
    intro h4
    have h4 := of_decide_eq_false h4
    conv => whnf
    refine bsp_intro ?_ ?_
    · intro h5
      have h5 := min_ge (of_decide_eq_true h5)
      conv => whnf
      exact bad fun ho => by have := ho.2.1; have := ho.2.2.1; omega
    intro h5
    have h5 := min_lt (of_decide_eq_false h5)
    conv => whnf
    refine ⟨(i + 1, l[i]), ⟨by dsimp only; omega, fun j hj hji => ?_, fun h => by dsimp only at h; omega, fun _ _ => rfl⟩, by dsimp only; omega, rfl, ?_, ?_, .tips [] rfl⟩
    · dsimp only at hji
      rcases Nat.lt_or_ge j i with hj' | hj'
      · exact hi2 j hj hj'
      · have : j = i := by omega
        subst this
        refine ⟨by omega, h5.1, h5.2, by omega, fun h0 => ?_, fun h0 => ?_⟩
        · rcases hs with ⟨_, _, h⟩ | ⟨h, _⟩
          · exact h
          · omega
        · rcases hs with ⟨h, _, _⟩ | ⟨_, rfl⟩
          · omega
          · exact ⟨by omega, h3⟩
    · refine leT_cons (Wk.refl _) (leT_cons (Wk.refl _) (leT_cons (Wk.refl _) (leT_cons (Wk.refl _) (leT_cons (Wk.refl _) (leT_cons (Wk.refl _) (leT_cons (Wk.int ?_) (leT_nil)))))))
      rw [IntWalk.i64_in _ (by omega)]; rfl
    · refine leL_cons rfl (leC_refl _) (leL_cons rfl (leC_refl _) (leL_nil))
  · intro h
    have hge : l.length ≤ i := by simpa using h
    conv => whnf
    refine fin (.bool _) ⟨true, rfl, ?_⟩
    simp only [true_iff]
    exact ⟨hpos, h40, fun j hj => hi2 j hj (by omega)⟩
end Go.Proofs.Ytecpiplfjmmccaa.AM

/-
  Spans: the reference's Nodes, walked.
  Conditions: none.
-/
namespace Go.Proofs.Ytecpiplfjmmccaa.AM
open Go
set_option maxRecDepth 20000

/-- Is one of the members from lo to v the node n's? -/
def anyN (l : List Sp) (lo v n : Int) : Bool := (List.range (v - lo).toNat).any fun k => find l (lo + k) == n
theorem anyN_self (l : List Sp) (lo n : Int) : anyN l lo lo n = false := by simp [anyN]
theorem anyN_ge {l : List Sp} {lo v n : Int} (h : v ≤ lo) : anyN l lo v n = false := by
  unfold anyN
  rw [show (v - lo).toNat = 0 by omega]
  rfl
theorem anyN_succ {l : List Sp} {lo v n : Int} (h : lo ≤ v) : anyN l lo (v + 1) n = (anyN l lo v n || find l v == n) := by
  unfold anyN
  rw [show (v + 1 - lo).toNat = (v - lo).toNat + 1 by omega, List.range_succ, List.any_append]
  simp only [List.any_cons, List.any_nil, Bool.or_false]
  rw [show lo + ((v - lo).toNat : Int) = v by omega]
theorem anyN_mono {l : List Sp} {lo v v' n : Int} (h : v ≤ v') (ha : anyN l lo v n = true) : anyN l lo v' n = true := by
  unfold anyN at ha ⊢
  rw [List.any_eq_true] at ha ⊢
  obtain ⟨k, h1, h2⟩ := ha
  exact ⟨k, by rw [List.mem_range] at h1 ⊢; omega, h2⟩
def lo0 (a : Int) : Int := if 0 > a then 0 else a
def hi0 (b : Int) : Int := if 10000 < b then 10000 else b
/-- The nodes of a range, below n. -/
def nodesTo (l : List Sp) (a b : Int) (n : Nat) : List Int := ((List.range n).filter fun (k : Nat) => anyN l (lo0 a) (hi0 b) (k : Int)).map fun (k : Nat) => (k : Int)
def nodesOf (l : List Sp) (a b : Int) : List Int := nodesTo l a b 6
theorem nodesTo_succ (l : List Sp) (a b : Int) (n : Nat) : nodesTo l a b (n + 1) = if anyN l (lo0 a) (hi0 b) n then nodesTo l a b n ++ [(n : Int)] else nodesTo l a b n := by
  unfold nodesTo
  rw [List.range_succ, List.filter_append, List.map_append]
  by_cases h : anyN l (lo0 a) (hi0 b) n = true <;> simp [h]
theorem nodesTo_len (l : List Sp) (a b : Int) (n : Nat) : (nodesTo l a b n).length ≤ n := by
  unfold nodesTo
  rw [List.length_map]
  exact Nat.le_trans (List.length_filter_le ..) (by simp)

theorem ws_intS (l : List Int) (tok : Option Nat) : Ws (.sl 1 (l.map intR) tok) (intS l) := by
  refine .drop 1 _ tok (fun r hr => ?_) (fun i j x hx => ?_)
  · obtain ⟨s, _, rfl⟩ := List.mem_map.1 hr; rfl
  · obtain ⟨r, h1, h2⟩ := cellAt_some hx
    rw [List.getElem?_map] at h1
    obtain ⟨s, _, rfl⟩ := Option.map_eq_some_iff.1 h1
    match j, h2 with
    | 0, h2 => simp [intR] at h2; subst h2; rfl

theorem f34_ok (e : Int) (l : List Sp) (a b : Int) : PC Try.prog 34 [mapV e l, .int .i64 a, .int .i64 b] fun r => r = intS (nodesOf l a b) := by
  refine PC.of_vc (fun _ => 0) (fun _ => true) ty_ok mix Try.func34 (by kernel_rfl) rfl (by kernel_rfl) (pur2 (mapV_pur e l) (pur2 (.int _ _) (pur2 (.int _ _) pur0))) fun hf => ?_
  conv => whnf
  refine ⟨Nat, fun n => ⟨38, [(3, .lptr 3 0), (1, .int .i64 a), (2, .int .i64 b), (7, .sl 1 ((nodesTo l a b n).map intR) (some 0)), (8, .int .i64 n)], [(3, [.int .u32 e, spS l])], ⟨[], [(1, ((nodesTo l a b n).map intR).length)]⟩⟩, fun n => n ≤ 6, fun n => 6 - n, ⟨0, by omega, rfl, ?_, ?_, .tips [1] rfl⟩, ?_⟩
  · refine leT_cons (Wk.refl _) (leT_cons (Wk.refl _) (leT_cons (Wk.refl _) (leT_cons (.nil 1 (some 0) (by omega)) (leT_cons (Wk.refl _) (leT_nil)))))
  · refine leL_cons rfl (leC_refl _) (leL_nil)
  intro n hn
  conv => whnf
  refine bsp_intro ?_ ?_
  · intro h
    have hn6 : n < 6 := by have := of_decide_eq_true h; omega
    conv => whnf
    refine ⟨Int × Bool, fun p => ⟨38, [(3, .lptr 3 0), (1, .int .i64 a), (2, .int .i64 b), (7, .sl 1 ((nodesTo l a b n).map intR) (some 0)), (8, .int .i64 n), (10, .int .i64 p.1), (9, .bool p.2)], [(3, [.int .u32 e, spS l])], ⟨[], [(1, ((nodesTo l a b n).map intR).length)]⟩⟩,
      fun p => lo0 a ≤ p.1 ∧ (p.1 ≤ lo0 a ∨ p.1 ≤ hi0 b) ∧ p.2 = anyN l (lo0 a) p.1 n, fun p => (hi0 b - p.1).toNat, ⟨(lo0 a, false), ⟨Int.le_refl _, .inl (Int.le_refl _), (anyN_self _ _ _).symm⟩, rfl, ?_, ?_, .tips [] rfl⟩, ?_⟩
    · refine leT_cons (Wk.refl _) (leT_cons (Wk.refl _) (leT_cons (Wk.refl _) (leT_cons (Wk.refl _) (leT_cons (Wk.refl _) (leT_cons (Wk.refl _) (leT_cons (Wk.refl _) (leT_nil)))))))
    · refine leL_cons rfl (leC_refl _) (leL_nil)
    rintro ⟨v, has⟩ ⟨h1, h2, h3⟩
    dsimp only at h1 h2 h3
    -- behind the inner loop
    have fin2 : ∀ v has, (lo0 a ≤ v ∧ (v ≤ lo0 a ∨ v ≤ hi0 b) ∧ has = anyN l (lo0 a) v n) → (has = true ∨ hi0 b ≤ v) → has = anyN l (lo0 a) (hi0 b) n := by
      rintro v has ⟨g1, g2, g3⟩ g4
      rcases g4 with g4 | g4
      · subst g4
        rcases g2 with g2 | g2
        · rw [show v = lo0 a by omega, anyN_self] at g3; cases g3
        · exact (anyN_mono g2 g3.symm).symm
      · rcases g2 with g2 | g2
        · rw [anyN_ge (by omega), g3, anyN_ge (by omega)]
        · rw [show hi0 b = v by omega]; exact g3
    conv => whnf
    refine bsp_intro ?_ ?_
    · intro h4
      have h4 : v < hi0 b := of_decide_eq_true h4
      conv => whnf
      refine bsp_intro ?_ ?_
      · intro h5
        have h5 : has = false := by simpa using h5
        subst h5
        conv => whnf
        refine (f28_ok e l v).quiet (Wss.refl _) ?_
        rintro r rfl
        conv => whnf
        have hi1 : hi0 b ≤ 10000 := by unfold hi0; split <;> omega
        have hl1 : 0 ≤ lo0 a := by unfold lo0; split <;> omega
        refine ⟨(v + 1, find l v == (n : Int)), ⟨by dsimp only; omega, .inr (by dsimp only; omega), ?_⟩, by dsimp only; omega, rfl, ?_, ?_, .tips [] rfl⟩
        · dsimp only
          rw [anyN_succ h1, ← h3, Bool.false_or]
        · refine leT_cons (Wk.refl _) (leT_cons (Wk.refl _) (leT_cons (Wk.refl _) (leT_cons (Wk.refl _) (leT_cons (Wk.refl _) (leT_cons (Wk.int ?_) (leT_cons (Wk.refl _) (leT_nil)))))))
          exact IntWalk.i64_in _ (by omega)
        · refine leL_cons rfl (leC_refl _) (leL_nil)
      · intro h5
        have h5 : has = true := by simpa using h5
        subst h5
        have hany := fin2 v true ⟨h1, h2, h3⟩ (.inl rfl)
        conv => whnf
        refine ⟨⟨rfl, ?_⟩, ?_⟩
        · have := nodesTo_len l a b n
          simp; omega
        conv => whnf
        refine ⟨n + 1, by omega, by dsimp only; omega, rfl, ?_, ?_, .tips [] ?_⟩
        · refine leT_cons (Wk.refl _) (leT_cons (Wk.refl _) (leT_cons (Wk.refl _) (leT_cons (Wk.rows ?_) (leT_cons (Wk.int ?_) (leT_nil)))))
          · rw [nodesTo_succ, ← hany]; simp [intR]
          · exact IntWalk.i64_in _ (by omega)
        · refine leL_cons rfl (leC_refl _) (leL_nil)
        · dsimp only; rw [nodesTo_succ, ← hany]; simp
    · intro h4
      have h4 : ¬ v < hi0 b := of_decide_eq_false h4
      have hany := fin2 v has ⟨h1, h2, h3⟩ (.inr (by omega))
      conv => whnf
      refine bsp_intro ?_ ?_
      · intro h5
        subst h5
        conv => whnf
        refine ⟨⟨rfl, ?_⟩, ?_⟩
        · have := nodesTo_len l a b n
          simp; omega
        conv => whnf
        refine ⟨n + 1, by omega, by dsimp only; omega, rfl, ?_, ?_, .tips [] ?_⟩
        · refine leT_cons (Wk.refl _) (leT_cons (Wk.refl _) (leT_cons (Wk.refl _) (leT_cons (Wk.rows ?_) (leT_cons (Wk.int ?_) (leT_nil)))))
          · rw [nodesTo_succ, ← hany]; simp [intR]
          · exact IntWalk.i64_in _ (by omega)
        · refine leL_cons rfl (leC_refl _) (leL_nil)
        · dsimp only; rw [nodesTo_succ, ← hany]; simp
      · intro h5
        subst h5
        conv => whnf
        refine ⟨n + 1, by omega, by dsimp only; omega, rfl, ?_, ?_, .tips [] ?_⟩
        · refine leT_cons (Wk.refl _) (leT_cons (Wk.refl _) (leT_cons (Wk.refl _) (leT_cons (Wk.rows ?_) (leT_cons (Wk.int ?_) (leT_nil)))))
          · rw [nodesTo_succ, ← hany]; simp
          · exact IntWalk.i64_in _ (by omega)
        · refine leL_cons rfl (leC_refl _) (leL_nil)
        · dsimp only; rw [nodesTo_succ, ← hany]; simp
  · intro h
    have hn6 : n = 6 := by have := of_decide_eq_false h; omega
    subst hn6
    conv => whnf
    exact ⟨_, ws_intS _ _, intS_pur _, rfl⟩
end Go.Proofs.Ytecpiplfjmmccaa.AM

/-
  Spans: the reference's Split, walked.
  Conditions: none.
-/
namespace Go.Proofs.Ytecpiplfjmmccaa.AM
open Go
set_option maxRecDepth 20000

/-- The spans of a map in which member v is node f v, for the first n members; and the last one's node. -/
def runs (f : Nat → Int) : Nat → List Sp × Int
  | 0 => ([], -1)
  | n + 1 => if f n ≠ (runs f n).2 then ((runs f n).1 ++ [((n : Int), f n)], f n) else runs f n
theorem runs_len (f : Nat → Int) : ∀ n, (runs f n).1.length ≤ n
  | 0 => Nat.le_refl _
  | n + 1 => by
    have := runs_len f n
    unfold runs
    split
    · simp; omega
    · omega
def ndOf (l : List Sp) (a b node : Int) (v : Nat) : Int := if a ≤ (v : Int) ∧ (v : Int) < b then node else find l v
/-- Is a member of the range another node's? -/
def Other (l : List Sp) (a b node : Int) (n : Nat) : Prop := ∃ v : Nat, v < n ∧ a ≤ (v : Int) ∧ (v : Int) < b ∧ find l v ≠ node
def Valid (l : List Sp) (size nodes a b node : Int) : Prop := Snd l size nodes ∧ 0 ≤ a ∧ a < b ∧ b ≤ size ∧ 0 ≤ node ∧ node < nodes ∧ node < 6 ∧ size ≤ 10000
open Classical in
noncomputable def splitOf (e : Int) (l : List Sp) (size nodes a b node : Int) : Int × List Sp × Int :=
  if Valid l size nodes a b node ∧ Other l a b node size.toNat then
    (if 40 < (runs (ndOf l a b node) size.toNat).1.length then (0, [], 3) else (IntKind.u32.wrap (e + 1), (runs (ndOf l a b node) size.toNat).1, 0))
  else (0, [], 120)

theorem ws_tup2 {a b c d : AV} (k1 : Ws a c) (k2 : Ws b d) : Ws (.tup [a, b]) (.tup [c, d]) := by
  refine .tup _ _ (fun j => if j = 0 then a else b) rfl (fun j x hx => ?_) (fun j x hx => ?_) <;> match j, hx with
  | 0, hx => simp at hx; subst hx; first | rfl | exact k1
  | 1, hx => simp at hx; subst hx; first | rfl | exact k2
theorem pur_tup2 {a b : AV} (h1 : Pur a) (h2 : Pur b) : Pur (.tup [a, b]) := by
  refine .tup _ fun j x hx => ?_
  match j, hx with
  | 0, hx => simp at hx; subst hx; exact h1
  | 1, hx => simp at hx; subst hx; exact h2

theorem f35_ok (e : Int) (l : List Sp) (size nodes a b node : Int) : PC Try.prog 35 [mapV e l, .int .i64 size, .int .i64 nodes, .int .i64 a, .int .i64 b, .int .i64 node] fun r =>
    r = .tup [mapV (splitOf e l size nodes a b node).1 (splitOf e l size nodes a b node).2.1, .int .i64 (splitOf e l size nodes a b node).2.2] := by
  refine PC.of_vc (fun _ => 0) (fun _ => true) ty_ok mix Try.func35 (by kernel_rfl) rfl (by kernel_rfl) (pur2 (mapV_pur e l) (pur2 (.int _ _) (pur2 (.int _ _) (pur2 (.int _ _) (pur2 (.int _ _) (pur2 (.int _ _) pur0)))))) fun hf => ?_
  have bad : ¬ (Valid l size nodes a b node ∧ Other l a b node size.toNat) → ∃ r', Ws (one? [AV.agg [.int .u32 0, .nils], .int .i64 120]) r' ∧ Pur r' ∧ r' = .tup [mapV (splitOf e l size nodes a b node).1 (splitOf e l size nodes a b node).2.1, .int .i64 (splitOf e l size nodes a b node).2.2] := fun h =>
    ⟨_, ws_tup2 (ws_nilV 0) (.refl _), pur_tup2 (mapV_pur _ _) (.int _ _), by unfold splitOf; rw [if_neg h]⟩
  conv => whnf
  refine (f26_ok e l size nodes).quiet (Wss.refl _) ?_
  rintro r ⟨s, rfl, hs⟩
  conv => whnf
  refine bsp_intro ?_ ?_
  · intro h
    have h : ¬ Snd l size nodes := fun h' => by rw [hs.2 h'] at h; cases h
    conv => whnf
    exact bad fun hv => h hv.1.1
  intro h
  have hsnd : Snd l size nodes := hs.1 (by simpa using h)
  conv => whnf
  refine bsp_intro ?_ ?_
  · intro h
    have h := of_decide_eq_true h
    conv => whnf
    exact bad fun hv => by have := hv.1.2.1; omega
  intro h
  have hv1 := of_decide_eq_false h
  conv => whnf
  refine bsp_intro ?_ ?_
  · intro h
    have h := of_decide_eq_true h
    conv => whnf
    exact bad fun hv => by have := hv.1.2.2.1; omega
  intro h
  have hv2 := of_decide_eq_false h
  conv => whnf
  refine bsp_intro ?_ ?_
  · intro h
    have h := of_decide_eq_true h
    conv => whnf
    exact bad fun hv => by have := hv.1.2.2.2.1; omega
  intro h
  have hv3 := of_decide_eq_false h
  conv => whnf
  refine bsp_intro ?_ ?_
  · intro h
    have h := of_decide_eq_true h
    conv => whnf
    exact bad fun hv => by have := hv.1.2.2.2.2.1; omega
  intro h
  have hv4 := of_decide_eq_false h
  conv => whnf
  refine bsp_intro ?_ ?_
  · intro h
    have h := min_ge (of_decide_eq_true h)
    conv => whnf
    exact bad fun hv => by have := hv.1.2.2.2.2.2; omega
  intro h
  have hv5 := min_lt (of_decide_eq_false h)
  conv => whnf
  refine bsp_intro ?_ ?_
  · intro h
    have h := of_decide_eq_true h
    conv => whnf
    exact bad fun hv => by have := hv.1.2.2.2.2.2.2.2; omega
  intro h
  have hv6 := of_decide_eq_false h
  have hvalid : Valid l size nodes a b node := ⟨hsnd, by omega, by omega, by omega, by omega, hv5.1, hv5.2, by omega⟩
  conv => whnf
  refine ⟨Nat × Bool, fun p => ⟨101, [(6, .lptr 6 0), (12, .lptr 12 0), (1, .int .i64 size), (3, .int .i64 a), (4, .int .i64 b), (5, .int .i64 node), (13, .int .i64 0), (14, .bool p.2), (15, .lptr 15 0), (16, .int .i64 (runs (ndOf l a b node) p.1).2), (17, .int .i64 p.1)],
      [(6, [.int .u32 e, spS l]), (12, [.int .u32 0, .nils]), (15, [.int .u32 (IntKind.u32.wrap (e + 1)), .sl 2 ((runs (ndOf l a b node) p.1).1.map spR) (some 0)])], ⟨[], [(2, ((runs (ndOf l a b node) p.1).1.map spR).length)]⟩⟩,
    fun p => p.1 ≤ size.toNat ∧ (p.2 = true ↔ Other l a b node p.1), fun p => size.toNat - p.1, ⟨(0, false), ⟨Nat.zero_le _, by simp [Other]⟩, rfl, ?_, ?_, .tips [2] rfl⟩, ?_⟩
  · refine leT_cons (Wk.refl _) (leT_cons (Wk.refl _) (leT_cons (Wk.refl _) (leT_cons (Wk.refl _) (leT_cons (Wk.refl _) (leT_cons (Wk.refl _) (leT_cons (Wk.refl _) (leT_cons (Wk.refl _) (leT_cons (Wk.refl _) (leT_cons (Wk.refl _) (leT_cons (Wk.refl _) (leT_nil)))))))))))
  · refine leL_cons rfl (leC_refl _) (leL_cons rfl (leC_refl _) (leL_cons rfl (leC_cons (Wk.refl _) (leC_cons (.nil 2 (some 0) (by omega)) (leC_nil))) (leL_nil)))
  rintro ⟨v, o⟩ ⟨h1, h2⟩
  dsimp only at h1 h2
  conv => whnf
  refine bsp_intro ?_ ?_
  · intro h3d
    have h3 : (v : Int) < size := of_decide_eq_true h3d
    have hO : ∀ P : Prop, (a ≤ (v : Int) ∧ (v : Int) < b ∧ find l v ≠ node ↔ P) → (Other l a b node (v + 1) ↔ Other l a b node v ∨ P) := fun P hP => by
      constructor
      · rintro ⟨u, g1, g2⟩
        rcases Nat.lt_or_ge u v with g | g
        · exact .inl ⟨u, g, g2⟩
        · have : u = v := by omega
          subst this; exact .inr (hP.1 g2)
      · rintro (⟨u, g1, g2⟩ | g)
        · exact ⟨u, by omega, g2⟩
        · exact ⟨v, by omega, hP.2 g⟩
    conv => whnf
    refine (f28_ok e l v).quiet (Wss.refl _) ?_
    rintro r rfl
    conv => whnf
    refine bsp_intro ?_ ?_
    · intro h4d
      have h4 : a ≤ (v : Int) := of_decide_eq_true h4d
      conv => whnf
      refine bsp_intro ?_ ?_
      · intro h5d
        have h5 : (v : Int) < b := of_decide_eq_true h5d
        conv => whnf
        refine bsp_intro ?_ ?_
        · intro h6
          subst h6
          conv => whnf
          have hnd : ndOf l a b node v = node := by unfold ndOf; rw [if_pos ⟨h4, h5⟩]
          refine bsp_intro ?_ ?_
          · intro h7d
            have h7 : node ≠ (runs (ndOf l a b node) v).2 := by simpa using h7d
            have hr : runs (ndOf l a b node) (v + 1) = ((runs (ndOf l a b node) v).1 ++ [((v : Int), node)], node) := by
              conv => lhs; unfold runs
              rw [hnd, if_pos h7]
            conv => whnf
            refine ⟨⟨rfl, ?_⟩, ?_⟩
            · have := runs_len (ndOf l a b node) v
              simp; omega
            conv => whnf
            refine ⟨(v + 1, true), ⟨by dsimp only; omega, by have := (hO _ Iff.rfl).2 (.inl (h2.1 rfl)); simp [this]⟩, by dsimp only; omega, rfl, ?_, ?_, .tips [] ?_⟩
            · refine leT_cons (Wk.refl _) (leT_cons (Wk.refl _) (leT_cons (Wk.refl _) (leT_cons (Wk.refl _) (leT_cons (Wk.refl _) (leT_cons (Wk.refl _) (leT_cons (Wk.refl _) (leT_cons (Wk.refl _) (leT_cons (Wk.refl _) (leT_cons (Wk.int ?_) (leT_cons (Wk.int ?_) (leT_nil)))))))))))
              · rw [hr]
              · exact IntWalk.i64_in _ (by omega)
            · refine leL_cons rfl (leC_refl _) (leL_cons rfl (leC_refl _) (leL_cons rfl (leC_cons (Wk.refl _) (leC_cons (Wk.rows ?_) (leC_nil))) (leL_nil)))
              rw [hr]; simp [spR]
            · dsimp only; rw [hr]; simp
          · intro h7d
            have h7 : node = (runs (ndOf l a b node) v).2 := by simpa using h7d
            have hr : runs (ndOf l a b node) (v + 1) = runs (ndOf l a b node) v := by
              conv => lhs; unfold runs
              rw [hnd, if_neg (fun h => h h7)]
            conv => whnf
            refine ⟨(v + 1, true), ⟨by dsimp only; omega, by have := (hO _ Iff.rfl).2 (.inl (h2.1 rfl)); simp [this]⟩, by dsimp only; omega, rfl, ?_, ?_, .tips [] ?_⟩
            · refine leT_cons (Wk.refl _) (leT_cons (Wk.refl _) (leT_cons (Wk.refl _) (leT_cons (Wk.refl _) (leT_cons (Wk.refl _) (leT_cons (Wk.refl _) (leT_cons (Wk.refl _) (leT_cons (Wk.refl _) (leT_cons (Wk.refl _) (leT_cons (Wk.int ?_) (leT_cons (Wk.int ?_) (leT_nil)))))))))))
              · rw [hr]
              · exact IntWalk.i64_in _ (by omega)
            · refine leL_cons rfl (leC_refl _) (leL_cons rfl (leC_refl _) (leL_cons rfl (leC_cons (Wk.refl _) (leC_cons (Wk.rows ?_) (leC_nil))) (leL_nil)))
              rw [hr]
            · dsimp only; rw [hr]; rfl
        · intro h6
          subst h6
          have h2' : ¬ Other l a b node v := fun h => by simpa using h2.2 h
          conv => whnf
          have hnd : ndOf l a b node v = node := by unfold ndOf; rw [if_pos ⟨h4, h5⟩]
          refine bsp_intro ?_ ?_
          · intro h7d
            have h7 : node ≠ (runs (ndOf l a b node) v).2 := by simpa using h7d
            have hr : runs (ndOf l a b node) (v + 1) = ((runs (ndOf l a b node) v).1 ++ [((v : Int), node)], node) := by
              conv => lhs; unfold runs
              rw [hnd, if_pos h7]
            conv => whnf
            refine ⟨⟨rfl, ?_⟩, ?_⟩
            · have := runs_len (ndOf l a b node) v
              simp; omega
            conv => whnf
            refine ⟨(v + 1, (find l v != node)), ⟨by dsimp only; omega, by rw [hO (find l v ≠ node) ⟨fun h => h.2.2, fun h => ⟨h4, h5, h⟩⟩]; simp [h2']⟩, by dsimp only; omega, rfl, ?_, ?_, .tips [] ?_⟩
            · refine leT_cons (Wk.refl _) (leT_cons (Wk.refl _) (leT_cons (Wk.refl _) (leT_cons (Wk.refl _) (leT_cons (Wk.refl _) (leT_cons (Wk.refl _) (leT_cons (Wk.refl _) (leT_cons (Wk.refl _) (leT_cons (Wk.refl _) (leT_cons (Wk.int ?_) (leT_cons (Wk.int ?_) (leT_nil)))))))))))
              · rw [hr]
              · exact IntWalk.i64_in _ (by omega)
            · refine leL_cons rfl (leC_refl _) (leL_cons rfl (leC_refl _) (leL_cons rfl (leC_cons (Wk.refl _) (leC_cons (Wk.rows ?_) (leC_nil))) (leL_nil)))
              rw [hr]; simp [spR]
            · dsimp only; rw [hr]; simp
          · intro h7d
            have h7 : node = (runs (ndOf l a b node) v).2 := by simpa using h7d
            have hr : runs (ndOf l a b node) (v + 1) = runs (ndOf l a b node) v := by
              conv => lhs; unfold runs
              rw [hnd, if_neg (fun h => h h7)]
            conv => whnf
            refine ⟨(v + 1, (find l v != node)), ⟨by dsimp only; omega, by rw [hO (find l v ≠ node) ⟨fun h => h.2.2, fun h => ⟨h4, h5, h⟩⟩]; simp [h2']⟩, by dsimp only; omega, rfl, ?_, ?_, .tips [] ?_⟩
            · refine leT_cons (Wk.refl _) (leT_cons (Wk.refl _) (leT_cons (Wk.refl _) (leT_cons (Wk.refl _) (leT_cons (Wk.refl _) (leT_cons (Wk.refl _) (leT_cons (Wk.refl _) (leT_cons (Wk.refl _) (leT_cons (Wk.refl _) (leT_cons (Wk.int ?_) (leT_cons (Wk.int ?_) (leT_nil)))))))))))
              · rw [hr]
              · exact IntWalk.i64_in _ (by omega)
            · refine leL_cons rfl (leC_refl _) (leL_cons rfl (leC_refl _) (leL_cons rfl (leC_cons (Wk.refl _) (leC_cons (Wk.rows ?_) (leC_nil))) (leL_nil)))
              rw [hr]
            · dsimp only; rw [hr]; rfl
      · intro h5d
        have h5 : ¬ (v : Int) < b := of_decide_eq_false h5d
        conv => whnf
        have hnd : ndOf l a b node v = find l v := by unfold ndOf; rw [if_neg (fun h => h5 h.2)]
        refine bsp_intro ?_ ?_
        · intro h7d
          have h7 : find l v ≠ (runs (ndOf l a b node) v).2 := by simpa using h7d
          have hr : runs (ndOf l a b node) (v + 1) = ((runs (ndOf l a b node) v).1 ++ [((v : Int), find l v)], find l v) := by
            conv => lhs; unfold runs
            rw [hnd, if_pos h7]
          conv => whnf
          refine ⟨⟨rfl, ?_⟩, ?_⟩
          · have := runs_len (ndOf l a b node) v
            simp; omega
          conv => whnf
          refine ⟨(v + 1, o), ⟨by dsimp only; omega, by rw [hO False ⟨fun h => h5 h.2.1, False.elim⟩]; simp [h2]⟩, by dsimp only; omega, rfl, ?_, ?_, .tips [] ?_⟩
          · refine leT_cons (Wk.refl _) (leT_cons (Wk.refl _) (leT_cons (Wk.refl _) (leT_cons (Wk.refl _) (leT_cons (Wk.refl _) (leT_cons (Wk.refl _) (leT_cons (Wk.refl _) (leT_cons (Wk.refl _) (leT_cons (Wk.refl _) (leT_cons (Wk.int ?_) (leT_cons (Wk.int ?_) (leT_nil)))))))))))
            · rw [hr]
            · exact IntWalk.i64_in _ (by omega)
          · refine leL_cons rfl (leC_refl _) (leL_cons rfl (leC_refl _) (leL_cons rfl (leC_cons (Wk.refl _) (leC_cons (Wk.rows ?_) (leC_nil))) (leL_nil)))
            rw [hr]; simp [spR]
          · dsimp only; rw [hr]; simp
        · intro h7d
          have h7 : find l v = (runs (ndOf l a b node) v).2 := by simpa using h7d
          have hr : runs (ndOf l a b node) (v + 1) = runs (ndOf l a b node) v := by
            conv => lhs; unfold runs
            rw [hnd, if_neg (fun h => h h7)]
          conv => whnf
          refine ⟨(v + 1, o), ⟨by dsimp only; omega, by rw [hO False ⟨fun h => h5 h.2.1, False.elim⟩]; simp [h2]⟩, by dsimp only; omega, rfl, ?_, ?_, .tips [] ?_⟩
          · refine leT_cons (Wk.refl _) (leT_cons (Wk.refl _) (leT_cons (Wk.refl _) (leT_cons (Wk.refl _) (leT_cons (Wk.refl _) (leT_cons (Wk.refl _) (leT_cons (Wk.refl _) (leT_cons (Wk.refl _) (leT_cons (Wk.refl _) (leT_cons (Wk.int ?_) (leT_cons (Wk.int ?_) (leT_nil)))))))))))
            · rw [hr]
            · exact IntWalk.i64_in _ (by omega)
          · refine leL_cons rfl (leC_refl _) (leL_cons rfl (leC_refl _) (leL_cons rfl (leC_cons (Wk.refl _) (leC_cons (Wk.rows ?_) (leC_nil))) (leL_nil)))
            rw [hr]
          · dsimp only; rw [hr]; rfl
    · intro h4d
      have h4 : ¬ a ≤ (v : Int) := of_decide_eq_false h4d
      conv => whnf
      have hnd : ndOf l a b node v = find l v := by unfold ndOf; rw [if_neg (fun h => h4 h.1)]
      refine bsp_intro ?_ ?_
      · intro h7d
        have h7 : find l v ≠ (runs (ndOf l a b node) v).2 := by simpa using h7d
        have hr : runs (ndOf l a b node) (v + 1) = ((runs (ndOf l a b node) v).1 ++ [((v : Int), find l v)], find l v) := by
          conv => lhs; unfold runs
          rw [hnd, if_pos h7]
        conv => whnf
        refine ⟨⟨rfl, ?_⟩, ?_⟩
        · have := runs_len (ndOf l a b node) v
          simp; omega
        conv => whnf
        refine ⟨(v + 1, o), ⟨by dsimp only; omega, by rw [hO False ⟨fun h => h4 h.1, False.elim⟩]; simp [h2]⟩, by dsimp only; omega, rfl, ?_, ?_, .tips [] ?_⟩
        · refine leT_cons (Wk.refl _) (leT_cons (Wk.refl _) (leT_cons (Wk.refl _) (leT_cons (Wk.refl _) (leT_cons (Wk.refl _) (leT_cons (Wk.refl _) (leT_cons (Wk.refl _) (leT_cons (Wk.refl _) (leT_cons (Wk.refl _) (leT_cons (Wk.int ?_) (leT_cons (Wk.int ?_) (leT_nil)))))))))))
          · rw [hr]
          · exact IntWalk.i64_in _ (by omega)
        · refine leL_cons rfl (leC_refl _) (leL_cons rfl (leC_refl _) (leL_cons rfl (leC_cons (Wk.refl _) (leC_cons (Wk.rows ?_) (leC_nil))) (leL_nil)))
          rw [hr]; simp [spR]
        · dsimp only; rw [hr]; simp
      · intro h7d
        have h7 : find l v = (runs (ndOf l a b node) v).2 := by simpa using h7d
        have hr : runs (ndOf l a b node) (v + 1) = runs (ndOf l a b node) v := by
          conv => lhs; unfold runs
          rw [hnd, if_neg (fun h => h h7)]
        conv => whnf
        refine ⟨(v + 1, o), ⟨by dsimp only; omega, by rw [hO False ⟨fun h => h4 h.1, False.elim⟩]; simp [h2]⟩, by dsimp only; omega, rfl, ?_, ?_, .tips [] ?_⟩
        · refine leT_cons (Wk.refl _) (leT_cons (Wk.refl _) (leT_cons (Wk.refl _) (leT_cons (Wk.refl _) (leT_cons (Wk.refl _) (leT_cons (Wk.refl _) (leT_cons (Wk.refl _) (leT_cons (Wk.refl _) (leT_cons (Wk.refl _) (leT_cons (Wk.int ?_) (leT_cons (Wk.int ?_) (leT_nil)))))))))))
          · rw [hr]
          · exact IntWalk.i64_in _ (by omega)
        · refine leL_cons rfl (leC_refl _) (leL_cons rfl (leC_refl _) (leL_cons rfl (leC_cons (Wk.refl _) (leC_cons (Wk.rows ?_) (leC_nil))) (leL_nil)))
          rw [hr]
        · dsimp only; rw [hr]; rfl
  · intro h3d
    have h3 : ¬ (v : Int) < size := of_decide_eq_false h3d
    have hv : v = size.toNat := by omega
    subst hv
    conv => whnf
    refine bsp_intro ?_ ?_
    · intro h4d
      have h4 : o = false := by simpa using h4d
      subst h4
      conv => whnf
      exact bad fun h => by simpa using h2.2 h.2
    intro h4d
    have h4 : o = true := by simpa using h4d
    subst h4
    have hoth := h2.1 rfl
    conv => whnf
    refine bsp_intro ?_ ?_
    · intro h5d
      have h5 : 40 < (runs (ndOf l a b node) size.toNat).1.length := by have := of_decide_eq_true h5d; simp at this; omega
      conv => whnf
      refine ⟨_, ws_tup2 (ws_nilV 0) (.refl _), pur_tup2 (mapV_pur _ _) (.int _ _), ?_⟩
      unfold splitOf; rw [if_pos ⟨hvalid, hoth⟩, if_pos h5]
    · intro h5d
      have h5 : ¬ 40 < (runs (ndOf l a b node) size.toNat).1.length := by have := of_decide_eq_false h5d; simp at this; omega
      conv => whnf
      refine ⟨_, ws_tup2 (ws_mapV _ _ _) (.refl _), pur_tup2 (mapV_pur _ _) (.int _ _), ?_⟩
      unfold splitOf; rw [if_pos ⟨hvalid, hoth⟩, if_neg h5]
end Go.Proofs.Ytecpiplfjmmccaa.AM

/-
  Spans: a map that splits make; walked.
  Conditions: none.
-/
namespace Go.Proofs.Ytecpiplfjmmccaa.AM
open Go
set_option maxRecDepth 20000

/-- A split, as choices say: from, to, node. -/
abbrev Ct := Int × Int × Int
def cutR (c : Ct) : List AV := [.int .u16 c.1, .int .u16 c.2.1, .int .u8 c.2.2]
def cutS (l : List Ct) : AV := .sl 3 (l.map cutR) none
theorem cutS_pur (l : List Ct) : Pur (cutS l) := by
  refine .sl 3 _ fun i j x hx => ?_
  obtain ⟨r, h1, h2⟩ := cellAt_some hx
  rw [List.getElem?_map] at h1
  obtain ⟨s, _, rfl⟩ := Option.map_eq_some_iff.1 h1
  match j, h2 with
  | 0, h2 => simp [cutR] at h2; subst h2; exact .int _ _
  | 1, h2 => simp [cutR] at h2; subst h2; exact .int _ _
  | 2, h2 => simp [cutR] at h2; subst h2; exact .int _ _
theorem cutS_len {l : List Ct} (h : Fit (cutS l)) : l.length ≤ 9223372036854775807 := by simpa using h.sl.1
def cutFrom (size : Int) (c : Ct) : Int := c.1.tmod size
def cutTo (size : Int) (c : Ct) : Int := cutFrom size c + 1 + c.2.1.tmod (size - cutFrom size c)
def cutNode (nodes : Int) (c : Ct) : Int := c.2.2.tmod nodes
/-- A choice is what its kinds bear. -/
def CtOK (c : Ct) : Prop := 0 ≤ c.1 ∧ c.1 < 65536 ∧ 0 ≤ c.2.1 ∧ c.2.1 < 65536 ∧ 0 ≤ c.2.2 ∧ c.2.2 < 256
noncomputable def ofStep (size nodes : Int) (m : Int × List Sp) (c : Ct) : Int × List Sp :=
  if (splitOf m.1 m.2 size nodes (cutFrom size c) (cutTo size c) (cutNode nodes c)).2.2 = 0 then
    ((splitOf m.1 m.2 size nodes (cutFrom size c) (cutTo size c) (cutNode nodes c)).1, (splitOf m.1 m.2 size nodes (cutFrom size c) (cutTo size c) (cutNode nodes c)).2.1)
  else m
theorem ofStep_eq (size nodes : Int) (m : Int × List Sp) (c : Ct) : ofStep size nodes m c = if (splitOf m.1 m.2 size nodes (cutFrom size c) (cutTo size c) (cutNode nodes c)).2.2 = 0 then
    ((splitOf m.1 m.2 size nodes (cutFrom size c) (cutTo size c) (cutNode nodes c)).1, (splitOf m.1 m.2 size nodes (cutFrom size c) (cutTo size c) (cutNode nodes c)).2.1) else m := rfl
noncomputable def ofMap (size nodes : Int) (l : List Ct) : Int × List Sp := (l.take 30).foldl (ofStep size nodes) (1, [(0, 0)])

theorem f19_ok (size nodes : Int) (l : List Ct) (hs : 1 ≤ size ∧ size ≤ 10000) (hn : 1 ≤ nodes ∧ nodes ≤ 10000) (hc : ∀ c ∈ l, CtOK c) : PC Try.prog 19 [.int .i64 size, .int .i64 nodes, cutS l] fun r => r = mapV (ofMap size nodes l).1 (ofMap size nodes l).2 := by
  refine PC.of_vc (fun _ => 0) (fun _ => true) ty_ok mix Try.func19 (by kernel_rfl) rfl (by kernel_rfl) (pur2 (.int _ _) (pur2 (.int _ _) (pur2 (cutS_pur l) pur0))) fun hf => ?_
  have hla := cutS_len (l := l) (hf _ (by simp))
  conv => whnf
  refine (f57_ok).quiet (Wss.refl _) ?_
  rintro r rfl
  conv => whnf
  refine ⟨Nat, fun i => ⟨66, [(0, .int .i64 size), (1, .int .i64 nodes), (2, cutS l), (6, .lptr 6 0), (7, .lptr 7 0), (8, .int .i64 i)],
      [(6, [.int .u32 0, .nils]), (7, [.int .u32 ((l.take i).foldl (ofStep size nodes) (1, [(0, 0)])).1, spS ((l.take i).foldl (ofStep size nodes) (1, [(0, 0)])).2])], AH.none⟩, fun i => i ≤ l.length ∧ i ≤ 30, fun i => l.length - i, ⟨0, by omega, rfl, ?_, ?_, .tips [] rfl⟩, ?_⟩
  · refine leT_cons (Wk.refl _) (leT_cons (Wk.refl _) (leT_cons (Wk.refl _) (leT_cons (Wk.refl _) (leT_cons (Wk.refl _) (leT_cons (Wk.refl _) (leT_nil))))))
  · refine leL_cons rfl (leC_refl _) (leL_cons rfl (leC_refl _) (leL_nil))
  intro i hi
  conv => whnf
  refine bsp_intro ?_ ?_
  · intro h
    have hlt : i < l.length := by simpa using h
    have hcc := hc _ (List.getElem_mem hlt)
    conv => whnf
    refine bsp_intro ?_ ?_
    · intro h2d
      have h2 : i < 30 := by have := of_decide_eq_true h2d; omega
      conv => whnf
      refine ⟨_, by omega, rows_get hlt, ?_⟩
      conv => whnf
      refine ⟨by omega, ?_⟩
      conv => whnf
      have e1 : (IntKind.i64.wrap l[i].1).tmod size = cutFrom size l[i] := by rw [IntWalk.i64_in _ (by unfold CtOK at hcc; omega)]; rfl
      have hb1 : 0 ≤ cutFrom size l[i] ∧ cutFrom size l[i] < size := ⟨Int.tmod_nonneg _ hcc.1, Int.tmod_lt_of_pos _ (by omega)⟩
      simp only [e1]
      refine ⟨_, by omega, rows_get hlt, ?_⟩
      have e2 : IntKind.i64.wrap (size - cutFrom size l[i]) = size - cutFrom size l[i] := IntWalk.i64_in _ (by omega)
      conv => whnf
      simp only [e2]
      refine ⟨by omega, ?_⟩
      have e3 : (IntKind.i64.wrap l[i].2.1).tmod (size - cutFrom size l[i]) = l[i].2.1.tmod (size - cutFrom size l[i]) := by rw [IntWalk.i64_in _ (by unfold CtOK at hcc; omega)]
      have hb2 : 0 ≤ l[i].2.1.tmod (size - cutFrom size l[i]) ∧ l[i].2.1.tmod (size - cutFrom size l[i]) < size - cutFrom size l[i] := ⟨Int.tmod_nonneg _ hcc.2.2.1, Int.tmod_lt_of_pos _ (by omega)⟩
      have e4 : IntKind.i64.wrap (IntKind.i64.wrap (cutFrom size l[i] + 1) + l[i].2.1.tmod (size - cutFrom size l[i])) = cutTo size l[i] := by
        rw [IntWalk.i64_in (cutFrom size l[i] + 1) (by omega), IntWalk.i64_in _ (by omega)]; rfl
      conv => whnf
      simp only [e3, e4]
      refine DrawVC.go [0, 1, 2, 3, 4, 5, 6, 7, 8, 9, 10, 11, 12, 17, 13, 14, 15, 16, 18, 19] (by kernel_rfl) ?_
      conv => whnf
      refine ⟨_, by omega, rows_get hlt, ?_⟩
      conv => whnf
      refine ⟨by omega, ?_⟩
      have e5 : (IntKind.i64.wrap l[i].2.2).tmod nodes = cutNode nodes l[i] := by rw [IntWalk.i64_in _ (by unfold CtOK at hcc; omega)]; rfl
      simp only [e5]
      conv => whnf
      refine (f35_ok _ _ size nodes (cutFrom size l[i]) (cutTo size l[i]) (cutNode nodes l[i])).quiet (Wss.refl _) ?_
      rintro r rfl
      generalize hsp : splitOf ((l.take i).foldl (ofStep size nodes) (1, [(0, 0)])).1 ((l.take i).foldl (ofStep size nodes) (1, [(0, 0)])).2 size nodes (cutFrom size l[i]) (cutTo size l[i]) (cutNode nodes l[i]) = sp
      have hst : (l.take (i + 1)).foldl (ofStep size nodes) (1, [(0, 0)]) = if sp.2.2 = 0 then (sp.1, sp.2.1) else (l.take i).foldl (ofStep size nodes) (1, [(0, 0)]) := by
        rw [take_snoc hlt, List.foldl_append, List.foldl_cons, List.foldl_nil]
        rw [ofStep_eq, hsp]
      conv => whnf
      refine bsp_intro ?_ ?_
      · intro h3
        have h3 : sp.2.2 = 0 := by simpa using h3
        rw [if_pos h3] at hst
        conv => whnf
        refine ⟨i + 1, ⟨by omega, by omega⟩, by omega, rfl, ?_, ?_, .tips [] rfl⟩
        · refine leT_cons (Wk.refl _) (leT_cons (Wk.refl _) (leT_cons (Wk.refl _) (leT_cons (Wk.refl _) (leT_cons (Wk.refl _) (leT_cons (Wk.int ?_) (leT_nil))))))
          exact IntWalk.i64_in _ (by omega)
        · refine leL_cons rfl (leC_refl _) (leL_cons rfl (leC_cons (Wk.int ?_) (leC_cons (Wk.rows ?_) (leC_nil))) (leL_nil))
          · rw [hst]
          · rw [hst]
      · intro h3
        have h3 : sp.2.2 ≠ 0 := by simpa using h3
        rw [if_neg h3] at hst
        conv => whnf
        refine ⟨i + 1, ⟨by omega, by omega⟩, by omega, rfl, ?_, ?_, .tips [] rfl⟩
        · refine leT_cons (Wk.refl _) (leT_cons (Wk.refl _) (leT_cons (Wk.refl _) (leT_cons (Wk.refl _) (leT_cons (Wk.refl _) (leT_cons (Wk.int ?_) (leT_nil))))))
          exact IntWalk.i64_in _ (by omega)
        · refine leL_cons rfl (leC_refl _) (leL_cons rfl (leC_cons (Wk.int ?_) (leC_cons (Wk.rows ?_) (leC_nil))) (leL_nil))
          · rw [hst]
          · rw [hst]
    · intro h2
      have h2 : i = 30 := by simp at h2; omega
      subst h2
      conv => whnf
      exact fin (mapV_pur _ _) rfl
  · intro h
    have hge : l.length ≤ i := by simpa using h
    conv => whnf
    refine fin (mapV_pur _ _) ?_
    unfold ofMap
    rw [List.take_of_length_le hge, List.take_of_length_le (by omega)]
    rfl
end Go.Proofs.Ytecpiplfjmmccaa.AM

/-
  Spans: clones; a number among numbers; walked.
  Conditions: none.
-/
namespace Go.Proofs.Ytecpiplfjmmccaa.AM
open Go
set_option maxRecDepth 20000

def md5 (t : Nat) : Nat := match t with | 5 => 1 | _ => 0

theorem f65_ok (l : List Int) (hl : l.length * 8 ≤ 140737488355328) : PC Try.prog 65 [intS l] fun r => r = intS l := by
  refine PC.of_vc md5 (fun _ => true) ty_ok mix Try.func65 (by kernel_rfl) rfl (by kernel_rfl) (pur2 (intS_pur l) pur0) fun hf => ?_
  conv => whnf
  refine ⟨fun b hb => ?_⟩
  cases b
  · conv => whnf
    refine ⟨⟨rfl, ?_⟩, ?_⟩
    · simpa using hl
    conv => whnf
    exact ⟨_, ws_intS l _, intS_pur _, rfl⟩
  · have : l = [] := by simpa using hb rfl
    subst this
    conv => whnf
    exact ⟨_, .nil 1 (by omega), intS_pur [], rfl⟩
theorem f54_ok (l : List Sp) (hl : l.length * 16 ≤ 140737488355328) : PC Try.prog 54 [spS l] fun r => r = spS l := by
  refine PC.of_vc md5 (fun _ => true) ty_ok mix Try.func54 (by kernel_rfl) rfl (by kernel_rfl) (pur2 (spS_pur l) pur0) fun hf => ?_
  conv => whnf
  refine ⟨fun b hb => ?_⟩
  cases b
  · conv => whnf
    refine ⟨⟨rfl, ?_⟩, ?_⟩
    · simpa using hl
    conv => whnf
    exact ⟨_, ws_spS l _, spS_pur _, rfl⟩
  · have : l = [] := by simpa using hb rfl
    subst this
    conv => whnf
    exact ⟨_, .nil 2 (by omega), spS_pur [], rfl⟩

theorem f24_ok (l : List Int) (x : Int) : PC Try.prog 24 [intS l, .int .i64 x] fun r => r = .bool (l.contains x) := by
  refine PC.of_vc (fun _ => 0) (fun _ => true) ty_ok mix Try.func24 (by kernel_rfl) rfl (by kernel_rfl) (pur2 (intS_pur l) (pur2 (.int _ _) pur0)) fun hf => ?_
  have hla := intS_len (l := l) (hf _ (by simp))
  conv => whnf
  refine ⟨Nat, fun i => ⟨18, [(0, intS l), (1, .int .i64 x), (5, .int .i64 i)], [], AH.none⟩, fun i => i ≤ l.length ∧ x ∉ l.take i, fun i => l.length - i, ⟨0, by simp, rfl, ?_, ?_, .tips [] rfl⟩, ?_⟩
  · refine leT_cons (Wk.refl _) (leT_cons (Wk.refl _) (leT_cons (Wk.refl _) (leT_nil)))
  · refine leL_nil
  intro i hi
  conv => whnf
  refine bsp_intro ?_ ?_
  · intro h
    have hlt : i < l.length := by simpa using h
    conv => whnf
    refine ⟨_, by omega, rows_get hlt, ?_⟩
    conv => whnf
    refine bsp_intro ?_ ?_
    · intro h
      have h : l[i] = x := by simpa using h
      conv => whnf
      refine fin (.bool _) ?_
      have : l.contains x = true := by simp; rw [← h]; exact List.getElem_mem hlt
      rw [this]; rfl
    · intro h
      have h : l[i] ≠ x := by simpa using h
      conv => whnf
      refine ⟨i + 1, ⟨by omega, ?_⟩, by dsimp only; omega, rfl, ?_, ?_, .tips [] rfl⟩
      · rw [take_snoc hlt]
        simp only [List.mem_append, List.mem_singleton]
        rintro (h' | h')
        · exact hi.2 h'
        · exact h h'.symm
      · refine leT_cons (Wk.refl _) (leT_cons (Wk.refl _) (leT_cons (Wk.int ?_) (leT_nil)))
        exact IntWalk.i64_in _ (by omega)
      · refine leL_nil
  · intro h
    have hge : l.length ≤ i := by simpa using h
    conv => whnf
    refine fin (.bool _) ?_
    have h2 := hi.2
    rw [List.take_of_length_le hge] at h2
    have : l.contains x = false := by simpa using h2
    rw [this]; rfl
end Go.Proofs.Ytecpiplfjmmccaa.AM

/-
  Spans: Find, by the library's slices.Backward: a range over a function, walked by the base's own laws; then told without addresses.
  Conditions: none.
-/
namespace Go.Proofs.Ytecpiplfjmmccaa.AM
open Go Go.Proofs Go.RowKit Go.Shelf

attribute [local go_sem] Oper.semAt_some

/-- The i-th that comes, from the back. -/
def backAt (l : List (Int × Int)) (k : Nat) : Nat × (Int × Int) := (l.length - 1 - k, l[l.length - 1 - k]?.getD (0, 0))
def backTo (l : List (Int × Int)) (k : Nat) : List (Nat × (Int × Int)) := (List.range k).map (backAt l)
theorem backTo_succ (l : List (Int × Int)) (k : Nat) : backTo l (k + 1) = backTo l k ++ [backAt l k] := by simp [backTo, List.range_succ]
theorem backTo_length (l : List (Int × Int)) (k : Nat) : (backTo l k).length = k := by simp [backTo]
def encB (x : Nat × (Int × Int)) : Array Value := #[.int .i64 (x.1 : Int), .agg #[.int .i64 x.2.1, .int .i64 x.2.2]]

set_option maxRecDepth 100000 in
set_option maxHeartbeats 2000000 in
/-- slices.Backward's closure. -/
theorem back1_in (F : Fence) (n : Nat) (h7 : F.fn 83) (hro : F.round = none) (hn : 1 ≤ n) (l Bs n₀ b off cap : Nat) (zs : List (Int × Int)) (hreach : zs.length ≤ 9223372036854775807) (hb : b < n₀) (J Jx : List (Nat × (Int × Int)) → World → Prop)
    (hY : ∀ pre x W, J pre W → pre.length < zs.length → YieldAt F (n - 1) Try.prog l (encB x) W fun e W' =>
      (e = .returned (.bool true) ∧ J (pre ++ [x]) W' ∧ Below n₀ W W') ∨ (e = .returned (.bool false) ∧ Jx (pre ++ [x]) W'))
    (W : World) (hBs : W.cell? ⟨Bs, 0, none⟩ = some (.slice (some ⟨b, off, none⟩) zs.length cap))
    (hc0 : ∀ j, j < zs.length → W.cell? ⟨b, off + j * 2, none⟩ = some (.int .i64 (zs[j]?.getD (0, 0)).1)) (hc1 : ∀ j, j < zs.length → W.cell? ⟨b, off + j * 2 + 1, none⟩ = some (.int .i64 (zs[j]?.getD (0, 0)).2)) (h0 : J [] W) (hBn : Bs < n₀) :
    CallsIn F n Try.prog 83 #[.func (.yield l) #[] #[], .pointer (some ⟨Bs, 0, none⟩)] W fun e W' => (∃ v, e = .returned v) ∧
      ((∃ ys, ys = backTo zs zs.length ∧ J ys W') ∨ (∃ pre, (∃ k, k ≤ zs.length ∧ pre = backTo zs k) ∧ Jx pre W')) := by
  refine callsIn_of_wp Try.func83 rfl h7 ?_ hro
  simp only [Try.ntmps83, List.size_toArray, List.length_cons, List.length_nil, Nat.reduceAdd, Nat.reduceSub, Array.replicate_succ, Array.replicate_zero, List.push_toArray, List.append_toArray, List.nil_append, List.cons_append]
  gi_wp2
  gi_loopw [3] (fun i wr => ∃ k : Nat, k ≤ zs.length ∧ i = .int .i64 ((zs.length : Int) - 1 - k) ∧ J (backTo zs k) wr ∧ Below n₀ W wr)
    (fun i _ => (Go.RowKit.intOf i + 1).toNat)
  case atStart =>
    refine ⟨0, Nat.zero_le _, ?_, h0, Below.refl _ _⟩
    simp
  case round =>
    obtain ⟨k, hk, rfl, hJs, hnx⟩ := hrel
    by_cases hlt : k < zs.length
    · have hcB : wr.cell? ⟨Bs, 0, none⟩ = some (.slice (some ⟨b, off, none⟩) zs.length cap) := (hnx.cell (p := ⟨Bs, 0, none⟩) hBn).trans hBs
      have hcx0 : wr.cell? ⟨b, off + (zs.length - 1 - k) * 2, none⟩ = some (.int .i64 (backAt zs k).2.1) := (hnx.cell (p := ⟨b, off + (zs.length - 1 - k) * 2, none⟩) hb).trans (hc0 _ (by omega))
      have hcx1 : wr.cell? ⟨b, off + (zs.length - 1 - k) * 2 + 1, none⟩ = some (.int .i64 (backAt zs k).2.2) := (hnx.cell (p := ⟨b, off + (zs.length - 1 - k) * 2 + 1, none⟩) hb).trans (hc1 _ (by omega))
      obtain ⟨fn, tmps, assign, body, hy, hR⟩ := hY _ (backAt zs k) wr hJs (by rw [backTo_length]; exact hlt)
      have e1 : ((zs.length : Int) - 1 - k) = ((zs.length - 1 - k : Nat) : Int) := by omega
      rw [e1]
      have hxs : backTo zs (k + 1) = backTo zs k ++ [backAt zs k] := backTo_succ zs k
      have hyb : (encB (backAt zs k)) = #[.int .i64 ((zs.length - 1 - k : Nat) : Int), .agg #[.int .i64 (backAt zs k).2.1, .int .i64 (backAt zs k).2.2]] := rfl
      rw [hyb] at hy
      clear hyb
      generalize backAt zs k = x at *
      generalize hm : zs.length - 1 - k = m at *
      have hmlt : m < zs.length := by omega
      gi_wp2
      refine hR.mono ?_
      rintro e W3 (⟨rfl, hJ3, hk3⟩ | ⟨rfl, hJx3⟩)
      · gi_wp2
        go_roundw
        case rel =>
          refine ⟨k + 1, by omega, ?_, by rw [hxs]; exact hJ3, hnx.trans hk3⟩
          congr 1
          omega
        case measure => simp [Go.RowKit.intOf]
      · gi_wp2
        refine bodyPost_ret (results_none rfl _ _ _) rfl ?_
        exact ⟨⟨_, rfl⟩, .inr ⟨_, ⟨k + 1, by omega, hxs.symm⟩, hJx3⟩⟩
    · obtain rfl : k = zs.length := by omega
      have e1 : ((zs.length : Int) - 1 - zs.length) = -1 := by omega
      rw [e1]
      gi_wp2
      go_end0
      exact ⟨⟨_, rfl⟩, .inl ⟨_, rfl, hJs⟩⟩

set_option maxRecDepth 100000 in
set_option maxHeartbeats 1000000 in
/-- .. of a slice without elements, whatever its address. -/
theorem back1_nil_in (F : Fence) (n : Nat) (h7 : F.fn 83) (hro : F.round = none) (l Bs cap : Nat) (A : Option Addr) (J : List (Nat × (Int × Int)) → World → Prop) (W : World) (hBs : W.cell? ⟨Bs, 0, none⟩ = some (.slice A 0 cap)) (h0 : J [] W) :
    CallsIn F n Try.prog 83 #[.func (.yield l) #[] #[], .pointer (some ⟨Bs, 0, none⟩)] W fun e W' => (∃ v, e = .returned v) ∧ J [] W' := by
  refine callsIn_of_wp Try.func83 rfl h7 ?_ hro
  simp only [Try.ntmps83, List.size_toArray, List.length_cons, List.length_nil, Nat.reduceAdd, Nat.reduceSub, Array.replicate_succ, Array.replicate_zero, List.push_toArray, List.append_toArray, List.nil_append, List.cons_append]
  gi_wp2
  gi_loopw [3] (fun i wr => i = .int .i64 (-1) ∧ J [] wr) (fun _ _ => 0)
  case atStart => exact ⟨rfl, h0⟩
  case round =>
    obtain ⟨rfl, hJs⟩ := hrel
    gi_wp2
    go_end0
    exact ⟨⟨_, rfl⟩, hJs⟩

set_option maxHeartbeats 1000000 in
/-- slices.Backward: the slice is boxed; the function value captures the box. -/
theorem back_in (F : Fence) (n : Nat) (h5 : F.fn 63) (hro : F.round = none) (a : Option Addr) (len cap : Nat) (w : World) :
    CallsIn F n Try.prog 63 #[.slice a len cap] w fun e w' => e = .returned (.func (.func 83) #[] #[.pointer (some ⟨w.heap.size, 0, none⟩)]) ∧ w' = w.alloc (.cells #[.slice a len cap] 34) := by
  refine callsIn_of_wp Try.func63 rfl h5 ?_ hro
  simp only [Try.ntmps63, List.size_toArray, List.length_cons, List.length_nil, Nat.reduceAdd, Nat.reduceSub, Array.replicate_succ, Array.replicate_zero, List.push_toArray, List.append_toArray, List.nil_append, List.cons_append]
  gi_wp2
  go_ret
  exact ⟨rfl, rfl⟩

/-- The slice value holds the spans zs, in a block below n₀; or there are none. -/
def SpsAt (n₀ : Nat) (W : World) (sv : Value) (zs : List (Int × Int)) : Prop :=
  (∃ A cap, sv = .slice A 0 cap ∧ zs = []) ∨ ∃ b off cap, sv = .slice (some ⟨b, off, none⟩) zs.length cap ∧ b < n₀ ∧ (∀ j, j < zs.length → W.cell? ⟨b, off + j * 2, none⟩ = some (.int .i64 (zs[j]?.getD (0, 0)).1)) ∧ ∀ j, j < zs.length → W.cell? ⟨b, off + j * 2 + 1, none⟩ = some (.int .i64 (zs[j]?.getD (0, 0)).2)
theorem SpsAt.below {n₀ : Nat} {A B : World} (h : Below n₀ A B) {sv : Value} {zs : List (Int × Int)} : SpsAt n₀ A sv zs → SpsAt n₀ B sv zs
  | .inl e => .inl e
  | .inr ⟨b, off, cap, e, hb, h0, h1⟩ => .inr ⟨b, off, cap, e, hb, fun j hj => (h.cell (p := ⟨b, off + j * 2, none⟩) hb).trans (h0 j hj), fun j hj => (h.cell (p := ⟨b, off + j * 2 + 1, none⟩) hb).trans (h1 j hj)⟩

theorem back_stops (F : Fence) (n : Nat) (h7 : F.fn 83) (hro : F.round = none) (hn : 1 ≤ n) (Bs n₀ : Nat) (sv : Value) (zs : List (Int × Int)) (hreach : zs.length ≤ 9223372036854775807) (w : World) (hBs : Bs < w.heap.size) (hn₀ : n₀ ≤ w.heap.size)
    (hc : w.cell? ⟨Bs, 0, none⟩ = some sv) (hI : SpsAt n₀ w sv zs) :
    SeqStopsK F n Try.prog 83 #[.pointer (some ⟨Bs, 0, none⟩)] encB (Below w.heap.size) (fun ys => ys = backTo zs zs.length) (fun pre => ∃ k, k ≤ zs.length ∧ pre = backTo zs k) zs.length w := fun l J Jx W hW _ _ hY h0 => by
  have hc' := (hW.cell (p := ⟨Bs, 0, none⟩) hBs).trans hc
  rcases hI.below (hW.mono hn₀) with ⟨A, cap, rfl, rfl⟩ | ⟨b, off, cap, rfl, hb, hcs0, hcs1⟩
  · exact (back1_nil_in F n h7 hro l Bs cap A J W hc' h0).mono fun e W' ⟨he, hj⟩ => ⟨he, .inl ⟨_, rfl, hj⟩⟩
  · refine (back1_in F n h7 hro hn l Bs w.heap.size b off cap zs hreach (by omega) J Jx hY W hc' hcs0 hcs1 h0 hBs).mono ?_
    rintro e W' ⟨he, ⟨ys, rfl, hj⟩ | ⟨pre, ⟨k, hk, rfl⟩, hj⟩⟩
    · exact ⟨he, .inl ⟨_, rfl, hj⟩⟩
    · exact ⟨he, .inr ⟨_, ⟨k, hk, rfl⟩, hj⟩⟩
end Go.Proofs.Ytecpiplfjmmccaa.AM

/-
  Spans: Find, walked by the base's laws.
  Conditions: none.
-/
namespace Go.Proofs.Ytecpiplfjmmccaa.AM
open Go Go.Proofs Go.RowKit Go.Shelf

attribute [local go_sem] Oper.semAt_some

theorem boxed_new' {W : World} {k : Nat} {t : TypeId} {v : Value} (hk : k = W.heap.size) : Boxed (W.alloc (.cells #[v] t)) k t v := hk ▸ Boxed.new W t v

set_option maxRecDepth 100000 in
set_option maxHeartbeats 1000000 in
theorem find_in (F : Fence) (n : Nat) (h27 : F.fn 27) (h63 : F.fn 63) (h83 : F.fn 83) (hro : F.round = none) (hn : 3 ≤ n) (ep v : Int) (a : Option Addr) (len cap : Nat) (zs : List (Int × Int)) (hreach : zs.length ≤ 9223372036854775807) (w : World) (hI : SpsAt w.heap.size w (.slice a len cap) zs) :
    CallsIn F n Try.prog 27 #[.agg #[.int .u32 ep, .slice a len cap], .int .i64 v] w fun e W' =>
      ((e = .returned (.int .i64 (-1)) ∧ ∀ j, j < zs.length → ¬ (zs[j]?.getD (0, 0)).1 ≤ v) ∨ (∃ k : Nat, k < zs.length ∧ e = .returned (.int .i64 (backAt zs k).2.2) ∧ (backAt zs k).2.1 ≤ v ∧ ∀ j, j < k → ¬ (backAt zs j).2.1 ≤ v)) ∧ Below w.heap.size w W' := by
  have h1 : 1 ≤ n := by omega
  refine callsIn_of_wp_marks Try.func27 rfl h27 ?_ hro
  simp only [Try.ntmps27, List.size_toArray, List.length_cons, List.length_nil, Nat.reduceAdd, Nat.reduceSub, Array.replicate_succ, Array.replicate_zero, List.push_toArray, List.append_toArray, List.nil_append, List.cons_append]
  gi_wp2_with (gi_at_call 63; refine (back_in F (n - 1) h63 hro _ _ _ _).mono ?_; rintro e w' ⟨rfl, rfl⟩)
  generalize hW0 : (((w.alloc (Obj.cells #[Value.int IntKind.u32 ep, Value.slice a len cap] 36)).alloc (Obj.cells #[Value.int IntKind.i64 v] 3)).alloc (Obj.cells #[Value.int IntKind.i64 0] 3)).alloc (Obj.cells #[Value.slice a len cap] 34) = W0
  have hsz : W0.heap.size = w.heap.size + 4 := by rw [← hW0]; simp
  have hB0 : Below w.heap.size w W0 := by
    rw [← hW0]
    exact ((((Below.refl _ w).alloc (Nat.le_refl _) _).alloc (by simp) _).alloc (by simp; omega) _).alloc (by simp; omega) _
  have b3 : Boxed W0 (w.heap.size + 3) 34 (.slice a len cap) := by rw [← hW0]; exact boxed_new' (by simp)
  have b2 : Boxed W0 (w.heap.size + 2) 3 (.int .i64 0) := by rw [← hW0]; exact (boxed_new' (by simp)).alloc _
  have b1 : Boxed W0 (w.heap.size + 1) 3 (.int .i64 v) := by rw [← hW0]; exact ((boxed_new' (by simp)).alloc _).alloc _
  clear hW0
  have facts : ∀ W, Below W0.heap.size W0 W → W.cell? ⟨w.heap.size + 1, 0, none⟩ = some (.int .i64 v) ∧ W.cell? ⟨w.heap.size + 1 + 1, 0, none⟩ = some (.int .i64 0) ∧ W.frozen? ⟨w.heap.size + 1 + 1, 0, none⟩ = false := fun W hB =>
    ⟨(hB.cell (p := ⟨w.heap.size + 1, 0, none⟩) (by show w.heap.size + 1 < _; omega)).trans b1.cell, (hB.cell (p := ⟨w.heap.size + 2, 0, none⟩) (by show w.heap.size + 2 < _; omega)).trans b2.cell,
     (hB.frozen (p := ⟨w.heap.size + 2, 0, none⟩) (by show w.heap.size + 2 < _; omega)).trans b2.frozen⟩
  refine wpIn_rangeFunc_ownH hro h1 (gf := 83) (lb := #[.pointer (some ⟨w.heap.size + 1 + 1 + 1, 0, none⟩)]) rfl h83 (enters_of Try.func83 (by kernel_rfl) rfl)
    (back_stops F (n - 1) h83 hro (by omega) (w.heap.size + 3) w.heap.size _ zs hreach W0 (by omega) (by omega) b3.cell (hI.below hB0)) belowK_t (belowK_b (Nat.le_refl _)) (Below.refl _ _) (fun _ => rfl)
    (fun pre W => (∀ p ∈ pre, v < p.2.1) ∧ Below W0.heap.size W0 W)
    (fun c pre W => (c = .ret ∧ ∃ ini last, pre = ini ++ [last] ∧ (∀ p ∈ ini, v < p.2.1) ∧ last.2.1 ≤ v ∧ W.cell? ⟨w.heap.size + 2, 0, none⟩ = some (.int .i64 last.2.2)) ∧ Below w.heap.size w W)
    (OwnFrom.and (ownFrom_pure _ _) (ownFrom_below (Nat.le_refl _) (Nat.le_refl _)))
    (fun c => OwnFrom.and (Own.from (fun s A B row hs hg hr => by obtain ⟨hc, ini, last, e1, e2, e3, e4⟩ := hs; exact ⟨hc, ini, last, e1, e2, e3, cell_kept e4 hg hr⟩) _) (ownFrom_below (Nat.le_refl _) (by omega)))
    ⟨by simp, Below.refl _ _⟩
    (fun x a' W => ∃ B, W0.heap.size ≤ B ∧ W.cell? ⟨B, 0, none⟩ = some (.int .i64 x.2.1) ∧ W.cell? ⟨B, 1, none⟩ = some (.int .i64 x.2.2) ∧
      a' = { tmps := #[.agg #[.int .u32 ep, .slice a len cap], .int .i64 v, .pointer (some ⟨w.heap.size, 0, none⟩), .pointer (some ⟨w.heap.size + 1, 0, none⟩), .pointer (some ⟨w.heap.size + 1 + 1, 0, none⟩), undef, .pointer (some ⟨B, 0, none⟩),
        .pointer (some ⟨w.heap.size, 1, none⟩), .slice a len cap, .func (.func 83) #[] #[.pointer (some ⟨w.heap.size + 1 + 1 + 1, 0, none⟩)], .int .i64 (x.1 : Int), .agg #[.int .i64 x.2.1, .int .i64 x.2.2], undef, undef, undef, undef, undef, undef], defers := [] })
    (fun x a' => fun _ X Y row hs hg hr => by
      obtain ⟨B, e1, e2, e3, e4⟩ := hs
      exact ⟨B, e1, cell_kept e2 hg (fun r e => (hr r e).2), cell_kept e3 hg (fun r e => (hr r e).2), e4⟩) ?assign ?body ?done ?stop
  case assign =>
    intro l pre x W K hI hK
    dsimp only [encB]
    gi_wp2
    have hWs := hI.2.size
    refine hK _ _ ((KeepsOthers.alloc _ _).from _) ((Below.refl _ W).alloc hWs _) ⟨hI.1, hI.2.trans ((Below.refl _ W).alloc hWs _)⟩ ⟨W.heap.size, hWs, ?_, ?_, rfl⟩
    · unfold World.cell?; rw [World.alloc_heap_new]; rfl
    · unfold World.cell?; rw [World.alloc_heap_new]; rfl
  case body =>
    rintro l pre x a' W hl _ ⟨hp, hB⟩ ⟨B, g1, g2, g3, rfl⟩ _
    obtain ⟨c1, c2, f2⟩ := facts W hB
    have hBw : Below w.heap.size w W := hB0.trans (hB.mono (by omega))
    gi_wp2
    · have hx : x.2.1 ≤ v := by assumption
      exact ⟨(KeepsOthers.setCell _ _ _).from _, ⟨rfl, pre, x, rfl, hp, hx, World.cell?_setCell_same' _ _ _ (by rw [c2]; rfl)⟩, hBw.setCell (p := ⟨w.heap.size + 1 + 1, 0, none⟩) (by show w.heap.size ≤ w.heap.size + 1 + 1; omega) _⟩
    · have hx : v < x.2.1 := by omega
      exact ⟨KeepsFrom.refl _ _, Below.refl _ _, fun p hp' => (List.mem_append.1 hp').elim (hp p) (fun e => by simp at e; subst e; exact hx), hB⟩
  case done =>
    rintro D ys W hD rfl ⟨hne, hB⟩ hK
    obtain ⟨c1, c2, f2⟩ := facts W hB
    have hBw : Below w.heap.size w W := hB0.trans (hB.mono (by omega))
    gi_wp2
    have hK' := (KeepsOthers.setCell W ⟨w.heap.size + 1 + 1, 0, none⟩ (.int .i64 (-1))).same D _ hK rfl
    refine ⟨by simp, .inl ⟨_, _, rfl, run_takeDeferred hK', ?_⟩⟩
    have hc5 := cell_kept (World.cell?_setCell_same' W ⟨w.heap.size + 1 + 1, 0, none⟩ (.int .i64 (-1)) (by rw [c2]; rfl)) (grownBy_putObj' _ D (.deferred none)) (fun r e => by cases e; exact ⟨_, hK', rfl⟩)
    refine ⟨.int .i64 (-1), ?_, .inl ⟨rfl, fun j hj => ?_⟩, (hBw.setCell (p := ⟨w.heap.size + 1 + 1, 0, none⟩) (by show w.heap.size ≤ w.heap.size + 1 + 1; omega) _).trans (belowK_b (w := w) (Nat.le_refl _) _ D _ _ (by omega) hK' rfl rfl)⟩
    · simp [results, Try.f27, go_sem, hc5]
    · have := hne (backAt zs (zs.length - 1 - j)) (by simp only [backTo, List.mem_map, List.mem_range]; exact ⟨zs.length - 1 - j, by omega, rfl⟩)
      unfold backAt at this
      rw [show zs.length - 1 - (zs.length - 1 - j) = j by omega] at this
      exact this
  case stop =>
    rintro D c pre W hD ⟨k, hk, rfl⟩ ⟨⟨rfl, ini, last, e1, e2, e3, hcr⟩, hBw⟩ hK
    gi_wp2
    refine ⟨by simp, .inl ⟨_, _, rfl, run_takeDeferred hK, ?_⟩⟩
    have hc5 := cell_kept hcr (grownBy_putObj' _ D (.deferred none)) (fun r e => by cases e; exact ⟨_, hK, rfl⟩)
    obtain ⟨k', rfl⟩ : ∃ k', k = k' + 1 := by
      cases k with
      | zero => simp [backTo] at e1
      | succ k' => exact ⟨k', rfl⟩
    rw [backTo_succ] at e1
    obtain ⟨rfl, e5⟩ := List.append_inj' e1 rfl
    obtain rfl : backAt zs k' = last := by simpa using e5
    refine ⟨.int .i64 (backAt zs k').2.2, ?_, .inr ⟨k', by omega, rfl, e3, fun j hj => e2 _ (by simp only [backTo, List.mem_map, List.mem_range]; exact ⟨j, hj, rfl⟩)⟩, hBw.trans (belowK_b (w := w) (Nat.le_refl _) W D _ _ (by omega) hK rfl rfl)⟩
    simp [results, Try.f27, go_sem, hc5]
end Go.Proofs.Ytecpiplfjmmccaa.AM

/-
  Spans: Find, told without addresses.
  Conditions: none.
-/
namespace Go.Proofs.Ytecpiplfjmmccaa.AM
open Go Go.RowKit

theorem find_none {l : List Sp} {v : Int} (h : ∀ s ∈ l, v < s.1) (n : Int) : l.foldl (fun n s => if s.1 ≤ v then s.2 else n) n = n := by
  induction l generalizing n with
  | nil => rfl
  | cons s l ih =>
    have := h s (List.mem_cons_self ..)
    simp only [List.foldl_cons]
    rw [if_neg (by omega)]
    exact ih (fun t ht => h t (List.mem_cons_of_mem _ ht)) n
theorem find_at {l : List Sp} {v : Int} {m : Nat} (hm : m < l.length) (h1 : l[m].1 ≤ v) (h2 : ∀ j (h : j < l.length), m < j → v < l[j].1) : find l v = l[m].2 := by
  have e : l = (l.take m ++ [l[m]]) ++ l.drop (m + 1) := by rw [← take_snoc hm, List.take_append_drop]
  unfold find
  conv => lhs; rw [e]
  rw [List.foldl_append, List.foldl_append, List.foldl_cons, List.foldl_nil, if_pos h1]
  refine find_none (fun s hs => ?_) _
  obtain ⟨j, hj, rfl⟩ := List.mem_iff_getElem.1 hs
  rw [List.getElem_drop]
  exact h2 _ _ (by omega)

/-- What a call leaves, that turns nothing that was there. -/
theorem of_belowN {G : Gh} {w w' : World} (hH : HSim G w AH.none) (hb : Below w.heap.size w w') : HSim G w' AH.none ∧ Le G w G w' ∧ Ext G AH.none w G AH.none w' := by
  have hle : Le G w G w' := Le.of_agree (fun b h => hb.block b (hH.imm_lt h)) (fun b s hs => by rw [← hs]; exact shape_of_heap (hb.block b (lt_of_shape hs)))
  refine ⟨hH.same hle hb.size (fun b h => ?_), hle, { os := hb.os, tape := hb.tape, output := hb.output, size := hb.size, block := fun b h _ => ⟨hb.block b h, rfl, rfl⟩, mb := fun _ _ _ e => .inl ⟨_, e⟩, muts := fun _ _ h => h }⟩
  rcases h with ⟨id, z, _, h⟩ | ⟨c, h⟩
  · exact hb.block b (hH.mb_lt h)
  · exact hb.block b (hH.own_lt h)

theorem f27_ok (e : Int) (l : List Sp) (v : Int) : PC Try.prog 27 [mapV e l, .int .i64 v] fun r => r = .int .i64 (find l v) := by
  refine ⟨pur2 (mapV_pur e l) (pur2 (.int _ _) pur0), ⟨_, _, Try.func27, by kernel_rfl, rfl⟩, fun G w vs hH hr => ?_⟩
  obtain ⟨hl, hr⟩ := hr
  match vs, hl with
  | [m, x], _ =>
  have h0 := hr 0 _ rfl
  have h1 := hr 1 _ rfl
  simp only [List.getD_cons_zero, List.getD_cons_succ] at h0 h1
  cases h1
  cases h0 with
  | agg _ ms hms _ hmr =>
  have m0 := hmr 0 _ rfl
  have m1 := hmr 1 _ rfl
  have hms2 : ms.size = 2 := hms
  obtain ⟨a, b, rfl⟩ : ∃ a b, ms = #[a, b] := by
    obtain ⟨ml⟩ := ms
    match ml, hms2 with
    | [a, b], _ => exact ⟨a, b, rfl⟩
  have m0 : Rep G w (.int .u32 e) a := m0
  have m1 : Rep G w (spS l) b := m1
  cases m0
  have hfit : Fit (spS l) := ⟨G, w, b, m1⟩
  have hlen := spS_len hfit
  have hI : ∃ A len cap, b = .slice A len cap ∧ SpsAt w.heap.size w b l := by
    cases m1 with
    | sl _ _ _ A c bb o f hz hlc hc hk hp hcell h1 hrr =>
    refine ⟨A, _, c, rfl, ?_⟩
    rcases hp with ⟨h0, _⟩ | ⟨rfl, him, _⟩
    · left
      rw [h0]
      exact ⟨A, c, rfl, by simpa using h0⟩
    · rcases Nat.eq_zero_or_pos l.length with h0 | h0
      · left
        have : l = [] := List.eq_nil_of_length_eq_zero h0
        subst this
        exact ⟨_, c, rfl, rfl⟩
      · right
        have hcs : ∀ j (h : j < l.length), w.cell? ⟨bb, o + j * 2, none⟩ = some (.int .i64 l[j].1) ∧ w.cell? ⟨bb, o + j * 2 + 1, none⟩ = some (.int .i64 l[j].2) := by
          intro j hj
          have a0 : cellAt (l.map spR) j 0 = some (.int .i64 l[j].1) := by simp [cellAt, hj, spR]
          have a1 : cellAt (l.map spR) j 1 = some (.int .i64 l[j].2) := by simp [cellAt, hj, spR]
          have c0 := hcell _ _ _ a0
          have c1 := hcell _ _ _ a1
          have r0 := hrr _ _ _ a0
          have r1 := hrr _ _ _ a1
          generalize f j 0 = y0 at c0 r0
          generalize f j 1 = y1 at c1 r1
          cases r0; cases r1
          exact ⟨c0, c1⟩
        refine ⟨bb, o, c, by simp, ?_, fun j hj => ?_, fun j hj => ?_⟩
        · have : 0 < G.imm bb := by simp at him; omega
          exact hH.imm_lt this
        · simpa [hj] using (hcs j hj).1
        · simpa [hj] using (hcs j hj).2
  obtain ⟨A, len, cap, rfl, hI⟩ := hI
  refine (callsIn_wide.1 (find_in Fence.wide 3 trivial trivial trivial rfl (Nat.le_refl _) e v A len cap l hlen w hI)).mono ?_
  rintro en w' ⟨h, hb⟩
  obtain ⟨q1, q2, q3⟩ := of_belowN hH hb
  have fin : ∀ k : Int, en = .returned (.int .i64 k) → k = find l v → ∃ r cr G' H', en = .returned cr ∧ Rep G' w' r cr ∧ HSim G' w' H' ∧ Le G w G' w' ∧ Ext G AH.none w G' H' w' ∧ ∃ r', Ws r r' ∧ Pur r' ∧ r' = .int .i64 (find l v) :=
    fun k h1 h2 => ⟨.int .i64 k, _, G, AH.none, h1, .int _ _, q1, q2, q3, _, .refl _, .int _ _, by rw [h2]⟩
  rcases h with ⟨h1, h2⟩ | ⟨k, hk, h1, h2, h3⟩
  · refine fin _ h1 (find_none (fun s hs => ?_) _).symm
    obtain ⟨j, hj, rfl⟩ := List.mem_iff_getElem.1 hs
    have := h2 j hj
    simp [hj] at this
    omega
  · refine fin _ h1 ?_
    have hm : l.length - 1 - k < l.length := by omega
    have e1 : backAt l k = (l.length - 1 - k, l[l.length - 1 - k]) := by simp [backAt, hm]
    rw [e1] at h2 ⊢
    refine (find_at hm h2 fun j hj hlt => ?_).symm
    have h4 := h3 (l.length - 1 - j) (by omega)
    have e2 : backAt l (l.length - 1 - j) = (j, l[j]) := by
      unfold backAt
      rw [show l.length - 1 - (l.length - 1 - j) = j by omega]
      simp [hj]
    rw [e2] at h4
    dsimp only at h4
    omega
end Go.Proofs.Ytecpiplfjmmccaa.AM

/-
  Spans: facts: copies, parts; walked.
  Conditions: none.
-/
namespace Go.Proofs.Ytecpiplfjmmccaa.AM
open Go
set_option maxRecDepth 20000

abbrev Fc := List Int × Int
def factR (f : Fc) : List AV := [intS f.1, .int .i64 f.2]
def factS (l : List Fc) : AV := .sl 2 (l.map factR) none
theorem factS_pur (l : List Fc) : Pur (factS l) := by
  refine .sl 2 _ fun i j x hx => ?_
  obtain ⟨r, h1, h2⟩ := cellAt_some hx
  rw [List.getElem?_map] at h1
  obtain ⟨s, _, rfl⟩ := Option.map_eq_some_iff.1 h1
  match j, h2 with
  | 0, h2 => simp [factR] at h2; subst h2; exact intS_pur _
  | 1, h2 => simp [factR] at h2; subst h2; exact .int _ _
theorem ws_factS (l : List Fc) (tok : Option Nat) : Ws (.sl 2 (l.map factR) tok) (factS l) := by
  refine .drop 2 _ tok (fun r hr => ?_) (fun i j x hx => ?_)
  · obtain ⟨s, _, rfl⟩ := List.mem_map.1 hr; rfl
  · obtain ⟨r, h1, h2⟩ := cellAt_some hx
    rw [List.getElem?_map] at h1
    obtain ⟨s, _, rfl⟩ := Option.map_eq_some_iff.1 h1
    match j, h2 with
    | 0, h2 => simp [factR] at h2; subst h2; rfl
    | 1, h2 => simp [factR] at h2; subst h2; rfl
theorem factS_len {l : List Fc} (h : Fit (factS l)) : l.length ≤ 9223372036854775807 := by simpa using h.sl.1
/-- Facts that memory bears. -/
def FcOK (l : List Fc) : Prop := l.length * 32 ≤ 140737488355328 ∧ ∀ f ∈ l, f.1.length * 8 ≤ 140737488355328

theorem f66_ok (l : List Fc) (hl : FcOK l) : PC Try.prog 66 [factS l] fun r => r = factS l := by
  refine PC.of_vc (fun _ => 0) (fun _ => true) ty_ok mix Try.func66 (by kernel_rfl) rfl (by kernel_rfl) (pur2 (factS_pur l) pur0) fun hf => ?_
  have hla := factS_len (l := l) (hf _ (by simp))
  conv => whnf
  refine ⟨Nat, fun i => ⟨30, [(0, factS l), (4, .int .i64 i), (3, .sl 2 ((l.take i).map factR) (some 0))], [], ⟨[], [(2, ((l.take i).map factR).length)]⟩⟩, fun i => i ≤ l.length, fun i => l.length - i, ⟨0, by simp, rfl, ?_, ?_, .tips [2] rfl⟩, ?_⟩
  · refine leT_cons (Wk.refl _) (leT_cons (Wk.refl _) (leT_cons (.nil 2 (some 0) (by omega)) (leT_nil)))
  · refine leL_nil
  intro i hi
  conv => whnf
  refine bsp_intro ?_ ?_
  · intro h
    have hlt : i < l.length := by simpa using h
    conv => whnf
    refine ⟨_, by omega, rows_get hlt, ?_⟩
    conv => whnf
    refine ⟨?_, ?_⟩
    · simpa using hl.2 _ (List.getElem_mem hlt)
    conv => whnf
    refine ⟨_, by omega, rows_get hlt, ?_⟩
    conv => whnf
    refine ⟨⟨rfl, ?_⟩, ?_⟩
    · have := hl.1
      simp; omega
    conv => whnf
    refine ⟨i + 1, by omega, by dsimp only; omega, rfl, ?_, ?_, .tips [] ?_⟩
    · refine leT_cons (Wk.refl _) (leT_cons (Wk.int ?_) (leT_cons (Wk.rows ?_) (leT_nil)))
      · exact IntWalk.i64_in _ (by omega)
      · rw [take_snoc hlt, List.map_append]; rfl
    · refine leL_nil
    · dsimp only; rw [take_snoc hlt, List.map_append]; rfl
  · intro h
    have hge : l.length ≤ i := by simpa using h
    conv => whnf
    rw [List.take_of_length_le hge]
    exact ⟨_, ws_factS _ _, factS_pur _, rfl⟩

/-- A node's facts. -/
def partsOf (m : List Sp) (l : List Fc) (node : Int) : List Fc := l.filter fun f => match f.1 with
  | [] => false
  | k :: _ => find m k == node
theorem partsOf_snoc (m : List Sp) {l : List Fc} {node : Int} {i : Nat} (h : i < l.length) : partsOf m (l.take (i + 1)) node = partsOf m (l.take i) node ++ partsOf m [l[i]] node := by
  rw [take_snoc h]; unfold partsOf; rw [List.filter_append]
theorem partsOf_len (m : List Sp) (l : List Fc) (node : Int) : (partsOf m l node).length ≤ l.length := List.length_filter_le ..
theorem partsOf_ok {m : List Sp} {l : List Fc} {node : Int} (h : FcOK l) : FcOK (partsOf m l node) := by
  refine ⟨?_, fun f hf => h.2 f ((List.mem_filter.1 hf).1)⟩
  have := partsOf_len m l node
  have := h.1
  omega

theorem f32_ok (e : Int) (m : List Sp) (l : List Fc) (node : Int) (hl : FcOK l) : PC Try.prog 32 [mapV e m, factS l, .int .i64 node] fun r => r = factS (partsOf m l node) := by
  refine PC.of_vc (fun _ => 0) (fun _ => true) ty_ok mix Try.func32 (by kernel_rfl) rfl (by kernel_rfl) (pur2 (mapV_pur e m) (pur2 (factS_pur l) (pur2 (.int _ _) pur0))) fun hf => ?_
  have hla := factS_len (l := l) (hf _ (by simp))
  conv => whnf
  refine ⟨Nat, fun i => ⟨44, [(3, .lptr 3 0), (1, factS l), (2, .int .i64 node), (7, .sl 2 ((partsOf m (l.take i) node).map factR) (some 0)), (8, .int .i64 i)], [(3, [.int .u32 e, spS m])], ⟨[], [(2, ((partsOf m (l.take i) node).map factR).length)]⟩⟩, fun i => i ≤ l.length, fun i => l.length - i, ⟨0, by simp, rfl, ?_, ?_, .tips [2] rfl⟩, ?_⟩
  · refine leT_cons (Wk.refl _) (leT_cons (Wk.refl _) (leT_cons (Wk.refl _) (leT_cons (.nil 2 (some 0) (by omega)) (leT_cons (Wk.refl _) (leT_nil)))))
  · refine leL_cons rfl (leC_refl _) (leL_nil)
  intro i hi
  conv => whnf
  refine bsp_intro ?_ ?_
  · intro h
    have hlt : i < l.length := by simpa using h
    have hps := partsOf_snoc m (node := node) hlt
    have next : ∀ q, partsOf m [l[i]] node = q → partsOf m (l.take (i + 1)) node = partsOf m (l.take i) node ++ q := fun q h => by rw [hps, h]
    conv => whnf
    refine DrawVC.go [0, 1, 2, 3, 4, 5, 6, 7, 8, 9, 10, 11, 12, 13, 14, 15, 17, 16, 18, 19] (by kernel_rfl) ?_
    conv => whnf
    refine ⟨_, by omega, rows_get hlt, ?_⟩
    conv => whnf
    have skip : partsOf m [l[i]] node = [] → ∃ x', x' ≤ l.length ∧ l.length - x' < l.length - i ∧ x' = i + 1 ∧ partsOf m (l.take x') node = partsOf m (l.take i) node := fun h => ⟨i + 1, by omega, by omega, rfl, by rw [hps, h, List.append_nil]⟩
    refine bsp_intro ?_ ?_
    · intro h1
      have hk : ∃ k ks, l[i].1 = k :: ks := by
        cases hc : l[i].1 with
        | nil => simp [hc] at h1
        | cons k ks => exact ⟨k, ks, rfl⟩
      obtain ⟨k, ks, hk⟩ := hk
      conv => whnf
      refine ⟨_, by omega, rows_get hlt, ?_⟩
      conv => whnf
      refine ⟨intR k, by omega, by simp [hk], ?_⟩
      conv => whnf
      refine (f28_ok e m k).quiet (Wss.refl _) ?_
      rintro r rfl
      conv => whnf
      have hp : partsOf m [l[i]] node = if find m k == node then [l[i]] else [] := by
        unfold partsOf
        rw [List.filter_cons, hk]
        rfl
      refine bsp_intro ?_ ?_
      · intro h2
        have hp2 := next _ (by rw [hp, if_pos h2])
        conv => whnf
        refine ⟨_, by omega, rows_get hlt, ?_⟩
        conv => whnf
        refine ⟨⟨rfl, ?_⟩, ?_⟩
        · have := partsOf_len m (l.take i) node
          have := hl.1
          simp at *
          omega
        conv => whnf
        refine ⟨i + 1, by omega, by dsimp only; omega, rfl, ?_, ?_, .tips [] ?_⟩
        · refine leT_cons (Wk.refl _) (leT_cons (Wk.refl _) (leT_cons (Wk.refl _) (leT_cons (Wk.rows ?_) (leT_cons (Wk.int ?_) (leT_nil)))))
          · rw [hp2, List.map_append]; rfl
          · exact IntWalk.i64_in _ (by omega)
        · refine leL_cons rfl (leC_refl _) (leL_nil)
        · dsimp only; rw [hp2, List.map_append]; rfl
      · intro h2
        have hp2 := next _ (by rw [hp, if_neg (by simpa using h2)])
        rw [List.append_nil] at hp2
        conv => whnf
        refine ⟨i + 1, by omega, by dsimp only; omega, rfl, ?_, ?_, .tips [] ?_⟩
        · refine leT_cons (Wk.refl _) (leT_cons (Wk.refl _) (leT_cons (Wk.refl _) (leT_cons (Wk.rows ?_) (leT_cons (Wk.int ?_) (leT_nil)))))
          · rw [hp2]
          · exact IntWalk.i64_in _ (by omega)
        · refine leL_cons rfl (leC_refl _) (leL_nil)
        · dsimp only; rw [hp2]; rfl
    · intro h1
      have hk : l[i].1 = [] := by simpa using h1
      have hp2 := next [] (by unfold partsOf; rw [List.filter_cons, hk]; rfl)
      rw [List.append_nil] at hp2
      conv => whnf
      refine ⟨i + 1, by omega, by dsimp only; omega, rfl, ?_, ?_, .tips [] ?_⟩
      · refine leT_cons (Wk.refl _) (leT_cons (Wk.refl _) (leT_cons (Wk.refl _) (leT_cons (Wk.rows ?_) (leT_cons (Wk.int ?_) (leT_nil)))))
        · rw [hp2]
        · exact IntWalk.i64_in _ (by omega)
      · refine leL_cons rfl (leC_refl _) (leL_nil)
      · dsimp only; rw [hp2]; rfl
  · intro h
    have hge : l.length ≤ i := by simpa using h
    conv => whnf
    rw [List.take_of_length_le hge]
    refine (f66_ok _ (partsOf_ok hl)).quiet (.cons (ws_factS _ _) .nil) ?_
    rintro r rfl
    conv => whnf
    exact fin (factS_pur _) rfl
end Go.Proofs.Ytecpiplfjmmccaa.AM

/-
  Spans: the arguments' kinds, typed.
  Conditions: none.
-/
namespace Go.Proofs.Ytecpiplfjmmccaa.AM
open Go

theorem choose_list {α : Type} {f : α → List AV} {p : α → Prop} : ∀ {rows : List (List AV)}, (∀ r ∈ rows, ∃ a, r = f a ∧ p a) → ∃ l : List α, rows = l.map f ∧ ∀ a ∈ l, p a
  | [], _ => ⟨[], rfl, by simp⟩
  | r :: rows, h => by
    obtain ⟨a, rfl, ha⟩ := h r (List.mem_cons_self ..)
    obtain ⟨l, rfl, hl⟩ := choose_list fun r hr => h r (List.mem_cons_of_mem _ hr)
    exact ⟨a :: l, rfl, fun b hb => by
      rcases List.mem_cons.1 hb with rfl | hb
      · exact ha
      · exact hl b hb⟩
/-- .. with what each holds. -/
theorem choose_sum {α : Type} {f : α → List AV} {p : α → Prop} {g : α → Nat} {fs : List Sch} : ∀ {rows : List (List AV)} {ns : List Nat}, rows.length = ns.length → (∀ (i : Nat) r m, rows[i]? = some r → ns[i]? = some m → FitR fs r m) → (∀ r m, FitR fs r m → ∃ a, r = f a ∧ p a ∧ g a ≤ m) →
    ∃ l : List α, rows = l.map f ∧ (∀ a ∈ l, p a) ∧ (l.map g).sum ≤ ns.sum
  | [], ns, hl, _, _ => ⟨[], rfl, by simp, by simp⟩
  | r :: rows, [], hl, _, _ => by simp at hl
  | r :: rows, m :: ns, hl, h, hc => by
    obtain ⟨a, rfl, ha, hg⟩ := hc r m (h 0 r m rfl rfl)
    obtain ⟨l, rfl, h1, h2⟩ := choose_sum (rows := rows) (ns := ns) (by simpa using hl) (fun i r m h3 h4 => h (i + 1) r m (by simpa using h3) (by simpa using h4)) hc
    refine ⟨a :: l, rfl, fun b hb => ?_, by simp only [List.map_cons, List.sum_cons]; omega⟩
    rcases List.mem_cons.1 hb with rfl | hb
    · exact ha
    · exact h1 b hb

abbrev schSp : List Sch := [.int .u32, .sl 2 [.int .i64, .int .i64]]
abbrev schCut : List Sch := [.int .u16, .int .u16, .int .u8]
theorem fit_int {k : IntKind} {x : AV} {m : Nat} (h : FitC (.int k) x m) : ∃ n, x = .int k n ∧ (Lit.int k n).wf = true ∧ 1 ≤ m := by cases h with | int k n h => exact ⟨n, rfl, h, Nat.le_refl _⟩
theorem fit_spRow {r : List AV} {m : Nat} (h : FitR [.int .i64, .int .i64] r m) : ∃ s : Sp, r = spR s ∧ True := by
  cases h with
  | cons h t => cases t with
    | cons h' t => cases t; obtain ⟨a, rfl, _⟩ := fit_int h; obtain ⟨b, rfl, _⟩ := fit_int h'; exact ⟨(a, b), rfl, trivial⟩
theorem fit_map {x : AV} {m : Nat} (h : FitV true schSp x m) : ∃ e l, x = mapV e l ∧ (Lit.int .u32 e).wf = true := by
  obtain ⟨row, rfl, h⟩ := h
  cases h with
  | cons h t => cases t with
    | cons h' t =>
      cases t
      obtain ⟨e, rfl, hw, _⟩ := fit_int h
      cases h' with
      | sl z fs rows ns n hl hr hn =>
        obtain ⟨l, rfl, _⟩ := choose_list (f := spR) (p := fun _ => True) (rows := rows) fun r hr' => by
          obtain ⟨i, hi⟩ := List.mem_iff_getElem?.1 hr'
          have hlt := (List.getElem?_eq_some_iff.1 hi).1
          exact fit_spRow (hr i r _ hi (List.getElem?_eq_getElem (by omega)))
        exact ⟨e, l, rfl, hw⟩
theorem fit_i64 {x : AV} {m : Nat} (h : FitV false [.int .i64] x m) : ∃ n, x = .int .i64 n ∧ (Lit.int .i64 n).wf = true := by
  obtain ⟨S0, e, h⟩ := h
  simp only [List.cons.injEq, and_true] at e
  subst e
  obtain ⟨n, h1, h2, _⟩ := fit_int h
  exact ⟨n, h1, h2⟩
theorem fit_k {k : IntKind} {x : AV} {m : Nat} (h : FitV false [.int k] x m) : ∃ n, x = .int k n ∧ (Lit.int k n).wf = true := by
  obtain ⟨S0, e, h⟩ := h
  simp only [List.cons.injEq, and_true] at e
  subst e
  obtain ⟨n, h1, h2, _⟩ := fit_int h
  exact ⟨n, h1, h2⟩
theorem wf_u16 {n : Int} (h : (Lit.int .u16 n).wf = true) : 0 ≤ n ∧ n < 65536 := by simp [Lit.wf, IntKind.min, IntKind.max, IntKind.signed, IntKind.bits] at h; omega
theorem wf_u8 {n : Int} (h : (Lit.int .u8 n).wf = true) : 0 ≤ n ∧ n < 256 := by simp [Lit.wf, IntKind.min, IntKind.max, IntKind.signed, IntKind.bits] at h; omega
theorem wf_u32 {n : Int} (h : (Lit.int .u32 n).wf = true) : 0 ≤ n ∧ n < 4294967296 := by simp [Lit.wf, IntKind.min, IntKind.max, IntKind.signed, IntKind.bits] at h; omega
theorem fit_cutRow {r : List AV} {m : Nat} (h : FitR schCut r m) : ∃ c : Ct, r = cutR c ∧ CtOK c := by
  cases h with
  | cons h t => cases t with
    | cons h' t => cases t with
      | cons h'' t =>
        cases t
        obtain ⟨a, rfl, ha, _⟩ := fit_int h
        obtain ⟨b, rfl, hb, _⟩ := fit_int h'
        obtain ⟨c, rfl, hc, _⟩ := fit_int h''
        have := wf_u16 ha; have := wf_u16 hb; have := wf_u8 hc
        exact ⟨(a, b, c), rfl, by unfold CtOK; dsimp only; omega⟩
theorem fit_cuts {x : AV} {m : Nat} (h : FitV false [.sl 3 schCut] x m) : ∃ l : List Ct, x = cutS l ∧ ∀ c ∈ l, CtOK c := by
  obtain ⟨S0, e, h⟩ := h
  simp only [List.cons.injEq, and_true] at e
  subst e
  cases h with
  | sl z fs rows ns n hl hr hn =>
    obtain ⟨l, rfl, h2⟩ := choose_list (f := cutR) (p := CtOK) (rows := rows) fun r hr' => by
      obtain ⟨i, hi⟩ := List.mem_iff_getElem?.1 hr'
      have hlt := (List.getElem?_eq_some_iff.1 hi).1
      exact fit_cutRow (hr i r _ hi (List.getElem?_eq_getElem (by omega)))
    exact ⟨l, rfl, h2⟩
theorem fit_cut {x : AV} {m : Nat} (h : FitV true schCut x m) : ∃ c : Ct, x = .agg (cutR c) ∧ CtOK c := by
  obtain ⟨row, rfl, h⟩ := h
  obtain ⟨c, rfl, hc⟩ := fit_cutRow h
  exact ⟨c, rfl, hc⟩
theorem fit_intRow {r : List AV} {m : Nat} (h : FitR [.int .i64] r m) : ∃ n : Int, r = intR n ∧ True ∧ 1 ≤ m := by
  cases h with
  | cons h t => cases t; obtain ⟨a, rfl, _, h⟩ := fit_int h; exact ⟨a, rfl, trivial, by omega⟩
theorem sum_one {α : Type} : ∀ l : List α, (l.map fun _ => 1).sum = l.length
  | [] => rfl
  | _ :: l => by have := sum_one l; simp only [List.map_cons, List.sum_cons, List.length_cons]; omega
theorem fit_factRow {r : List AV} {m : Nat} (h : FitR [.sl 1 [.int .i64], .int .i64] r m) : ∃ f : Fc, r = factR f ∧ True ∧ f.1.length + 2 ≤ m := by
  cases h with
  | cons h t => cases t with
    | cons h' t =>
      cases t
      obtain ⟨v, rfl, _, h1⟩ := fit_int h'
      cases h with
      | sl z fs rows ns n hl hr hn =>
        obtain ⟨ks, rfl, _, hs⟩ := choose_sum (f := intR) (p := fun _ => True) (g := fun _ => 1) hl hr (fun r m h => fit_intRow h)
        refine ⟨(ks, v), rfl, trivial, ?_⟩
        have : (ks.map fun _ => 1).sum = ks.length := sum_one ks
        dsimp only
        omega
/-- The facts of a batch: what they hold. -/
def fcBulk (l : List Fc) : Nat := (l.map fun f => f.1.length + 2).sum
theorem fit_facts {x : AV} {m : Nat} (h : FitV false [.sl 2 [.sl 1 [.int .i64], .int .i64]] x m) : ∃ l : List Fc, x = factS l ∧ fcBulk l ≤ m := by
  obtain ⟨S0, e, h⟩ := h
  simp only [List.cons.injEq, and_true] at e
  subst e
  cases h with
  | sl z fs rows ns n hl hr hn =>
    obtain ⟨l, rfl, _, hs⟩ := choose_sum (f := factR) (p := fun _ => True) (g := fun f : Fc => f.1.length + 2) hl hr (fun r m h => fit_factRow h)
    exact ⟨l, rfl, by unfold fcBulk; omega⟩
end Go.Proofs.Ytecpiplfjmmccaa.AM

/-
  Coord: what the boss knows, as blocks of memory; right, walked.
  Conditions: none.
-/
namespace Go.Proofs.Ytecpiplfjmmccaa.AM
open Go
set_option maxRecDepth 20000

/-- Whether nodes may be a batch's. -/
def rightF (last : Int) : List Int → Bool
  | [] => decide (0 ≤ last)
  | n :: l => if n ≤ last ∨ 6 ≤ n then false else rightF n l

theorem right_ok (l : List Int) : PC Try.prog 55 [intS l] fun r => r = .bool (rightF (-1) l) := by
  refine PC.of_vc (fun _ => 0) (fun _ => true) ty_ok mix Try.func55 (by kernel_rfl) rfl (by kernel_rfl) (pur2 (intS_pur l) pur0) fun hf => ?_
  have hla := intS_len (l := l) (hf _ (by simp))
  conv => whnf
  refine ⟨Nat × Int, fun p => ⟨23, [(0, intS l), (3, .int .i64 p.2), (6, intS l), (7, .int .i64 l.length), (8, .int .i64 p.1)], [], AH.none⟩, fun p => p.1 ≤ l.length ∧ rightF (-1) l = rightF p.2 (l.drop p.1), fun p => l.length - p.1, ⟨(0, -1), by simp, rfl, ?_, ?_, .tips [] rfl⟩, ?_⟩
  · refine leT_cons (Wk.refl _) (leT_cons (Wk.refl _) (leT_cons (Wk.refl _) (leT_cons (Wk.int ?_) (leT_cons (Wk.refl _) (leT_nil)))))
    simp
  · refine leL_nil
  rintro ⟨i, last⟩ hi
  dsimp only at hi
  conv => whnf
  refine bsp_intro ?_ ?_
  · intro h
    have hlt : i < l.length := by simpa using h
    have hd : l.drop i = l[i] :: l.drop (i + 1) := List.drop_eq_getElem_cons hlt
    conv => whnf
    refine ⟨_, by omega, rows_get hlt, ?_⟩
    conv => whnf
    refine bsp_intro ?_ ?_
    · intro h
      have h := of_decide_eq_true h
      conv => whnf
      refine fin (.bool _) ?_
      rw [hi.2, hd]
      have h : l[i] ≤ last := h
      simp only [rightF, h, true_or, if_true]
      rfl
    · intro h1
      have h1 := of_decide_eq_false h1
      conv => whnf
      refine bsp_intro ?_ ?_
      · intro h
        have h := of_decide_eq_true h
        conv => whnf
        refine fin (.bool _) ?_
        rw [hi.2, hd]
        have : (6 : Int) ≤ l[i] := h
        simp only [rightF, this, or_true, if_true]
        rfl
      · intro h2
        have h2 := of_decide_eq_false h2
        have h2 : ¬ (6 : Int) ≤ l[i] := h2
        conv => whnf
        refine ⟨(i + 1, l[i]), ⟨by dsimp only; omega, ?_⟩, by dsimp only; omega, rfl, ?_, ?_, .tips [] rfl⟩
        · rw [hi.2, hd]
          have h1 : ¬ l[i] ≤ last := h1
          simp only [rightF, h1, h2, or_self, if_false]
        · refine leT_cons (Wk.refl _) (leT_cons (Wk.refl _) (leT_cons (Wk.refl _) (leT_cons (Wk.refl _) (leT_cons (Wk.int ?_) (leT_nil)))))
          exact IntWalk.i64_in _ (by omega)
        · refine leL_nil
  · intro h
    have hge : l.length ≤ i := by simpa using h
    conv => whnf
    refine fin (.bool _) ?_
    rw [hi.2, List.drop_of_length_le hge]
    rfl

/-- A batch: where it is, its number, state, time, nodes, where those are kept that have not spoken, which, and whether it is ended. -/
structure Bt where
  id : Nat
  key : Int
  st : Int
  at_ : Int
  ns : List Int
  idl : Nat
  lk : List (Int × Int)
  ended : Bool
def Bt.row (b : Bt) : List AV := [.int .u8 b.st, .int .u32 b.at_, intS b.ns, .map b.idl, .bool b.ended]
def Bt.ent (b : Bt) : Int × AV := (b.key, .ptr b.id 0 0)
def lkE (l : List (Int × Int)) : List (Int × AV) := l.map fun p => (p.1, .int .i64 p.2)
structure Bt.In (b : Bt) (H : AH) : Prop where
  row : H.blks[b.id]? = some (.rows 5 [b.row])
  lks : H.blks[b.idl]? = some (.map .i64 (lkE b.lk) none)
  nod : (b.lk.map (·.1)).Nodup
/-- What the boss knows. -/
structure Co where
  id : Nat
  idm : Nat
  l : List Bt
  last : Int
  starts : Int
  begun : Int
  ep : Int
  held : List Sp
def Co.row (c : Co) : List AV := [.map c.idm, .int .u32 c.last, .int .u32 c.starts, .int .u32 c.begun, .int .u32 c.ep, spS c.held]
structure Co.In (c : Co) (H : AH) : Prop where
  row : H.blks[c.id]? = some (.rows 6 [c.row])
  map : H.blks[c.idm]? = some (.map .u32 (c.l.map Bt.ent) none)
  bts : ∀ b ∈ c.l, b.In H
  keys : (c.l.map Bt.key).Nodup
  ids : (c.l.map Bt.id).Nodup
  idls : (c.l.map Bt.idl).Nodup
  krng : ∀ b ∈ c.l, 0 ≤ b.key ∧ b.key ≤ 4294967295
  rng : 0 ≤ c.starts ∧ c.starts ≤ 1000 ∧ 0 ≤ c.begun ∧ c.begun ≤ 900
theorem Bt.In.grow {b : Bt} {H H' : AH} (h : b.In H) (hg : Grow H H') : b.In H' := ⟨hg _ _ h.row, hg _ _ h.lks, h.nod⟩
theorem Co.In.grow {c : Co} {H H' : AH} (h : c.In H) (hg : Grow H H') : c.In H' := ⟨hg _ _ h.row, hg _ _ h.map, fun b hb => (h.bts b hb).grow hg, h.keys, h.ids, h.idls, h.krng, h.rng⟩
/-- Blocks that are none of a Coord's. -/
def ABlk.alien : ABlk → Prop
  | .rows z l => z ≠ 5 ∧ ¬ ∃ m r, z = 6 ∧ l = [.map m :: r]
  | .map _ _ _ => False
  | .dead => False
structure Fr (H H' : AH) : Prop where
  tips : H'.tips = H.tips
  len : H.blks.length ≤ H'.blks.length
  old : ∀ (id : Nat) (B : ABlk), H.blks[id]? = some B → B.alien → H'.blks[id]? = some B
theorem Fr.refl (H : AH) : Fr H H := ⟨rfl, Nat.le_refl _, fun _ _ h _ => h⟩
theorem Fr.trans {H H' H'' : AH} (h : Fr H H') (k : Fr H' H'') : Fr H H'' := ⟨k.tips.trans h.tips, Nat.le_trans h.len k.len, fun i B e a => k.old i B (h.old i B e a) a⟩
theorem Fr.push {H : AH} {B : ABlk} : Fr H (H.push B) := ⟨rfl, by rw [AH.push_len]; omega, fun i B' e _ => by rw [AH.push_old (List.getElem?_eq_some_iff.1 e).1]; exact e⟩
theorem Fr.upd {H : AH} {id : Nat} {B B' : ABlk} (h : H.blks[id]? = some B) (ha : ¬ B.alien) : Fr H (H.upd id B') :=
  ⟨rfl, by rw [AH.upd_len]; exact Nat.le_refl _, fun i C e a => by
    by_cases hi : id = i
    · subst hi; rw [h] at e; cases e; exact absurd a ha
    · rw [AH.upd_other hi]; exact e⟩
end Go.Proofs.Ytecpiplfjmmccaa.AM

/-
  Coord: in, said, Vote, Done, Drop, Status, Last, Starts, walked.
  Conditions: none.
-/
namespace Go.Proofs.Ytecpiplfjmmccaa.AM
open Go
set_option maxRecDepth 20000

def mdS (t : Nat) : Nat := match t with | 1000000 => 1 | _ => 0
theorem Co.find (c : Co) (k : Int) : (∃ b ∈ c.l, b.key = k ∧ Look (c.l.map Bt.ent) k (some (.ptr b.id 0 0))) ∨ ((∀ b ∈ c.l, b.key ≠ k) ∧ Look (c.l.map Bt.ent) k none) := by
  by_cases h : ∃ b ∈ c.l, b.key = k
  · obtain ⟨b, hb, rfl⟩ := h
    exact .inl ⟨b, hb, rfl, List.mem_map.2 ⟨b, hb, rfl⟩⟩
  · have h' : ∀ b ∈ c.l, b.key ≠ k := fun b hb e => h ⟨b, hb, e⟩
    refine .inr ⟨h', fun p hp => ?_⟩
    obtain ⟨b, hb, rfl⟩ := List.mem_map.1 hp
    exact h' b hb

/-- What `in` finds. -/
def InP (c : Co) (k st : Int) (r : AV) : Prop :=
  (∃ b ∈ c.l, b.key = k ∧ b.st = st ∧ r = .ptr b.id 0 0) ∨ ((∀ b ∈ c.l, b.key = k → b.st ≠ st) ∧ r = .nilptr)
theorem nodup_inj {α β : Type} {f : α → β} : ∀ {l : List α}, (l.map f).Nodup → ∀ {x y : α}, x ∈ l → y ∈ l → f x = f y → x = y
  | [], _, _, _, hx, _, _ => nomatch hx
  | z :: l, h, x, y, hx, hy, e => by
    rw [List.map_cons, List.nodup_cons] at h
    rcases List.mem_cons.1 hx with e1 | hx <;> rcases List.mem_cons.1 hy with e2 | hy
    · rw [e1, e2]
    · exact absurd (List.mem_map.2 ⟨y, hy, e.symm.trans (by rw [e1])⟩) h.1
    · exact absurd (List.mem_map.2 ⟨x, hx, e.trans (by rw [e2])⟩) h.1
    · exact nodup_inj h.2 hx hy e
theorem Co.uniq {c : Co} {H : AH} (h : c.In H) {b b' : Bt} (hb : b ∈ c.l) (hb' : b' ∈ c.l) (e : b.key = b'.key) : b = b' := nodup_inj h.keys hb hb' e

theorem in_ok {c : Co} {H : AH} (h : c.In H) (k st : Int) : AC Try.prog 53 [.ptr c.id 0 0, .int .u32 k, .int .u8 st] H fun r H' => H' = H ∧ InP c k st r := by
  refine AC.of_vc (md := mdS) (qt := fun _ => true) ty_ok mix Try.func53 (by kernel_rfl) rfl (by kernel_rfl) ?_
  conv => whnf
  refine ⟨_, _, _, h.row, rfl, ?_⟩
  conv => whnf
  rcases c.find k with ⟨b, hb, hk, hl⟩ | ⟨hn, hl⟩
  · refine ⟨_, _, _, h.map, hl, ?_⟩
    conv => whnf
    refine ⟨_, _, _, (h.bts b hb).row, rfl, ?_⟩
    conv => whnf
    refine bsp_intro ?_ ?_
    · intro h1
      conv => whnf
      exact ⟨rfl, .inl ⟨b, hb, hk, by simpa using h1, rfl⟩⟩
    · intro h1
      conv => whnf
      refine ⟨rfl, .inr ⟨fun b' hb' hk' e => ?_, rfl⟩⟩
      have := Co.uniq h hb hb' (hk.trans hk'.symm)
      subst this
      simp [e] at h1
  · refine ⟨_, _, _, h.map, hl, ?_⟩
    conv => whnf
    exact ⟨rfl, .inr ⟨fun b hb hk => absurd hk (hn b hb), rfl⟩⟩

/-- Those left when a node has spoken. -/
def lkD (l : List (Int × Int)) (n : Int) : List (Int × Int) := l.filter fun p => decide (p.1 ≠ n)
theorem lkD_E (l : List (Int × Int)) (n : Int) : delE (lkE l) n = lkE (lkD l n) := by
  unfold delE lkE lkD
  rw [List.filter_map]; rfl
theorem said_ok {b : Bt} {H : AH} (h : b.In H) (n : Int) : AC Try.prog 74 [.ptr b.id 0 0, .int .i64 n] H fun r H' =>
    H' = H.upd b.idl (.map .i64 (lkE (lkD b.lk n)) none) ∧ r = .bool (decide (lkD b.lk n = [])) := by
  refine AC.of_vc (md := fun | 1000000 => 1 | 14 => 3 | _ => 0) (qt := fun _ => true) ty_ok mix Try.func74 (by kernel_rfl) rfl (by kernel_rfl) ?_
  conv => whnf
  refine ⟨_, _, _, h.row, rfl, ?_⟩
  conv => whnf
  refine ⟨_, _, h.lks, ?_⟩
  conv => whnf
  have hne : b.idl ≠ b.id := fun e => by have := h.lks; rw [e, h.row] at this; cases this
  rw [lkD_E]
  refine ⟨_, _, _, (AH.upd_other hne).trans h.row, rfl, ?_⟩
  conv => whnf
  refine ⟨_, _, _, AH.upd_same h.lks, ?_⟩
  conv => whnf
  refine ⟨rfl, ?_⟩
  have : (((lkE (lkD b.lk n)).length : Int) == 0) = decide (lkD b.lk n = []) := by
    cases lkD b.lk n with
    | nil => rfl
    | cons p l => simp [lkE]; omega
  exact congrArg AV.bool this

/-- One batch is another one. -/
def Co.turn (c : Co) (b : Bt) : Co := { c with l := c.l.map fun x => if x.id = b.id then b else x }
theorem Co.In.ne_row {c : Co} {H : AH} (h : c.In H) {b : Bt} (hb : b ∈ c.l) : b.id ≠ c.id := fun e => by have := (h.bts b hb).row; rw [e, h.row] at this; cases this
theorem Co.In.ne_map {c : Co} {H : AH} (h : c.In H) {b : Bt} (hb : b ∈ c.l) : b.id ≠ c.idm := fun e => by have := (h.bts b hb).row; rw [e, h.map] at this; cases this
theorem Co.In.ne_lrow {c : Co} {H : AH} (h : c.In H) {b : Bt} (hb : b ∈ c.l) : b.idl ≠ c.id := fun e => by have := (h.bts b hb).lks; rw [e, h.row] at this; cases this
theorem Co.In.ne_lmap {c : Co} {H : AH} (h : c.In H) {b : Bt} (hb : b ∈ c.l) : b.idl ≠ c.idm := fun e => by have := (h.bts b hb).lks; rw [e, h.map] at this; cases this
theorem Co.In.ne_lb {c : Co} {H : AH} (h : c.In H) {b b' : Bt} (hb : b ∈ c.l) (hb' : b' ∈ c.l) : b.idl ≠ b'.id := fun e => by have := (h.bts b hb).lks; rw [e, (h.bts b' hb').row] at this; cases this
theorem turn_map {α : Type} {l : List Bt} {b : Bt} (f : Bt → α) (h : ∀ x ∈ l, x.id = b.id → f x = f b) : (l.map fun x => if x.id = b.id then b else x).map f = l.map f := by
  rw [List.map_map]
  apply List.map_congr_left
  intro x hx
  simp only [Function.comp]
  split
  · rename_i e; exact (h x hx e).symm
  · rfl
theorem Co.In.turn {c : Co} {H H' : AH} (h : c.In H) {b b' : Bt} (hb : b ∈ c.l) (e1 : b'.id = b.id) (e2 : b'.key = b.key) (e3 : b'.idl = b.idl) (hi : b'.In H')
    (ho : ∀ i, i ≠ b.id → i ≠ b.idl → H'.blks[i]? = H.blks[i]?) : (c.turn b').In H' := by
  have hu : ∀ x ∈ c.l, x.id = b'.id → x = b := fun x hx e => nodup_inj h.ids hx hb (e.trans e1)
  refine ⟨?_, ?_, ?_, ?_, ?_, ?_, ?_, h.rng⟩
  · rw [show (c.turn b').id = c.id from rfl, ho _ (h.ne_row hb).symm (h.ne_lrow hb).symm]; exact h.row
  · rw [show (c.turn b').idm = c.idm from rfl, ho _ (h.ne_map hb).symm (h.ne_lmap hb).symm, h.map]
    rw [show (c.turn b').l.map Bt.ent = c.l.map Bt.ent from turn_map _ fun x hx e => by rw [hu x hx e]; simp only [Bt.ent, e1, e2]]
  · intro x hx
    obtain ⟨y, hy, rfl⟩ := List.mem_map.1 hx
    split
    · exact hi
    · rename_i hne
      have hyb : y ≠ b := fun e => hne (by rw [e, e1])
      have h1 : y.id ≠ b.id := fun e => hyb (nodup_inj h.ids hy hb e)
      have h2 : y.idl ≠ b.idl := fun e => hyb (nodup_inj h.idls hy hb e)
      have := h.bts y hy
      exact ⟨by rw [ho _ h1 (h.ne_lb hb hy).symm]; exact this.row, by rw [ho _ (h.ne_lb hy hb) h2]; exact this.lks, this.nod⟩
  · rw [show (c.turn b').l.map Bt.key = c.l.map Bt.key from turn_map _ fun x hx e => by rw [hu x hx e, e2]]; exact h.keys
  · rw [show (c.turn b').l.map Bt.id = c.l.map Bt.id from turn_map _ fun x hx e => by rw [hu x hx e, e1]]; exact h.ids
  · rw [show (c.turn b').l.map Bt.idl = c.l.map Bt.idl from turn_map _ fun x hx e => by rw [hu x hx e, e3]]; exact h.idls
  · intro x hx
    obtain ⟨y, hy, rfl⟩ := List.mem_map.1 hx
    split
    · rw [e2]; exact h.krng b hb
    · exact h.krng y hy

theorem Co.In.said {c : Co} {H : AH} (h : c.In H) {b : Bt} (hb : b ∈ c.l) (n : Int) : (c.turn { b with lk := lkD b.lk n }).In (H.upd b.idl (.map .i64 (lkE (lkD b.lk n)) none)) ∧ Fr H (H.upd b.idl (.map .i64 (lkE (lkD b.lk n)) none)) := by
  have hB := h.bts b hb
  refine ⟨h.turn hb rfl rfl rfl ⟨?_, ?_, ?_⟩ fun i _ hi => AH.upd_other (Ne.symm hi), Fr.upd hB.lks fun a => a⟩
  · rw [AH.upd_other (h.ne_lb hb hb)]; exact hB.row
  · exact AH.upd_same hB.lks
  · exact hB.nod.sublist (List.filter_sublist.map _)

def VoteP (c : Co) (k n : Int) (H : AH) (r : AV) (H' : AH) : Prop :=
  (∃ b ∈ c.l, b.key = k ∧ b.st = 1 ∧ (c.turn { b with lk := lkD b.lk n }).In H' ∧ Fr H H' ∧ r = .bool (decide (lkD b.lk n = []))) ∨ ((∀ b ∈ c.l, b.key = k → b.st ≠ 1) ∧ H' = H ∧ r = .bool false)
theorem vote_ok {c : Co} {H : AH} (h : c.In H) (k n : Int) : AC Try.prog 47 [.ptr c.id 0 0, .int .u32 k, .int .i64 n] H fun r H' => VoteP c k n H r H' := by
  refine AC.of_vc (md := mdS) (qt := fun f => Nat.beq f 53) ty_ok mix Try.func47 (by kernel_rfl) rfl (by kernel_rfl) ?_
  conv => whnf
  refine ⟨fun H1 hg => (in_ok (h.grow hg) k 1).mono ?_⟩
  rintro r H' ⟨hH, hr⟩
  rcases hr with ⟨b, hb, hk, hs, rfl⟩ | ⟨hn, rfl⟩
  · refine ⟨hH, ?_⟩
    conv => whnf
    refine ⟨(said_ok (h.bts b hb) n).mono ?_⟩
    rintro r H2 ⟨hH2, rfl⟩
    conv => whnf
    obtain ⟨h1, h2⟩ := h.said hb n
    rw [← hH2] at h1 h2
    exact .inl ⟨b, hb, hk, hs, h1, h2, rfl⟩
  · refine ⟨hH, ?_⟩
    conv => whnf
    exact .inr ⟨hn, rfl, rfl⟩
end Go.Proofs.Ytecpiplfjmmccaa.AM

/-
  Coord: of, walked.
  Conditions: the nodes are each once.
-/
namespace Go.Proofs.Ytecpiplfjmmccaa.AM
open Go
set_option maxRecDepth 20000

/-- Those who have not spoken, at first: each with its place. -/
def lkOf (l : List Int) : List (Int × Int) := l.zipIdx.map fun p => (p.1, (p.2 : Int))
theorem lkOf_len (l : List Int) : (lkOf l).length = l.length := by simp [lkOf]
theorem lkOf_keys (l : List Int) : (lkOf l).map (·.1) = l := by
  unfold lkOf
  rw [List.map_map]
  apply List.ext_getElem <;> simp
theorem lkOf_snoc {l : List Int} {i : Nat} (h : i < l.length) : (lkOf l).take (i + 1) = (lkOf l).take i ++ [(l[i], (i : Int))] := by
  have : (lkOf l)[i]? = some (l[i], (i : Int)) := by
    unfold lkOf
    rw [List.getElem?_map, List.getElem?_eq_getElem (by simpa using h)]
    simp
  rw [List.take_add_one, this]; rfl
theorem lkOf_fresh {l : List Int} (hn : l.Nodup) {i : Nat} (h : i < l.length) : ¬ ∃ p ∈ lkE ((lkOf l).take i), p.1 = l[i] := by
  rintro ⟨p, hp, e⟩
  obtain ⟨q, hq, rfl⟩ := List.mem_map.1 hp
  have h1 : l[i] ∈ ((lkOf l).take i).map (·.1) := List.mem_map.2 ⟨q, hq, e⟩
  rw [List.map_take, lkOf_keys] at h1
  obtain ⟨j, hj, e'⟩ := List.getElem_of_mem h1
  rw [List.getElem_take] at e'
  have hj' : j < i := by simp at hj; omega
  have := (List.getElem_inj hn).1 e'
  omega

theorem updC_self {H : AH} {id : Nat} {B : ABlk} (h : H.blks[id]? = some B) : H.upd id B = H := by
  unfold AH.upd
  obtain ⟨h1, h2⟩ := List.getElem?_eq_some_iff.1 h
  rw [← h2, List.set_getElem_self]
theorem updC_upd {H : AH} {id : Nat} {B B' : ABlk} : (H.upd id B).upd id B' = H.upd id B' := by simp [AH.upd]
/-- What `of` makes. -/
def ofB (id idl : Nat) (k st at_ : Int) (l : List Int) : Bt := ⟨id, k, st, at_, l, idl, lkOf l, false⟩
def ofH (H : AH) (st at_ : Int) (l : List Int) (i : Nat) : AH := ((H.push (.map .i64 [] none)).push (.rows 5 [(ofB 0 H.blks.length 0 st at_ l).row])).upd H.blks.length (.map .i64 (lkE ((lkOf l).take i)) none)
theorem ofH_map {H : AH} {st at_ : Int} {l : List Int} {i : Nat} : (ofH H st at_ l i).blks[H.blks.length]? = some (.map .i64 (lkE ((lkOf l).take i)) none) := by
  unfold ofH
  refine AH.upd_same (B' := .map .i64 [] none) ?_
  rw [AH.push_old (by rw [AH.push_len]; omega), AH.push_new]
theorem ofH_row {H : AH} {st at_ : Int} {l : List Int} {i : Nat} : (ofH H st at_ l i).blks[(H.push (.map .i64 [] none)).blks.length]? = some (.rows 5 [(ofB 0 H.blks.length 0 st at_ l).row]) := by
  unfold ofH
  rw [AH.upd_other (by rw [AH.push_len]; omega), AH.push_new]
theorem ofH_zero {H : AH} {st at_ : Int} {l : List Int} : ofH H st at_ l 0 = (H.push (.map .i64 [] none)).push (.rows 5 [(ofB 0 H.blks.length 0 st at_ l).row]) := by
  refine updC_self ?_
  rw [AH.push_old (by rw [AH.push_len]; omega), AH.push_new]; rfl
theorem ofH_succ {H : AH} {st at_ : Int} {l : List Int} {i : Nat} {B : ABlk} (h : B = .map .i64 (lkE ((lkOf l).take (i + 1))) none) : (ofH H st at_ l i).upd H.blks.length B = ofH H st at_ l (i + 1) := by
  subst h
  exact updC_upd
theorem set_at {l : List ABlk} {x y z : ABlk} : (l ++ [x] ++ [y]).set l.length z = l ++ [z] ++ [y] := by simp
theorem ofH_end {H : AH} {st at_ : Int} {l : List Int} {i : Nat} (h : l.length ≤ i) : ofH H st at_ l i = (H.push (.map .i64 (lkE (lkOf l)) none)).push (.rows 5 [(ofB 0 H.blks.length 0 st at_ l).row]) := by
  unfold ofH
  rw [List.take_of_length_le (by rw [lkOf_len]; exact h)]
  unfold AH.upd AH.push
  simp only [set_at]

theorem of_ok (st at_ : Int) (l : List Int) (hn : l.Nodup) (hl : l.length ≤ 1000000000000) (H : AH) : AC Try.prog 56 [.agg [.int .u8 st, .int .u32 at_], intS l] H fun r H' =>
    r = .ptr (H.blks.length + 1) 0 0 ∧ H' = (H.push (.map .i64 (lkE (lkOf l)) none)).push (.rows 5 [(ofB 0 H.blks.length 0 st at_ l).row]) := by
  refine AC.of_vc (md := fun | 1000000 => 1 | 13 => 2 | 2000065 => 3 | _ => 0) (qt := fun f => Nat.beq f 65) ty_ok mix Try.func56 (by kernel_rfl) rfl (by kernel_rfl) ?_
  conv => whnf
  refine DrawVC.go [0, 1, 3, 2, 4, 5, 6] (by kernel_rfl) ?_
  conv => whnf
  refine (f65_ok l (by omega)).pure (Wss.refl _) ?_
  rintro r rfl
  conv => whnf
  refine ⟨Nat, fun i => ⟨29, [(1, intS l), (5, .ptr (H.push (.map .i64 [] none)).blks.length 0 0), (14, intS l), (15, .int .i64 l.length), (16, .int .i64 i)], [], ofH H st at_ l i⟩, fun i => i ≤ l.length, fun i => l.length - i, ⟨0, by simp, rfl, ?_, ?_, .of ofH_zero.symm⟩, ?_⟩
  · refine leT_cons (Wk.refl _) (leT_cons (Wk.refl _) (leT_cons (Wk.refl _) (leT_cons (Wk.int ?_) (leT_cons (Wk.refl _) (leT_nil)))))
    simp
  · refine leL_nil
  intro i hi
  conv => whnf
  refine bsp_intro ?_ ?_
  · intro h
    have hlt : i < l.length := by simpa using h
    conv => whnf
    refine ⟨_, by omega, rows_get hlt, ?_⟩
    conv => whnf
    refine ⟨_, _, _, ofH_row, rfl, ?_⟩
    conv => whnf
    refine ⟨_, _, ofH_map, ?_⟩
    conv => whnf
    refine ⟨i + 1, by dsimp only; omega, by dsimp only; omega, rfl, ?_, ?_, .of (ofH_succ ?_)⟩
    · refine leT_cons (Wk.refl _) (leT_cons (Wk.refl _) (leT_cons (Wk.refl _) (leT_cons (Wk.refl _) (leT_cons (Wk.int ?_) (leT_nil)))))
      exact IntWalk.i64_in _ (by omega)
    · refine leL_nil
    · rw [lkOf_snoc hlt]
      unfold putE
      rw [if_neg (lkOf_fresh hn hlt)]
      simp only [lkE, List.map_append, List.map_cons, List.map_nil]
      rfl
  · intro h
    have hge : l.length ≤ i := by simpa using h
    conv => whnf
    refine ⟨?_, ofH_end hge⟩
    rw [AH.push_len]
    rfl
end Go.Proofs.Ytecpiplfjmmccaa.AM

/-
  Coord: Begin, Starts, Last, walked.
  Conditions: none.
-/
namespace Go.Proofs.Ytecpiplfjmmccaa.AM
open Go
set_option maxRecDepth 20000

theorem rightF_ok : ∀ {l : List Int} {last : Int}, rightF last l = true → (∀ n ∈ l, last < n ∧ n < 6) ∧ l.Nodup ∧ (last ≤ 5 → (l.length : Int) ≤ 5 - last)
  | [], last, _ => ⟨fun _ h => (by cases h), .nil, fun h => by simp; omega⟩
  | n :: l, last, h => by
    unfold rightF at h
    split at h
    · cases h
    · rename_i hn
      obtain ⟨h1, h2, h3⟩ := rightF_ok h
      refine ⟨fun m hm => ?_, List.nodup_cons.2 ⟨fun hm => ?_, h2⟩, fun _ => ?_⟩
      · rcases List.mem_cons.1 hm with rfl | hm
        · omega
        · have := h1 m hm; omega
      · have := h1 n hm; omega
      · have := h3 (by omega)
        rw [List.length_cons]; omega

theorem Co.In.rowed {c c' : Co} {H : AH} (h : c.In H) (e1 : c'.id = c.id) (e2 : c'.idm = c.idm) (e3 : c'.l = c.l) (hr : 0 ≤ c'.starts ∧ c'.starts ≤ 1000 ∧ 0 ≤ c'.begun ∧ c'.begun ≤ 900) :
    c'.In (H.upd c.id (.rows 6 [c'.row])) ∧ Fr H (H.upd c.id (.rows 6 [c'.row])) := by
  have hm : c.id ≠ c.idm := fun e => by have := h.row; rw [e, h.map] at this; cases this
  refine ⟨⟨?_, ?_, fun b hb => ?_, by rw [e3]; exact h.keys, by rw [e3]; exact h.ids, by rw [e3]; exact h.idls, by rw [e3]; exact h.krng, hr⟩, Fr.upd h.row fun a => ?_⟩
  · rw [e1]; exact AH.upd_same h.row
  · rw [e2, AH.upd_other hm, h.map, e3]
  · rw [e3] at hb
    have := h.bts b hb
    exact ⟨by rw [AH.upd_other (h.ne_row hb).symm]; exact this.row, by rw [AH.upd_other (h.ne_lrow hb).symm]; exact this.lks, this.nod⟩
  · exact a.2 ⟨_, _, rfl, rfl⟩

/-- One more. -/
theorem Co.In.more {c : Co} {H : AH} (h : c.In H) {b : Bt} (hk : ∀ x ∈ c.l, x.key ≠ b.key) (hi : b.id = H.blks.length + 1) (hl : b.idl = H.blks.length) (hn : (b.lk.map (·.1)).Nodup) (hkr : 0 ≤ b.key ∧ b.key ≤ 4294967295) {H2 : AH} (hH : H2 = (H.push (.map .i64 (lkE b.lk) none)).push (.rows 5 [b.row])) :
    ({ c with l := c.l ++ [b] }).In (H2.upd c.idm (.map .u32 (c.l.map Bt.ent ++ [b.ent]) none)) ∧ Fr H (H2.upd c.idm (.map .u32 (c.l.map Bt.ent ++ [b.ent]) none)) := by
  have hg : Grow H H2 := by rw [hH]; exact Grow.push.trans Grow.push
  have hf : Fr H H2 := by rw [hH]; exact Fr.push.trans Fr.push
  have h2 := h.grow hg
  have hlt : ∀ {i B}, H.blks[i]? = some B → i < H.blks.length := fun e => (List.getElem?_eq_some_iff.1 e).1
  have hm : c.idm < H.blks.length := hlt h.map
  refine ⟨⟨?_, ?_, fun x hx => ?_, ?_, ?_, ?_, fun x hx => ?_, h.rng⟩, hf.trans (Fr.upd h2.map fun a => a)⟩
  · have hne : c.idm ≠ c.id := fun e => by have := h.row; rw [← e, h.map] at this; cases this
    rw [show ({ c with l := c.l ++ [b] } : Co).id = c.id from rfl, AH.upd_other hne]; exact h2.row
  · rw [show ({ c with l := c.l ++ [b] } : Co).idm = c.idm from rfl, AH.upd_same h2.map]
    simp
  · have hx' : x ∈ c.l ∨ x = b := by
      rcases List.mem_append.1 hx with hx | hx
      · exact .inl hx
      · exact .inr (List.mem_singleton.1 hx)
    rcases hx' with hx | rfl
    · have := h2.bts x hx
      exact ⟨by rw [AH.upd_other (h2.ne_map hx).symm]; exact this.row, by rw [AH.upd_other (h2.ne_lmap hx).symm]; exact this.lks, this.nod⟩
    · refine ⟨?_, ?_, hn⟩
      · rw [AH.upd_other (by omega), hH, hi, ← AH.push_len (B := .map .i64 (lkE x.lk) none), AH.push_new]
      · rw [AH.upd_other (by omega), hH, hl, AH.push_old (by rw [AH.push_len]; omega), AH.push_new]
  · rw [show ({ c with l := c.l ++ [b] } : Co).l = c.l ++ [b] from rfl, List.map_append, List.nodup_append]
    refine ⟨h.keys, by simp, fun a ha a' ha' => ?_⟩
    obtain ⟨x, hx, rfl⟩ := List.mem_map.1 ha
    rw [List.map_cons, List.map_nil, List.mem_singleton] at ha'
    rw [ha']; exact hk x hx
  · rw [show ({ c with l := c.l ++ [b] } : Co).l = c.l ++ [b] from rfl, List.map_append, List.nodup_append]
    refine ⟨h.ids, by simp, fun a ha a' ha' => ?_⟩
    obtain ⟨x, hx, rfl⟩ := List.mem_map.1 ha
    rw [List.map_cons, List.map_nil, List.mem_singleton] at ha'
    have := hlt (h.bts x hx).row
    omega
  · rw [show ({ c with l := c.l ++ [b] } : Co).l = c.l ++ [b] from rfl, List.map_append, List.nodup_append]
    refine ⟨h.idls, by simp, fun a ha a' ha' => ?_⟩
    obtain ⟨x, hx, rfl⟩ := List.mem_map.1 ha
    rw [List.map_cons, List.map_nil, List.mem_singleton] at ha'
    have := hlt (h.bts x hx).lks
    omega
  · rcases List.mem_append.1 hx with hx | hx
    · exact h.krng x hx
    · rw [List.mem_singleton.1 hx]; exact hkr

theorem u32_in {n : Int} (h : 0 ≤ n) (h2 : n < 4294967296) : IntKind.u32.wrap n = n := IntWalk.u32_in n ⟨h, by omega⟩

def BeginP (c : Co) (l : List Int) (H : AH) (r : AV) (H' : AH) : Prop :=
  (rightF (-1) l = false ∧ r = .tup [.int .u32 0, .int .u16 1] ∧ H' = H) ∨
  (rightF (-1) l = true ∧ 900 ≤ c.begun ∧ r = .tup [.int .u32 0, .int .u16 3] ∧ H' = H) ∨
  (rightF (-1) l = true ∧ c.begun < 900 ∧ (∃ b ∈ c.l, b.key = c.starts * 1000 + (c.begun + 1)) ∧ r = .tup [.int .u32 0, .int .u16 140] ∧ ({ c with begun := c.begun + 1 }).In H' ∧ Fr H H') ∨
  (rightF (-1) l = true ∧ c.begun < 900 ∧ (∀ b ∈ c.l, b.key ≠ c.starts * 1000 + (c.begun + 1)) ∧ r = .tup [.int .u32 (c.starts * 1000 + (c.begun + 1)), .int .u16 0] ∧
    (∃ id idl, ({ c with begun := c.begun + 1, l := c.l ++ [ofB id idl (c.starts * 1000 + (c.begun + 1)) 1 0 l] }).In H') ∧ Fr H H')
theorem begin_ok {c : Co} {H : AH} (h : c.In H) (l : List Int) : AC Try.prog 18 [.ptr c.id 0 0, intS l] H fun r H' => BeginP c l H r H' := by
  refine AC.of_vc (md := fun | 1000000 => 1 | 2000056 => 2 | _ => 0) (qt := fun f => Nat.beq f 55) ty_ok mix Try.func18 (by kernel_rfl) rfl (by kernel_rfl) ?_
  obtain ⟨r1, r2, r3, r4⟩ := h.rng
  conv => whnf
  refine (right_ok l).quiet (Wss.refl _) ?_
  rintro r rfl
  conv => whnf
  refine bsp_intro ?_ ?_
  · intro hR
    conv => whnf
    exact .inl ⟨by simpa using hR, rfl, rfl⟩
  intro hR
  have hR : rightF (-1) l = true := by simpa using hR
  obtain ⟨_, hn, hl⟩ := rightF_ok hR
  have hl := hl (by omega)
  conv => whnf
  refine ⟨_, _, _, h.row, rfl, ?_⟩
  conv => whnf
  refine bsp_intro ?_ ?_
  · intro hb
    have hb := of_decide_eq_true hb
    conv => whnf
    exact .inr (.inl ⟨hR, hb, rfl, rfl⟩)
  intro hb
  have hb := of_decide_eq_false hb
  have hb : c.begun < 900 := Int.not_le.1 hb
  conv => whnf
  refine ⟨_, _, _, h.row, rfl, ?_⟩
  conv => whnf
  refine ⟨_, _, _, h.row, rfl, ?_⟩
  rw [u32_in (by omega) (by omega)]
  obtain ⟨hi, hf⟩ := h.rowed (c' := { c with begun := c.begun + 1 }) rfl rfl rfl ⟨by dsimp only; omega, by dsimp only; omega, by dsimp only; omega, by dsimp only; omega⟩
  conv => whnf
  refine DrawVC.go [0, 1, 2, 3, 4, 5, 6, 7, 8, 9, 10] (by kernel_rfl) ?_
  conv => whnf
  refine ⟨_, _, _, hi.row, rfl, ?_⟩
  conv => whnf
  refine ⟨_, _, _, hi.row, rfl, ?_⟩
  rw [u32_in (n := c.starts * 1000) (by omega) (by omega)]
  conv => whnf
  rw [u32_in (n := c.starts * 1000 + (c.begun + 1)) (by omega) (by omega)]
  refine ⟨_, _, _, hi.row, rfl, ?_⟩
  conv => whnf
  rcases ({ c with begun := c.begun + 1 } : Co).find (c.starts * 1000 + (c.begun + 1)) with ⟨b, hb', hk, hlk⟩ | ⟨hno, hlk⟩
  · refine ⟨_, _, _, hi.map, hlk, ?_⟩
    conv => whnf
    exact .inr (.inr (.inl ⟨hR, hb, ⟨b, hb', hk⟩, rfl, hi, hf⟩))
  refine ⟨_, _, _, hi.map, hlk, ?_⟩
  conv => whnf
  refine DrawVC.go [0, 1, 2, 3, 4, 5, 6, 7, 8] (by kernel_rfl) ?_
  conv => whnf
  refine ⟨_, _, _, hi.row, rfl, ?_⟩
  conv => whnf
  refine ⟨(of_ok 1 0 l hn (by omega) _).mono ?_⟩
  rintro r H2 ⟨rfl, hH2⟩
  refine ⟨by rw [hH2]; exact Grow.push.trans Grow.push, ?_⟩
  obtain ⟨hm1, hm2⟩ := hi.more (b := ofB _ _ (c.starts * 1000 + (c.begun + 1)) 1 0 l) hno rfl rfl (by rw [show (ofB _ _ (c.starts * 1000 + (c.begun + 1)) 1 0 l).lk = lkOf l from rfl, lkOf_keys]; exact hn) ⟨by show 0 ≤ c.starts * 1000 + (c.begun + 1); omega, by show c.starts * 1000 + (c.begun + 1) ≤ 4294967295; omega⟩ hH2
  have h2 := hi.grow (H' := H2) (by rw [hH2]; exact Grow.push.trans Grow.push)
  conv => whnf
  refine ⟨_, _, h2.map, ?_⟩
  rw [putE_none (es := ({ c with begun := c.begun + 1 } : Co).l.map Bt.ent) (fun p hp => by obtain ⟨b, hb', rfl⟩ := List.mem_map.1 hp; exact hno b hb')]
  conv => whnf
  exact .inr (.inr (.inr ⟨hR, hb, hno, rfl, ⟨_, _, hm1⟩, hf.trans hm2⟩))
end Go.Proofs.Ytecpiplfjmmccaa.AM

/-
  A tracked map as the base's laws tell of it; what a call that turns nothing leaves.
  No program in sight. Conditions: none.
-/
namespace Go.Proofs.Ytecpiplfjmmccaa.AM
open Go Go.RowKit

/-- What a call leaves that turns nothing that was there; a new block never turns again. -/
theorem of_below {G : Gh} {w w' : World} {H : AH} (hH : HSim G w H) (hb : Below w.heap.size w w') (g m : Nat) (h1 : w.heap.size ≤ g) (h2 : g < w'.heap.size) : Le G w (G.frz g m) w' ∧ Ext G H w (G.frz g m) H w' ∧ HSim (G.frz g m) w' H := by
  have hne : ∀ k, k < w.heap.size → (G.frz g m).imm k = G.imm k := fun k hk => by unfold Gh.frz; dsimp only; rw [if_neg (by omega)]
  have hle : Le G w (G.frz g m) w' := by
    refine ⟨fun _ _ e => e, fun k => ?_, fun _ _ e => e, fun b o ho => cell_of_heap (hb.block b (hH.imm_lt (by omega))), fun b s hs => ?_⟩
    · unfold Gh.frz; dsimp only
      split
      · rename_i e; have := (hH.new k (by omega)).1; omega
      · exact Nat.le_refl _
    · rw [← hs]; exact shape_of_heap (hb.block b (lt_of_shape hs))
  refine ⟨hle, { os := hb.os, tape := hb.tape, output := hb.output, size := hb.size, block := fun b h _ => ⟨hb.block b h, hne b h, rfl⟩, mb := fun _ _ _ e => .inl ⟨_, e⟩, muts := fun _ _ h => h },
    { at_ := fun id B h1 h2 => ?_, inj := hH.inj, ids := hH.ids, chain := fun c z n hc => ?_, chains := hH.chains, new := fun k hk => ?_ }⟩
  · rcases hH.at_ id B h1 h2 with ⟨b, z, g1, g2, g3, g4⟩ | g1
    · have hlt := hH.mb_lt g1
      exact .inl ⟨b, z, g1, g2.heap hle (hb.block b hlt), by rw [hne b hlt]; exact g3, g4⟩
    · exact .inr g1
  · obtain ⟨g1, g2⟩ := hH.chain c z n hc
    refine ⟨g1, fun hn => ?_⟩
    obtain ⟨b, us, e', g3, g4, g5, g6⟩ := g2 hn
    exact ⟨b, us, e', g3, by rw [hne b (hH.own_lt g3)]; exact g4, (hb.block b (hH.own_lt g3)).trans g5, fun b' hb' hn' => by rw [hne b' (hH.own_lt hb')]; exact g6 b' hb' hn'⟩
  · have := hb.size
    obtain ⟨g1, g2, g3⟩ := hH.new k (by omega)
    refine ⟨?_, g2, g3⟩
    unfold Gh.frz; dsimp only
    rw [if_neg (by omega)]; exact g1
theorem of_below0 {G : Gh} {w w' : World} {H : AH} (hH : HSim G w H) (hb : Below w.heap.size w w') : Le G w G w' ∧ Ext G H w G H w' ∧ HSim G w' H := by
  have hle : Le G w G w' := Le.of_agree (fun b h => hb.block b (hH.imm_lt h)) (fun b s hs => by rw [← hs]; exact shape_of_heap (hb.block b (lt_of_shape hs)))
  refine ⟨hle, { os := hb.os, tape := hb.tape, output := hb.output, size := hb.size, block := fun b h _ => ⟨hb.block b h, rfl, rfl⟩, mb := fun _ _ _ e => .inl ⟨_, e⟩, muts := fun _ _ h => h }, hH.same hle hb.size (fun b h => ?_)⟩
  rcases h with ⟨id, z, _, h⟩ | ⟨c, h⟩
  · exact hb.block b (hH.mb_lt h)
  · exact hb.block b (hH.own_lt h)

/-- An element, whatever it is. -/
def anyR (_ : Value) : Option (DataW Nat × List MemPlace) := some (.nil, [])
/-- The keys of a map, as the base's laws read them. -/
theorem map_owns {P : Program} {G : Gh} {w : World} {b : Nat} {q : IntKind} {es : List (Int × AV)} {pd : Option (Int × Nat)} {en : Array MapEntry} {clock : Nat} (h : MapAt G w b q es pd en clock) {k : TypeId} (hk : P.underlying k = some (.int q)) (hw : ∀ p ∈ es, (Lit.int q p.1).wf = true) (hl : es.length ≤ maxLen) :
    ∃ D : List (Lit × DataW Nat), w.ownsMap P k anyR b es.length (.map D) ∧ D.length = es.length ∧ (D.map (·.1)).Perm (es.map fun p => .int q p.1) := by
  have hrd : ∀ x ∈ en.toList, ∃ p ∈ es, WideElems.rd (H := Nat) P k anyR x = some (.int q p.1, .nil) ∧ x.key = .int q p.1 := by
    intro x hx
    obtain ⟨i, hi⟩ := Array.mem_iff_getElem?.1 (Array.mem_toList_iff.1 hx)
    obtain ⟨n, y, h1, _, h2, _⟩ := h.get hi
    have hm := List.mem_of_getElem? h1
    refine ⟨_, hm, ?_, h2⟩
    unfold WideElems.rd anyR
    rw [h2, Maps.keyOf_int_mk hk (hw _ hm)]
    rfl
  refine ⟨_, ⟨en, clock, h.1, ⟨by rw [h.2.2.1]; exact hl, h.2.1, fun x hx => by obtain ⟨p, _, h1, _⟩ := hrd x hx; exact ⟨_, h1⟩⟩, by rw [h.2.2.1]; exact Nat.le_refl _, rfl⟩, ?_, ?_⟩
  · rw [length_sorted, List.length_map, Array.length_toList, h.2.2.1]
  · refine ((WideShapes.sorted_perm _).map _).trans ?_
    have : (en.toList.map (WideElems.rg (H := Nat) P k anyR)).map (·.1) = es.map fun p => .int q p.1 := by
      apply List.ext_getElem?
      intro i
      rw [List.getElem?_map, List.getElem?_map, List.getElem?_map, Array.getElem?_toList]
      cases he : en[i]? with
      | none =>
        have h1 := Array.getElem?_eq_none_iff.1 he
        rw [List.getElem?_eq_none (by rw [← h.2.2.1]; exact h1)]; rfl
      | some x =>
        obtain ⟨n, y, h1, _, h2, _⟩ := h.get he
        rw [h1]
        simp only [Option.map_some, Option.some.injEq]
        unfold WideElems.rg WideElems.rd anyR
        rw [h2, Maps.keyOf_int_mk hk (hw _ (List.mem_of_getElem? h1))]
        rfl
    rw [this]

/-- A slice of numbers that a call has made: its rows. -/
theorem owns_rep {G : Gh} {w w' : World} {H : AH} (hH : HSim G w H) (hb : Below w.heap.size w w') {e : TypeId} {v : Value} {q : IntKind} {l : List Int} (h : w'.ownsRow w.heap.size e 1 v l.length (l.map fun n => .int q n)) (hl : v = .slice none 0 0 ↔ l = []) :
    ∃ G', Le G w G' w' ∧ Ext G H w G' H w' ∧ HSim G' w' H ∧ ((l = [] ∧ Rep G' w' .nils v) ∨ Rep G' w' (.sl 1 (l.map fun n => [.int q n]) none) v) := by
  obtain ⟨h1, h2⟩ := h
  rcases h2 with ⟨rfl, h0⟩ | ⟨g, cap, cur, rfl, h3, h4, h5, h6, h7, h8⟩
  · obtain ⟨q1, q2, q3⟩ := of_below0 hH hb
    exact ⟨G, q1, q2, q3, .inl ⟨List.eq_nil_of_length_eq_zero h0, .nils⟩⟩
  · have hg : g < w'.heap.size := lt_of_heap h4
    obtain ⟨q1, q2, q3⟩ := of_below hH hb g (l.length * 1) h3 hg
    refine ⟨_, q1, q2, q3, .inr ?_⟩
    have hlen : (l.map fun n => [AV.int q n]).length = l.length := by simp
    have hc : ∀ i j x, cellAt (l.map fun n => [AV.int q n]) i j = some x → j = 0 ∧ ∃ n, l[i]? = some n ∧ x = .int q n := by
      intro i j x hx
      obtain ⟨r, hr, hx⟩ := cellAt_some hx
      rw [List.getElem?_map] at hr
      obtain ⟨n, hn, rfl⟩ := Option.map_eq_some_iff.1 hr
      have hj : j = 0 := by
        have := (List.getElem?_eq_some_iff.1 hx).1
        simp at this; omega
      subst hj
      simp only [List.getElem?_cons_zero, Option.some.injEq] at hx
      exact ⟨rfl, n, hn, hx.symm⟩
    rw [show l.length = (l.map fun n => [AV.int q n]).length from hlen.symm]
    refine .sl 1 _ none _ cap g 0 (fun i _ => .int q (l[i]?.getD 0)) (by omega) (by rw [hlen]; exact h5) h6 (fun r hr => by obtain ⟨n, _, rfl⟩ := List.mem_map.1 hr; rfl) (.inr ⟨rfl, by simp [Gh.frz], fun t e => nomatch e⟩) (fun i j x hx => ?_) (fun i j x hx => ?_) (fun i j x hx => ?_)
    · obtain ⟨rfl, n, hn, rfl⟩ := hc i j x hx
      have hi := (List.getElem?_eq_some_iff.1 hn).1
      have hcur : cur.toList[i]? = some (.int q n) := by
        have : (cur.toList.take (l.length * 1))[i]? = some (.int q n) := by rw [h8, List.getElem?_map, hn]; rfl
        rw [List.getElem?_take] at this
        split at this
        · exact this
        · cases this
      rw [Nat.zero_add, Nat.mul_one, Nat.add_zero]
      unfold World.cell?
      rw [h4]
      simp only [Option.isSome_none, Bool.false_eq_true, if_false]
      rw [← Array.getElem?_toList, hcur, hn]; rfl
    · obtain ⟨rfl, n, hn, rfl⟩ := hc i j x hx; rfl
    · obtain ⟨rfl, n, hn, rfl⟩ := hc i j x hx
      rw [hn]; exact .int _ _
end Go.Proofs.Ytecpiplfjmmccaa.AM
