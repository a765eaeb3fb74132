/-
  Spans: glued (slices.CompactFunc, in its place), walked.
  Conditions: none.
-/
import Derived.Test.YtecpiplfjmmccaaSpP
import Derived.Test.YtecpiplfjmmccaaAmKeys
namespace Go.Proofs.Ytecpiplfjmmccaa.AM
open Go
set_option maxRecDepth 20000

/-- Those of the first i spans that are not of the node of the one ahead. -/
def glueTo (l : List Sp) : Nat → List Sp
  | 0 => []
  | i + 1 => if i = 0 ∨ (l[i]?).map (·.2) ≠ (l[i - 1]?).map (·.2) then glueTo l i ++ (l[i]?).toList else glueTo l i
def glue (l : List Sp) : List Sp := glueTo l l.length
theorem glueTo_one {l : List Sp} (h : 0 < l.length) : glueTo l 1 = l.take 1 := by
  cases l with
  | nil => simp at h
  | cons s l => simp [glueTo]
theorem glueTo_keep {l : List Sp} {i : Nat} (h : i < l.length) (h0 : 0 < i) (hne : l[i].2 ≠ l[i - 1].2) : glueTo l (i + 1) = glueTo l i ++ [l[i]] := by
  have h1 : i - 1 < l.length := by omega
  simp only [glueTo, List.getElem?_eq_getElem h, List.getElem?_eq_getElem h1, Option.map_some]
  rw [if_pos (.inr (by simpa using hne))]; rfl
theorem glueTo_skip {l : List Sp} {i : Nat} (h : i < l.length) (h0 : 0 < i) (he : l[i].2 = l[i - 1].2) : glueTo l (i + 1) = glueTo l i := by
  have h1 : i - 1 < l.length := by omega
  simp only [glueTo, List.getElem?_eq_getElem h, List.getElem?_eq_getElem h1, Option.map_some]
  rw [if_neg]
  rintro (h | h)
  · omega
  · exact h (by rw [he])
theorem glueTo_len (l : List Sp) : ∀ i, (glueTo l i).length ≤ i
  | 0 => by simp [glueTo]
  | i + 1 => by
    have := glueTo_len l i
    simp only [glueTo]
    split
    · rw [List.length_append]
      have : ((l[i]?).toList).length ≤ 1 := by cases l[i]? <;> simp
      omega
    · omega

theorem take_set_snoc {α : Type} {R : List α} {m : Nat} {x : α} (h : m < R.length) : (R.set m x).take (m + 1) = R.take m ++ [x] := by
  rw [take_snoc (by simpa using h)]
  congr 1
  · rw [List.take_set_of_le (Nat.le_refl _)]
  · simp
theorem upd_self {H : AH} {id : Nat} {B : ABlk} (h : H.blks[id]? = some B) : H.upd id B = H := by
  unfold AH.upd
  rw [set_self _ _ _ h]
theorem upd_upd {H : AH} {id : Nat} {B B' : ABlk} : (H.upd id B).upd id B' = H.upd id B' := by simp [AH.upd]
theorem spRows_get {l : List Sp} {i : Nat} (h : i < l.length) : (l.map spR)[0 + i]? = some (spR l[i]) := by rw [Nat.zero_add]; simp [h]

theorem f81_ok (H : AH) (id : Nat) (l : List Sp) (hl : H.blks[id]? = some (.rows 2 (l.map spR))) (hb : l.length ≤ 1000000000000) :
    AC Try.prog 81 [.ms 2 id 0 l.length, .fn 82 [] []] H fun r H' => r = .ms 2 id 0 (glue l).length ∧ H' = H.upd id (.rows 2 ((glue l).map spR)) := by
  refine AC.of_vc (md := fun | 1000000 => 1 | _ => 0) (qt := fun _ => true) ty_ok mix Try.func81 (by kernel_rfl) rfl (by kernel_rfl) ?_
  conv => whnf
  refine bsp_intro ?_ ?_
  · intro h
    have h : l.length < 2 := by have := of_decide_eq_true h; omega
    have hg : glue l = l := by
      unfold glue
      match l, h with
      | [], _ => rfl
      | [s], _ => rfl
    conv => whnf
    rw [hg, upd_self hl]
    exact ⟨rfl, rfl⟩
  intro h
  have h2 : 2 ≤ l.length := by have := of_decide_eq_false h; omega
  conv => whnf
  refine ⟨Nat, fun k => ⟨66, [(0, .ms 2 id 0 l.length), (1, .fn 82 [] []), (5, .int .i64 k)], [], H⟩, fun k => 1 ≤ k ∧ k ≤ l.length ∧ glueTo l k = l.take k, fun k => l.length - k, ⟨1, ⟨by omega, by omega, glueTo_one (by omega)⟩, rfl, ?_, ?_, .refl _⟩, ?_⟩
  · refine leT_cons (Wk.refl _) (leT_cons (Wk.refl _) (leT_cons (Wk.refl _) (leT_nil)))
  · refine leL_nil
  rintro k ⟨hk1, hk2, hk3⟩
  conv => whnf
  refine bsp_intro ?_ ?_
  · intro h
    have hlt : k < l.length := by have := of_decide_eq_true h; omega
    have hlt' : k - 1 < l.length := by omega
    have e1 : IntKind.i64.wrap ((k : Int) - 1) = ((k - 1 : Nat) : Int) := by rw [IntWalk.i64_in _ (by omega)]; omega
    conv => whnf
    refine DrawVC.go [0, 1, 2, 3, 4, 5, 6, 7, 8, 9, 10] (by kernel_rfl) ?_
    conv => whnf
    refine ⟨k, rfl, hlt, ?_⟩
    conv => whnf
    refine ⟨_, _, _, hl, spRows_get hlt, ?_⟩
    conv => whnf
    rw [e1]
    refine ⟨k - 1, rfl, hlt', ?_⟩
    conv => whnf
    refine ⟨_, _, _, hl, spRows_get hlt', ?_⟩
    conv => whnf
    refine ⟨((f82_ok l[k] l[k - 1]).ac (Wss.refl _) H).mono ?_⟩
    rintro r H' ⟨hH, rfl⟩
    rw [hH]
    clear hH H'
    conv => whnf
    refine bsp_intro ?_ ?_
    · intro heq
      have heq : l[k].2 = l[k - 1].2 := by simpa using heq
      conv => whnf
      refine ⟨k, l.length, rfl, rfl, by omega, Nat.le_refl _, ?_⟩
      conv => whnf
      refine ⟨Nat × List Sp, fun p => ⟨66, [(0, .ms 2 id 0 l.length), (1, .fn 82 [] []), (5, .int .i64 ((glueTo l (k + p.1)).length : Nat)), (6, .ms 2 id (0 + k) (l.length - k)), (7, .int .i64 p.1)], [], H.upd id (.rows 2 (p.2.map spR))⟩,
        fun p => 1 ≤ p.1 ∧ k + p.1 ≤ l.length ∧ p.2.length = l.length ∧ p.2.take (glueTo l (k + p.1)).length = glueTo l (k + p.1) ∧ (∀ j (h : j < l.length) (h' : j < p.2.length), k + p.1 - 1 ≤ j → p.2[j] = l[j]) ∧ (glueTo l (k + p.1)).length < k + p.1, fun p => l.length - p.1,
        ⟨(1, l), ⟨by omega, by dsimp only; omega, rfl, ?_, fun j h h' _ => rfl, ?_⟩, rfl, ?_, ?_, .of (upd_self hl).symm⟩, ?_⟩
      · dsimp only
        rw [glueTo_skip hlt (by omega) heq, hk3]
        simp <;> omega
      · dsimp only
        rw [glueTo_skip hlt (by omega) heq, hk3]
        simp <;> omega
      · refine leT_cons (Wk.refl _) (leT_cons (Wk.refl _) (leT_cons (Wk.int ?_) (leT_cons (Wk.refl _) (leT_cons (Wk.refl _) (leT_nil)))))
        dsimp only
        rw [glueTo_skip hlt (by omega) heq, hk3]
        simp <;> omega
      · refine leL_nil
      rintro ⟨k2, R⟩ ⟨g1, g2, g3, g4, g5, g6⟩
      dsimp only at g1 g2 g3 g4 g5 g6
      conv => whnf
      refine bsp_intro ?_ ?_
      · intro h
        have hk2 : k2 < l.length - k := by have := of_decide_eq_true h; omega
        have hR1 : k + k2 < R.length := by omega
        have hR2 : k + (k2 - 1) < R.length := by omega
        have e2 : IntKind.i64.wrap ((k2 : Int) - 1) = ((k2 - 1 : Nat) : Int) := by rw [IntWalk.i64_in _ (by omega)]; omega
        have hHR : (H.upd id (.rows 2 (R.map spR))).blks[id]? = some (.rows 2 (R.map spR)) := AH.upd_same hl
        have row : ∀ {j : Nat} (h : k + j < R.length), (R.map spR)[0 + k + j]? = some (spR R[k + j]) := fun {j} h => by rw [Nat.zero_add]; simp [h]
        have r1 : R[k + k2] = l[k + k2] := g5 _ (by omega) _ (by omega)
        have r2 : R[k + (k2 - 1)] = l[k + k2 - 1] := by
          have := g5 (k + (k2 - 1)) (by omega) hR2 (by omega)
          rw [this]
          congr 1; omega
        conv => whnf
        refine DrawVC.go [0, 1, 2, 3, 4, 5, 6, 7, 8, 9, 10, 11] (by kernel_rfl) ?_
        conv => whnf
        refine ⟨k2, rfl, hk2, ?_⟩
        conv => whnf
        refine ⟨_, _, _, hHR, row hR1, ?_⟩
        conv => whnf
        rw [e2]
        refine ⟨k2 - 1, rfl, by omega, ?_⟩
        conv => whnf
        refine ⟨_, _, _, hHR, row hR2, ?_⟩
        conv => whnf
        refine ⟨((f82_ok R[k + k2] R[k + (k2 - 1)]).ac (Wss.refl _) _).mono ?_⟩
        rintro r H' ⟨hH, rfl⟩
        rw [hH]
        clear hH H'
        conv => whnf
        refine bsp_intro ?_ ?_
        · intro hne
          have hne : l[k + k2].2 ≠ l[k + k2 - 1].2 := by rw [← r1, ← r2]; simpa using hne
          have hkeep := glueTo_keep (l := l) (i := k + k2) (by omega) (by omega) hne
          conv => whnf
          refine ⟨k2, rfl, hk2, ?_⟩
          conv => whnf
          refine ⟨_, _, _, hHR, row hR1, ?_⟩
          conv => whnf
          refine ⟨_, rfl, (by dsimp only; omega), ?_⟩
          have hw : (R.map spR)[0 + (glueTo l (k + k2)).length]? = some (spR (R[(glueTo l (k + k2)).length]'(by omega))) := by rw [Nat.zero_add, List.getElem?_map, List.getElem?_eq_getElem (by omega)]; rfl
          conv => whnf
          refine ⟨_, _, _, hHR, hw, ?_⟩
          conv => whnf
          have hm : (glueTo l (k + k2)).length < R.length := by omega
          have hge : glueTo l (k + (k2 + 1)) = glueTo l (k + k2) ++ [l[k + k2]] := hkeep
          refine ⟨(k2 + 1, R.set (glueTo l (k + k2)).length R[k + k2]), ⟨by omega, by dsimp only; omega, by simp [g3], ?_, fun j h h' hj => ?_, ?_⟩, by dsimp only; omega, rfl, ?_, ?_, .of ?_⟩
          · dsimp only
            rw [hge, List.length_append, List.length_singleton, take_set_snoc hm, g4, r1]
          · dsimp only at h' hj ⊢
            rw [List.getElem_set_ne (by omega)]
            exact g5 j h (by omega) (by omega)
          · dsimp only
            rw [hge]; simp; omega
          · refine leT_cons (Wk.refl _) (leT_cons (Wk.refl _) (leT_cons (Wk.int ?_) (leT_cons (Wk.refl _) (leT_cons (Wk.int ?_) (leT_nil)))))
            · dsimp only
              rw [hge, List.length_append, List.length_singleton, IntWalk.i64_in _ (by omega)]; omega
            · dsimp only
              rw [IntWalk.i64_in _ (by omega)]; omega
          · refine leL_nil
          · dsimp only
            simp only [upd_upd, List.map_set, Nat.zero_add]
            rfl
        · intro he
          have he : l[k + k2].2 = l[k + k2 - 1].2 := by rw [← r1, ← r2]; simpa using he
          have hskip := glueTo_skip (l := l) (i := k + k2) (by omega) (by omega) he
          conv => whnf
          have hge : glueTo l (k + (k2 + 1)) = glueTo l (k + k2) := hskip
          refine ⟨(k2 + 1, R), ⟨by omega, by dsimp only; omega, g3, by dsimp only; rw [hge]; exact g4, fun j h h' hj => ?_, by dsimp only; rw [hge]; omega⟩, by dsimp only; omega, rfl, ?_, ?_, .refl _⟩
          · dsimp only at h' hj ⊢
            exact g5 j h (by omega) (by omega)
          · refine leT_cons (Wk.refl _) (leT_cons (Wk.refl _) (leT_cons (Wk.int ?_) (leT_cons (Wk.refl _) (leT_cons (Wk.int ?_) (leT_nil)))))
            · dsimp only
              rw [hge]
            · dsimp only
              rw [IntWalk.i64_in _ (by omega)]; omega
          · refine leL_nil
      · intro h
        have hk2 : ¬ k2 < l.length - k := by have := of_decide_eq_false h; omega
        have hkk : k + k2 = l.length := by omega
        have hHR : (H.upd id (.rows 2 (R.map spR))).blks[id]? = some (.rows 2 (R.map spR)) := AH.upd_same hl
        have hgl : glueTo l (k + k2) = glue l := by rw [hkk]; rfl
        rw [hgl] at g4 g6
        conv => whnf
        refine ⟨(glue l).length, l.length, (by dsimp only; rw [hgl]), rfl, by omega, Nat.le_refl _, ?_⟩
        conv => whnf
        refine ⟨_, hHR, ?_⟩
        conv => whnf
        refine ⟨0, (glue l).length, rfl, (by dsimp only; rw [hgl]), by omega, by omega, ?_⟩
        conv => whnf
        refine ⟨rfl, ?_⟩
        simp only [upd_upd, Nat.zero_add, ← List.map_take, g4]
    · intro hne
      have hne : l[k].2 ≠ l[k - 1].2 := by simpa using hne
      have hkeep := glueTo_keep hlt (by omega) hne
      conv => whnf
      refine ⟨k + 1, ⟨by omega, by omega, by rw [hkeep, hk3, take_snoc hlt]⟩, by dsimp only; omega, rfl, ?_, ?_, .refl _⟩
      · refine leT_cons (Wk.refl _) (leT_cons (Wk.refl _) (leT_cons (Wk.int ?_) (leT_nil)))
        rw [IntWalk.i64_in _ (by omega)]; rfl
      · refine leL_nil
  · intro h
    have hge : k = l.length := by have := of_decide_eq_false h; omega
    conv => whnf
    have hg : glue l = l := by unfold glue; rw [← hge, hk3, hge]; simp
    rw [hg, upd_self hl]
    exact ⟨rfl, rfl⟩
end Go.Proofs.Ytecpiplfjmmccaa.AM
