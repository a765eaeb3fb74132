/-
  Spans: the arguments' kinds, typed.
  Conditions: none.
-/
import Derived.Test.YtecpiplfjmmccaaAmRow
import Derived.Test.YtecpiplfjmmccaaSpO
import Derived.Test.YtecpiplfjmmccaaSpK
namespace Go.Proofs.Ytecpiplfjmmccaa.AM
open Go

theorem choose_list {α : Type} {f : α → List AV} {p : α → Prop} : ∀ {rows : List (List AV)}, (∀ r ∈ rows, ∃ a, r = f a ∧ p a) → ∃ l : List α, rows = l.map f ∧ ∀ a ∈ l, p a
  | [], _ => ⟨[], rfl, by simp⟩
  | r :: rows, h => by
    obtain ⟨a, rfl, ha⟩ := h r (List.mem_cons_self ..)
    obtain ⟨l, rfl, hl⟩ := choose_list fun r hr => h r (List.mem_cons_of_mem _ hr)
    exact ⟨a :: l, rfl, fun b hb => by
      rcases List.mem_cons.1 hb with rfl | hb
      · exact ha
      · exact hl b hb⟩
/-- .. with what each holds. -/
theorem choose_sum {α : Type} {f : α → List AV} {p : α → Prop} {g : α → Nat} {fs : List Sch} : ∀ {rows : List (List AV)} {ns : List Nat}, rows.length = ns.length → (∀ (i : Nat) r m, rows[i]? = some r → ns[i]? = some m → FitR fs r m) → (∀ r m, FitR fs r m → ∃ a, r = f a ∧ p a ∧ g a ≤ m) →
    ∃ l : List α, rows = l.map f ∧ (∀ a ∈ l, p a) ∧ (l.map g).sum ≤ ns.sum
  | [], ns, hl, _, _ => ⟨[], rfl, by simp, by simp⟩
  | r :: rows, [], hl, _, _ => by simp at hl
  | r :: rows, m :: ns, hl, h, hc => by
    obtain ⟨a, rfl, ha, hg⟩ := hc r m (h 0 r m rfl rfl)
    obtain ⟨l, rfl, h1, h2⟩ := choose_sum (rows := rows) (ns := ns) (by simpa using hl) (fun i r m h3 h4 => h (i + 1) r m (by simpa using h3) (by simpa using h4)) hc
    refine ⟨a :: l, rfl, fun b hb => ?_, by simp only [List.map_cons, List.sum_cons]; omega⟩
    rcases List.mem_cons.1 hb with rfl | hb
    · exact ha
    · exact h1 b hb

abbrev schSp : List Sch := [.int .u32, .sl 2 [.int .i64, .int .i64]]
abbrev schCut : List Sch := [.int .u16, .int .u16, .int .u8]
theorem fit_int {k : IntKind} {x : AV} {m : Nat} (h : FitC (.int k) x m) : ∃ n, x = .int k n ∧ (Lit.int k n).wf = true ∧ 1 ≤ m := by cases h with | int k n h => exact ⟨n, rfl, h, Nat.le_refl _⟩
theorem fit_spRow {r : List AV} {m : Nat} (h : FitR [.int .i64, .int .i64] r m) : ∃ s : Sp, r = spR s ∧ True := by
  cases h with
  | cons h t => cases t with
    | cons h' t => cases t; obtain ⟨a, rfl, _⟩ := fit_int h; obtain ⟨b, rfl, _⟩ := fit_int h'; exact ⟨(a, b), rfl, trivial⟩
theorem fit_map {x : AV} {m : Nat} (h : FitV true schSp x m) : ∃ e l, x = mapV e l ∧ (Lit.int .u32 e).wf = true := by
  obtain ⟨row, rfl, h⟩ := h
  cases h with
  | cons h t => cases t with
    | cons h' t =>
      cases t
      obtain ⟨e, rfl, hw, _⟩ := fit_int h
      cases h' with
      | sl z fs rows ns n hl hr hn =>
        obtain ⟨l, rfl, _⟩ := choose_list (f := spR) (p := fun _ => True) (rows := rows) fun r hr' => by
          obtain ⟨i, hi⟩ := List.mem_iff_getElem?.1 hr'
          have hlt := (List.getElem?_eq_some_iff.1 hi).1
          exact fit_spRow (hr i r _ hi (List.getElem?_eq_getElem (by omega)))
        exact ⟨e, l, rfl, hw⟩
theorem fit_i64 {x : AV} {m : Nat} (h : FitV false [.int .i64] x m) : ∃ n, x = .int .i64 n ∧ (Lit.int .i64 n).wf = true := by
  obtain ⟨S0, e, h⟩ := h
  simp only [List.cons.injEq, and_true] at e
  subst e
  obtain ⟨n, h1, h2, _⟩ := fit_int h
  exact ⟨n, h1, h2⟩
theorem fit_k {k : IntKind} {x : AV} {m : Nat} (h : FitV false [.int k] x m) : ∃ n, x = .int k n ∧ (Lit.int k n).wf = true := by
  obtain ⟨S0, e, h⟩ := h
  simp only [List.cons.injEq, and_true] at e
  subst e
  obtain ⟨n, h1, h2, _⟩ := fit_int h
  exact ⟨n, h1, h2⟩
theorem wf_u16 {n : Int} (h : (Lit.int .u16 n).wf = true) : 0 ≤ n ∧ n < 65536 := by simp [Lit.wf, IntKind.min, IntKind.max, IntKind.signed, IntKind.bits] at h; omega
theorem wf_u8 {n : Int} (h : (Lit.int .u8 n).wf = true) : 0 ≤ n ∧ n < 256 := by simp [Lit.wf, IntKind.min, IntKind.max, IntKind.signed, IntKind.bits] at h; omega
theorem wf_u32 {n : Int} (h : (Lit.int .u32 n).wf = true) : 0 ≤ n ∧ n < 4294967296 := by simp [Lit.wf, IntKind.min, IntKind.max, IntKind.signed, IntKind.bits] at h; omega
theorem fit_cutRow {r : List AV} {m : Nat} (h : FitR schCut r m) : ∃ c : Ct, r = cutR c ∧ CtOK c := by
  cases h with
  | cons h t => cases t with
    | cons h' t => cases t with
      | cons h'' t =>
        cases t
        obtain ⟨a, rfl, ha, _⟩ := fit_int h
        obtain ⟨b, rfl, hb, _⟩ := fit_int h'
        obtain ⟨c, rfl, hc, _⟩ := fit_int h''
        have := wf_u16 ha; have := wf_u16 hb; have := wf_u8 hc
        exact ⟨(a, b, c), rfl, by unfold CtOK; dsimp only; omega⟩
theorem fit_cuts {x : AV} {m : Nat} (h : FitV false [.sl 3 schCut] x m) : ∃ l : List Ct, x = cutS l ∧ ∀ c ∈ l, CtOK c := by
  obtain ⟨S0, e, h⟩ := h
  simp only [List.cons.injEq, and_true] at e
  subst e
  cases h with
  | sl z fs rows ns n hl hr hn =>
    obtain ⟨l, rfl, h2⟩ := choose_list (f := cutR) (p := CtOK) (rows := rows) fun r hr' => by
      obtain ⟨i, hi⟩ := List.mem_iff_getElem?.1 hr'
      have hlt := (List.getElem?_eq_some_iff.1 hi).1
      exact fit_cutRow (hr i r _ hi (List.getElem?_eq_getElem (by omega)))
    exact ⟨l, rfl, h2⟩
theorem fit_cut {x : AV} {m : Nat} (h : FitV true schCut x m) : ∃ c : Ct, x = .agg (cutR c) ∧ CtOK c := by
  obtain ⟨row, rfl, h⟩ := h
  obtain ⟨c, rfl, hc⟩ := fit_cutRow h
  exact ⟨c, rfl, hc⟩
theorem fit_intRow {r : List AV} {m : Nat} (h : FitR [.int .i64] r m) : ∃ n : Int, r = intR n ∧ True ∧ 1 ≤ m := by
  cases h with
  | cons h t => cases t; obtain ⟨a, rfl, _, h⟩ := fit_int h; exact ⟨a, rfl, trivial, by omega⟩
theorem sum_one {α : Type} : ∀ l : List α, (l.map fun _ => 1).sum = l.length
  | [] => rfl
  | _ :: l => by have := sum_one l; simp only [List.map_cons, List.sum_cons, List.length_cons]; omega
theorem fit_factRow {r : List AV} {m : Nat} (h : FitR [.sl 1 [.int .i64], .int .i64] r m) : ∃ f : Fc, r = factR f ∧ True ∧ f.1.length + 2 ≤ m := by
  cases h with
  | cons h t => cases t with
    | cons h' t =>
      cases t
      obtain ⟨v, rfl, _, h1⟩ := fit_int h'
      cases h with
      | sl z fs rows ns n hl hr hn =>
        obtain ⟨ks, rfl, _, hs⟩ := choose_sum (f := intR) (p := fun _ => True) (g := fun _ => 1) hl hr (fun r m h => fit_intRow h)
        refine ⟨(ks, v), rfl, trivial, ?_⟩
        have : (ks.map fun _ => 1).sum = ks.length := sum_one ks
        dsimp only
        omega
/-- The facts of a batch: what they hold. -/
def fcBulk (l : List Fc) : Nat := (l.map fun f => f.1.length + 2).sum
theorem fit_facts {x : AV} {m : Nat} (h : FitV false [.sl 2 [.sl 1 [.int .i64], .int .i64]] x m) : ∃ l : List Fc, x = factS l ∧ fcBulk l ≤ m := by
  obtain ⟨S0, e, h⟩ := h
  simp only [List.cons.injEq, and_true] at e
  subst e
  cases h with
  | sl z fs rows ns n hl hr hn =>
    obtain ⟨l, rfl, _, hs⟩ := choose_sum (f := factR) (p := fun _ => True) (g := fun f : Fc => f.1.length + 2) hl hr (fun r m h => fit_factRow h)
    exact ⟨l, rfl, by unfold fcBulk; omega⟩
end Go.Proofs.Ytecpiplfjmmccaa.AM
