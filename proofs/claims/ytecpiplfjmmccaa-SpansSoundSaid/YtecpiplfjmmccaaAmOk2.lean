/-
  Values, new variables, stores: as B says.
  Conditions: the table of types tells of the program's.
-/
import Derived.Test.YtecpiplfjmmccaaAmOk
namespace Go.Proofs.Ytecpiplfjmmccaa.AM
open Go

section
variable {E : Env} {P : Program} {ty : TypeId → Option TI} {lo : Nat → Nat} {G : Gh} {S : AS} {a : Act} {w : World} {o : Oper}

/-- The rows of a new slice, as a value: never to turn, or the head of a new chain. -/
theorem rep_new {z len : Nat} {rows : List (List AV)} {us : Array Value} {e : TypeId} {oc : Option Nat} (hz : 0 < z) (hl : rows.length = len) (hmx : len ≤ maxLen) (cap : Nat) (hlc : len ≤ cap) (hcm : cap ≤ maxLen) (hsz : us.size = cap * z)
    (hrow : ∀ r ∈ rows, r.length = z) (hcell : ∀ i j x, cellAt rows i j = some x → x.one = true ∧ Rep G w x (us.getD (i * z + j) Go.undef)) (hH : HSim G w S.H) (hlen : len = 0 → oc = none ∨ cap = 0) :
    Rep (G.new w.heap.size (len * z) oc) (w.alloc (.cells us e)) (.sl z rows oc) (.slice (some ⟨w.heap.size, 0, none⟩) len cap) := by
  have hle := Le.new hH (.cells us e) (len * z) oc
  subst hl
  refine .sl z rows oc _ cap w.heap.size 0 (fun i j => us.getD (i * z + j) Go.undef) hz hlc hcm hrow ?_ (fun i j x hx => ?_) (fun i j x hx => (hcell i j x hx).1) (fun i j x hx => (hcell i j x hx).2.mono hle)
  · rcases Nat.eq_zero_or_pos rows.length with h0 | h0
    · exact .inl ⟨h0, hlen h0⟩
    · refine .inr ⟨rfl, by simp [Gh.new], fun t ht => ⟨rfl, by simp [Gh.new, ht], e, ?_⟩⟩
      unfold World.shape?
      rw [heap_new]
      simp only [hsz]
  · have hlt := cellAt_lt hrow hx
    have := row_lt hlt.1 hlt.2
    have h2 : rows.length * z ≤ cap * z := Nat.mul_le_mul_right z hlc
    rw [Nat.zero_add]
    exact cell_row (heap_new w _) (by omega)

theorem vop_ok (hty : TyOK P ty) (hs : Sim E lo G S a w) {x : AV} (h : vop ty o.op S = some x) : ∃ v G' w', (execOp a.eval o).run P w = .ok (.value v) w' ∧ Sim E lo G' S a w' ∧ RepT lo G' w' x v := by
  obtain ⟨dst, op, type, pos, after, guard⟩ := o
  simp only at h
  unfold vop at h
  split at h
  · rename_i t p
    have hp := evA_ok hs p
    have hval : ∀ {v : Value}, (∃ u, (Instr.loadAt t v).run P w = .ok u w ∧ Rep G w x u) → a.eval p = v → ∃ v G' w', (execOp a.eval ⟨dst, .load t p, type, pos, after, guard⟩).run P w = .ok (.value v) w' ∧ Sim E lo G' S a w' ∧ RepT lo G' w' x v := by
      rintro v ⟨u, h1, h2⟩ he
      exact ⟨u, G, w, by simp [execOp, he, h1], hs, RepT.of h2⟩
    split at h
    · rename_i i c e
      rw [e] at hp
      have hv : a.eval p = .pointer (some ⟨lo i, c, none⟩) := by
        rcases hp with hp | ⟨_, _, hp, hv⟩ | hp
        · cases hp
        · simp only [AV.lptr.injEq] at hp; rw [hp.1, hp.2]; exact hv
        · cases hp
      split at h
      · rename_i cs hcs
        obtain ⟨vs, e, h2, h3, h4⟩ := hs.l.at_ i cs hcs
        refine hval (load_ok hty (c := c) (b := lo i) (o := 0) (f := fun j => vs.getD j Go.undef) h (fun j y hy => ⟨?_, h4 j y hy⟩)) (by rw [Nat.zero_add]; exact hv)
        rw [Nat.zero_add]
        exact cell_row h2 (by have := (List.getElem?_eq_some_iff.1 hy).1; omega)
      · cases h
    · rename_i row c e
      rw [e] at hp
      have hp := hp.rep (.inl rfl)
      generalize hv : a.eval p = pv at hp
      cases hp with
      | ep _ _ b o f hi hc h1 hr => exact hval (load_ok hty h fun j y hy => ⟨hc j y hy, .inr ⟨h1 j y hy, hr j y hy⟩⟩) hv
    · rename_i id r c e
      rw [e] at hp
      have hp := hp.rep (.inl rfl)
      generalize hv : a.eval p = pv at hp
      cases hp with
      | ptr _ _ _ b z hb =>
      split at h
      · rename_i z' l hl
        rcases hs.h.at_ id _ hl rfl with ⟨b', zz, g1, ⟨g2, g3, vs, e, g4, g5, g6, g7⟩, _, _⟩ | ⟨g1, _⟩
        rotate_left
        · rw [hb] at g1; cases g1
        rw [hb] at g1
        simp only [Option.some.injEq, Prod.mk.injEq] at g1
        obtain ⟨rfl, rfl⟩ := g1
        subst g2
        split at h
        · rename_i row hrow
          have hlen : row.length = z := g5 row (List.mem_of_getElem? hrow)
          have hrl := (List.getElem?_eq_some_iff.1 hrow).1
          refine hval (load_ok hty (c := c) (b := b) (o := r * z) (f := fun j => vs.getD (r * z + j) Go.undef) h (fun j y hy => ⟨?_, g7 r j y (by unfold cellAt; rw [hrow]; exact hy)⟩)) hv
          have hj := (List.getElem?_eq_some_iff.1 hy).1
          have := row_lt hrl (j := j) (z := z) (by omega)
          exact cell_row g4 (by omega)
        · cases h
      · cases h
    · cases h
  · rename_i t len parts
    split at h
    · rename_i s rows hb
      simp only [Option.some.injEq] at h
      subst h
      obtain ⟨us, e, f1, f2, f3, f4, f5, f6, f7, f8⟩ := bsl_ok hty hs hb
      have hx := eff_new hs.h us e (len * s) none rfl (.inl ⟨rfl, rfl⟩)
      refine ⟨_, _, _, by simp only [execOp, Sem.run_bind]; erw [f1]; rfl, hs.turn (Le.new hs.h _ _ _) hx.1 hx.2, RepT.of ?_⟩
      exact rep_new (S := S) f2 f3 f5 len (Nat.le_refl _) f5 f6 f7 f8 hs.h (fun _ => .inl rfl)
    · cases h
  · obtain ⟨v, h1, h2⟩ := pv_ok (o := ⟨dst, op, type, pos, after, guard⟩) hty hs h
    exact ⟨v, G, w, h1, hs, h2⟩

theorem newC_ok (hty : TyOK P ty) (hs : Sim E lo G S a w) {cs : List AV} (h : newC ty o.op S.T = some cs) : ∃ (vs : Array Value) (e : TypeId), (execOp a.eval o).run P w = .ok (.value (.pointer (some ⟨w.heap.size, 0, none⟩))) (w.alloc (.cells vs e)) ∧
    vs.size = cs.length ∧ ∀ (j : Nat) x, cs[j]? = some x → x.one = true ∧ Rep G w x (vs.getD j Go.undef) := by
  obtain ⟨dst, op, type, pos, after, guard⟩ := o
  simp only at h
  unfold newC at h
  split at h
  · rename_i t
    split at h
    · rename_i sz by_ ag z kd h0
      split at h
      · rename_i hv
        obtain ⟨i, hi, _, _, hz⟩ := ti_size (hty _ _ h0)
        obtain ⟨zv, hzv, hza⟩ := Option.bind_eq_some_iff.1 hz
        have hzr := toAV_rep hza G w
        split at h
        · cases h
        · rename_i hnt
          simp only [Option.some.injEq] at h
          subst h
          obtain ⟨c1, c2⟩ := hzr.cells hv hnt
          exact ⟨zv.cells, t, by simp [execOp, Instr.alloc, zeroValue, typeInfo, hi, hzv, newVar, newRow], c1, c2⟩
      · cases h
    · cases h
  · rename_i t y
    split at h
    · rename_i hv
      have hr := (evA_ok hs y).rep (.inl hv)
      split at h
      · cases h
      · rename_i hnt
        simp only [Option.some.injEq] at h
        subst h
        obtain ⟨c1, c2⟩ := hr.cells hv hnt
        exact ⟨(a.eval y).cells, t, by simp [execOp, Instr.box, newVar, newRow], c1, c2⟩
    · cases h
  · cases h

theorem storeAt_ok (hty : TyOK P ty) {t : TypeId} {ti : TI} (ht : ty t = some ti) {b o : Nat} {vs : Array Value} {e : TypeId} {v : Value} (hb : w.heap[b]? = some (.cells vs e (0, 0))) (hsz : v.cells.size = ti.size) (hfit : o + v.cells.size ≤ vs.size)
    (h1 : ∀ u ∈ v.cells.toList, u.oneCell' = true) : (Instr.storeAt t (.pointer (some ⟨b, o, none⟩)) v).run P w = .ok () (w.setRow b (vs.toList.take o ++ v.cells.toList ++ vs.toList.drop (o + v.cells.toList.length)).toArray) := by
  have hs := ti_sizeOf (hty _ _ ht) w
  have hst := run_storeCells_at P b o e v.cells.toList 0 vs w hb (by simpa using hfit) h1
  simp only [Nat.add_zero] at hst
  simp [Instr.storeAt, Instr.sureAddr, storeVar, hs, hsz, hst]
theorem ones_cells {x : AV} {v : Value} (hr : Rep G w x v) (hv : x.val = true) (hnt : ∀ vs, x ≠ .tup vs) : v.cells.toList.length = x.cellsOf.length ∧ (∀ u ∈ v.cells.toList, u.oneCell' = true) ∧ ∀ (j : Nat) y, x.cellsOf[j]? = some y → RepU G w y (v.cells.toList.getD j Go.undef) := by
  obtain ⟨c1, c2⟩ := hr.cells hv hnt
  refine ⟨by simpa using c1, fun u hu => ?_, fun j y hy => ?_⟩
  · obtain ⟨j, hj⟩ := List.mem_iff_getElem?.1 hu
    have hlt := (List.getElem?_eq_some_iff.1 hj).1
    simp only [Array.length_toList] at hlt
    obtain ⟨d1, d2⟩ := c2 j (x.cellsOf[j]'(by omega)) (List.getElem?_eq_getElem _)
    have := d2.oneCell d1
    rwa [Array.getD_eq_getD_getElem?, ← Array.getElem?_toList, hj] at this
  · obtain ⟨d1, d2⟩ := c2 j y hy
    refine .inr ⟨d1, ?_⟩
    rwa [List.getD_eq_getElem?_getD, Array.getElem?_toList, ← Array.getD_eq_getD_getElem?]
end
end Go.Proofs.Ytecpiplfjmmccaa.AM
