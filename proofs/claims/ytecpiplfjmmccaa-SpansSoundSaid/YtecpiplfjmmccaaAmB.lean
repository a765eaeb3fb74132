/-
  An operation comes to what B says of it (B_ok, B1_ok, Breg_ok).
  Conditions: the table of types tells of the program's.
-/
import Derived.Test.YtecpiplfjmmccaaAmMem4
import Derived.Orders
import Derived.Laws.Cover3
namespace Go.Proofs.Ytecpiplfjmmccaa.AM
open Go

section
variable {E : Env} {P : Program} {ty : TypeId → Option TI} {md : Nat → Nat} {qt : FuncId → Bool} {lo : Nat → Nat} {G : Gh} {S : AS} {a : Act} {w : World} {o : Oper} {Q : Exit → Act → World → Prop}

theorem Sim.put' (h : Sim E lo G S a w) {d : Option Tmp} {x : AV} {v : Value} (hx : RepT lo G w x v) (hd : ∀ k, d = some k → k < S.n) : Sim E lo G (S.put d x) (a.put d v) w := by
  have := h.put d hx hd
  cases d <;> exact this

/-- What stands behind an operation: the state it leaves. -/
def Aft (E : Env) (K : AS → Prop) (a : Act) (w : World) : Prop := ∃ lo G S, Sim E lo G S a w ∧ K S

theorem vals_append : ∀ {l l' : List AV}, vals (l ++ l') = true → vals l = true ∧ vals l' = true
  | [], _, h => ⟨rfl, h⟩
  | x :: l, l', h => by
    simp only [List.cons_append, vals] at h ⊢
    split at h
    · rename_i hx
      have := vals_append h
      exact ⟨by simp [this.1], this.2⟩
    · cases h

theorem callOf_ok (hs : Sim E lo G S a w) {g : FuncId} {args : List AV} (h : callOf S.T o.op = some (g, args)) (hv : vals args = true) (he : Ent P g) :
    ∃ vs : List Value, (execOp a.eval o).run P w = .ok (.enter g vs.toArray) w ∧ Reps G w args vs := by
  obtain ⟨dst, op, type, pos, after, guard⟩ := o
  simp only at h
  unfold callOf at h
  split at h
  · rename_i f xs tt
    split at h
    · rename_i g' fi ca hf
      simp only [Option.some.injEq, Prod.mk.injEq] at h
      obtain ⟨rfl, rfl⟩ := h
      have hr := evA_ok hs f
      rw [hf] at hr
      have hr := hr.rep (.inl rfl)
      generalize hev : a.eval f = fv at hr
      cases hr with
      | fn _ _ _ fv cv hfs hcs hfr hcr =>
      obtain ⟨fn, c, e1, e2, e3⟩ := he
      have h1 : fn.name ≠ "runtime.NumGoroutine" := by simpa using e2
      have hv' := vals_append hv
      obtain ⟨x1, x2⟩ := reps_map hs xs (vals_append hv'.1).2
      refine ⟨fv.toList ++ (xs.map a.eval).toList ++ cv.toList, ?_, ?_, ?_⟩
      · simp [execOp, resolve, hev, Deferred.ofValue, invoke, callFunc, e1, h1, e3]
      · simp only [List.length_append, Array.length_toList]
        rw [hfs, hcs, x1]
      · intro i x hx
        rw [List.getD_eq_getElem?_getD]
        rcases Nat.lt_or_ge i (fi ++ xs.toList.map (evA S.T)).length with hi | hi
        · rw [List.getElem?_append_left hi] at hx
          rw [List.getElem?_append_left (by simp only [List.length_append, Array.length_toList]; rw [hfs, x1]; simpa using hi)]
          rcases Nat.lt_or_ge i fi.length with hi' | hi'
          · rw [List.getElem?_append_left hi'] at hx
            rw [List.getElem?_append_left (by simpa [hfs] using hi')]
            have := hfr i x hx
            rwa [Array.getD_eq_getD_getElem?, ← Array.getElem?_toList] at this
          · rw [List.getElem?_append_right hi'] at hx
            rw [List.getElem?_append_right (by simpa [hfs] using hi')]
            have := x2 _ x hx
            rw [Array.getD_eq_getD_getElem?, ← Array.getElem?_toList] at this
            simpa [hfs] using this
        · rw [List.getElem?_append_right hi] at hx
          rw [List.getElem?_append_right (by simp only [List.length_append, Array.length_toList]; rw [hfs, x1]; simpa using hi)]
          have := hcr _ x hx
          rw [Array.getD_eq_getD_getElem?, ← Array.getElem?_toList] at this
          have e4 : (fv.toList ++ (xs.map a.eval).toList).length = (fi ++ xs.toList.map (evA S.T)).length := by
            simp only [List.length_append, Array.length_toList]; rw [hfs, x1]
          rw [e4]; exact this
    · cases h
  · cases h

theorem AC.upon (hs : Sim E lo G S a w) {g : FuncId} {args : List AV} {R : AV → AH → Prop} (h : callOf S.T o.op = some (g, args)) (hv : vals args = true) (hc : AC P g args S.H R) {next : Act → World → Prop}
    (hn : ∀ G' H' r v w', Sim E lo G' { S with H := H' } a w' → Rep G' w' r v → R r H' → next (a.put o.dst v) w') : o.wp P a w next Q := by
  obtain ⟨vs, h1, h2⟩ := callOf_ok (P := P) (o := o) hs h hv hc.1
  unfold Oper.wp
  rw [h1, Oper.upon_enter]
  refine (hc.2 G w vs hs.h h2).mono ?_
  rintro e w' ⟨r, cr, G', H', rfl, q1, q2, q3, q4, q5⟩
  exact hn G' H' r cr w' (hs.turn q3 q4 q2) q1 q5

theorem eop_ok (hty : TyOK P ty) (hs : Sim E lo G S a w) {L : List (Nat × List AV)} {H : AH} {r : AV} {φ : Prop} (h : eopC ty md o S = some (L, H, r, φ)) (hφ : φ) (hd : DstOK o S) {next : Act → World → Prop} (hn : ∀ lo' G' a' w', Sim E lo' G' (({ S with L := L, H := H } : AS).put o.dst r) a' w' → next a' w') : o.wp P a w next Q := by
  obtain ⟨dst, op, type, pos, after, guard⟩ := o
  unfold eopC at h
  simp only at h
  split at h
  · rename_i t p x
    split at h
    · rename_i ti ht
      split at h
      · rename_i hxv
        have hx := (evA_ok hs x).rep (.inl hxv)
        have hnt : (∀ vs, evA S.T x ≠ .tup vs) ∧ (match Nat.beq (evA S.T x).cellsOf.length ti.size with
          | true => match evA S.T p with
            | .lptr i c => match lookL S.L i with
              | some cs => match Nat.ble (c + ti.size) cs.length with
                | true => some (updL S.L i (splice cs c (evA S.T x).cellsOf), S.H, .skip, True)
                | false => none
              | none => none
            | .ptr id r c => match S.H.blks[id]? with
              | some (.rows z l) => match l[r]? with
                | some row => match Nat.ble (c + ti.size) row.length with
                  | true => some (S.L, { S.H with blks := S.H.blks.set id (.rows z (l.set r (splice row c (evA S.T x).cellsOf))) }, .skip, True)
                  | false => none
                | none => none
              | _ => none
            | _ => none
          | false => none) = some (L, H, r, φ) := by
          split at h
          · cases h
          · rename_i hnt; exact ⟨hnt, h⟩
        obtain ⟨hnt, h⟩ := hnt
        obtain ⟨k1, k2, k3⟩ := ones_cells hx hxv hnt
        split at h
        · rename_i hsz
          have hsz := Nat.eq_of_beq_eq_true hsz
          have hcs : (a.eval x).cells.size = ti.size := by rw [← hsz, ← k1]; simp
          have hp := evA_ok hs p
          split at h
          · rename_i i c hpe
            have hv : a.eval p = .pointer (some ⟨lo i, c, none⟩) := by
              rw [hpe] at hp
              rcases hp with hp | ⟨_, _, hp, hv⟩ | hp
              · cases hp
              · simp only [AV.lptr.injEq] at hp; rw [hp.1, hp.2]; exact hv
              · cases hp
            split at h
            · rename_i cs hcs'
              split at h
              · rename_i hle
                have hle := Nat.le_of_ble_eq_true hle
                simp only [Option.some.injEq, Prod.mk.injEq] at h
                obtain ⟨rfl, rfl, rfl, rfl⟩ := h
                obtain ⟨vs, e, f1, f2, f3⟩ := hs.store_local hcs' (c := c) (evA S.T x).cellsOf (a.eval x).cells.toList k1 (by omega) k3
                have hst := storeAt_ok (P := P) hty ht (v := a.eval x) (o := c) f1 hcs (by simpa using f2) k2
                unfold Oper.wp
                have : (execOp a.eval ⟨dst, .store t p x, type, pos, after, guard⟩).run P w = .ok .skip (w.setRow (lo i) (vs.toList.take c ++ (a.eval x).cells.toList ++ vs.toList.drop (c + (a.eval x).cells.toList.length)).toArray) := by
                  simp only [execOp, hv, Sem.run_bind, hst, Result.andThen_ok, Sem.run_pure]
                rw [this, Oper.upon_skip]
                exact hn _ _ _ _ (f3.put' (.inr (.inr .skip)) hd)
              · cases h
            · cases h
          · rename_i id r' c hpe
            rw [hpe] at hp
            have hp := hp.rep (.inl rfl)
            generalize hv : a.eval p = pv at hp
            cases hp with
            | ptr _ _ _ b z hb =>
            split at h
            · rename_i z' l hl
              split at h
              · rename_i row hrow
                split at h
                · rename_i hle
                  have hle := Nat.le_of_ble_eq_true hle
                  simp only [Option.some.injEq, Prod.mk.injEq] at h
                  obtain ⟨rfl, rfl, rfl, rfl⟩ := h
                  obtain ⟨b', vs, e, f0, f1, f2, f3, f4, f5⟩ := eff_row hs.h hl hrow (c := c) (evA S.T x).cellsOf (a.eval x).cells.toList k1 (by omega) k3
                  rw [hb] at f0
                  simp only [Option.some.injEq, Prod.mk.injEq] at f0
                  obtain ⟨rfl, rfl⟩ := f0
                  have hst := storeAt_ok (P := P) hty ht (v := a.eval x) (o := r' * z + c) f1 hcs (by simpa using f2) k2
                  unfold Oper.wp
                  have : (execOp a.eval ⟨dst, .store t p x, type, pos, after, guard⟩).run P w = .ok .skip (w.setRow b (vs.toList.take (r' * z + c) ++ (a.eval x).cells.toList ++ vs.toList.drop (r' * z + c + (a.eval x).cells.toList.length)).toArray) := by
                    simp only [execOp, hv, Sem.run_bind, hst, Result.andThen_ok, Sem.run_pure]
                  rw [this, Oper.upon_skip]
                  exact hn _ _ _ _ ((hs.turn f3 f4 f5).put' (.inr (.inr .skip)) hd)
                · cases h
              · cases h
            · cases h
          · cases h
        · cases h
      · cases h
    · cases h
  · rename_i t len parts
    split at h
    · rename_i s rows hb
      simp only [Option.some.injEq, Prod.mk.injEq] at h
      obtain ⟨rfl, rfl, rfl, rfl⟩ := h
      obtain ⟨us, e, f1, f2, f3, f4, f5, f6, f7, f8⟩ := bsl_ok hty hs hb
      unfold Oper.wp
      have hrun : (execOp a.eval ⟨dst, .buildSlice t len parts, type, pos, after, guard⟩).run P w = .ok (.value (.slice (some ⟨w.heap.size, 0, none⟩) len len)) (w.alloc (.cells us e)) := by
        simp only [execOp, Sem.run_bind]; erw [f1]; rfl
      rw [hrun, Oper.upon_value]
      rcases Nat.eq_zero_or_pos len with h0 | h0
      · have hx := eff_new hs.h us e (len * s) none rfl (.inl ⟨rfl, rfl⟩)
        have hs1 := hs.turn (Le.new hs.h _ _ _) hx.1 hx.2
        obtain ⟨q1, q2⟩ := eff_tip hs1.h s
        have hs2 := hs1.turn (Le.refl _ _) q1 q2
        have hrw : rows = [] := List.eq_nil_of_length_eq_zero (by omega)
        subst hrw
        subst h0
        refine hn _ _ _ _ (hs2.put' (RepT.of ?_) hd)
        exact .sl s [] (some _) _ 0 0 0 (fun _ _ => Go.undef) f2 (by simp) (by simp [maxLen]) (by simp) (.inl ⟨rfl, .inr rfl⟩) (fun i j x hx => by simp [cellAt] at hx) (fun i j x hx => by simp [cellAt] at hx) (fun i j x hx => by simp [cellAt] at hx)
      · have hx := eff_new (H' := { S.H with tips := S.H.tips ++ [(s, rows.length)] }) hs.h us e (len * s) (some S.H.tips.length) rfl (.inr ⟨_, s, rows.length, rfl, by simp, by omega, by rw [f3], fun b' hb' => absurd hb' (hs.h.chains _ b' (Nat.le_refl _)), fun c' hc' => by
          dsimp only
          rcases Nat.lt_or_ge c' S.H.tips.length with hl | hl
          · rw [List.getElem?_append_left hl]
          · rw [List.getElem?_append_right hl, List.getElem?_eq_none hl, List.getElem?_eq_none (by simp; omega)]⟩)
        exact hn _ _ _ _ ((hs.turn (Le.new hs.h _ _ _) hx.1 hx.2).put' (RepT.of (rep_new (S := S) f2 f3 f5 len (Nat.le_refl _) f5 f6 f7 f8 hs.h (fun h => by omega))) hd)
    · cases h
  · rename_i x y t u
    split at h
    · rename_i tu hu
      split at h
      · rename_i r'' H' ψ happ
        simp only [Option.some.injEq, Prod.mk.injEq] at h
        obtain ⟨rfl, rfl, rfl, rfl⟩ := h
        have hxy : (evA S.T x).val = true ∧ (evA S.T y).val = true := by
          unfold app rowsOf at happ
          constructor
          · cases hxe : evA S.T x <;> rw [hxe] at happ <;> first | rfl | (simp at happ; done) | (repeat' split at happ) <;> first | rfl | (cases happ; done) | contradiction
          · cases hye : evA S.T y <;> rw [hye] at happ <;> first | rfl | (simp at happ; done) | (repeat' split at happ) <;> first | rfl | (cases happ; done) | contradiction
        obtain ⟨v, G', w', g1, g2, g3⟩ := app_ok (P := P) (rt := type) hty hs hu happ hφ ((evA_ok hs x).rep (.inl hxy.1)) ((evA_ok hs y).rep (.inl hxy.2))
        unfold Oper.wp
        have hrun : (execOp a.eval ⟨dst, .call ⟨.builtin .append, ⟨[x, y]⟩, ⟨[t, u]⟩⟩, type, pos, after, guard⟩).run P w = .ok (.value v) w' := by
          simp [execOp, resolve, invoke, builtin, g1]
        rw [hrun, Oper.upon_value]
        exact hn _ _ _ _ (g2.put' (RepT.of g3) hd)
      · cases h
    · cases h
  · cases h

theorem B_ok (hty : TyOK P ty) (hs : Sim E lo G S a w) {K : AS → Prop} (h : B P ty md qt o S K) : o.wp P a w (Aft E K) Q := by
  obtain ⟨hd, h⟩ := h
  split at h
  · obtain ⟨x, h1, h2⟩ := h
    obtain ⟨v, G', w', g1, g2, g3⟩ := vop_ok hty hs h1
    unfold Oper.wp
    rw [g1, Oper.upon_value]
    exact ⟨_, _, _, g2.put' g3 hd, h2⟩
  · obtain ⟨x, h1, h2⟩ := h
    obtain ⟨v, G', w', g1, g2, g3⟩ := vop_ok hty hs h1
    unfold Oper.wp
    rw [g1, Oper.upon_value]
    exact ⟨_, _, _, g2.put' g3 hd, h2⟩
  · obtain ⟨d, cs, h1, h2, h3, h4⟩ := h
    obtain ⟨vs, e, g1, g2, g3⟩ := newC_ok (P := P) hty hs h2
    unfold Oper.wp
    rw [g1, Oper.upon_value, h1]
    have h5 := hs.alloc_local d h3 vs e cs g2 (fun j x hx => .inr (g3 j x hx))
    have h6 := h5.put (some d) (x := .lptr d 0) (v := .pointer (some ⟨w.heap.size, 0, none⟩)) (.inr (.inl ⟨d, 0, rfl, by simp⟩)) (fun k hk => by rw [← h1] at hk; exact hd k hk)
    exact ⟨_, _, _, h6, h4⟩
  · obtain ⟨L, H, x, φ, h1, h2, h3⟩ := h
    exact eop_ok hty hs h1 h2 hd fun lo' G' a' w' hs' => ⟨lo', G', _, hs', h3⟩
  · obtain ⟨g, args, h1, h2, h3⟩ := h
    exact AC.upon hs h1 h2 h3 fun G' H' r v w' hs' hr ⟨_, hk⟩ => ⟨_, _, _, hs'.put' (RepT.of hr) hd, hk⟩
  · obtain ⟨g, args, h1, h2, h3⟩ := h
    refine AC.upon hs h1 h2 h3 fun G' H' r v w' hs' hr ⟨he, _, hk⟩ => ⟨lo, G', S.put o.dst r, ?_, hk⟩
    subst he
    exact hs'.put' (RepT.of hr) hd
  · obtain ⟨m, h1, h2⟩ := h
    obtain ⟨x, H', G', w', ⟨_, k2⟩, g1, ⟨v, g2, g3⟩ | ⟨g2, rfl⟩⟩ := mem_ok (P := P) hty hs h1 h2
    · unfold Oper.wp
      rw [g2, Oper.upon_value]
      exact ⟨_, _, _, g1.put' (RepT.of g3) hd, k2⟩
    · unfold Oper.wp
      rw [g2, Oper.upon_skip]
      exact ⟨_, _, _, g1.put' (.inr (.inr .skip)) hd, k2⟩
  · obtain ⟨m, h1, h2⟩ := h
    obtain ⟨x, H', G', w', ⟨_, k2, k3⟩, g1, ⟨v, g2, g3⟩ | ⟨g2, rfl⟩⟩ := mem_ok (P := P) hty hs h1 h2
    · subst k2
      unfold Oper.wp
      rw [g2, Oper.upon_value]
      exact ⟨_, _, _, g1.put' (RepT.of g3) hd, k3⟩
    · subst k2
      unfold Oper.wp
      rw [g2, Oper.upon_skip]
      exact ⟨_, _, _, g1.put' (.inr (.inr .skip)) hd, k3⟩
  · obtain ⟨neg, t, x, h1, h2, h3⟩ := h
    have key : ∀ (A : Option Addr) (n c : Nat), a.eval x = .slice A n c → K (S.put o.dst (.bool (neg ^^ A.isNone))) → o.wp P a w (Aft E K) Q := by
      intro A n c he hk
      have hu : ∃ e, P.underlying t = some (.slice e) := by
        unfold isSlice at h2
        split at h2
        · rename_i e h0; exact ⟨e, kind_slice (hty _ _ h0) rfl⟩
        · cases h2
      obtain ⟨e, hu⟩ := hu
      have hrun : (execOp a.eval o).run P w = .ok (.value (.bool (neg ^^ A.isNone))) w := by
        obtain ⟨dst, op, type, pos, after, guard⟩ := o
        unfold nilqOf at h1
        simp only at h1
        have hneq : (Go.binOp .neq t (.slice A n c) (.slice none 0 0)).run P w = .ok (.bool (!A.isNone)) w := run_neq_slice_nil w t e A n c hu
        have hcst : a.eval (.const (.slice none 0 0)) = .slice none 0 0 := rfl
        have heq : (Go.binOp .eql t (.slice A n c) (.slice none 0 0)).run P w = .ok (.bool A.isNone) w := by
          simp only [Go.binOp]
          simp [run_equal_slice_nil w t e A n c hu]
        split at h1
        · simp only [Option.some.injEq, Prod.mk.injEq] at h1
          obtain ⟨rfl, rfl, rfl⟩ := h1
          simp [execOp, he, hcst, eqGuard_ok (v := .slice A n c) ⟨fun _ => by simp, by simp⟩, heq]
        · simp only [Option.some.injEq, Prod.mk.injEq] at h1
          obtain ⟨rfl, rfl, rfl⟩ := h1
          simp [execOp, he, hcst, eqGuard_ok (v := .slice A n c) ⟨fun _ => by simp, by simp⟩, hneq]
        · cases h1
      unfold Oper.wp
      rw [hrun, Oper.upon_value]
      exact ⟨lo, G, _, hs.put' (RepT.of (.bool _)) hd, hk⟩
    have hr := evA_ok hs x
    unfold nilqK at h3
    split at h3
    · rename_i e
      rw [e] at hr
      have hr := hr.rep (.inl rfl)
      generalize hv : a.eval x = v at hr
      cases hr
      exact key none 0 0 hv h3
    · rename_i z rows tok e
      rw [e] at hr
      have hr := hr.rep (.inl rfl)
      generalize hv : a.eval x = v at hr
      cases hr with
      | sl _ _ _ A c b off f hz hlc hc hk hp hcell g1 hrr =>
        refine key A _ c hv (h3 _ fun hn => ?_)
        rcases hp with ⟨h0, _⟩ | ⟨rfl, _⟩
        · exact List.eq_nil_of_length_eq_zero h0
        · cases hn
    · rename_i z id off len e
      rw [e] at hr
      have hr := hr.rep (.inl rfl)
      generalize hv : a.eval x = v at hr
      cases hr with
      | ms _ _ _ _ c A hlc _ hsh =>
        refine key _ _ c hv (h3 _ fun hn => ?_)
        rcases hsh with ⟨_, rfl, _⟩ | h0
        · cases hn
        · omega
    · cases h3

theorem B1_ok (hty : TyOK P ty) (hs : Sim E lo G S a w) {K : AS → Prop} {ops : Array Oper} {i : Nat} (hi : ops[i]? = some o) (h : B1 P ty md qt ops.toList o S K) : wpOp P ops Q i (Aft E K) a w := by
  unfold wpOp
  simp only [hi]
  unfold B1 at h
  unfold Region.wanted
  cases hg : o.guard with
  | none =>
    rw [hg] at h
    exact .inl (B_ok hty hs h)
  | some gw =>
    obtain ⟨g, want⟩ := gw
    rw [hg] at h
    obtain ⟨t, ht, h⟩ := h
    dsimp only
    have hskip : DstOK o S → K (S.put o.dst .skip) → Aft E K (a.put o.dst undef) w := fun hd hk => ⟨lo, G, _, hs.put' (.inr (.inr .skip)) hd, hk⟩
    have hr := hs.t t
    rcases h with ⟨b, hb, h1, h2⟩ | ⟨hb, hd, hk⟩
    · rw [hb] at hr
      have hr := hr.rep (.inl rfl)
      have hlt : t < a.tmps.size := by
        rcases Nat.lt_or_ge t a.tmps.size with h' | h'
        · exact h'
        · rw [Array.getD_eq_getD_getElem?, Array.getElem?_eq_none h'] at hr
          exact nomatch hr
      have hy : yielded ops a.tmps g = some b := by
        unfold yielded
        rw [Array.getElem?_toList] at ht
        rw [ht]
        simp only [Option.bind_some]
        generalize hv : a.tmps.getD t Go.undef = v at hr
        cases hr
        rw [Array.getD_eq_getD_getElem?, Array.getElem?_eq_getElem hlt, Option.getD_some] at hv
        rw [Array.getElem?_eq_getElem hlt, hv]
      simp only [hy]
      by_cases hbw : b = want
      · subst hbw
        rw [if_pos (by simp)]
        exact .inl (B_ok hty hs (h1 rfl))
      · rw [if_neg (by simpa using hbw)]
        exact hskip (h2 hbw).1 (h2 hbw).2
    · rw [hb] at hr
      have hr := hr.rep (.inr rfl)
      have hy : yielded ops a.tmps g = none := by
        unfold yielded
        rw [Array.getElem?_toList] at ht
        rw [ht]
        simp only [Option.bind_some]
        generalize hv : a.tmps.getD t Go.undef = v at hr
        cases hr
        rw [Array.getD_eq_getD_getElem?] at hv
        cases hx : a.tmps[t]? with
        | none => rfl
        | some y => rw [hx, Option.getD_some] at hv; subst hv; rfl
      simp only [hy]
      exact hskip hd hk

theorem wpOps_of_range {ops : Array Oper} (hty : TyOK P ty) {K : AS → Prop} : ∀ (l pre : List Oper), ops.toList = pre ++ l → ∀ {lo : Nat → Nat} {G : Gh} {S : AS} {a : Act} {w : World}, Sim E lo G S a w → Breg P ty md qt ops.toList l S K →
    (∀ a' w', Aft E K a' w' → Q .normal a' w') → wpOps P ops Q (List.range' pre.length l.length) a w
  | [], pre, _, lo, G, S, a, w, hs, h, hq => by
    simp only [List.length_nil, List.range'_zero, wpOps]
    exact hq _ _ ⟨lo, G, S, hs, h⟩
  | o :: l, pre, hl, lo, G, S, a, w, hs, h, hq => by
    simp only [List.length_cons, List.range'_succ]
    rw [wpOps_cons]
    have ho : ops[pre.length]? = some o := by rw [← Array.getElem?_toList, hl]; simp
    refine wpOp_mono ?_ (B1_ok (Q := Q) hty hs ho h)
    rintro a' w' ⟨lo', G', S', hs', h'⟩
    have := wpOps_of_range hty l (pre ++ [o]) (by simp [hl]) hs' h' hq
    simpa using this

/-- A region whose order is the text's. -/
theorem Breg_ok {id : Nat} {ops : Array Oper} (hty : TyOK P ty) (hs : Sim E lo G S a w) {K : AS → Prop} (h : Breg P ty md qt ops.toList ops.toList S K) (hq : ∀ a' w', Aft E K a' w' → Q .normal a' w') : (Code.region id ops false).wp P Q a w := by
  refine wp_region ?_
  have := wpOps_of_range (Q := Q) hty ops.toList [] rfl hs h hq
  simpa [List.range_eq_range'] using this
end
end Go.Proofs.Ytecpiplfjmmccaa.AM
