/-
  Texts laid together by program (bundle.py): each part says in its own head what is proved. What is proved here serves the law's row.
  Conditions: as each part says.
-/
import Derived.Test.YtecpiplfjmmccaaCn2
import Derived.Orders
import Derived.Laws.Cover3
import Derived.Deep.LoopGhost
/-
  An operation comes to what B says of it (B_ok, B1_ok, Breg_ok).
  Conditions: the table of types tells of the program's.
-/
namespace Go.Proofs.Ytecpiplfjmmccaa.AM
open Go

section
variable {E : Env} {P : Program} {ty : TypeId → Option TI} {md : Nat → Nat} {qt : FuncId → Bool} {lo : Nat → Nat} {G : Gh} {S : AS} {a : Act} {w : World} {o : Oper} {Q : Exit → Act → World → Prop}

theorem Sim.put' (h : Sim E lo G S a w) {d : Option Tmp} {x : AV} {v : Value} (hx : RepT lo G w x v) (hd : ∀ k, d = some k → k < S.n) : Sim E lo G (S.put d x) (a.put d v) w := by
  have := h.put d hx hd
  cases d <;> exact this

/-- What stands behind an operation: the state it leaves. -/
def Aft (E : Env) (K : AS → Prop) (a : Act) (w : World) : Prop := ∃ lo G S, Sim E lo G S a w ∧ K S

theorem vals_append : ∀ {l l' : List AV}, vals (l ++ l') = true → vals l = true ∧ vals l' = true
  | [], _, h => ⟨rfl, h⟩
  | x :: l, l', h => by
    simp only [List.cons_append, vals] at h ⊢
    split at h
    · rename_i hx
      have := vals_append h
      exact ⟨by simp [this.1], this.2⟩
    · cases h

theorem callOf_ok (hs : Sim E lo G S a w) {g : FuncId} {args : List AV} (h : callOf S.T o.op = some (g, args)) (hv : vals args = true) (he : Ent P g) :
    ∃ vs : List Value, (execOp a.eval o).run P w = .ok (.enter g vs.toArray) w ∧ Reps G w args vs := by
  obtain ⟨dst, op, type, pos, after, guard⟩ := o
  simp only at h
  unfold callOf at h
  split at h
  · rename_i f xs tt
    split at h
    · rename_i g' fi ca hf
      simp only [Option.some.injEq, Prod.mk.injEq] at h
      obtain ⟨rfl, rfl⟩ := h
      have hr := evA_ok hs f
      rw [hf] at hr
      have hr := hr.rep (.inl rfl)
      generalize hev : a.eval f = fv at hr
      cases hr with
      | fn _ _ _ fv cv hfs hcs hfr hcr =>
      obtain ⟨fn, c, e1, e2, e3⟩ := he
      have h1 : fn.name ≠ "runtime.NumGoroutine" := by simpa using e2
      have hv' := vals_append hv
      obtain ⟨x1, x2⟩ := reps_map hs xs (vals_append hv'.1).2
      refine ⟨fv.toList ++ (xs.map a.eval).toList ++ cv.toList, ?_, ?_, ?_⟩
      · simp [execOp, resolve, hev, Deferred.ofValue, invoke, callFunc, e1, h1, e3]
      · simp only [List.length_append, Array.length_toList]
        rw [hfs, hcs, x1]
      · intro i x hx
        rw [List.getD_eq_getElem?_getD]
        rcases Nat.lt_or_ge i (fi ++ xs.toList.map (evA S.T)).length with hi | hi
        · rw [List.getElem?_append_left hi] at hx
          rw [List.getElem?_append_left (by simp only [List.length_append, Array.length_toList]; rw [hfs, x1]; simpa using hi)]
          rcases Nat.lt_or_ge i fi.length with hi' | hi'
          · rw [List.getElem?_append_left hi'] at hx
            rw [List.getElem?_append_left (by simpa [hfs] using hi')]
            have := hfr i x hx
            rwa [Array.getD_eq_getD_getElem?, ← Array.getElem?_toList] at this
          · rw [List.getElem?_append_right hi'] at hx
            rw [List.getElem?_append_right (by simpa [hfs] using hi')]
            have := x2 _ x hx
            rw [Array.getD_eq_getD_getElem?, ← Array.getElem?_toList] at this
            simpa [hfs] using this
        · rw [List.getElem?_append_right hi] at hx
          rw [List.getElem?_append_right (by simp only [List.length_append, Array.length_toList]; rw [hfs, x1]; simpa using hi)]
          have := hcr _ x hx
          rw [Array.getD_eq_getD_getElem?, ← Array.getElem?_toList] at this
          have e4 : (fv.toList ++ (xs.map a.eval).toList).length = (fi ++ xs.toList.map (evA S.T)).length := by
            simp only [List.length_append, Array.length_toList]; rw [hfs, x1]
          rw [e4]; exact this
    · cases h
  · cases h

theorem AC.upon (hs : Sim E lo G S a w) {g : FuncId} {args : List AV} {R : AV → AH → Prop} (h : callOf S.T o.op = some (g, args)) (hv : vals args = true) (hc : AC P g args S.H R) {next : Act → World → Prop}
    (hn : ∀ G' H' r v w', Sim E lo G' { S with H := H' } a w' → Rep G' w' r v → R r H' → next (a.put o.dst v) w') : o.wp P a w next Q := by
  obtain ⟨vs, h1, h2⟩ := callOf_ok (P := P) (o := o) hs h hv hc.1
  unfold Oper.wp
  rw [h1, Oper.upon_enter]
  refine (hc.2 G w vs hs.h h2).mono ?_
  rintro e w' ⟨r, cr, G', H', rfl, q1, q2, q3, q4, q5⟩
  exact hn G' H' r cr w' (hs.turn q3 q4 q2) q1 q5

theorem eop_ok (hty : TyOK P ty) (hs : Sim E lo G S a w) {L : List (Nat × List AV)} {H : AH} {r : AV} {φ : Prop} (h : eopC ty md o S = some (L, H, r, φ)) (hφ : φ) (hd : DstOK o S) {next : Act → World → Prop} (hn : ∀ lo' G' a' w', Sim E lo' G' (({ S with L := L, H := H } : AS).put o.dst r) a' w' → next a' w') : o.wp P a w next Q := by
  obtain ⟨dst, op, type, pos, after, guard⟩ := o
  unfold eopC at h
  simp only at h
  split at h
  · rename_i t p x
    split at h
    · rename_i ti ht
      split at h
      · rename_i hxv
        have hx := (evA_ok hs x).rep (.inl hxv)
        have hnt : (∀ vs, evA S.T x ≠ .tup vs) ∧ (match Nat.beq (evA S.T x).cellsOf.length ti.size with
          | true => match evA S.T p with
            | .lptr i c => match lookL S.L i with
              | some cs => match Nat.ble (c + ti.size) cs.length with
                | true => some (updL S.L i (splice cs c (evA S.T x).cellsOf), S.H, .skip, True)
                | false => none
              | none => none
            | .ptr id r c => match S.H.blks[id]? with
              | some (.rows z l) => match l[r]? with
                | some row => match Nat.ble (c + ti.size) row.length with
                  | true => some (S.L, { S.H with blks := S.H.blks.set id (.rows z (l.set r (splice row c (evA S.T x).cellsOf))) }, .skip, True)
                  | false => none
                | none => none
              | _ => none
            | _ => none
          | false => none) = some (L, H, r, φ) := by
          split at h
          · cases h
          · rename_i hnt; exact ⟨hnt, h⟩
        obtain ⟨hnt, h⟩ := hnt
        obtain ⟨k1, k2, k3⟩ := ones_cells hx hxv hnt
        split at h
        · rename_i hsz
          have hsz := Nat.eq_of_beq_eq_true hsz
          have hcs : (a.eval x).cells.size = ti.size := by rw [← hsz, ← k1]; simp
          have hp := evA_ok hs p
          split at h
          · rename_i i c hpe
            have hv : a.eval p = .pointer (some ⟨lo i, c, none⟩) := by
              rw [hpe] at hp
              rcases hp with hp | ⟨_, _, hp, hv⟩ | hp
              · cases hp
              · simp only [AV.lptr.injEq] at hp; rw [hp.1, hp.2]; exact hv
              · cases hp
            split at h
            · rename_i cs hcs'
              split at h
              · rename_i hle
                have hle := Nat.le_of_ble_eq_true hle
                simp only [Option.some.injEq, Prod.mk.injEq] at h
                obtain ⟨rfl, rfl, rfl, rfl⟩ := h
                obtain ⟨vs, e, f1, f2, f3⟩ := hs.store_local hcs' (c := c) (evA S.T x).cellsOf (a.eval x).cells.toList k1 (by omega) k3
                have hst := storeAt_ok (P := P) hty ht (v := a.eval x) (o := c) f1 hcs (by simpa using f2) k2
                unfold Oper.wp
                have : (execOp a.eval ⟨dst, .store t p x, type, pos, after, guard⟩).run P w = .ok .skip (w.setRow (lo i) (vs.toList.take c ++ (a.eval x).cells.toList ++ vs.toList.drop (c + (a.eval x).cells.toList.length)).toArray) := by
                  simp only [execOp, hv, Sem.run_bind, hst, Result.andThen_ok, Sem.run_pure]
                rw [this, Oper.upon_skip]
                exact hn _ _ _ _ (f3.put' (.inr (.inr .skip)) hd)
              · cases h
            · cases h
          · rename_i id r' c hpe
            rw [hpe] at hp
            have hp := hp.rep (.inl rfl)
            generalize hv : a.eval p = pv at hp
            cases hp with
            | ptr _ _ _ b z hb =>
            split at h
            · rename_i z' l hl
              split at h
              · rename_i row hrow
                split at h
                · rename_i hle
                  have hle := Nat.le_of_ble_eq_true hle
                  simp only [Option.some.injEq, Prod.mk.injEq] at h
                  obtain ⟨rfl, rfl, rfl, rfl⟩ := h
                  obtain ⟨b', vs, e, f0, f1, f2, f3, f4, f5⟩ := eff_row hs.h hl hrow (c := c) (evA S.T x).cellsOf (a.eval x).cells.toList k1 (by omega) k3
                  rw [hb] at f0
                  simp only [Option.some.injEq, Prod.mk.injEq] at f0
                  obtain ⟨rfl, rfl⟩ := f0
                  have hst := storeAt_ok (P := P) hty ht (v := a.eval x) (o := r' * z + c) f1 hcs (by simpa using f2) k2
                  unfold Oper.wp
                  have : (execOp a.eval ⟨dst, .store t p x, type, pos, after, guard⟩).run P w = .ok .skip (w.setRow b (vs.toList.take (r' * z + c) ++ (a.eval x).cells.toList ++ vs.toList.drop (r' * z + c + (a.eval x).cells.toList.length)).toArray) := by
                    simp only [execOp, hv, Sem.run_bind, hst, Result.andThen_ok, Sem.run_pure]
                  rw [this, Oper.upon_skip]
                  exact hn _ _ _ _ ((hs.turn f3 f4 f5).put' (.inr (.inr .skip)) hd)
                · cases h
              · cases h
            · cases h
          · cases h
        · cases h
      · cases h
    · cases h
  · rename_i t len parts
    split at h
    · rename_i s rows hb
      simp only [Option.some.injEq, Prod.mk.injEq] at h
      obtain ⟨rfl, rfl, rfl, rfl⟩ := h
      obtain ⟨us, e, f1, f2, f3, f4, f5, f6, f7, f8⟩ := bsl_ok hty hs hb
      unfold Oper.wp
      have hrun : (execOp a.eval ⟨dst, .buildSlice t len parts, type, pos, after, guard⟩).run P w = .ok (.value (.slice (some ⟨w.heap.size, 0, none⟩) len len)) (w.alloc (.cells us e)) := by
        simp only [execOp, Sem.run_bind]; erw [f1]; rfl
      rw [hrun, Oper.upon_value]
      rcases Nat.eq_zero_or_pos len with h0 | h0
      · have hx := eff_new hs.h us e (len * s) none rfl (.inl ⟨rfl, rfl⟩)
        have hs1 := hs.turn (Le.new hs.h _ _ _) hx.1 hx.2
        obtain ⟨q1, q2⟩ := eff_tip hs1.h s
        have hs2 := hs1.turn (Le.refl _ _) q1 q2
        have hrw : rows = [] := List.eq_nil_of_length_eq_zero (by omega)
        subst hrw
        subst h0
        refine hn _ _ _ _ (hs2.put' (RepT.of ?_) hd)
        exact .sl s [] (some _) _ 0 0 0 (fun _ _ => Go.undef) f2 (by simp) (by simp [maxLen]) (by simp) (.inl ⟨rfl, .inr rfl⟩) (fun i j x hx => by simp [cellAt] at hx) (fun i j x hx => by simp [cellAt] at hx) (fun i j x hx => by simp [cellAt] at hx)
      · have hx := eff_new (H' := { S.H with tips := S.H.tips ++ [(s, rows.length)] }) hs.h us e (len * s) (some S.H.tips.length) rfl (.inr ⟨_, s, rows.length, rfl, by simp, by omega, by rw [f3], fun b' hb' => absurd hb' (hs.h.chains _ b' (Nat.le_refl _)), fun c' hc' => by
          dsimp only
          rcases Nat.lt_or_ge c' S.H.tips.length with hl | hl
          · rw [List.getElem?_append_left hl]
          · rw [List.getElem?_append_right hl, List.getElem?_eq_none hl, List.getElem?_eq_none (by simp; omega)]⟩)
        exact hn _ _ _ _ ((hs.turn (Le.new hs.h _ _ _) hx.1 hx.2).put' (RepT.of (rep_new (S := S) f2 f3 f5 len (Nat.le_refl _) f5 f6 f7 f8 hs.h (fun h => by omega))) hd)
    · cases h
  · rename_i x y t u
    split at h
    · rename_i tu hu
      split at h
      · rename_i r'' H' ψ happ
        simp only [Option.some.injEq, Prod.mk.injEq] at h
        obtain ⟨rfl, rfl, rfl, rfl⟩ := h
        have hxy : (evA S.T x).val = true ∧ (evA S.T y).val = true := by
          unfold app rowsOf at happ
          constructor
          · cases hxe : evA S.T x <;> rw [hxe] at happ <;> first | rfl | (simp at happ; done) | (repeat' split at happ) <;> first | rfl | (cases happ; done) | contradiction
          · cases hye : evA S.T y <;> rw [hye] at happ <;> first | rfl | (simp at happ; done) | (repeat' split at happ) <;> first | rfl | (cases happ; done) | contradiction
        obtain ⟨v, G', w', g1, g2, g3⟩ := app_ok (P := P) (rt := type) hty hs hu happ hφ ((evA_ok hs x).rep (.inl hxy.1)) ((evA_ok hs y).rep (.inl hxy.2))
        unfold Oper.wp
        have hrun : (execOp a.eval ⟨dst, .call ⟨.builtin .append, ⟨[x, y]⟩, ⟨[t, u]⟩⟩, type, pos, after, guard⟩).run P w = .ok (.value v) w' := by
          simp [execOp, resolve, invoke, builtin, g1]
        rw [hrun, Oper.upon_value]
        exact hn _ _ _ _ (g2.put' (RepT.of g3) hd)
      · cases h
    · cases h
  · cases h

theorem B_ok (hty : TyOK P ty) (hs : Sim E lo G S a w) {K : AS → Prop} (h : B P ty md qt o S K) : o.wp P a w (Aft E K) Q := by
  obtain ⟨hd, h⟩ := h
  split at h
  · obtain ⟨x, h1, h2⟩ := h
    obtain ⟨v, G', w', g1, g2, g3⟩ := vop_ok hty hs h1
    unfold Oper.wp
    rw [g1, Oper.upon_value]
    exact ⟨_, _, _, g2.put' g3 hd, h2⟩
  · obtain ⟨x, h1, h2⟩ := h
    obtain ⟨v, G', w', g1, g2, g3⟩ := vop_ok hty hs h1
    unfold Oper.wp
    rw [g1, Oper.upon_value]
    exact ⟨_, _, _, g2.put' g3 hd, h2⟩
  · obtain ⟨d, cs, h1, h2, h3, h4⟩ := h
    obtain ⟨vs, e, g1, g2, g3⟩ := newC_ok (P := P) hty hs h2
    unfold Oper.wp
    rw [g1, Oper.upon_value, h1]
    have h5 := hs.alloc_local d h3 vs e cs g2 (fun j x hx => .inr (g3 j x hx))
    have h6 := h5.put (some d) (x := .lptr d 0) (v := .pointer (some ⟨w.heap.size, 0, none⟩)) (.inr (.inl ⟨d, 0, rfl, by simp⟩)) (fun k hk => by rw [← h1] at hk; exact hd k hk)
    exact ⟨_, _, _, h6, h4⟩
  · obtain ⟨L, H, x, φ, h1, h2, h3⟩ := h
    exact eop_ok hty hs h1 h2 hd fun lo' G' a' w' hs' => ⟨lo', G', _, hs', h3⟩
  · obtain ⟨g, args, h1, h2, h3⟩ := h
    exact AC.upon hs h1 h2 h3 fun G' H' r v w' hs' hr ⟨_, _, hk⟩ => ⟨_, _, _, hs'.put' (RepT.of hr) hd, hk⟩
  · obtain ⟨g, args, h1, h2, h3⟩ := h
    refine AC.upon hs h1 h2 (h3 _ fun _ => Grow.refl _) fun G' H' r v w' hs' hr ⟨he, _, hk⟩ => ⟨lo, G', S.put o.dst r, ?_, hk⟩
    subst he
    exact hs'.put' (RepT.of hr) hd
  · obtain ⟨m, h1, h2⟩ := h
    obtain ⟨x, H', G', w', ⟨_, k2⟩, g1, ⟨v, g2, g3⟩ | ⟨g2, rfl⟩⟩ := mem_ok (P := P) hty hs h1 h2
    · unfold Oper.wp
      rw [g2, Oper.upon_value]
      exact ⟨_, _, _, g1.put' (RepT.of g3) hd, k2⟩
    · unfold Oper.wp
      rw [g2, Oper.upon_skip]
      exact ⟨_, _, _, g1.put' (.inr (.inr .skip)) hd, k2⟩
  · obtain ⟨m, h1, h2⟩ := h
    obtain ⟨x, H', G', w', ⟨_, k2, k3⟩, g1, ⟨v, g2, g3⟩ | ⟨g2, rfl⟩⟩ := mem_ok (P := P) hty hs h1 h2
    · subst k2
      unfold Oper.wp
      rw [g2, Oper.upon_value]
      exact ⟨_, _, _, g1.put' (RepT.of g3) hd, k3⟩
    · subst k2
      unfold Oper.wp
      rw [g2, Oper.upon_skip]
      exact ⟨_, _, _, g1.put' (.inr (.inr .skip)) hd, k3⟩
  · obtain ⟨neg, t, x, h1, h2, h3⟩ := h
    have key : ∀ (A : Option Addr) (n c : Nat), a.eval x = .slice A n c → K (S.put o.dst (.bool (neg ^^ A.isNone))) → o.wp P a w (Aft E K) Q := by
      intro A n c he hk
      have hu : ∃ e, P.underlying t = some (.slice e) := by
        unfold isSlice at h2
        split at h2
        · rename_i e h0; exact ⟨e, kind_slice (hty _ _ h0) rfl⟩
        · cases h2
      obtain ⟨e, hu⟩ := hu
      have hrun : (execOp a.eval o).run P w = .ok (.value (.bool (neg ^^ A.isNone))) w := by
        obtain ⟨dst, op, type, pos, after, guard⟩ := o
        unfold nilqOf at h1
        simp only at h1
        have hneq : (Go.binOp .neq t (.slice A n c) (.slice none 0 0)).run P w = .ok (.bool (!A.isNone)) w := run_neq_slice_nil w t e A n c hu
        have hcst : a.eval (.const (.slice none 0 0)) = .slice none 0 0 := rfl
        have heq : (Go.binOp .eql t (.slice A n c) (.slice none 0 0)).run P w = .ok (.bool A.isNone) w := by
          simp only [Go.binOp]
          simp [run_equal_slice_nil w t e A n c hu]
        split at h1
        · simp only [Option.some.injEq, Prod.mk.injEq] at h1
          obtain ⟨rfl, rfl, rfl⟩ := h1
          simp [execOp, he, hcst, eqGuard_ok (v := .slice A n c) ⟨fun _ => by simp, by simp⟩, heq]
        · simp only [Option.some.injEq, Prod.mk.injEq] at h1
          obtain ⟨rfl, rfl, rfl⟩ := h1
          simp [execOp, he, hcst, eqGuard_ok (v := .slice A n c) ⟨fun _ => by simp, by simp⟩, hneq]
        · cases h1
      unfold Oper.wp
      rw [hrun, Oper.upon_value]
      exact ⟨lo, G, _, hs.put' (RepT.of (.bool _)) hd, hk⟩
    have hr := evA_ok hs x
    unfold nilqK at h3
    split at h3
    · rename_i e
      rw [e] at hr
      have hr := hr.rep (.inl rfl)
      generalize hv : a.eval x = v at hr
      cases hr
      exact key none 0 0 hv h3
    · rename_i z rows tok e
      rw [e] at hr
      have hr := hr.rep (.inl rfl)
      generalize hv : a.eval x = v at hr
      cases hr with
      | sl _ _ _ A c b off f hz hlc hc hk hp hcell g1 hrr =>
        refine key A _ c hv (h3 _ fun hn => ?_)
        rcases hp with ⟨h0, _⟩ | ⟨rfl, _⟩
        · exact List.eq_nil_of_length_eq_zero h0
        · cases hn
    · rename_i z id off len e
      rw [e] at hr
      have hr := hr.rep (.inl rfl)
      generalize hv : a.eval x = v at hr
      cases hr with
      | ms _ _ _ _ c A hlc _ hsh =>
        refine key _ _ c hv (h3 _ fun hn => ?_)
        rcases hsh with ⟨_, rfl, _⟩ | h0
        · cases hn
        · omega
    · cases h3

theorem B1_ok (hty : TyOK P ty) (hs : Sim E lo G S a w) {K : AS → Prop} {ops : Array Oper} {i : Nat} (hi : ops[i]? = some o) (h : B1 P ty md qt ops.toList o S K) : wpOp P ops Q i (Aft E K) a w := by
  unfold wpOp
  simp only [hi]
  unfold B1 at h
  unfold Region.wanted
  cases hg : o.guard with
  | none =>
    rw [hg] at h
    exact .inl (B_ok hty hs h)
  | some gw =>
    obtain ⟨g, want⟩ := gw
    rw [hg] at h
    obtain ⟨t, ht, h⟩ := h
    dsimp only
    have hskip : DstOK o S → K (S.put o.dst .skip) → Aft E K (a.put o.dst undef) w := fun hd hk => ⟨lo, G, _, hs.put' (.inr (.inr .skip)) hd, hk⟩
    have hr := hs.t t
    rcases h with ⟨b, hb, h1, h2⟩ | ⟨hb, hd, hk⟩
    · rw [hb] at hr
      have hr := hr.rep (.inl rfl)
      have hlt : t < a.tmps.size := by
        rcases Nat.lt_or_ge t a.tmps.size with h' | h'
        · exact h'
        · rw [Array.getD_eq_getD_getElem?, Array.getElem?_eq_none h'] at hr
          exact nomatch hr
      have hy : yielded ops a.tmps g = some b := by
        unfold yielded
        rw [Array.getElem?_toList] at ht
        rw [ht]
        simp only [Option.bind_some]
        generalize hv : a.tmps.getD t Go.undef = v at hr
        cases hr
        rw [Array.getD_eq_getD_getElem?, Array.getElem?_eq_getElem hlt, Option.getD_some] at hv
        rw [Array.getElem?_eq_getElem hlt, hv]
      simp only [hy]
      by_cases hbw : b = want
      · subst hbw
        rw [if_pos (by simp)]
        exact .inl (B_ok hty hs (h1 rfl))
      · rw [if_neg (by simpa using hbw)]
        exact hskip (h2 hbw).1 (h2 hbw).2
    · rw [hb] at hr
      have hr := hr.rep (.inr rfl)
      have hy : yielded ops a.tmps g = none := by
        unfold yielded
        rw [Array.getElem?_toList] at ht
        rw [ht]
        simp only [Option.bind_some]
        generalize hv : a.tmps.getD t Go.undef = v at hr
        cases hr
        rw [Array.getD_eq_getD_getElem?] at hv
        cases hx : a.tmps[t]? with
        | none => rfl
        | some y => rw [hx, Option.getD_some] at hv; subst hv; rfl
      simp only [hy]
      exact hskip hd hk

theorem wpOps_of_range {ops : Array Oper} (hty : TyOK P ty) {K : AS → Prop} : ∀ (l pre : List Oper), ops.toList = pre ++ l → ∀ {lo : Nat → Nat} {G : Gh} {S : AS} {a : Act} {w : World}, Sim E lo G S a w → Breg P ty md qt ops.toList l S K →
    (∀ a' w', Aft E K a' w' → Q .normal a' w') → wpOps P ops Q (List.range' pre.length l.length) a w
  | [], pre, _, lo, G, S, a, w, hs, h, hq => by
    simp only [List.length_nil, List.range'_zero, wpOps]
    exact hq _ _ ⟨lo, G, S, hs, h⟩
  | o :: l, pre, hl, lo, G, S, a, w, hs, h, hq => by
    simp only [List.length_cons, List.range'_succ]
    rw [wpOps_cons]
    have ho : ops[pre.length]? = some o := by rw [← Array.getElem?_toList, hl]; simp
    refine wpOp_mono ?_ (B1_ok (Q := Q) hty hs ho h)
    rintro a' w' ⟨lo', G', S', hs', h'⟩
    have := wpOps_of_range hty l (pre ++ [o]) (by simp [hl]) hs' h' hq
    simpa using this

/-- A region whose order is the text's. -/
theorem Breg_ok {id : Nat} {ops : Array Oper} (hty : TyOK P ty) (hs : Sim E lo G S a w) {K : AS → Prop} (h : Breg P ty md qt ops.toList ops.toList S K) (hq : ∀ a' w', Aft E K a' w' → Q .normal a' w') : (Code.region id ops false).wp P Q a w := by
  refine wp_region ?_
  have := wpOps_of_range (Q := Q) hty ops.toList [] rfl hs h hq
  simpa [List.range_eq_range'] using this
end
end Go.Proofs.Ytecpiplfjmmccaa.AM

/-
  What an operation does hangs on its operands alone.
  No program in sight. Conditions: none.
-/
namespace Go.Proofs.Ytecpiplfjmmccaa.AM
open Go

section
variable {ty : TypeId → Option TI} {md : Nat → Nat} {T T' : List (Nat × AV)}

theorem map_evA {xs : List Operand} (h : ∀ x ∈ xs, evA T x = evA T' x) : xs.map (evA T) = xs.map (evA T') := List.map_congr_left h
theorem bnd_congr {len d : Nat} {x : Option Operand} (h : ∀ y, x = some y → evA T y = evA T' y) : bnd len T x d = bnd len T' x d := by
  cases x with
  | none => rfl
  | some y => simp only [bnd, h y rfl]
theorem slc_congr {t : TypeId} {x : AV} {lo hi : Option Operand} (h1 : ∀ y, lo = some y → evA T y = evA T' y) (h2 : ∀ y, hi = some y → evA T y = evA T' y) : slc ty t T x lo hi = slc ty t T' x lo hi := by
  unfold slc
  simp only [bnd_congr h2, bnd_congr h1]
theorem fillA_congr {fs : List (Nat × Nat × TypeId)} : ∀ {parts : List (Nat × Operand)} {cs : List AV}, (∀ p ∈ parts, evA T p.2 = evA T' p.2) → fillA fs T parts cs = fillA fs T' parts cs
  | [], cs, _ => rfl
  | (i, x) :: r, cs, h => by
    have h1 := h (i, x) (List.mem_cons_self ..)
    have h2 : ∀ cs, fillA fs T r cs = fillA fs T' r cs := fun cs => fillA_congr fun p hp => h p (List.mem_cons_of_mem _ hp)
    simp only at h1
    simp only [fillA, h1, h2]
theorem bld_congr {k : Option TI} {parts : List (Nat × Operand)} (h : ∀ p ∈ parts, evA T p.2 = evA T' p.2) : bld k T parts = bld k T' parts := by
  unfold bld
  simp only [fillA_congr h]
theorem bsl_congr {t : TypeId} {len : Nat} {parts : List (Nat × Operand)} (h : ∀ p ∈ parts, evA T p.2 = evA T' p.2) : bsl ty t len parts T = bsl ty t len parts T' := by
  unfold bsl
  simp only [fillA_congr h]

theorem pv_congr {op : Op} (h : ∀ x ∈ op.operands, evA T x = evA T' x) : pv ty op T = pv ty op T' := by
  unfold pv
  split
  · rename_i x; rw [h x (by simp [Op.operands])]
  · rename_i x; rw [h x (by simp [Op.operands])]
  · rename_i c a b; rw [h c (by simp [Op.operands]), h a (by simp [Op.operands]), h b (by simp [Op.operands])]
  · rename_i x; rw [h x (by simp [Op.operands])]
  · rename_i s x f; rw [h x (by simp [Op.operands])]
  · rename_i s x f; rw [h x (by simp [Op.operands])]
  · rename_i t x i; rw [h x (by simp [Op.operands]), h i (by simp [Op.operands])]
  · rename_i o t x y _; rw [h x (by simp [Op.operands]), h y (by simp [Op.operands])]
  · rename_i x; rw [h x (by simp [Op.operands])]
  · rename_i s d x; rw [h x (by simp [Op.operands])]
  · rename_i x i; rw [h x (by simp [Op.operands])]
  · rename_i f fi ca
    rw [map_evA (fun x hx => h x (by simp only [Op.operands, Array.mem_append]; exact .inl (Array.mem_toList_iff.1 hx))), map_evA (fun x hx => h x (by simp only [Op.operands, Array.mem_append]; exact .inr (Array.mem_toList_iff.1 hx)))]
  · rename_i t parts
    exact bld_congr fun p hp => h p.2 (by simp only [Op.operands, List.mem_toArray, List.mem_map]; exact ⟨p, hp, rfl⟩)
  · rename_i t x lo hi
    rw [h x (by simp [Op.operands])]
    exact slc_congr (fun y hy => h y (by simp [Op.operands, hy])) (fun y hy => h y (by simp [Op.operands, hy]))
  · rename_i x t; rw [h x (by simp [Op.operands, Call.operands])]
  · rename_i x y _; rw [h x (by simp [Op.operands, Call.operands]), h y (by simp [Op.operands, Call.operands])]
  · rename_i x y _; rw [h x (by simp [Op.operands, Call.operands]), h y (by simp [Op.operands, Call.operands])]
  · rfl

/-- A place that comes out has gone in. -/
theorem pv_lptr {op : Op} {j c : Nat} (h : pv ty op T = some (.lptr j c)) : ∃ x ∈ op.operands, ∃ c', evA T x = .lptr j c' := by
  unfold pv at h
  split at h
  · rename_i x; simp only [Option.some.injEq] at h; exact ⟨x, by simp [Op.operands], c, h⟩
  · rename_i x; simp only [Option.some.injEq] at h; exact ⟨x, by simp [Op.operands], c, h⟩
  · rename_i c' a b
    split at h
    · simp only [Option.some.injEq] at h; exact ⟨a, by simp [Op.operands], c, h⟩
    · simp only [Option.some.injEq] at h; exact ⟨b, by simp [Op.operands], c, h⟩
    · cases h
  · split at h <;> cases h
  · rename_i s x f
    refine ⟨x, by simp [Op.operands], ?_⟩
    unfold fldAddr at h
    repeat' split at h
    all_goals first | (cases h; done) | skip
    · rename_i hx
      simp only [Option.some.injEq, AV.lptr.injEq] at h
      rw [hx, h.1]; exact ⟨_, rfl⟩
  all_goals exfalso
  · split at h
    · split at h
      · split at h
        · unfold partOf at h
          repeat' split at h
          all_goals first | (cases h; done) | skip
          · rename_i h1; simp only [Option.some.injEq] at h; subst h; cases h1
        · cases h
      · cases h
    · cases h
  · unfold idxAddr at h
    repeat' split at h
    all_goals first | (cases h; done) | skip
    · obtain ⟨_, _, h⟩ := Option.map_eq_some_iff.1 h; cases h
  · unfold bin arith shiftOf boolOp at h
    repeat' split at h
    all_goals first | (cases h; done) | skip
  · split at h <;> cases h
  · unfold cnv at h
    repeat' split at h
    all_goals cases h
  · repeat' split at h
    all_goals first | (cases h; done) | skip
    · rename_i h1; simp only [Option.some.injEq] at h; subst h; cases h1
  · repeat' split at h
    all_goals cases h
  · unfold bld at h
    repeat' split at h
    all_goals first | (cases h; done) | skip
    · obtain ⟨_, _, h⟩ := Option.map_eq_some_iff.1 h; cases h
  · unfold slc at h
    repeat' split at h
    all_goals cases h
  · unfold lenOf at h
    repeat' split at h
    all_goals cases h
  · unfold ints2 at h
    split at h <;> cases h
  · unfold ints2 at h
    split at h <;> cases h
  · cases h
end

section
variable {ty : TypeId → Option TI} {md : Nat → Nat} {S S' : AS}

theorem loadOf_one {k : Option TI} {cells : List AV} {c : Nat} {r : AV} (h : loadOf k cells c = some r) : ∀ j d, r ≠ .lptr j d := by
  rintro j d rfl
  unfold loadOf at h
  repeat' split at h
  all_goals first | (cases h; done) | skip
  · rename_i h1; simp only [Option.some.injEq] at h; subst h; cases h1

theorem vop_congr {op : Op} (h : ∀ x ∈ op.operands, evA S.T x = evA S'.T x) (hl : ∀ t p, op = .load t p → (∀ j c, evA S.T p = .lptr j c → lookL S.L j = lookL S'.L j) ∧ S.H = S'.H) : vop ty op S = vop ty op S' := by
  unfold vop
  split
  · rename_i t p
    obtain ⟨h1, h2⟩ := hl t p rfl
    rw [← h p (by simp [Op.operands]), h2]
    cases hp : evA S.T p <;> simp only []
    rw [h1 _ _ hp]
  · rename_i t len parts
    rw [bsl_congr fun p hp => h p.2 (by simp only [Op.operands, List.mem_toArray, List.mem_map]; exact ⟨p, hp, rfl⟩)]
  · exact pv_congr h

theorem vop_lptr {op : Op} {j c : Nat} (h : vop ty op S = some (.lptr j c)) : ∃ x ∈ op.operands, ∃ c', evA S.T x = .lptr j c' := by
  unfold vop at h
  split at h
  · exfalso
    repeat' split at h
    all_goals first | (cases h; done) | exact loadOf_one h _ _ rfl
  · split at h <;> cases h
  · exact pv_lptr h

theorem newC_congr {op : Op} {T T' : List (Nat × AV)} (h : ∀ x ∈ op.operands, evA T x = evA T' x) : newC ty op T = newC ty op T' := by
  unfold newC
  split
  · rfl
  · rename_i t y; rw [h y (by simp [Op.operands])]
  · rfl

theorem mop_congr {o : Oper} {T T' : List (Nat × AV)} (h : ∀ x ∈ o.op.operands, evA T x = evA T' x) : mop ty md o T = mop ty md o T' := by
  unfold mop
  split
  · rfl
  · rename_i t m k v ho
    rw [h m (by rw [ho]; simp [Op.operands]), h k (by rw [ho]; simp [Op.operands]), h v (by rw [ho]; simp [Op.operands])]
  · rename_i t m k ho
    rw [h m (by rw [ho]; simp [Op.operands]), h k (by rw [ho]; simp [Op.operands])]
  · rename_i t m k v ho
    rw [h m (by rw [ho]; simp [Op.operands]), h k (by rw [ho]; simp [Op.operands]), h v (by rw [ho]; simp [Op.operands])]
  · rename_i t m k ok ho
    rw [h m (by rw [ho]; simp [Op.operands]), h k (by rw [ho]; simp [Op.operands])]
  · rename_i t ho
    rw [newC_congr (T' := T') (fun x hx => h x (by rw [ho]; exact hx))]
  · rename_i t y ho
    rw [newC_congr (T' := T') (fun x hx => h x (by rw [ho]; exact hx))]
  · rename_i t len parts ho
    rw [bsl_congr (T' := T') fun p hp => h p.2 (by rw [ho]; simp only [Op.operands, List.mem_toArray, List.mem_map]; exact ⟨p, hp, rfl⟩)]
  · rename_i t n c ho
    rw [h n (by rw [ho]; simp [Op.operands]), h c (by rw [ho]; simp [Op.operands])]
  · rename_i x y t u ho
    rw [h x (by rw [ho]; simp [Op.operands, Call.operands]), h y (by rw [ho]; simp [Op.operands, Call.operands])]
  · rename_i x t ho
    rw [h x (by rw [ho]; simp [Op.operands, Call.operands])]
  · rename_i m k t t' ho
    rw [h m (by rw [ho]; simp [Op.operands, Call.operands]), h k (by rw [ho]; simp [Op.operands, Call.operands])]
  · rename_i m t ho
    rw [h m (by rw [ho]; simp [Op.operands, Call.operands])]
  · rfl

theorem callOf_congr {op : Op} {T T' : List (Nat × AV)} (h : ∀ x ∈ op.operands, evA T x = evA T' x) : callOf T op = callOf T' op := by
  unfold callOf
  split
  · rename_i f args tt
    rw [h f (by simp [Op.operands, Call.operands]), map_evA (xs := args.toList) (fun x hx => h x (by simp only [Op.operands, Call.operands, Array.mem_append]; exact .inr (Array.mem_toList_iff.1 hx)))]
  · rfl
end
end Go.Proofs.Ytecpiplfjmmccaa.AM

/-
  A region whose order is drawn: one order speaks for all, where what is out of order does not meet.
  Conditions: the table of types tells of the program's.
-/
namespace Go.Proofs.Ytecpiplfjmmccaa.AM
open Go

/-- The same state, told otherwise. -/
structure Eqv (S S' : AS) : Prop where
  n : S.n = S'.n
  t : ∀ i, look S.T i = look S'.T i
  m : ∀ p, p ∈ S.T ↔ p ∈ S'.T
  l : ∀ i, lookL S.L i = lookL S'.L i
  h : S.H = S'.H
theorem Eqv.refl (S : AS) : Eqv S S := ⟨rfl, fun _ => rfl, fun _ => Iff.rfl, fun _ => rfl, rfl⟩
theorem Eqv.trans {S S' S'' : AS} (h : Eqv S S') (k : Eqv S' S'') : Eqv S S'' := ⟨h.n.trans k.n, fun i => (h.t i).trans (k.t i), fun p => (h.m p).trans (k.m p), fun i => (h.l i).trans (k.l i), h.h.trans k.h⟩
theorem Sim.eqv {E : Env} {lo : Nat → Nat} {G : Gh} {S S' : AS} {a : Act} {w : World} (h : Sim E lo G S a w) (e : Eqv S S') : Sim E lo G S' a w where
  t i := by rw [← e.t]; exact h.t i
  size := by rw [← e.n]; exact h.size
  d := h.d
  l := ⟨fun i cs hi => h.l.at_ i cs (by rw [e.l]; exact hi), fun i cs hi => h.l.free i cs (by rw [e.l]; exact hi), fun i j cs ds hi hj => h.l.inj i j cs ds (by rw [e.l]; exact hi) (by rw [e.l]; exact hj)⟩
  h := by rw [← e.h]; exact h.h
  le := h.le
  ext := by rw [← e.h]; exact h.ext
  own i cs hi := h.own i cs (by rw [e.l]; exact hi)

theorem evA_eqv {S S' : AS} (e : ∀ i, look S.T i = look S'.T i) (x : Operand) : evA S.T x = evA S'.T x := by cases x <;> simp only [evA, e]
theorem noL_iff {d : Nat} : ∀ {T : List (Nat × AV)}, noL d T = true ↔ ∀ i j c, (i, AV.lptr j c) ∈ T → j ≠ d
  | [] => by simp [noL]
  | (k, x) :: T => by
    constructor
    · intro h i j c hm; exact noL_ne h hm
    · intro h
      have ih := (noL_iff (d := d) (T := T)).2 fun i j c hm => h i j c (List.mem_cons_of_mem _ hm)
      cases x <;> simp only [noL] <;> first | exact ih | skip
      rename_i j c
      have hne := h k j c (List.mem_cons_self ..)
      split
      · rename_i hb; exact absurd (Nat.eq_of_beq_eq_true hb) hne
      · exact ih
theorem put_eqv {S S' : AS} (e : Eqv S S') (d : Option Tmp) (x : AV) : Eqv (S.put d x) (S'.put d x) := by
  cases d with
  | none => exact e
  | some d =>
    refine ⟨e.n, fun i => ?_, fun p => ?_, e.l, e.h⟩
    · simp only [AS.put, look_cons, e.t]
    · simp only [AS.put, List.mem_cons, e.m]

section
variable {P : Program} {ty : TypeId → Option TI} {md : Nat → Nat} {qt : FuncId → Bool}

def res (ops : List Oper) (o : Oper) (S : AS) : Option Bool :=
  match o.guard with
  | none => some true
  | some (g, want) => match (ops[g]?).bind (·.dst) with
    | some t => match look S.T t with
      | .bool b => some (b == want)
      | .skip => some false
      | _ => none
    | none => none
theorem B1_iff {ops : List Oper} {o : Oper} {S : AS} {K : AS → Prop} : B1 P ty md qt ops o S K ↔ (res ops o S = some true ∧ B P ty md qt o S K) ∨ (res ops o S = some false ∧ DstOK o S ∧ K (S.put o.dst .skip)) := by
  unfold B1 res
  cases o.guard with
  | none => simp
  | some gw =>
    obtain ⟨g, want⟩ := gw
    dsimp only
    cases ht : (ops[g]?).bind (·.dst) with
    | none => simp
    | some t =>
      simp only [Option.some.injEq, exists_eq_left']
      cases hl : look S.T t <;> simp
      rename_i b
      by_cases hb : b = want
      · subst hb; simp
      · simp [hb]

abbrev Dl := Option (Nat × AV) × Option (Nat × List AV)
def AS.add (S : AS) (D : Dl) : AS := { S with T := D.1.toList ++ S.T, L := D.2.toList ++ S.L }
def dstb (o : Oper) (S : AS) : Bool :=
  match o.dst with
  | some d => decide (d < S.n)
  | none => true
theorem dstb_iff {o : Oper} {S : AS} : dstb o S = true ↔ DstOK o S := by
  unfold dstb DstOK
  cases o.dst <;> simp
def light : Cls → Bool
  | .val | .rd | .new => true
  | _ => false
/-- What an operation that stays in the call lays down. -/
def dl (ty : TypeId → Option TI) (md : Nat → Nat) (qt : FuncId → Bool) (ops : List Oper) (o : Oper) (S : AS) : Option Dl :=
  match dstb o S with
  | false => none
  | true => match res ops o S with
    | none => none
    | some false => some (o.dst.map (·, .skip), none)
    | some true => match cls md qt o with
      | .val | .rd => (vop ty o.op S).map fun x => (o.dst.map (·, x), none)
      | .new => match o.dst with
        | some d => match newC ty o.op S.T with
          | some cs => match noL d S.T with
            | true => some (some (d, .lptr d 0), some (d, cs))
            | false => none
          | none => none
        | none => none
      | _ => none
theorem put_add (S : AS) (d : Option Tmp) (x : AV) : S.put d x = S.add (d.map (·, x), none) := by cases d <;> rfl
theorem B1_light {ops : List Oper} {o : Oper} {S : AS} {K : AS → Prop} (hl : light (cls md qt o) = true) : B1 P ty md qt ops o S K ↔ ∃ D, dl ty md qt ops o S = some D ∧ K (S.add D) := by
  rw [B1_iff]
  unfold dl
  cases hd : dstb o S with
  | false =>
    have hn : ¬ DstOK o S := fun h => by rw [← dstb_iff, hd] at h; cases h
    simp only [reduceCtorEq, false_and, exists_false, iff_false]
    rintro (⟨_, h, _⟩ | ⟨_, h, _⟩) <;> exact hn h
  | true =>
    have hd' := dstb_iff.1 hd
    cases hr : res ops o S with
    | none => simp
    | some b =>
      cases b with
      | false => simp [hd', put_add]
      | true =>
        simp only [true_and, Option.some.injEq, reduceCtorEq, false_and, or_false]
        unfold B
        cases hc : cls md qt o <;> rw [hc] at hl <;> first | (cases hl; done) | skip
        · simp only [hd', true_and]
          constructor
          · rintro ⟨x, h1, h2⟩; exact ⟨_, by rw [h1]; rfl, by rw [← put_add]; exact h2⟩
          · rintro ⟨D, h1, h2⟩
            obtain ⟨x, h3, rfl⟩ := Option.map_eq_some_iff.1 h1
            exact ⟨x, h3, by rw [put_add]; exact h2⟩
        · simp only [hd', true_and]
          constructor
          · rintro ⟨x, h1, h2⟩; exact ⟨_, by rw [h1]; rfl, by rw [← put_add]; exact h2⟩
          · rintro ⟨D, h1, h2⟩
            obtain ⟨x, h3, rfl⟩ := Option.map_eq_some_iff.1 h1
            exact ⟨x, h3, by rw [put_add]; exact h2⟩
        · simp only [hd', true_and]
          constructor
          · rintro ⟨d, cs, h1, h2, h3, h4⟩
            exact ⟨(some (d, .lptr d 0), some (d, cs)), by simp [h1, h2, h3], h4⟩
          · rintro ⟨D, h1, h2⟩
            split at h1
            · rename_i d hd1
              split at h1
              · rename_i cs hcs
                split at h1
                · rename_i hn
                  simp only [Option.some.injEq] at h1
                  subst h1
                  exact ⟨d, cs, hd1, hcs, hn, h2⟩
                · cases h1
              · cases h1
            · cases h1

theorem looks_op {ops : List Oper} {o : Oper} {t : Tmp} (h : Operand.tmp t ∈ o.op.operands) : t ∈ o.looksAt ops.toArray := by
  unfold Oper.looksAt
  refine List.mem_append_left _ (List.mem_filterMap.2 ⟨.tmp t, by simpa using h, rfl⟩)
theorem looks_guard {ops : List Oper} {o : Oper} {g : Nat} {want : Bool} {t : Tmp} (h : o.guard = some (g, want)) (ht : (ops[g]?).bind (·.dst) = some t) : t ∈ o.looksAt ops.toArray := by
  unfold Oper.looksAt
  rw [h]
  refine List.mem_append_right _ ?_
  simp only [List.getElem?_toArray]
  rw [ht]; simp
theorem evA_agr {T T' : List (Nat × AV)} {ops : List Oper} {o : Oper} (h : ∀ t ∈ o.looksAt ops.toArray, look T t = look T' t) : ∀ x ∈ o.op.operands, evA T x = evA T' x := by
  intro x hx
  cases x with
  | tmp t => exact h t (looks_op hx)
  | _ => rfl
theorem res_agr {S S' : AS} {ops : List Oper} {o : Oper} (h : ∀ t ∈ o.looksAt ops.toArray, look S.T t = look S'.T t) : res ops o S = res ops o S' := by
  unfold res
  split
  · rfl
  · rename_i g want hg
    split
    · rename_i t ht; rw [h t (looks_guard hg ht)]
    · rfl

theorem dl_agr {S S' : AS} {ops : List Oper} {o : Oper} (hn : S.n = S'.n) (ht : ∀ t ∈ o.looksAt ops.toArray, look S.T t = look S'.T t)
    (hr : cls md qt o = .rd → (∀ x ∈ o.op.operands, ∀ j c, evA S.T x = .lptr j c → lookL S.L j = lookL S'.L j) ∧ S.H = S'.H) (hw : cls md qt o = .new → ∀ d, o.dst = some d → noL d S.T = noL d S'.T) :
    dl ty md qt ops o S = dl ty md qt ops o S' := by
  have he := evA_agr ht
  unfold dl
  have h1 : dstb o S = dstb o S' := by unfold dstb; rw [hn]
  rw [h1, res_agr ht]
  split
  · rfl
  · split
    · rfl
    · rfl
    · split
      · rename_i hc
        rw [vop_congr he]
        intro t p hp
        unfold cls at hc; rw [hp] at hc; cases hc
      · rename_i hc
        rw [vop_congr he]
        intro t p hp
        obtain ⟨h2, h3⟩ := hr hc
        exact ⟨fun j c hj => h2 p (by rw [hp]; simp [Op.operands]) j c hj, h3⟩
      · rename_i hc
        rw [newC_congr he]
        split
        · rename_i d hd; rw [hw hc d hd]
        · rfl
      · rfl

/-- The delta of a light operation: its destination alone; a place in it has gone in, or is the operation's own. -/
theorem dl_shape {S : AS} {ops : List Oper} {o : Oper} {D : Dl} (h : dl ty md qt ops o S = some D) : (∀ d x, D.1 = some (d, x) → o.dst = some d) ∧
    (∀ d cs, D.2 = some (d, cs) → cls md qt o = .new ∧ o.dst = some d ∧ noL d S.T = true) ∧ (∀ d j c, D.1 = some (d, .lptr j c) → (cls md qt o = .new ∧ o.dst = some j) ∨ ∃ x ∈ o.op.operands, ∃ c', evA S.T x = .lptr j c') := by
  unfold dl at h
  split at h
  · cases h
  · split at h
    · cases h
    · simp only [Option.some.injEq] at h
      subst h
      cases o.dst <;> simp
    · have hv : ∀ {D : Dl}, (vop ty o.op S).map (fun x => (o.dst.map (·, x), (none : Option (Nat × List AV)))) = some D → (∀ d x, D.1 = some (d, x) → o.dst = some d) ∧
          (∀ d cs, D.2 = some (d, cs) → cls md qt o = .new ∧ o.dst = some d ∧ noL d S.T = true) ∧ (∀ d j c, D.1 = some (d, .lptr j c) → (cls md qt o = .new ∧ o.dst = some j) ∨ ∃ x ∈ o.op.operands, ∃ c', evA S.T x = .lptr j c') := by
        intro D h
        obtain ⟨x, hx, rfl⟩ := Option.map_eq_some_iff.1 h
        refine ⟨fun d y hy => ?_, fun d cs hd => (by cases hd), fun d j c hy => .inr ?_⟩
        · obtain ⟨d', hd', e⟩ := Option.map_eq_some_iff.1 hy
          simp only [Prod.mk.injEq] at e
          rw [hd', e.1]
        · obtain ⟨d', hd', e⟩ := Option.map_eq_some_iff.1 hy
          simp only [Prod.mk.injEq] at e
          rw [e.2] at hx
          exact vop_lptr hx
      split at h
      · exact hv h
      · exact hv h
      · rename_i hc
        split at h
        · rename_i d hd
          split at h
          · split at h
            · rename_i hn
              simp only [Option.some.injEq] at h
              subst h
              refine ⟨fun d' x e => ?_, fun d' cs e => ?_, fun d' j c e => .inl ?_⟩
              · simp only [Option.some.injEq, Prod.mk.injEq] at e; rw [hd, e.1]
              · simp only [Option.some.injEq, Prod.mk.injEq] at e; rw [← e.1]; exact ⟨hc, hd, hn⟩
              · simp only [Option.some.injEq, Prod.mk.injEq, AV.lptr.injEq] at e; exact ⟨hc, by rw [hd, e.2.1]⟩
            · cases h
          · cases h
        · cases h
      · cases h

theorem evA_lptr {T : List (Nat × AV)} {x : Operand} {j c : Nat} (h : evA T x = .lptr j c) : ∃ t, (t, AV.lptr j c) ∈ T := by
  cases x with
  | tmp t => exact ⟨t, look_mem h (by simp)⟩
  | const v =>
    simp only [evA] at h
    split at h
    · rename_i y hy
      subst h
      have := toAV_rep hy ⟨fun _ => none, fun _ => 0, fun _ => none⟩ (default : World)
      exact nomatch this
    · cases h
  | func f => cases h
  | global g => cases h
theorem noL_add {d : Nat} {T : List (Nat × AV)} {p : Option (Nat × AV)} (h : ∀ e c, p = some (e, .lptr d c) → noL d T = false) : noL d (p.toList ++ T) = noL d T := by
  cases p with
  | none => rfl
  | some p =>
    obtain ⟨e, x⟩ := p
    simp only [Option.toList_some, List.singleton_append]
    cases x <;> simp only [noL]
    rename_i j c
    split
    · rename_i hb
      have := Nat.eq_of_beq_eq_true hb
      subst this
      exact (h e c rfl).symm
    · rfl

def Apart (ops : List Oper) (x y : Oper) : Prop := (∀ d, x.dst = some d → d ∉ y.looksAt ops.toArray) ∧ (∀ d, x.dst = some d → y.dst ≠ some d) ∧ (∀ d, y.dst = some d → d ∉ x.looksAt ops.toArray)
theorem Apart.symm {ops : List Oper} {x y : Oper} (h : Apart ops x y) : Apart ops y x := ⟨h.2.2, fun d h1 h2 => h.2.1 d h2 h1, h.1⟩

theorem look_add {S : AS} {D : Dl} {t : Nat} (h : ∀ d x, D.1 = some (d, x) → d ≠ t) : look (S.add D).T t = look S.T t := by
  obtain ⟨p, q⟩ := D
  cases p with
  | none => rfl
  | some p =>
    obtain ⟨d, x⟩ := p
    show look ((d, x) :: S.T) t = _
    rw [look_cons, if_neg (h d x rfl)]
theorem lookL_add {S : AS} {D : Dl} {j : Nat} (h : ∀ d x, D.2 = some (d, x) → d ≠ j) : lookL (S.add D).L j = lookL S.L j := by
  obtain ⟨p, q⟩ := D
  cases q with
  | none => rfl
  | some q =>
    obtain ⟨d, x⟩ := q
    show lookL ((d, x) :: S.L) j = _
    rw [lookL_cons, if_neg (h d x rfl)]

theorem dl_add {S : AS} {ops : List Oper} {o o' : Oper} {D : Dl} (ha : Apart ops o' o) (h : dl ty md qt ops o' S = some D) : dl ty md qt ops o (S.add D) = dl ty md qt ops o S := by
  obtain ⟨s1, s2, s3⟩ := dl_shape h
  have hlook : ∀ t ∈ o.looksAt ops.toArray, look (S.add D).T t = look S.T t := fun t ht => look_add fun d x hd e => by
    subst e
    exact ha.1 d (s1 d x hd) ht
  refine dl_agr rfl hlook (fun _ => ⟨fun x hx j c hj => ?_, rfl⟩) (fun _ d hd => ?_)
  · rw [evA_agr hlook x hx] at hj
    obtain ⟨t, ht⟩ := evA_lptr hj
    refine lookL_add fun d cs hd e => ?_
    subst e
    obtain ⟨_, _, hn⟩ := s2 d cs hd
    exact noL_iff.1 hn _ _ _ ht rfl
  · refine noL_add fun e c hp => ?_
    rcases s3 e d c hp with ⟨_, h2⟩ | ⟨x, hx, c', hc'⟩
    · exact absurd hd (ha.2.1 d h2)
    · obtain ⟨t, ht⟩ := evA_lptr hc'
      cases hnb : noL d S.T with
      | false => rfl
      | true => exact absurd rfl (noL_iff.1 hnb _ _ _ ht)

theorem add_comm_eqv {S : AS} {D D' : Dl} (h1 : ∀ d x e y, D.1 = some (d, x) → D'.1 = some (e, y) → d ≠ e) (h2 : ∀ d x e y, D.2 = some (d, x) → D'.2 = some (e, y) → d ≠ e) : Eqv ((S.add D).add D') ((S.add D').add D) := by
  obtain ⟨p, q⟩ := D
  obtain ⟨p', q'⟩ := D'
  refine ⟨rfl, fun i => ?_, fun r => ?_, fun i => ?_, rfl⟩
  · show look (p'.toList ++ (p.toList ++ S.T)) i = look (p.toList ++ (p'.toList ++ S.T)) i
    cases p with
    | none => rfl
    | some p => cases p' with
      | none => rfl
      | some p' =>
        obtain ⟨d, x⟩ := p
        obtain ⟨e, y⟩ := p'
        have := h1 d x e y rfl rfl
        simp only [Option.toList_some, List.singleton_append, look_cons]
        by_cases hd : d = i <;> by_cases he : e = i <;> simp [hd, he]
        exact absurd (hd.trans he.symm) this
  · show r ∈ p'.toList ++ (p.toList ++ S.T) ↔ r ∈ p.toList ++ (p'.toList ++ S.T)
    simp only [List.mem_append]
    exact ⟨fun h => by rcases h with h | h | h <;> simp [h], fun h => by rcases h with h | h | h <;> simp [h]⟩
  · show lookL (q'.toList ++ (q.toList ++ S.L)) i = lookL (q.toList ++ (q'.toList ++ S.L)) i
    cases q with
    | none => rfl
    | some q => cases q' with
      | none => rfl
      | some q' =>
        obtain ⟨d, x⟩ := q
        obtain ⟨e, y⟩ := q'
        have := h2 d x e y rfl rfl
        simp only [Option.toList_some, List.singleton_append, lookL_cons]
        by_cases hd : d = i <;> by_cases he : e = i <;> simp [hd, he]
        exact absurd (hd.trans he.symm) this

/-- What may change places. -/
def clsOK (md : Nat → Nat) (qt : FuncId → Bool) (ok oi : Oper) : Bool :=
  match cls md qt ok, cls md qt oi with
  | .val, _ => true
  | .rd, .val | .rd, .rd | .rd, .new | .rd, .quiet | .rd, .look => true
  | .rd, .mem => pushy oi
  | .rd, .call => gcall md oi
  | .new, .val | .new, .rd | .new, .new | .new, .quiet | .new, .call | .new, .look | .new, .mem => true
  | .mem, .quiet => pushy ok && pureQ md oi
  | _, _ => false

theorem eopC_agr {S S' : AS} {ops : List Oper} {o : Oper} (ht : ∀ t ∈ o.looksAt ops.toArray, look S.T t = look S'.T t) (hl : S.L = S'.L) (hh : S.H = S'.H) : eopC ty md o S = eopC ty md o S' := by
  have he := evA_agr ht
  unfold eopC
  split
  · rename_i t p x hop
    rw [he p (by rw [hop]; simp [Op.operands]), he x (by rw [hop]; simp [Op.operands]), hl, hh]
  · rename_i t len parts hop
    rw [bsl_congr (T' := S'.T) fun p hp => he p.2 (by rw [hop]; simp only [Op.operands, List.mem_toArray, List.mem_map]; exact ⟨p, hp, rfl⟩), hl, hh]
  · rename_i x y t u hop
    rw [he x (by rw [hop]; simp [Op.operands, Call.operands]), he y (by rw [hop]; simp [Op.operands, Call.operands]), hl, hh]
  · rfl

theorem rd_load {o : Oper} (h : cls md qt o = .rd) : ∃ t p, o.op = .load t p := by
  unfold cls at h
  repeat' split at h
  all_goals first | (cases h; done) | skip
  rename_i t p hop
  exact ⟨t, p, hop⟩
theorem vop_grow {o : Oper} {S S' : AS} {x : AV} (hc : cls md qt o = .rd) (he : ∀ y ∈ o.op.operands, evA S.T y = evA S'.T y) (hl : S.L = S'.L) (hg : Grow S.H S'.H) (h : vop ty o.op S = some x) : vop ty o.op S' = some x := by
  obtain ⟨t, p, hop⟩ := rd_load hc
  rw [hop] at h ⊢
  have e := he p (by rw [hop]; simp [Op.operands])
  simp only [vop] at h ⊢
  rw [← e]
  split at h
  · rw [← hl]; exact h
  · exact h
  · rename_i id r c _
    split at h
    · rename_i z l hb
      simp only [hg _ _ hb]
      exact h
    · cases h
  · cases h
theorem dl_grow {S S' : AS} {ops : List Oper} {o : Oper} {D : Dl} (hc : cls md qt o = .rd) (hn : S.n = S'.n) (ht : ∀ t ∈ o.looksAt ops.toArray, look S.T t = look S'.T t) (hl : S.L = S'.L) (hg : Grow S.H S'.H)
    (h : dl ty md qt ops o S = some D) : dl ty md qt ops o S' = some D := by
  have he := evA_agr ht
  unfold dl at h ⊢
  have h1 : dstb o S = dstb o S' := by unfold dstb; rw [hn]
  rw [h1, res_agr ht] at h
  rw [hc] at h ⊢
  split at h
  · cases h
  · split at h
    · cases h
    · exact h
    · dsimp only at h ⊢
      obtain ⟨x, hx, hD⟩ := Option.map_eq_some_iff.1 h
      rw [vop_grow hc he hl hg hx]
      exact congrArg some hD
theorem mop_pushy {o : Oper} {T : List (Nat × AV)} {m : MAct} (h : mop ty md o T = some m) (hp : pushy o = true) : ∀ H : AH, ∃ x H2, Grow H H2 ∧ ∀ K, m.P H K ↔ K x H2 := by
  intro H
  have key : (∃ q, m = .mkMap q) ∨ (∃ cs, m = .obj cs) ∨ ∃ cs, m = .epb cs := by
    unfold pushy at hp
    unfold mop at h
    split at hp
    · rename_i hop
      rw [hop] at h
      dsimp only at h
      split at h
      · simp only [Option.some.injEq] at h; exact .inl ⟨_, h.symm⟩
      · cases h
    · rename_i hop
      rw [hop] at h
      dsimp only at h
      repeat' split at h
      all_goals first | (cases h; done) | skip
      all_goals
        simp only [Option.some.injEq] at h
        first | exact .inr (.inl ⟨_, h.symm⟩) | exact .inr (.inr ⟨_, h.symm⟩)
    · rename_i hop
      rw [hop] at h
      dsimp only at h
      repeat' split at h
      all_goals first | (cases h; done) | skip
      all_goals
        simp only [Option.some.injEq] at h
        first | exact .inr (.inl ⟨_, h.symm⟩) | exact .inr (.inr ⟨_, h.symm⟩)
    · cases hp
  rcases key with ⟨q, rfl⟩ | ⟨cs, rfl⟩ | ⟨cs, rfl⟩
  · exact ⟨_, _, Grow.push, fun K => Iff.rfl⟩
  · exact ⟨_, _, Grow.push, fun K => Iff.rfl⟩
  · exact ⟨_, _, Grow.refl _, fun K => Iff.rfl⟩

/-- What an operation lays that only lays a new block. -/
def pa (ty : TypeId → Option TI) (md : Nat → Nat) (ops : List Oper) (o : Oper) (S : AS) (x : AV) (H2 : AH) : Prop :=
  (res ops o S = some true ∧ DstOK o S ∧ ∃ m, mop ty md o S.T = some m ∧ okR x = true ∧ ∀ K, m.P S.H K ↔ K x H2) ∨ (res ops o S = some false ∧ DstOK o S ∧ x = .skip ∧ H2 = S.H)
theorem B1_push {ops : List Oper} {o : Oper} {S : AS} {K : AS → Prop} (hc : cls md qt o = .mem) (hp : pushy o = true) : B1 P ty md qt ops o S K ↔ ∃ x H2, pa ty md ops o S x H2 ∧ K (({ S with H := H2 } : AS).put o.dst x) := by
  rw [B1_iff]
  constructor
  · rintro (⟨h1, h2, h3⟩ | ⟨h1, h2, h3⟩)
    · rw [hc] at h3
      obtain ⟨m, g1, g2⟩ := h3
      obtain ⟨x, H2, hg, hP⟩ := mop_pushy g1 hp S.H
      rw [hP] at g2
      exact ⟨x, H2, .inl ⟨h1, h2, m, g1, g2.1, hP⟩, g2.2⟩
    · exact ⟨_, _, .inr ⟨h1, h2, rfl, rfl⟩, h3⟩
  · rintro ⟨x, H2, ⟨h1, h2, m, g1, g2, hP⟩ | ⟨h1, h2, rfl, rfl⟩, hk⟩
    · refine .inl ⟨h1, h2, ?_⟩
      rw [hc]
      exact ⟨m, g1, (hP _).2 ⟨g2, hk⟩⟩
    · exact .inr ⟨h1, h2, hk⟩
theorem pa_agr {ops : List Oper} {o : Oper} {S S' : AS} {x : AV} {H2 : AH} (hn : S.n = S'.n) (ht : ∀ t ∈ o.looksAt ops.toArray, look S.T t = look S'.T t) (hh : S.H = S'.H) (h : pa ty md ops o S x H2) : pa ty md ops o S' x H2 := by
  unfold pa at h ⊢
  unfold DstOK at h ⊢
  rw [← res_agr ht, ← hn, ← hh, ← mop_congr (evA_agr ht)]
  exact h

/-- A call that looks at no tracked memory may stand ahead of what only lays a new block. -/
theorem commute_push {S : AS} {ops : List Oper} {o1 o2 : Oper} {K : AS → Prop} (ha : Apart ops o1 o2) (hc1 : cls md qt o1 = .mem) (hp : pushy o1 = true) (hc2 : cls md qt o2 = .quiet) (hq : pureQ md o2 = true) (h : B1 P ty md qt ops o1 S fun S1 => B1 P ty md qt ops o2 S1 K) :
    B1 P ty md qt ops o2 S fun S2 => B1 P ty md qt ops o1 S2 fun S3 => ∃ S4, Eqv S4 S3 ∧ K S4 := by
  obtain ⟨x, H2, hpa, h⟩ := (B1_push hc1 hp).1 h
  have hlook : ∀ t ∈ o2.looksAt ops.toArray, look (({ S with H := H2 } : AS).put o1.dst x).T t = look S.T t := by
    intro t ht
    rw [put_add]
    refine look_add (S := { S with H := H2 }) fun d y hd e => ?_
    obtain ⟨d', hd', e'⟩ := Option.map_eq_some_iff.1 hd
    simp only [Prod.mk.injEq] at e'
    subst e
    exact ha.1 d (by rw [← e'.1]; exact hd') ht
  have hlook1 : ∀ r t, t ∈ o1.looksAt ops.toArray → look S.T t = look (S.put o2.dst r).T t := by
    intro r t ht
    rw [put_add]
    refine (look_add fun d y hd e => ?_).symm
    obtain ⟨d', hd', e'⟩ := Option.map_eq_some_iff.1 hd
    simp only [Prod.mk.injEq] at e'
    subst e
    exact ha.2.2 d (by rw [← e'.1]; exact hd') ht
  have hdst : DstOK o2 (({ S with H := H2 } : AS).put o1.dst x) → DstOK o2 S := by cases o1.dst <;> exact fun h => h
  have last : ∀ r, K ((({ S with H := H2 } : AS).put o1.dst x).put o2.dst r) → B1 P ty md qt ops o1 (S.put o2.dst r) fun S3 => ∃ S4, Eqv S4 S3 ∧ K S4 := by
    intro r hk
    refine (B1_push hc1 hp).2 ⟨x, H2, pa_agr (by cases o2.dst <;> rfl) (hlook1 r) (by cases o2.dst <;> rfl) hpa, _, ?_, hk⟩
    have := add_comm_eqv (S := { S with H := H2 }) (D := (o1.dst.map (·, x), none)) (D' := (o2.dst.map (·, r), none)) (fun d y e z p q e' => by
      obtain ⟨d1, hd1, e1⟩ := Option.map_eq_some_iff.1 p
      obtain ⟨d2, hd2, e2⟩ := Option.map_eq_some_iff.1 q
      simp only [Prod.mk.injEq] at e1 e2
      exact ha.2.1 d (by rw [← e1.1]; exact hd1) (by rw [e', ← e2.1]; exact hd2)) (fun _ _ _ _ q => by cases q)
    have e0 : ({ S.put o2.dst r with H := H2 } : AS) = ({ S with H := H2 } : AS).put o2.dst r := by cases o2.dst <;> rfl
    rw [e0]
    simp only [put_add]
    exact this
  rw [B1_iff] at h ⊢
  rw [res_agr hlook] at h
  rcases h with ⟨hr, hd, h⟩ | ⟨hr, hd, h⟩
  · refine .inl ⟨hr, hdst hd, ?_⟩
    rw [hc2] at h ⊢
    obtain ⟨g, args, g1, g2, g3⟩ := h
    rw [callOf_congr (evA_agr hlook)] at g1
    exact ⟨g, args, g1, g2, fun H1 _ => (g3 H1 fun e => by rw [hq] at e; cases e).mono fun r H' ⟨k0, k1, k2⟩ => ⟨k0, k1, last r k2⟩⟩
  · exact .inr ⟨hr, hdst hd, last _ h⟩

/-- A light operation may stand behind one that it does not meet. -/
theorem commute {S : AS} {ops : List Oper} {o1 o2 : Oper} {K : AS → Prop} (ha : Apart ops o1 o2) (hc : clsOK md qt o1 o2 = true) (h : B1 P ty md qt ops o1 S fun S1 => B1 P ty md qt ops o2 S1 K) :
    B1 P ty md qt ops o2 S fun S2 => B1 P ty md qt ops o1 S2 fun S3 => ∃ S4, Eqv S4 S3 ∧ K S4 := by
  by_cases hqq : cls md qt o1 = .mem
  · unfold clsOK at hc
    rw [hqq] at hc
    cases hc2 : cls md qt o2 <;> rw [hc2] at hc <;> first | (cases hc; done) | skip
    rw [Bool.and_eq_true] at hc
    exact commute_push ha hqq hc.1 hc2 hc.2 h
  unfold clsOK at hc
  have hl : light (cls md qt o1) = true := by cases hc1 : cls md qt o1 <;> rw [hc1] at hc hqq <;> first | rfl | (cases hc; done) | exact absurd rfl hqq
  obtain ⟨D, hD, h⟩ := (B1_light hl).1 h
  obtain ⟨s1, s2, s3⟩ := dl_shape hD
  by_cases hl2 : light (cls md qt o2) = true
  · obtain ⟨D', hD', h⟩ := (B1_light hl2).1 h
    rw [dl_add ha hD] at hD'
    refine (B1_light hl2).2 ⟨D', hD', (B1_light hl).2 ⟨D, by rw [dl_add ha.symm hD']; exact hD, _, ?_, h⟩⟩
    obtain ⟨s1', s2', _⟩ := dl_shape hD'
    exact add_comm_eqv (fun d x e y p q r => ha.2.1 d (s1 d x p) (by rw [r]; exact s1' e y q)) (fun d x e y p q r => ha.2.1 d (s2 d x p).2.1 (by rw [r]; exact (s2' e y q).2.1))
  · -- behind a change, or a call
    have hlook : ∀ t ∈ o2.looksAt ops.toArray, look (S.add D).T t = look S.T t := fun t ht => look_add fun d x hd e => by
      subst e
      exact ha.1 d (s1 d x hd) ht
    -- where the light one stands behind S2, it lays down what it laid down ahead
    have light2 : ∀ (L : List (Nat × List AV)) (H : AH) (x : AV), (∀ j c, x ≠ .lptr j c) → (cls md qt o1 = .rd → L = S.L ∧ Grow S.H H) →
        dl ty md qt ops o1 (({ S with L := L, H := H } : AS).put o2.dst x) = some D := by
      intro L H x hx hrd
      have hlk : ∀ t ∈ o1.looksAt ops.toArray, look (({ S with L := L, H := H } : AS).put o2.dst x).T t = look S.T t := by
        intro t ht
        rw [put_add]
        refine look_add (S := { S with L := L, H := H }) fun d y hd e => ?_
        obtain ⟨d', hd', e'⟩ := Option.map_eq_some_iff.1 hd
        simp only [Prod.mk.injEq] at e'
        subst e
        exact ha.2.2 d (by rw [← e'.1]; exact hd') ht
      by_cases hrr : cls md qt o1 = .rd
      · obtain ⟨e1, e2⟩ := hrd hrr
        subst e1
        refine dl_grow hrr (by cases o2.dst <;> rfl) (fun t ht => (hlk t ht).symm) (by cases o2.dst <;> rfl) ?_ hD
        cases o2.dst <;> exact e2
      rw [← hD]
      refine dl_agr (by cases o2.dst <;> rfl) hlk (fun hr => absurd hr hrr) (fun _ d hd => ?_)
      · rw [put_add]
        refine noL_add fun e c hp => ?_
        obtain ⟨d', hd', e'⟩ := Option.map_eq_some_iff.1 hp
        simp only [Prod.mk.injEq] at e'
        exact absurd e'.2 (hx _ _)
    have eqv : ∀ (L : List (Nat × List AV)) (H : AH) (x : AV), (D.2 = none ∨ L = S.L) → Eqv (({ (S.add D) with L := D.2.toList ++ L, H := H } : AS).put o2.dst x) ((({ S with L := L, H := H } : AS).put o2.dst x).add D) := by
      intro L H x _
      rw [put_add, put_add]
      have := add_comm_eqv (S := { S with L := L, H := H }) (D := D) (D' := (o2.dst.map (·, x), none)) (fun d y e z p q r => by
        obtain ⟨d', hd', e'⟩ := Option.map_eq_some_iff.1 q
        simp only [Prod.mk.injEq] at e'
        exact ha.2.1 d (s1 d y p) (by rw [r, ← e'.1]; exact hd')) (fun _ _ _ _ _ q => by cases q)
      exact this
    rw [B1_iff] at h ⊢
    rw [res_agr hlook] at h
    have hdst : DstOK o2 (S.add D) → DstOK o2 S := fun h => h
    rcases h with ⟨hr, hd, h⟩ | ⟨hr, hd, h⟩
    · refine .inl ⟨hr, hd, ?_⟩
      cases hc2 : cls md qt o2 <;> rw [hc2] at h hc hl2 <;> first | exact absurd rfl hl2 | skip
      · -- eff
        obtain ⟨L, H, x, φ, g1, g2, g3⟩ := h
        have hval : cls md qt o1 = .val := by cases hc1 : cls md qt o1 <;> rw [hc1] at hc <;> first | rfl | (cases hc; done)
        have hD2 : D.2 = none := by
          cases h2 : D.2 with
          | none => rfl
          | some p => obtain ⟨d, cs⟩ := p; have := (s2 d cs h2).1; rw [hval] at this; cases this
        have hL : (S.add D).L = S.L := by unfold AS.add; rw [hD2]; rfl
        rw [eopC_agr hlook hL rfl] at g1
        refine ⟨L, H, x, φ, g1, g2, (B1_light hl).2 ⟨D, light2 L H x ?_ (fun e => by rw [hval] at e; cases e), _, ?_, g3⟩⟩
        · rintro j c rfl
          unfold eopC at g1
          repeat' split at g1
          all_goals first | (cases g1; done) | skip
          rename_i happ
          simp only [Option.some.injEq, Prod.mk.injEq] at g1
          obtain ⟨_, _, rfl, _⟩ := g1
          unfold app at happ
          repeat' split at happ
          all_goals cases happ
        · have := eqv L H x (.inl hD2)
          rw [hD2] at this
          exact this
      · -- call
        obtain ⟨g, args, g1, g2, g3⟩ := h
        rw [callOf_congr (evA_agr hlook)] at g1
        refine ⟨g, args, g1, g2, g3.mono fun r H' ⟨k1, kg, k2⟩ => ⟨k1, kg, (B1_light hl).2 ⟨D, light2 S.L H' r ?_ ?_, _, eqv S.L H' r (.inr rfl), k2⟩⟩⟩
        · rintro j c rfl; cases k1
        · intro e; rw [e] at hc; exact ⟨rfl, kg hc⟩
      · -- a quiet call
        obtain ⟨g, args, g1, g2, g3⟩ := h
        rw [callOf_congr (evA_agr hlook)] at g1
        refine ⟨g, args, g1, g2, fun H1 hg => (g3 H1 hg).mono fun r H' ⟨k0, k1, k2⟩ => ⟨k0, k1, (B1_light hl).2 ⟨D, light2 S.L S.H r ?_ (fun _ => ⟨rfl, Grow.refl _⟩), _, eqv S.L S.H r (.inr rfl), k2⟩⟩⟩
        rintro j c rfl; cases k1
      rotate_left
      · -- tracked memory turned
        obtain ⟨m, g1, g2⟩ := h
        rw [mop_congr (evA_agr hlook)] at g1
        by_cases hrr : cls md qt o1 = .rd
        · rw [hrr] at hc
          obtain ⟨x, H2, hg, hP⟩ := mop_pushy g1 hc (S.add D).H
          rw [hP] at g2
          obtain ⟨k1, k2⟩ := g2
          refine ⟨m, g1, (hP _).2 ⟨k1, (B1_light hl).2 ⟨D, light2 S.L H2 x ?_ (fun _ => ⟨rfl, hg⟩), _, eqv S.L H2 x (.inr rfl), k2⟩⟩⟩
          rintro j c rfl; cases k1
        refine ⟨m, g1, MAct.mono (m := m) g2 fun r H' ⟨k1, k2⟩ => ⟨k1, (B1_light hl).2 ⟨D, light2 S.L H' r ?_ ?_, _, eqv S.L H' r (.inr rfl), k2⟩⟩⟩
        · rintro j c rfl; cases k1
        · intro e; exact absurd e hrr
      · -- tracked memory looked at
        obtain ⟨m, g1, g2⟩ := h
        rw [mop_congr (evA_agr hlook)] at g1
        refine ⟨m, g1, MAct.mono (m := m) g2 fun r H' ⟨k1, k0, k2⟩ => ⟨k1, k0, (B1_light hl).2 ⟨D, light2 S.L S.H r ?_ (fun _ => ⟨rfl, Grow.refl _⟩), _, eqv S.L S.H r (.inr rfl), k2⟩⟩⟩
        rintro j c rfl; cases k1
      · -- is it nil?
        obtain ⟨neg, t, x, g1, g2, g3⟩ := h
        have hval : cls md qt o1 = .val := by cases hc1 : cls md qt o1 <;> rw [hc1] at hc <;> first | rfl | (cases hc; done)
        have hx : x ∈ o2.op.operands := by
          unfold nilqOf at g1
          split at g1
          · rename_i hop
            simp only [Option.some.injEq, Prod.mk.injEq] at g1
            rw [hop, g1.2.2]; simp [Op.operands]
          · rename_i hop
            simp only [Option.some.injEq, Prod.mk.injEq] at g1
            rw [hop, g1.2.2]; simp [Op.operands]
          · cases g1
        rw [evA_agr hlook x hx] at g3
        exact ⟨neg, t, x, g1, g2, nilqK_mono g3 fun b hb => (B1_light hl).2 ⟨D, light2 S.L S.H (.bool (neg ^^ b)) (by simp) (fun _ => ⟨rfl, Grow.refl _⟩), _, eqv S.L S.H (.bool (neg ^^ b)) (.inr rfl), hb⟩⟩
    · exact .inr ⟨hr, hd, (B1_light hl).2 ⟨D, light2 S.L S.H .skip (by simp) (fun _ => ⟨rfl, Grow.refl _⟩), _, eqv S.L S.H .skip (.inr rfl), h⟩⟩
end
end Go.Proofs.Ytecpiplfjmmccaa.AM

/-
  A region whose order is drawn: one order speaks for all (Bord_ok).
  Conditions: the table of types tells of the program's; operations that are out of order do not meet (drawOK).
-/
namespace Go.Proofs.Ytecpiplfjmmccaa.AM
open Go

section
variable {P : Program} {ty : TypeId → Option TI} {md : Nat → Nat} {qt : FuncId → Bool}

theorem B_mono {o : Oper} {S : AS} {K K' : AS → Prop} (h : B P ty md qt o S K) (hk : ∀ S, K S → K' S) : B P ty md qt o S K' := by
  unfold B at h ⊢
  obtain ⟨hd, h⟩ := h
  refine ⟨hd, ?_⟩
  cases hc : cls md qt o <;> rw [hc] at h <;> dsimp only at h ⊢
  · obtain ⟨x, h1, h2⟩ := h; exact ⟨x, h1, hk _ h2⟩
  · obtain ⟨x, h1, h2⟩ := h; exact ⟨x, h1, hk _ h2⟩
  · obtain ⟨d, cs, h1, h2, h3, h4⟩ := h; exact ⟨d, cs, h1, h2, h3, hk _ h4⟩
  · obtain ⟨L, H, x, φ, h1, h2, h3⟩ := h; exact ⟨L, H, x, φ, h1, h2, hk _ h3⟩
  · obtain ⟨g, args, h1, h2, h3⟩ := h; exact ⟨g, args, h1, h2, h3.mono fun r H' ⟨k1, kg, k2⟩ => ⟨k1, kg, hk _ k2⟩⟩
  · obtain ⟨g, args, h1, h2, h3⟩ := h; exact ⟨g, args, h1, h2, fun H1 hg => (h3 H1 hg).mono fun r H' ⟨k0, k1, k2⟩ => ⟨k0, k1, hk _ k2⟩⟩
  rotate_left
  · obtain ⟨m, h1, h2⟩ := h; exact ⟨m, h1, MAct.mono (m := m) h2 fun r H' ⟨k1, k2⟩ => ⟨k1, hk _ k2⟩⟩
  · obtain ⟨m, h1, h2⟩ := h; exact ⟨m, h1, MAct.mono (m := m) h2 fun r H' ⟨k1, k0, k2⟩ => ⟨k1, k0, hk _ k2⟩⟩
  · obtain ⟨neg, t, x, h1, h2, h3⟩ := h; exact ⟨neg, t, x, h1, h2, nilqK_mono h3 fun b hb => hk _ hb⟩
theorem B1_mono {ops : List Oper} {o : Oper} {S : AS} {K K' : AS → Prop} (h : B1 P ty md qt ops o S K) (hk : ∀ S, K S → K' S) : B1 P ty md qt ops o S K' := by
  rw [B1_iff] at h ⊢
  rcases h with ⟨h1, h2⟩ | ⟨h1, h2, h3⟩
  · exact .inl ⟨h1, B_mono h2 hk⟩
  · exact .inr ⟨h1, h2, hk _ h3⟩

theorem noL_eqv {S S' : AS} (e : Eqv S S') (d : Nat) : noL d S.T = noL d S'.T := by
  cases h : noL d S'.T with
  | true => rw [noL_iff] at h ⊢; exact fun i j c hm => h i j c ((e.m _).1 hm)
  | false =>
    cases h' : noL d S.T with
    | false => rfl
    | true =>
      rw [noL_iff] at h'
      have : noL d S'.T = true := noL_iff.2 fun i j c hm => h' i j c ((e.m _).2 hm)
      rw [h] at this; cases this
theorem eopC_eqv {S S' : AS} (e : Eqv S S') {o : Oper} {L : List (Nat × List AV)} {H : AH} {x : AV} {φ : Prop} (h : eopC ty md o S = some (L, H, x, φ)) : ∃ L', eopC ty md o S' = some (L', H, x, φ) ∧ ∀ i, lookL L i = lookL L' i := by
  have he : ∀ y, evA S.T y = evA S'.T y := evA_eqv e.t
  have hH := e.h
  unfold eopC at h ⊢
  split at h
  · rename_i t p y hop
    rw [← he p, ← he y, ← hH]
    repeat' split at h
    all_goals first | (cases h; done) | skip
    · rename_i k ti h1 b1 h2 z h3 b2 h4 pp i c h5 o6 cs h6 b7 h7
      simp only [Option.some.injEq, Prod.mk.injEq] at h
      obtain ⟨rfl, rfl, rfl, rfl⟩ := h
      refine ⟨updL S'.L i (splice cs c (evA S.T y).cellsOf), ?_, fun k => by rw [lookL_updL, lookL_updL, e.l]⟩
      rw [← e.l, h6]; dsimp only
      rw [h7]
    · rename_i k ti h1 b1 h2 z h3 b2 h4 pp id r c h5 o6 z' l h6 o7 row h7 b8 h8
      simp only [Option.some.injEq, Prod.mk.injEq] at h
      obtain ⟨rfl, rfl, rfl, rfl⟩ := h
      exact ⟨S'.L, rfl, e.l⟩
  · rename_i t len parts hop
    rw [bsl_congr (T' := S'.T) fun p _ => he p.2] at h
    rw [← hH]
    split at h
    · rename_i h1
      simp only [Option.some.injEq, Prod.mk.injEq] at h
      obtain ⟨rfl, rfl, rfl, rfl⟩ := h
      exact ⟨_, rfl, e.l⟩
    · cases h
  · rename_i y z t u hop
    rw [← he y, ← he z, ← hH]
    split at h
    · rename_i h1
      split at h
      · rename_i h2
        simp only [Option.some.injEq, Prod.mk.injEq] at h
        obtain ⟨rfl, rfl, rfl, rfl⟩ := h
        exact ⟨_, rfl, e.l⟩
      · cases h
    · cases h
  · cases h

theorem B_eqv {o : Oper} {S S' : AS} {K K' : AS → Prop} (e : Eqv S S') (h : B P ty md qt o S K) (hk : ∀ S S', Eqv S S' → K S → K' S') : B P ty md qt o S' K' := by
  have he : ∀ y, evA S.T y = evA S'.T y := evA_eqv e.t
  unfold B at h ⊢
  obtain ⟨hd, h⟩ := h
  refine ⟨fun d hd' => by rw [← e.n]; exact hd d hd', ?_⟩
  have hv : vop ty o.op S = vop ty o.op S' := vop_congr (fun x _ => he x) fun t p _ => ⟨fun j c _ => e.l j, e.h⟩
  cases hc : cls md qt o <;> rw [hc] at h <;> dsimp only at h ⊢
  · obtain ⟨x, h1, h2⟩ := h; exact ⟨x, by rw [← hv]; exact h1, hk _ _ (put_eqv e _ _) h2⟩
  · obtain ⟨x, h1, h2⟩ := h; exact ⟨x, by rw [← hv]; exact h1, hk _ _ (put_eqv e _ _) h2⟩
  · obtain ⟨d, cs, h1, h2, h3, h4⟩ := h
    refine ⟨d, cs, h1, by rw [← newC_congr (fun x _ => he x)]; exact h2, by rw [← noL_eqv e]; exact h3, hk _ _ ?_ h4⟩
    have := put_eqv e (some d) (.lptr d 0)
    exact ⟨this.n, this.t, this.m, fun i => by simp only [lookL_cons, e.l], this.h⟩
  · obtain ⟨L, H, x, φ, h1, h2, h3⟩ := h
    obtain ⟨L', g1, g2⟩ := eopC_eqv e h1
    refine ⟨L', H, x, φ, g1, h2, hk _ _ (put_eqv ?_ _ _) h3⟩
    exact ⟨e.n, e.t, e.m, g2, rfl⟩
  · obtain ⟨g, args, h1, h2, h3⟩ := h
    rw [callOf_congr (T' := S'.T) (fun x _ => he x)] at h1
    rw [e.h] at h3
    exact ⟨g, args, h1, h2, h3.mono fun r H' ⟨k1, kg, k2⟩ => ⟨k1, kg, hk _ _ (put_eqv (S := { S with H := H' }) (S' := { S' with H := H' }) ⟨e.n, e.t, e.m, e.l, rfl⟩ _ _) k2⟩⟩
  · obtain ⟨g, args, h1, h2, h3⟩ := h
    rw [callOf_congr (T' := S'.T) (fun x _ => he x)] at h1
    rw [e.h] at h3
    exact ⟨g, args, h1, h2, fun H1 hg => (h3 H1 hg).mono fun r H' ⟨k0, k1, k2⟩ => ⟨k0, k1, hk _ _ (put_eqv e _ _) k2⟩⟩
  rotate_left
  · obtain ⟨m, h1, h2⟩ := h
    rw [mop_congr (T' := S'.T) (fun x _ => he x)] at h1
    rw [e.h] at h2
    exact ⟨m, h1, MAct.mono (m := m) h2 fun r H' ⟨k1, k2⟩ => ⟨k1, hk _ _ (put_eqv (S := { S with H := H' }) (S' := { S' with H := H' }) ⟨e.n, e.t, e.m, e.l, rfl⟩ _ _) k2⟩⟩
  · obtain ⟨m, h1, h2⟩ := h
    rw [mop_congr (T' := S'.T) (fun x _ => he x)] at h1
    rw [e.h] at h2
    exact ⟨m, h1, MAct.mono (m := m) h2 fun r H' ⟨k1, k0, k2⟩ => ⟨k1, k0, hk _ _ (put_eqv e _ _) k2⟩⟩
  · obtain ⟨neg, t, x, h1, h2, h3⟩ := h
    rw [he x] at h3
    exact ⟨neg, t, x, h1, h2, nilqK_mono h3 fun b hb => hk _ _ (put_eqv e _ _) hb⟩
theorem B1_eqv {ops : List Oper} {o : Oper} {S S' : AS} {K K' : AS → Prop} (e : Eqv S S') (h : B1 P ty md qt ops o S K) (hk : ∀ S S', Eqv S S' → K S → K' S') : B1 P ty md qt ops o S' K' := by
  rw [B1_iff] at h ⊢
  have hr : res ops o S = res ops o S' := res_agr fun t _ => e.t t
  rw [← hr]
  rcases h with ⟨h1, h2⟩ | ⟨h1, h2, h3⟩
  · exact .inl ⟨h1, B_eqv e h2 hk⟩
  · exact .inr ⟨h1, fun d hd => by rw [← e.n]; exact h2 d hd, hk _ _ (put_eqv e _ _) h3⟩

/-- The operations in an order. -/
def Bord (P : Program) (ty : TypeId → Option TI) (md : Nat → Nat) (qt : FuncId → Bool) (ops : List Oper) : List Nat → AS → (AS → Prop) → Prop
  | [], S, K => K S
  | i :: l, S, K => ∃ o, ops[i]? = some o ∧ B1 P ty md qt ops o S fun S => Bord P ty md qt ops l S K
def KE (K : AS → Prop) (S : AS) : Prop := ∃ S', Eqv S' S ∧ K S'
theorem Bord_eqv {ops : List Oper} {K : AS → Prop} : ∀ {l : List Nat} {S S' : AS}, Eqv S S' → Bord P ty md qt ops l S (KE K) → Bord P ty md qt ops l S' (KE K)
  | [], _, _, e, ⟨S0, e0, h⟩ => ⟨S0, e0.trans e, h⟩
  | _ :: _, _, _, e, ⟨o, ho, h⟩ => ⟨o, ho, B1_eqv e h fun _ _ e' h' => Bord_eqv e' h'⟩
theorem Bord_mono {ops : List Oper} {K K' : AS → Prop} (hk : ∀ S, K S → K' S) : ∀ {l : List Nat} {S : AS}, Bord P ty md qt ops l S K → Bord P ty md qt ops l S K'
  | [], _, h => hk _ h
  | _ :: _, _, ⟨o, ho, h⟩ => ⟨o, ho, B1_mono h fun _ h' => Bord_mono hk h'⟩

def Swap (md : Nat → Nat) (qt : FuncId → Bool) (ops : List Oper) (k i : Nat) : Prop := ∀ ok oi, ops[k]? = some ok → ops[i]? = some oi → Apart ops ok oi ∧ clsOK md qt ok oi = true

/-- One operation drawn ahead of those that it does not meet. -/
theorem move {ops : List Oper} {K : AS → Prop} {i : Nat} {oi : Oper} (hoi : ops[i]? = some oi) {suf : List Nat} : ∀ {pre : List Nat} {S : AS}, (∀ k ∈ pre, Swap md qt ops k i) → Bord P ty md qt ops (pre ++ i :: suf) S (KE K) →
    B1 P ty md qt ops oi S fun S' => Bord P ty md qt ops (pre ++ suf) S' (KE K)
  | [], S, _, ⟨o, ho, h⟩ => by
    rw [hoi] at ho
    simp only [Option.some.injEq] at ho
    subst ho
    exact h
  | k :: pre, S, hp, ⟨ok, hok, h⟩ => by
    have h1 : B1 P ty md qt ops ok S fun S1 => B1 P ty md qt ops oi S1 fun S' => Bord P ty md qt ops (pre ++ suf) S' (KE K) :=
      B1_mono h fun S1 h1 => move hoi (fun k hk => hp k (List.mem_cons_of_mem _ hk)) h1
    obtain ⟨ha, hc⟩ := hp k (List.mem_cons_self ..) ok oi hok hoi
    exact B1_mono (commute ha hc h1) fun S2 h3 => ⟨ok, hok, B1_mono h3 fun S3 ⟨S4, e, h4⟩ => Bord_eqv e h4⟩

/-- Of whom an operation stands behind. -/
def afters (o : Oper) : List Nat := (o.after.toList.filter (Region.binds .any)).map (·.on)
def aft (ops : List Oper) (i : Nat) : List Nat := match ops[i]? with | some o => afters o | none => []

structure DrawOK (md : Nat → Nat) (qt : FuncId → Bool) (ops : List Oper) (order : List Nat) (tab : List (List Nat)) : Prop where
  all : ∀ i, i < ops.length → i ∈ order
  nodup : order.Pairwise fun a b => a ≠ b
  lin : order.Pairwise fun a b => b ∉ aft ops a
  self : ∀ i ∈ order, i ∉ aft ops i
  swap : order.Pairwise fun a b => a ∈ tab.getD b [] ∨ Swap md qt ops a b
  tab : ∀ i, ∀ k ∈ tab.getD i [], k ∈ aft ops i ∨ ∃ j ∈ aft ops i, k ∈ tab.getD j []
  low : ∀ i, ∀ k ∈ aft ops i, k < ops.length
  lt : ∀ i ∈ order, i < ops.length
  len : order.length = ops.length

theorem Bord_any {E : Env} (hty : TyOK P ty) {ops : Array Oper} {order : List Nat} {tab : List (List Nat)} {K : AS → Prop} {Q : Exit → Act → World → Prop} (hd : DrawOK md qt ops.toList order tab) (hq : ∀ a w, Aft E (KE K) a w → Q .normal a w) :
    ∀ (rem : List Nat) (listed : Array Bool), listed.size = ops.size → rem.Sublist order → (∀ j, j < ops.size → (listed.getD j true = false ↔ j ∈ rem)) → (∀ j, j ∉ rem → j < ops.size → ∀ k ∈ tab.getD j [], k ∉ rem) →
      ∀ {lo : Nat → Nat} {G : Gh} {S : AS} {a : Act} {w : World}, Sim E lo G S a w → Bord P ty md qt ops.toList rem S (KE K) → wpAny P .any ops Q rem.length listed a w := by
  intro rem
  generalize hn : rem.length = n
  induction n generalizing rem with
  | zero =>
    intro listed hsz hsub hl hdc lo G S a w hs h
    have hrem : rem = [] := List.eq_nil_of_length_eq_zero hn
    subst hrem
    refine ⟨?_, hq _ _ ⟨lo, G, S, hs, h⟩⟩
    apply List.eq_nil_iff_forall_not_mem.2
    intro j hj
    obtain ⟨h1, o, ho, _⟩ := mem_ready.1 hj
    have := (hl j (Array.getElem?_eq_some_iff.1 ho).1).1 h1
    cases this
  | succ n ih =>
    intro listed hsz hsub hl hdc lo G S a w hs h
    have hbound : ∀ j ∈ rem, j < ops.size := fun j hj => by have := hd.lt j (hsub.mem hj); simpa using this
    have hlisted : ∀ j, j ∉ rem → j < ops.size → listed.getD j false = true := by
      intro j hj hlt
      have h1 : ¬ listed.getD j true = false := fun h => hj ((hl j hlt).1 h)
      have hlt' : j < listed.size := by omega
      simpa [Array.getD_eq_getD_getElem?, hlt'] using h1
    refine ⟨fun hr => ?_, fun i hi => ?_⟩
    · exfalso
      cases rem with
      | nil => simp at hn
      | cons i suf =>
        have hilt := hbound i (List.mem_cons_self ..)
        have : i ∈ Region.ready .any ops listed := by
          refine mem_ready.2 ⟨(hl i hilt).2 (List.mem_cons_self ..), _, Array.getElem?_eq_getElem hilt, fun e he hb => ?_⟩
          have hea : e.on ∈ aft ops.toList i := by
            unfold aft
            rw [Array.getElem?_toList, Array.getElem?_eq_getElem hilt]
            exact List.mem_map.2 ⟨e, List.mem_filter.2 ⟨Array.mem_toList_iff.2 he, hb⟩, rfl⟩
          refine hlisted _ (fun hm => ?_) (by have := hd.low i _ hea; simpa using this)
          rcases List.mem_cons.1 hm with e1 | hm
          · exact hd.self i (hsub.mem (List.mem_cons_self ..)) (by rw [e1] at hea; exact hea)
          · exact (List.pairwise_cons.1 (hd.lin.sublist hsub)).1 _ hm hea
        rw [hr] at this
        cases this
    · obtain ⟨hif, o, ho, hall⟩ := mem_ready.1 hi
      have hilt := (Array.getElem?_eq_some_iff.1 ho).1
      have hirem := (hl i hilt).1 hif
      obtain ⟨pre, suf, hrem⟩ := List.append_of_mem hirem
      have haft : ∀ k ∈ aft ops.toList i, k ∉ rem ∧ k < ops.size := by
        intro k hk
        have hlt : k < ops.size := by have := hd.low i _ hk; simpa using this
        refine ⟨fun hm => ?_, hlt⟩
        unfold aft at hk
        rw [Array.getElem?_toList, ho] at hk
        obtain ⟨e, he, rfl⟩ := List.mem_map.1 hk
        obtain ⟨he, hb⟩ := List.mem_filter.1 he
        have h1 := hall e (Array.mem_toList_iff.1 he) hb
        have h2 := (hl e.on hlt).2 hm
        have hlt' : e.on < listed.size := by omega
        simp [Array.getD_eq_getD_getElem?, hlt'] at h1 h2
        rw [h1] at h2; cases h2
      have htab : ∀ k ∈ tab.getD i [], k ∉ rem := by
        intro k hk
        rcases hd.tab i k hk with h1 | ⟨j, h1, h2⟩
        · exact (haft k h1).1
        · exact hdc j (haft j h1).1 (haft j h1).2 k h2
      subst hrem
      have hsw := List.pairwise_append.1 (hd.swap.sublist hsub)
      have hnd := hd.nodup.sublist hsub
      have hmv := move (oi := o) (by rw [Array.getElem?_toList]; exact ho) (fun k hk => by
        rcases hsw.2.2 k hk i (List.mem_cons_self ..) with h1 | h1
        · exact absurd (List.mem_append_left _ hk) (htab k h1)
        · exact h1) h
      refine wpOp_mono ?_ (B1_ok (Q := Q) hty hs ho hmv)
      rintro a' w' ⟨lo', G', S', hs', h'⟩
      have hnotin : i ∉ pre ++ suf := by
        intro hm
        rcases List.mem_append.1 hm with hm | hm
        · exact (List.pairwise_append.1 hnd).2.2 i hm i (List.mem_cons_self ..) rfl
        · exact (List.pairwise_cons.1 (List.pairwise_append.1 hnd).2.1).1 i hm rfl
      refine ih (pre ++ suf) (by simp at hn ⊢; omega) _ (by simpa using hsz) ?_ ?_ ?_ hs' h'
      · exact (List.Sublist.append_left (List.sublist_cons_self i suf) pre).trans hsub
      · intro j hj
        by_cases hij : i = j
        · subst hij
          have : i < listed.size := by omega
          simp [Array.getD_eq_getD_getElem?, this]
          simpa using hnotin
        · rw [getD_set_ne true hij, hl j hj]
          simp only [List.mem_append, List.mem_cons]
          constructor
          · rintro (h1 | h1 | h1)
            · exact .inl h1
            · exact absurd h1.symm hij
            · exact .inr h1
          · rintro (h1 | h1)
            · exact .inl h1
            · exact .inr (.inr h1)
      · intro j hj hlt k hk
        have hk' : k ∉ pre ++ i :: suf := by
          by_cases hij : j = i
          · subst hij; exact htab k hk
          · refine hdc j (fun hm => hj ?_) hlt k hk
            rcases List.mem_append.1 hm with h1 | h1
            · exact List.mem_append_left _ h1
            · rcases List.mem_cons.1 h1 with h1 | h1
              · exact absurd h1 hij
              · exact List.mem_append_right _ h1
        intro hm
        refine hk' ?_
        rcases List.mem_append.1 hm with h1 | h1
        · exact List.mem_append_left _ h1
        · exact List.mem_append_right _ (List.mem_cons_of_mem _ h1)

/-- A region whose order is drawn. -/
theorem Bord_ok {E : Env} (hty : TyOK P ty) (hmix : P.follows .mixedOrders = true) {id : Nat} {ops : Array Oper} {order : List Nat} {tab : List (List Nat)} {K : AS → Prop} {Q : Exit → Act → World → Prop} (hd : DrawOK md qt ops.toList order tab) {lo : Nat → Nat} {G : Gh} {S : AS} {a : Act} {w : World}
    (hs : Sim E lo G S a w) (h : Bord P ty md qt ops.toList order S K) (hq : ∀ a w, Aft E K a w → Q .normal a w) : (Code.region id ops true).wp P Q a w := by
  have hq' : ∀ a w, Aft E (KE K) a w → Q .normal a w := fun a w ⟨lo, G, S, hs, S', e, hk⟩ => hq a w ⟨lo, G, S', hs.eqv ⟨e.n.symm, fun i => (e.t i).symm, fun p => (e.m p).symm, fun i => (e.l i).symm, e.h.symm⟩, hk⟩
  refine wp_region_any hmix ?_
  have hlen : order.length = ops.size := by
    have := hd.len; simpa using this
  rw [← hlen]
  refine Bord_any (K := K) hty hd hq' order _ (by simp [hlen]) (List.Sublist.refl _) (fun j hj => ?_) (fun j hj hlt => absurd (hd.all j (by simpa using hlt)) hj) (hs.draws 1) (Bord_mono (fun S h => ⟨S, Eqv.refl S, h⟩) h)
  have := hd.all j (by simpa using hj)
  simp [this, hj, hlen]

def pw {α : Type} (p : α → α → Bool) : List α → Bool
  | [] => true
  | a :: l => l.all (p a) && pw p l
theorem pw_iff {α : Type} {p : α → α → Bool} : ∀ {l : List α}, pw p l = true → l.Pairwise fun a b => p a b = true
  | [], _ => .nil
  | a :: l, h => by
    simp only [pw, Bool.and_eq_true, List.all_eq_true] at h
    exact .cons h.1 (pw_iff h.2)
def swapB (md : Nat → Nat) (qt : FuncId → Bool) (ops : List Oper) (k i : Nat) : Bool :=
  match ops[k]? with
  | some ok => match ops[i]? with
    | some oi => clsOK md qt ok oi && ok.apart ops.toArray oi
    | none => true
  | none => true
theorem swapB_ok {ops : List Oper} {k i : Nat} (h : swapB md qt ops k i = true) : Swap md qt ops k i := by
  intro ok oi hok hoi
  unfold swapB at h
  rw [hok, hoi] at h
  simp only [Bool.and_eq_true] at h
  exact ⟨Oper.apart_spec h.2, h.1⟩
def drawB (md : Nat → Nat) (qt : FuncId → Bool) (ops : List Oper) (order : List Nat) (tab : List (List Nat)) : Bool :=
  Nat.beq order.length ops.length && (List.range ops.length).all (fun i => order.contains i) && order.all (fun i => Nat.blt i ops.length && !(aft ops i).contains i) &&
  pw (fun a b => !Nat.beq a b && !(aft ops a).contains b && ((tab.getD b []).contains a || swapB md qt ops a b)) order &&
  (List.range tab.length).all (fun i => (tab.getD i []).all fun k => (aft ops i).contains k || (aft ops i).any fun j => (tab.getD j []).contains k) &&
  (List.range ops.length).all (fun i => (aft ops i).all fun k => Nat.blt k ops.length)
theorem drawB_ok {ops : List Oper} {order : List Nat} {tab : List (List Nat)} (h : drawB md qt ops order tab = true) : DrawOK md qt ops order tab := by
  unfold drawB at h
  simp only [Bool.and_eq_true, List.all_eq_true, List.mem_range, Bool.not_eq_true', List.contains_eq_mem, decide_eq_true_eq, decide_eq_false_iff_not, Nat.blt_eq] at h
  obtain ⟨⟨⟨⟨⟨h1, h2⟩, h3⟩, h4⟩, h5⟩, h6⟩ := h
  have h4 := pw_iff h4
  simp only [Bool.and_eq_true, Bool.not_eq_true', Bool.or_eq_true, decide_eq_true_eq, decide_eq_false_iff_not] at h4
  have hout : ∀ i, ops.length ≤ i → aft ops i = [] := fun i hi => by unfold aft; rw [List.getElem?_eq_none hi]
  refine { all := h2, nodup := h4.imp fun h => Nat.ne_of_beq_eq_false h.1.1, lin := h4.imp fun h => h.1.2, self := fun i hi => (h3 i hi).2, swap := h4.imp fun h => h.2.imp id swapB_ok, tab := fun i k hk => ?_, low := fun i k hk => ?_, lt := fun i hi => (h3 i hi).1, len := Nat.eq_of_beq_eq_true h1 }
  · rcases Nat.lt_or_ge i tab.length with hi | hi
    · have := h5 i hi k hk
      simp only [Bool.or_eq_true, List.any_eq_true, decide_eq_true_eq] at this
      exact this
    · rw [List.getD_eq_getElem?_getD, List.getElem?_eq_none hi] at hk
      cases hk
  · rcases Nat.lt_or_ge i ops.length with hi | hi
    · exact h6 i hi k hk
    · rw [hout i hi] at hk; cases hk

/-- A first ready one: light ones first. -/
def pickF (p : Nat → Bool) : List Nat → Option Nat
  | [] => none
  | i :: l => match p i with
    | true => some i
    | false => pickF p l
def canonFrom (rdy lt : List Nat → Nat → Bool) : Nat → List Nat → List Nat → List Nat
  | 0, _, done => done.reverse
  | n + 1, rem, done => match pickF (fun i => rdy done i && lt done i) rem with
    | some i => canonFrom rdy lt n (rem.filter fun j => !Nat.beq i j) (i :: done)
    | none => match pickF (rdy done) rem with
      | some i => canonFrom rdy lt n (rem.filter fun j => !Nat.beq i j) (i :: done)
      | none => done.reverse
/-- The order that speaks for all. -/
def canon (md : Nat → Nat) (qt : FuncId → Bool) (ops : List Oper) : List Nat :=
  canonFrom (fun done i => (aft ops i).all fun k => done.contains k) (fun _ i => match ops[i]? with | some o => light (cls md qt o) | none => false) ops.length (List.range ops.length) []
def tabFrom (ops : List Oper) : Nat → List (List Nat) → List (List Nat)
  | 0, t => t
  | n + 1, t => tabFrom ops n (t ++ [((aft ops t.length) ++ (aft ops t.length).flatMap fun j => t.getD j []).eraseDups])
def anc (ops : List Oper) : List (List Nat) := tabFrom ops ops.length []
end
end Go.Proofs.Ytecpiplfjmmccaa.AM

/-
  What a run of code asks (vc): the text is walked over a state without addresses; what must be shown is left as named goals. What is left comes to what the operations do (A_ok).
  No program in sight. Conditions: none.
-/
namespace Go.Proofs.Ytecpiplfjmmccaa.AM
open Go

/-! ### values laid out -/
def force0 (x : AV) (k : AV → Prop) : Prop :=
  match x with
  | .undef => k .undef
  | .skip => k .skip
  | .int a b => k (.int a b)
  | .bool b => k (.bool b)
  | .str s => k (.str s)
  | .nilptr => k .nilptr
  | .lptr i c => k (.lptr i c)
  | .ptr i r c => k (.ptr i r c)
  | .ep row c => k (.ep row c)
  | .nils => k .nils
  | .sl z rows t => k (.sl z rows t)
  | .ms z i o n => k (.ms z i o n)
  | .nilmap => k .nilmap
  | .map i => k (.map i)
  | .fn f a b => k (.fn f a b)
  | .nilfn => k .nilfn
  | .iface t v => k (.iface t v)
  | .nilif => k .nilif
  | .agg cs => k (.agg cs)
  | .tup vs => k (.tup vs)
theorem force0_eq (x : AV) (k : AV → Prop) : force0 x k = k x := by cases x <;> rfl
def forceL : List AV → (List AV → Prop) → Prop
  | [], k => k []
  | x :: l, k => force0 x fun x => forceL l fun l => k (x :: l)
theorem forceL_eq : ∀ (l : List AV) (k : List AV → Prop), forceL l k = k l
  | [], _ => rfl
  | x :: l, k => by unfold forceL; rw [force0_eq, forceL_eq l]
def force (x : AV) (k : AV → Prop) : Prop :=
  force0 x fun
    | .agg cs => forceL cs fun cs => k (.agg cs)
    | .tup cs => forceL cs fun cs => k (.tup cs)
    | .ep cs c => forceL cs fun cs => k (.ep cs c)
    | .fn f a b => forceL a fun a => forceL b fun b => k (.fn f a b)
    | x => k x
theorem force_eq (x : AV) (k : AV → Prop) : force x k = k x := by
  unfold force
  rw [force0_eq]
  cases x <;> simp only [forceL_eq]
def forceLL : List (List AV) → (List (List AV) → Prop) → Prop
  | [], k => k []
  | x :: l, k => forceL x fun x => forceLL l fun l => k (x :: l)
theorem forceLL_eq : ∀ (l : List (List AV)) (k : List (List AV) → Prop), forceLL l k = k l
  | [], _ => rfl
  | x :: l, k => by unfold forceLL; rw [forceL_eq, forceLL_eq l]
def forceV : List (Nat × List AV) → (List (Nat × List AV) → Prop) → Prop
  | [], k => k []
  | (i, x) :: l, k => forceL x fun x => forceV l fun l => k ((i, x) :: l)
theorem forceV_eq : ∀ (l : List (Nat × List AV)) (k : List (Nat × List AV) → Prop), forceV l k = k l
  | [], _ => rfl
  | (i, x) :: l, k => by unfold forceV; rw [forceL_eq, forceV_eq l]
def forceP : List (Nat × Nat) → (List (Nat × Nat) → Prop) → Prop
  | [], k => k []
  | (i, x) :: l, k => forceP l fun l => k ((i, x) :: l)
theorem forceP_eq : ∀ (l : List (Nat × Nat)) (k : List (Nat × Nat) → Prop), forceP l k = k l
  | [], _ => rfl
  | (i, x) :: l, k => by unfold forceP; rw [forceP_eq l]
def forceB : List ABlk → (List ABlk → Prop) → Prop
  | [], k => k []
  | .rows z r :: l, k => forceB l fun l => k (.rows z r :: l)
  | .map q es pd :: l, k => forceB l fun l => k (.map q es pd :: l)
  | .dead :: l, k => forceB l fun l => k (.dead :: l)
theorem forceB_eq : ∀ (l : List ABlk) (k : List ABlk → Prop), forceB l k = k l
  | [], _ => rfl
  | x :: l, k => by cases x <;> (unfold forceB; rw [forceB_eq l])
def forceH (H : AH) (k : AH → Prop) : Prop :=
  match H with
  | ⟨b, t⟩ => forceB b fun b => forceP t fun t => k ⟨b, t⟩
theorem forceH_eq (H : AH) (k : AH → Prop) : forceH H k = k H := by
  cases H
  unfold forceH
  dsimp only
  rw [forceB_eq, forceP_eq]
def forceH0 (H : AH) (k : AH → Prop) : Prop :=
  match H with
  | ⟨b, t⟩ => k ⟨b, t⟩
theorem forceH0_eq (H : AH) (k : AH → Prop) : forceH0 H k = k H := rfl
/-- a short list's length, as a numeral -/
def lenK {α : Type} (l : List α) (k : Nat → Prop) : Prop :=
  match l with
  | [] => k 0
  | [_] => k 1
  | [_, _] => k 2
  | [_, _, _] => k 3
  | [_, _, _, _] => k 4
  | [_, _, _, _, _] => k 5
  | [_, _, _, _, _, _] => k 6
  | [_, _, _, _, _, _, _] => k 7
  | l => k l.length
theorem lenK_eq {α : Type} (l : List α) (k : Nat → Prop) : lenK l k = k l.length := by unfold lenK; split <;> rfl

/-! ### what is left to show -/
structure IdxVC (rows : List (List AV)) (n : Int) (K : List AV → Prop) : Prop where
  out : ∃ r, 0 ≤ n ∧ rows[n.toNat]? = some r ∧ K r
structure SlcVC (rows : List (List AV)) (l h : Int) (K : List (List AV) → Prop) : Prop where
  out : ∃ a b : Nat, l = a ∧ h = b ∧ a ≤ b ∧ b ≤ rows.length ∧ K ((rows.drop a).take (b - a))
structure StrVC (s : ByteArray) (l h : Int) (K : ByteArray → Prop) : Prop where
  out : ∃ a b : Nat, l = a ∧ h = b ∧ a ≤ b ∧ b ≤ s.size ∧ K (s.extract a b)
structure DivVC (b : Int) (K : Prop) : Prop where
  nz : b ≠ 0
  out : K
structure ShVC (b : Int) (K : Prop) : Prop where
  nn : 0 ≤ b
  out : K
structure NilVC (rows : List (List AV)) (K : Bool → Prop) : Prop where
  out : ∀ b, (b = true → rows = []) → K b
structure NilMVC (m : Nat) (K : Bool → Prop) : Prop where
  out : ∀ b, (b = true → m = 0) → K b
structure BytesVC (rows : List (List AV)) (K : ByteArray → Prop) : Prop where
  out : ∃ ns : List Int, rows = ns.map (fun n => [.int .u8 n]) ∧ K (bstr ns)
/-- a row of a tracked block -/
structure RowVC (H : AH) (id r : Nat) (K : Nat → List (List AV) → List AV → Prop) : Prop where
  out : ∃ z l row, H.blks[id]? = some (.rows z l) ∧ l[r]? = some row ∧ K z l row
structure MIdxVC (len : Nat) (n : Int) (K : Nat → Prop) : Prop where
  out : ∃ i : Nat, n = i ∧ i < len ∧ K i
structure MSlcVC (len : Nat) (l h : Int) (K : Nat → Nat → Prop) : Prop where
  out : ∃ a b : Nat, l = a ∧ h = b ∧ a ≤ b ∧ b ≤ len ∧ K a b
structure CallVC (P : Program) (g : FuncId) (args : List AV) (H : AH) (K : AV → AH → Prop) : Prop where
  out : AC P g args H K
structure QuietVC (P : Program) (g : FuncId) (args : List AV) (H : AH) (K : AV → Prop) : Prop where
  out : ∀ H1, Grow H H1 → AC P g args H1 fun r H' => H' = H1 ∧ K r
structure PureVC (P : Program) (g : FuncId) (args : List AV) (K : AV → Prop) : Prop where
  out : ∀ H1, AC P g args H1 fun r H' => H' = H1 ∧ K r
structure GrowVC (H H' : AH) (K : Prop) : Prop where
  grow : Grow H H'
  out : K
structure AppVC (φ K : Prop) : Prop where
  side : φ
  out : K

/-- A new value of the destination. -/
def putK (dst : Option Tmp) (x : AV) (n : Nat) (T : List (Nat × AV)) (L : List (Nat × List AV)) (H : AH) (K : AS → Prop) : Prop :=
  match dst with
  | none => K ⟨n, T, L, H⟩
  | some d => match Nat.blt d n with
    | true => K ⟨n, (d, x) :: T, L, H⟩
    | false => False
theorem putK_eq {o : Oper} {x : AV} {n : Nat} {T : List (Nat × AV)} {L : List (Nat × List AV)} {H : AH} {K : AS → Prop} (h : putK o.dst x n T L H K) : (∀ d, o.dst = some d → d < n) ∧ K ((⟨n, T, L, H⟩ : AS).put o.dst x) := by
  unfold putK at h
  cases hd : o.dst with
  | none => rw [hd] at h; exact ⟨fun d h => (nomatch h), h⟩
  | some d =>
    rw [hd] at h
    dsimp only at h
    split at h
    · rename_i hb
      refine ⟨fun d' h' => ?_, h⟩
      simp only [Option.some.injEq] at h'
      subst h'
      simpa [Nat.blt_eq] using hb
    · cases h

def bndInt (T : List (Nat × AV)) (d : Int) : Option Operand → Option Int
  | none => some d
  | some x => match evA T x with
    | .int _ n => some n
    | _ => none

/-- The tracked memory laid out, where it is not told by a name (md of 1000000). -/
def hK (md : Nat → Nat) (H : AH) (k : AH → Prop) : Prop :=
  match md 1000000 with
  | 0 => forceH H k
  | _ => k H
theorem hK_eq (md : Nat → Nat) (H : AH) (k : AH → Prop) : hK md H k = k H := by
  unfold hK
  split
  · exact forceH_eq H k
  · rfl
def tipK (md : Nat → Nat) (H : AH) (k : Nat → Prop) : Prop :=
  match md 1000000 with
  | 0 => lenK H.tips k
  | _ => k H.tips.length
theorem tipK_eq (md : Nat → Nat) (H : AH) (k : Nat → Prop) : tipK md H k = k H.tips.length := by
  unfold tipK
  split
  · exact lenK_eq _ k
  · rfl
def valK (ty : Tr) (o : Oper) (n : Nat) (T : List (Nat × AV)) (L : List (Nat × List AV)) (H : AH) (K : AS → Prop) : Prop :=
  match vop ty.get o.op ⟨n, T, L, H⟩ with
  | some x => force x fun x => putK o.dst x n T L H K
  | none => False
def effK (ty : Tr) (md : Nat → Nat) (o : Oper) (n : Nat) (T : List (Nat × AV)) (L : List (Nat × List AV)) (H : AH) (K : AS → Prop) : Prop :=
  match eopC ty.get md o ⟨n, T, L, H⟩ with
  | some (L, H, x, φ) => AppVC φ (force x fun x => forceV L fun L => hK md H fun H => putK o.dst x n T L H K)
  | none => False
def stoK (ty : Tr) (md : Nat → Nat) (o : Oper) (n : Nat) (T : List (Nat × AV)) (L : List (Nat × List AV)) (H : AH) (K : AS → Prop) : Prop :=
  match eopC ty.get md o ⟨n, T, L, H⟩ with
  | some (L', H', x, _) => forceV L' fun L => forceH0 H' fun H => putK o.dst x n T L H K
  | none => False
def newK (ty : Tr) (o : Oper) (n : Nat) (T : List (Nat × AV)) (L : List (Nat × List AV)) (H : AH) (K : AS → Prop) : Prop :=
  match o.dst with
  | some d => match Nat.blt d n with
    | true => match newC ty.get o.op T with
      | some cs => match noL d T with
        | true => forceL cs fun cs => K ⟨n, (d, .lptr d 0) :: T, (d, cs) :: L, H⟩
        | false => False
      | none => False
    | false => False
  | none => False
def dstB (d : Option Tmp) (n : Nat) : Bool :=
  match d with
  | some d => Nat.blt d n
  | none => true
def nilK (ty : Tr) (neg : Bool) (t : TypeId) (x : AV) (o : Oper) (n : Nat) (T : List (Nat × AV)) (L : List (Nat × List AV)) (H : AH) (K : AS → Prop) : Prop :=
  match isSlice (ty.get t) with
  | true => match x with
    | .nils => putK o.dst (.bool (!neg)) n T L H K
    | .sl _ rows _ => NilVC rows fun b => match neg with
      | true => putK o.dst (.bool (!b)) n T L H K
      | false => putK o.dst (.bool b) n T L H K
    | .ms _ _ _ m => NilMVC m fun b => match neg with
      | true => putK o.dst (.bool (!b)) n T L H K
      | false => putK o.dst (.bool b) n T L H K
    | _ => False
  | false => False
def shK (op : BinOp) (t : AV) (y : AV) (o : Oper) (n : Nat) (T : List (Nat × AV)) (L : List (Nat × List AV)) (H : AH) (K : AS → Prop) : Prop :=
  match t with
  | .int k a => match y with
    | .int _ b => ShVC b (match shiftOf op k a b with
      | some x => force x fun x => putK o.dst x n T L H K
      | none => False)
    | _ => False
  | _ => False
def storK (ty : Tr) (t : TypeId) (id r c : Nat) (x : AV) (o : Oper) (n : Nat) (T : List (Nat × AV)) (L : List (Nat × List AV)) (H : AH) (K : AS → Prop) : Prop :=
  match ty.get t with
  | some ti => match x.val with
    | true => match x with
      | .tup _ => False
      | x => match Nat.beq x.cellsOf.length ti.size with
        | true => RowVC H id r fun z l row => match Nat.ble (c + ti.size) row.length with
          | true => forceL (splice row c x.cellsOf) fun row => putK o.dst .skip n T L (H.upd id (.rows z (l.set r row))) K
          | false => False
        | false => False
    | false => False
  | none => False
def loadK (ty : Tr) (t : TypeId) (id r c : Nat) (o : Oper) (n : Nat) (T : List (Nat × AV)) (L : List (Nat × List AV)) (H : AH) (K : AS → Prop) : Prop :=
  RowVC H id r fun _ _ row => match loadOf (ty.get t) row c with
    | some x => force x fun x => putK o.dst x n T L H K
    | none => False
def memK (ty : Tr) (md : Nat → Nat) (o : Oper) (n : Nat) (T : List (Nat × AV)) (L : List (Nat × List AV)) (H : AH) (K : AS → Prop) : Prop :=
  match dstB o.dst n with
  | true => match mop ty.get md o T with
    | some m => m.P H fun x H' => force x fun x => match okR x with
      | true => putK o.dst x n T L H' K
      | false => False
    | none => False
  | false => False
def lookK (ty : Tr) (md : Nat → Nat) (o : Oper) (n : Nat) (T : List (Nat × AV)) (L : List (Nat × List AV)) (H : AH) (K : AS → Prop) : Prop :=
  match dstB o.dst n with
  | true => match mop ty.get md o T with
    | some (.look id q m z ok) => MAct.P (.look id q m z ok) H fun x _ => force x fun x => match okR x with
      | true => putK o.dst x n T L H K
      | false => False
    | some (.mlen id) => MAct.P (.mlen id) H fun x _ => force x fun x => match okR x with
      | true => putK o.dst x n T L H K
      | false => False
    | _ => False
  | false => False
def callK (P : Program) (q gr pu : Bool) (o : Oper) (n : Nat) (T : List (Nat × AV)) (L : List (Nat × List AV)) (H : AH) (K : AS → Prop) : Prop :=
  match dstB o.dst n with
  | true => match callOf T o.op with
    | some (g, args) => match vals args with
      | true => forceL args fun args => match q with
        | true => match pu with
          | true => PureVC P g args fun r => force r fun r => match r.val with
            | true => putK o.dst r n T L H K
            | false => False
          | false => QuietVC P g args H fun r => force r fun r => match r.val with
            | true => putK o.dst r n T L H K
            | false => False
        | false => CallVC P g args H fun r H' => force r fun r => match r.val with
          | true => match gr with
            | true => GrowVC H H' (putK o.dst r n T L H' K)
            | false => putK o.dst r n T L H' K
          | false => False
      | false => False
    | none => False
  | false => False

/-- An operation: computed as far as it goes. -/
def A0 (P : Program) (ty : Tr) (md : Nat → Nat) (qt : FuncId → Bool) (o : Oper) (S : AS) (K : AS → Prop) : Prop :=
  match S with
  | ⟨n, T, L, H⟩ => match o.op with
    | .indexAddr t x i => match evA T x with
      | .sl z rows _ => match evA T i with
        | .int _ m => match elemSz ty.get t with
          | some s => match Nat.beq s z with
            | true => IdxVC rows m fun r => forceL r fun r => putK o.dst (.ep r 0) n T L H K
            | false => False
          | none => False
        | _ => False
      | .ms z id off len => match evA T i with
        | .int _ m => match elemSz ty.get t with
          | some s => match Nat.beq s z with
            | true => MIdxVC len m fun i => putK o.dst (.ptr id (off + i) 0) n T L H K
            | false => False
          | none => False
        | _ => False
      | _ => False
    | .slice t x lo hi none => match evA T x with
      | .sl z rows _ => match bndInt T 0 lo with
        | some l => match bndInt T rows.length hi with
          | some h => match elemSz ty.get t with
            | some s => match Nat.beq s z with
              | true => SlcVC rows l h fun r => putK o.dst (.sl z r none) n T L H K
              | false => False
            | none => False
          | none => False
        | none => False
      | .ms z id off len => match bndInt T 0 lo with
        | some l => match bndInt T len hi with
          | some h => match elemSz ty.get t with
            | some s => match Nat.beq s z with
              | true => MSlcVC len l h fun a b => putK o.dst (.ms z id (off + a) (b - a)) n T L H K
              | false => False
            | none => False
          | none => False
        | none => False
      | .str s => match bndInt T 0 lo with
        | some l => match bndInt T s.size hi with
          | some h => match ty.get t with
            | some ⟨_, _, _, _, .str⟩ => StrVC s l h fun r => putK o.dst (.str r) n T L H K
            | _ => False
          | none => False
        | none => False
      | _ => False
    | .binOp .quo _ x (.tmp y) _ => match evA T x with
      | .int k a => match look T y with
        | .int k' b => match decide (k = k') with
          | true => DivVC b (putK o.dst (.int k (k.wrap (a.tdiv b))) n T L H K)
          | false => False
        | _ => False
      | _ => False
    | .binOp .rem _ x (.tmp y) _ => match evA T x with
      | .int k a => match look T y with
        | .int k' b => match decide (k = k') with
          | true => DivVC b (putK o.dst (.int k (a.tmod b)) n T L H K)
          | false => False
        | _ => False
      | _ => False
    | .binOp .eql t x (.const (.slice none 0 0)) _ => nilK ty false t (evA T x) o n T L H K
    | .binOp .neq t x (.const (.slice none 0 0)) _ => nilK ty true t (evA T x) o n T L H K
    | .binOp .shl _ x y _ => shK .shl (evA T x) (evA T y) o n T L H K
    | .binOp .shr _ x y _ => shK .shr (evA T x) (evA T y) o n T L H K
    | .convert s d x => match evA T x with
      | .sl z rows _ => match ty.get d with
        | some ⟨_, _, _, _, .str⟩ => match ty.get s with
          | some ⟨_, _, _, _, .slice e⟩ => match isByte (ty.get e) with
            | true => match Nat.beq z 1 with
              | true => BytesVC rows fun s => putK o.dst (.str s) n T L H K
              | false => False
            | false => False
          | _ => False
        | _ => False
      | _ => valK ty o n T L H K
    | .alloc _ => newK ty o n T L H K
    | .box _ _ => newK ty o n T L H K
    | .store t p x => match evA T p with
      | .ptr id r c => storK ty t id r c (evA T x) o n T L H K
      | _ => stoK ty md o n T L H K
    | .load t p => match evA T p with
      | .ptr id r c => loadK ty t id r c o n T L H K
      | _ => valK ty o n T L H K
    | .buildSlice t len parts => match md (o.dst.getD 0) with
      | 0 => match bsl ty.get t len parts.toList T with
        | some (s, rows) => forceLL rows fun rows => putK o.dst (.sl s rows none) n T L H K
        | none => False
      | _ => match bsl ty.get t len parts.toList T with
        | some (s, rows) => forceLL rows fun rows => tipK md H fun c => hK md { H with tips := H.tips ++ [(s, rows.length)] } fun H => putK o.dst (.sl s rows (some c)) n T L H K
        | none => False
    | .call c => match c.callee with
      | .value (.func g) => callK P (qt g) (gcall md o) (pureQ md o) o n T L H K
      | .value _ => callK P false false false o n T L H K
      | .builtin .append => effK ty md o n T L H K
      | _ => valK ty o n T L H K
    | _ => valK ty o n T L H K
def A (P : Program) (ty : Tr) (md : Nat → Nat) (qt : FuncId → Bool) (o : Oper) (S : AS) (K : AS → Prop) : Prop :=
  match cls md qt o with
  | .mem => match S with
    | ⟨n, T, L, H⟩ => memK ty md o n T L H K
  | .look => match S with
    | ⟨n, T, L, H⟩ => lookK ty md o n T L H K
  | _ => A0 P ty md qt o S K

section
variable {P : Program} {ty : Tr} {md : Nat → Nat} {qt : FuncId → Bool} {o : Oper} {n : Nat} {T : List (Nat × AV)} {L : List (Nat × List AV)} {H : AH} {K : AS → Prop}

theorem val_B (hc : cls md qt o = .val ∨ cls md qt o = .rd) {x : AV} (hv : vop ty.get o.op ⟨n, T, L, H⟩ = some x) (h : putK o.dst x n T L H K) : B P ty.get md qt o ⟨n, T, L, H⟩ K := by
  obtain ⟨h1, h2⟩ := putK_eq h
  refine ⟨h1, ?_⟩
  rcases hc with hc | hc <;> rw [hc] <;> exact ⟨x, hv, h2⟩
theorem valK_ok (hc : cls md qt o = .val ∨ cls md qt o = .rd) (h : valK ty o n T L H K) : B P ty.get md qt o ⟨n, T, L, H⟩ K := by
  unfold valK at h
  split at h
  · rename_i x hx
    rw [force_eq] at h
    exact val_B hc hx h
  · cases h
theorem effK_ok (hc : cls md qt o = .eff) (h : effK ty md o n T L H K) : B P ty.get md qt o ⟨n, T, L, H⟩ K := by
  unfold effK at h
  split at h
  · rename_i L' H' x φ he
    obtain ⟨h1, h2⟩ := h
    rw [force_eq, forceV_eq, hK_eq] at h2
    obtain ⟨h3, h4⟩ := putK_eq h2
    refine ⟨h3, ?_⟩
    rw [hc]
    exact ⟨L', H', x, φ, he, h1, h4⟩
  · cases h
theorem eopC_store {ty : TypeId → Option TI} {S : AS} {t : TypeId} {p x : Operand} (ho : o.op = .store t p x) {L : List (Nat × List AV)} {H : AH} {r : AV} {φ : Prop} (h : eopC ty md o S = some (L, H, r, φ)) : φ := by
  unfold eopC at h
  rw [ho] at h
  dsimp only at h
  repeat' split at h
  all_goals first | (cases h; done) | skip
  all_goals
    simp only [Option.some.injEq, Prod.mk.injEq] at h
    rw [← h.2.2.2]
    trivial
theorem stoK_ok {t : TypeId} {p y : Operand} (ho : o.op = .store t p y) (hc : cls md qt o = .eff) (h : stoK ty md o n T L H K) : B P ty.get md qt o ⟨n, T, L, H⟩ K := by
  unfold stoK at h
  split at h
  · rename_i L' H' x φ he
    rw [forceV_eq, forceH0_eq] at h
    obtain ⟨h3, h4⟩ := putK_eq h
    refine ⟨h3, ?_⟩
    rw [hc]
    exact ⟨L', H', x, φ, he, eopC_store ho he, h4⟩
  · cases h
theorem newK_ok (hc : cls md qt o = .new) (h : newK ty o n T L H K) : B P ty.get md qt o ⟨n, T, L, H⟩ K := by
  unfold newK at h
  split at h
  · rename_i d hd
    split at h
    · rename_i hb
      split at h
      · rename_i cs hcs
        split at h
        · rename_i hn
          rw [forceL_eq] at h
          refine ⟨fun d' h' => ?_, ?_⟩
          · rw [hd] at h'
            simp only [Option.some.injEq] at h'
            subst h'
            simpa [Nat.blt_eq] using hb
          · rw [hc]
            exact ⟨d, cs, hd, hcs, hn, h⟩
        · cases h
      · cases h
    · cases h
  · cases h
theorem callK_dst {q gr pu : Bool} (h : callK P q gr pu o n T L H K) : (∀ d, o.dst = some d → d < n) ∧ ∃ g args, callOf T o.op = some (g, args) ∧ vals args = true ∧ (match q with
    | true => ∀ H1, (pu = false → Grow H H1) → AC P g args H1 fun r H' => H' = H1 ∧ r.val = true ∧ putK o.dst r n T L H K
    | false => CallVC P g args H fun r H' => r.val = true ∧ (gr = true → Grow H H') ∧ putK o.dst r n T L H' K) := by
  unfold callK at h
  split at h
  · rename_i hd
    refine ⟨fun d h' => ?_, ?_⟩
    · unfold dstB at hd
      rw [h'] at hd
      simpa [Nat.blt_eq] using hd
    split at h
    · rename_i g args hcall
      split at h
      · rename_i hv
        rw [forceL_eq] at h
        refine ⟨g, args, hcall, hv, ?_⟩
        cases q
        · refine ⟨h.out.mono fun r H' h => ?_⟩
          rw [force_eq] at h
          split at h
          · rename_i hr
            split at h
            · exact ⟨hr, fun _ => h.grow, h.out⟩
            · exact ⟨hr, (fun e => Bool.noConfusion e), h⟩
          · cases h
        · dsimp only at h ⊢
          intro H1 hg
          cases pu
          · refine (h.out H1 (hg rfl)).mono fun r H' ⟨h0, h⟩ => ⟨h0, ?_⟩
            rw [force_eq] at h
            split at h
            · rename_i hr; exact ⟨hr, h⟩
            · cases h
          · refine (h.out H1).mono fun r H' ⟨h0, h⟩ => ⟨h0, ?_⟩
            rw [force_eq] at h
            split at h
            · rename_i hr; exact ⟨hr, h⟩
            · cases h
      · cases h
    · cases h
  · cases h
theorem callK_ok {gr pu : Bool} (hgr : gr = gcall md o) (hc : cls md qt o = .call) (h : callK P false gr pu o n T L H K) : B P ty.get md qt o ⟨n, T, L, H⟩ K := by
  obtain ⟨hd, g, args, h1, h2, h3⟩ := callK_dst h
  refine ⟨hd, ?_⟩
  rw [hc]
  exact ⟨g, args, h1, h2, h3.out.mono fun r H' ⟨k1, kg, k2⟩ => ⟨k1, fun e => kg (hgr.trans e), (putK_eq k2).2⟩⟩
theorem callK_quiet {gr pu : Bool} (hpu : pu = pureQ md o) (hc : cls md qt o = .quiet) (h : callK P true gr pu o n T L H K) : B P ty.get md qt o ⟨n, T, L, H⟩ K := by
  obtain ⟨hd, g, args, h1, h2, h3⟩ := callK_dst h
  refine ⟨hd, ?_⟩
  rw [hc]
  exact ⟨g, args, h1, h2, fun H1 hg => (h3 H1 fun e => hg (hpu.symm.trans e)).mono fun r H' ⟨k0, k1, k2⟩ => ⟨k0, k1, (putK_eq k2).2⟩⟩

theorem bndInt_ok {len d m : Nat} {x : Option Operand} {l : Int} (h : bndInt T d x = some l) (hl : l = (m : Int)) (hm : m ≤ len) (hd : x = none → True) : bnd len T x d = some m := by
  cases x with
  | none =>
    simp only [bndInt, Option.some.injEq] at h
    simp only [bnd, Option.some.injEq]
    omega
  | some y =>
    simp only [bndInt] at h
    simp only [bnd]
    split at h
    · rename_i k v hv
      simp only [Option.some.injEq] at h
      subst h
      rw [hv]
      dsimp only
      rw [if_pos ⟨by omega, by omega⟩, hl]
      simp
    · cases h

theorem nilK_ok {neg : Bool} {t : TypeId} {x : Operand} (hc : cls md qt o = .nilq) (hq : nilqOf o.op = some (neg, t, x)) (h : nilK ty neg t (evA T x) o n T L H K) : B P ty.get md qt o ⟨n, T, L, H⟩ K := by
  unfold nilK at h
  split at h
  · rename_i hsl
    have fin : (∀ d, o.dst = some d → d < n) → nilqK (evA T x) (fun b => K ((⟨n, T, L, H⟩ : AS).put o.dst (.bool (neg ^^ b)))) → B P ty.get md qt o ⟨n, T, L, H⟩ K := fun hd h => ⟨hd, by rw [hc]; exact ⟨neg, t, x, hq, hsl, h⟩⟩
    split at h
    · rename_i e
      obtain ⟨h1, h2⟩ := putK_eq h
      refine fin h1 ?_
      rw [e]
      show K _
      cases neg <;> exact h2
    · rename_i z rows tok e
      have h3 : ∀ b, (b = true → rows = []) → putK o.dst (.bool (neg ^^ b)) n T L H K := fun b hb => by
        have := h.out b hb
        cases neg <;> simpa using this
      refine fin (putK_eq (h3 false (by simp))).1 ?_
      rw [e]
      exact fun b hb => (putK_eq (h3 b hb)).2
    · rename_i z id off m e
      have h3 : ∀ b, (b = true → m = 0) → putK o.dst (.bool (neg ^^ b)) n T L H K := fun b hb => by
        have := h.out b hb
        cases neg <;> simpa using this
      refine fin (putK_eq (h3 false (by simp))).1 ?_
      rw [e]
      exact fun b hb => (putK_eq (h3 b hb)).2
    · cases h
  · cases h
theorem shK_ok {op : BinOp} {t yt : TypeId} {x y : Operand} (hc : cls md qt o = .val) (hop : op = .shl ∨ op = .shr) (ho : o.op = .binOp op t x y yt) (h : shK op (evA T x) (evA T y) o n T L H K) : B P ty.get md qt o ⟨n, T, L, H⟩ K := by
  unfold shK at h
  split at h
  · rename_i k a hx
    split at h
    · rename_i k' b hy
      obtain ⟨h1, h2⟩ := h
      split at h2
      · rename_i r hr
        rw [force_eq] at h2
        refine val_B (.inl hc) (x := r) ?_ h2
        rw [ho]
        show pv ty.get (.binOp op t x y yt) T = _
        simp only [pv, hx, hy, bin]
        rcases hop with rfl | rfl <;> simp only [h1, if_true] <;> exact hr
      · cases h2
    · cases h
  · cases h

theorem dstB_ok (h : dstB o.dst n = true) : ∀ d, o.dst = some d → d < n := by
  intro d hd
  unfold dstB at h
  rw [hd] at h
  simpa [Nat.blt_eq] using h
theorem storK_ok {t : TypeId} {p x : Operand} {id r c : Nat} (ho : o.op = .store t p x) (hp : evA T p = .ptr id r c) (h : storK ty t id r c (evA T x) o n T L H K) : B P ty.get md qt o ⟨n, T, L, H⟩ K := by
  have hc : cls md qt o = .eff := by unfold cls; rw [ho]
  unfold storK at h
  split at h
  · rename_i ti ht
    split at h
    · rename_i hv
      split at h
      · cases h
      · rename_i hnt
        split at h
        · rename_i hsz
          obtain ⟨z, l, row, h1, h2, h3⟩ := h.out
          split at h3
          · rename_i hle
            rw [forceL_eq] at h3
            obtain ⟨h4, h5⟩ := putK_eq h3
            refine ⟨h4, ?_⟩
            rw [hc]
            refine ⟨L, H.upd id (.rows z (l.set r (splice row c (evA T x).cellsOf))), .skip, True, ?_, trivial, h5⟩
            unfold eopC
            rw [ho]
            dsimp only
            rw [ht, hp]
            dsimp only
            rw [hv]
            dsimp only
            rw [hsz, h1]
            dsimp only
            rw [h2]
            dsimp only
            rw [hle]
            dsimp only
            split
            · rename_i e; exact absurd e (hnt _)
            · rfl
          · cases h3
        · cases h
    · cases h
  · cases h
theorem loadK_ok {t : TypeId} {p : Operand} {id r c : Nat} (ho : o.op = .load t p) (hp : evA T p = .ptr id r c) (h : loadK ty t id r c o n T L H K) : B P ty.get md qt o ⟨n, T, L, H⟩ K := by
  have hc : cls md qt o = .rd := by unfold cls; rw [ho]
  obtain ⟨z, l, row, h1, h2, h3⟩ := h.out
  split at h3
  · rename_i x hx
    rw [force_eq] at h3
    refine val_B (.inr hc) (x := x) ?_ h3
    rw [ho]
    simp only [vop, hp, h1, h2, hx]
  · cases h3
theorem memK_ok (hc : cls md qt o = .mem) (h : memK ty md o n T L H K) : B P ty.get md qt o ⟨n, T, L, H⟩ K := by
  unfold memK at h
  split at h
  · rename_i hd
    split at h
    · rename_i m hm
      refine ⟨dstB_ok hd, ?_⟩
      rw [hc]
      refine ⟨m, hm, MAct.mono (m := m) h fun x H' hk => ?_⟩
      rw [force_eq] at hk
      split at hk
      · rename_i ho; exact ⟨ho, (putK_eq hk).2⟩
      · cases hk
    · cases h
  · cases h
theorem lookK_ok (hc : cls md qt o = .look) (h : lookK ty md o n T L H K) : B P ty.get md qt o ⟨n, T, L, H⟩ K := by
  unfold lookK at h
  split at h
  · rename_i hd
    split at h
    · rename_i id q m z ok hm
      refine ⟨dstB_ok hd, ?_⟩
      rw [hc]
      refine ⟨_, hm, ?_⟩
      obtain ⟨es, pd, r, h1, h2, h3⟩ := h.out
      refine ⟨⟨es, pd, r, h1, h2, ?_⟩⟩
      rw [force_eq] at h3
      split at h3
      · rename_i ho; exact ⟨ho, rfl, (putK_eq h3).2⟩
      · cases h3
    · rename_i id hm
      refine ⟨dstB_ok hd, ?_⟩
      rw [hc]
      refine ⟨_, hm, ?_⟩
      obtain ⟨q, es, pd, h1, h3⟩ := h
      refine ⟨q, es, pd, h1, ?_⟩
      rw [force_eq] at h3
      split at h3
      · rename_i ho; exact ⟨ho, rfl, (putK_eq h3).2⟩
      · cases h3
    · cases h
  · cases h
theorem A0_ok {S : AS} (hcm : cls md qt o ≠ .mem) (hcl : cls md qt o ≠ .look) (h : A0 P ty md qt o S K) : B P ty.get md qt o S K := by
  obtain ⟨n, T, L, H⟩ := S
  obtain ⟨dst, op, type, pos, after, guard⟩ := o
  unfold A0 at h
  dsimp only at h
  split at h
  · -- indexAddr
    rename_i t x i
    split at h
    · rename_i z rows tok hx
      split at h
      · rename_i k m hm
        split at h
        · rename_i s hs
          split at h
          · rename_i hsz
            obtain ⟨r, h0, h1, h2⟩ := h.out
            rw [forceL_eq] at h2
            refine val_B (.inl rfl) (x := .ep r 0) ?_ h2
            show pv ty.get (.indexAddr t x i) T = _
            simp only [pv, hx, hm, idxAddr, hs]
            rw [show (s == z) = true from beq_iff_eq.2 (Nat.eq_of_beq_eq_true hsz)]
            simp only [rowAt, h0, if_true, h1, Option.map_some]
          · cases h
        · cases h
      · cases h
    · rename_i z id off len hx
      split at h
      · rename_i k m hm
        split at h
        · rename_i s hs
          split at h
          · rename_i hsz
            obtain ⟨j, rfl, h1, h2⟩ := h.out
            refine val_B (.inl rfl) (x := .ptr id (off + j) 0) ?_ h2
            show pv ty.get (.indexAddr t x i) T = _
            simp only [pv, hx, hm, idxAddr, hs]
            rw [show (s == z) = true from beq_iff_eq.2 (Nat.eq_of_beq_eq_true hsz)]
            dsimp only
            rw [if_pos ⟨by omega, by omega⟩]
            simp
          · cases h
        · cases h
      · cases h
    · cases h
  · -- slice
    rename_i t x lo hi
    split at h
    · rename_i z rows tok hx
      split at h
      · rename_i l hl
        split at h
        · rename_i hh hhi
          split at h
          · rename_i s hs
            split at h
            · rename_i hsz
              obtain ⟨a, b, h1, h2, h3, h4, h5⟩ := h.out
              refine val_B (.inl rfl) (x := .sl z ((rows.drop a).take (b - a)) none) ?_ h5
              show pv ty.get (.slice t x lo hi none) T = _
              simp only [pv, hx, slc, hs]
              rw [show (s == z) = true from beq_iff_eq.2 (Nat.eq_of_beq_eq_true hsz)]
              dsimp only
              rw [bndInt_ok hhi h2 h4 (fun _ => trivial)]
              dsimp only
              rw [bndInt_ok (d := 0) hl h1 h3 (fun _ => trivial)]
            · cases h
          · cases h
        · cases h
      · cases h
    · rename_i z id off len hx
      split at h
      · rename_i l hl
        split at h
        · rename_i hh hhi
          split at h
          · rename_i s hs
            split at h
            · rename_i hsz
              obtain ⟨a, b, h1, h2, h3, h4, h5⟩ := h.out
              refine val_B (.inl rfl) (x := .ms z id (off + a) (b - a)) ?_ h5
              show pv ty.get (.slice t x lo hi none) T = _
              simp only [pv, hx, slc, hs]
              rw [show (s == z) = true from beq_iff_eq.2 (Nat.eq_of_beq_eq_true hsz)]
              dsimp only
              rw [bndInt_ok hhi h2 h4 (fun _ => trivial)]
              dsimp only
              rw [bndInt_ok (d := 0) hl h1 h3 (fun _ => trivial)]
            · cases h
          · cases h
        · cases h
      · cases h
    · rename_i s hx
      split at h
      · rename_i l hl
        split at h
        · rename_i hh hhi
          split at h
          · rename_i ht
            obtain ⟨a, b, h1, h2, h3, h4, h5⟩ := h.out
            refine val_B (.inl rfl) (x := .str (s.extract a b)) ?_ h5
            show pv ty.get (.slice t x lo hi none) T = _
            simp only [pv, hx, slc, ht]
            rw [bndInt_ok hhi h2 h4 (fun _ => trivial)]
            dsimp only
            rw [bndInt_ok (d := 0) hl h1 h3 (fun _ => trivial)]
          · cases h
        · cases h
      · cases h
    · cases h
  · rename_i t x y yt
    split at h
    · rename_i k a hx
      split at h
      · rename_i k' b hy
        split at h
        · rename_i hk
          have hk := of_decide_eq_true hk
          subst hk
          refine val_B (.inl rfl) (x := .int k (k.wrap (a.tdiv b))) ?_ h.out
          show pv ty.get (.binOp .quo t x (.tmp y) yt) T = _
          have hy' : evA T (.tmp y) = .int k b := hy
          simp only [pv, hx, hy', bin, if_true, arith, if_neg h.nz]
        · cases h
      · cases h
    · cases h
  · rename_i t x y yt
    split at h
    · rename_i k a hx
      split at h
      · rename_i k' b hy
        split at h
        · rename_i hk
          have hk := of_decide_eq_true hk
          subst hk
          refine val_B (.inl rfl) (x := .int k (a.tmod b)) ?_ h.out
          show pv ty.get (.binOp .rem t x (.tmp y) yt) T = _
          have hy' : evA T (.tmp y) = .int k b := hy
          simp only [pv, hx, hy', bin, if_true, arith, if_neg h.nz]
        · cases h
      · cases h
    · cases h
  · rename_i t x yt
    exact nilK_ok (neg := false) (t := t) (x := x) rfl rfl h
  · rename_i t x yt
    exact nilK_ok (neg := true) (t := t) (x := x) rfl rfl h
  · rename_i t x y yt
    exact shK_ok (t := t) (x := x) (y := y) (yt := yt) rfl (.inl rfl) rfl h
  · rename_i t x y yt
    exact shK_ok (t := t) (x := x) (y := y) (yt := yt) rfl (.inr rfl) rfl h
  · rename_i s d x
    split at h
    · rename_i z rows tok hx
      split at h
      · rename_i hd
        split at h
        · rename_i e hs
          split at h
          · rename_i hb
            split at h
            · rename_i hz
              obtain ⟨ns, h1, h2⟩ := h.out
              refine val_B (.inl rfl) (x := .str (bstr ns)) ?_ h2
              show pv ty.get (.convert s d x) T = _
              simp only [pv, hx, cnv, hd, hs, hb, hz, h1, bytesOf_map]
            · cases h
          · cases h
        · cases h
      · cases h
    · exact valK_ok (.inl rfl) h
  · refine newK_ok ?_ h
    unfold cls at hcm ⊢
    dsimp only at hcm ⊢
    split <;> first | rfl | (rename_i he; rw [he] at hcm; exact absurd rfl hcm)
  · refine newK_ok ?_ h
    unfold cls at hcm ⊢
    dsimp only at hcm ⊢
    split <;> first | rfl | (rename_i he; rw [he] at hcm; exact absurd rfl hcm)
  · rename_i t p x
    split at h
    · rename_i id r c hp
      exact storK_ok rfl hp h
    · exact stoK_ok rfl rfl h
  · rename_i t p
    split at h
    · rename_i id r c hp
      exact loadK_ok rfl hp h
    · exact valK_ok (.inr rfl) h
  · rename_i t len parts
    split at h
    · rename_i hmd
      split at h
      · rename_i s rows hb
        rw [forceLL_eq] at h
        refine val_B (.inl (by unfold cls; simp only [hmd])) (x := .sl s rows none) ?_ h
        show vop ty.get (.buildSlice t len parts) ⟨n, T, L, H⟩ = _
        simp only [vop, hb]
      · cases h
    · rename_i hmd
      split at h
      · rename_i s rows hb
        rw [forceLL_eq, tipK_eq, hK_eq] at h
        obtain ⟨h1, h2⟩ := putK_eq (o := ⟨dst, .buildSlice t len parts, type, pos, after, guard⟩) h
        refine ⟨h1, ?_⟩
        have hc : cls md qt ⟨dst, .buildSlice t len parts, type, pos, after, guard⟩ = .eff := by
          unfold cls at hcm ⊢
          dsimp only at hcm ⊢
          split
          · rename_i h0; exact absurd h0 hmd
          · rename_i h0; rw [h0] at hcm; exact absurd rfl hcm
          · rfl
        rw [hc]
        refine ⟨L, _, .sl s rows (some H.tips.length), True, ?_, trivial, h2⟩
        simp only [eopC, hb]
      · cases h
  · rename_i c
    obtain ⟨callee, args, tys⟩ := c
    dsimp only at h
    cases callee with
    | value f => cases f with
      | func g =>
        cases hq : qt g with
        | true =>
          dsimp only at h
          rw [hq] at h
          exact callK_quiet rfl (by unfold cls; simp only [hq]) h
        | false =>
          dsimp only at h
          rw [hq] at h
          exact callK_ok rfl (by unfold cls; simp only [hq]) h
      | tmp t => exact callK_ok rfl rfl h
      | const v => exact callK_ok rfl rfl h
      | global g => exact callK_ok rfl rfl h
    | invoke r m => exact valK_ok (.inl rfl) h
    | builtin b =>
      cases b <;> first
        | exact valK_ok (.inl rfl) h
        | exact absurd rfl hcm
        | (refine effK_ok ?_ h
           unfold cls at hcm ⊢
           dsimp only at hcm ⊢
           split <;> first | rfl | (rename_i he; rw [he] at hcm; exact absurd rfl hcm))
        | (refine valK_ok (.inl ?_) h
           unfold cls at hcl ⊢
           dsimp only at hcl ⊢
           split <;> first | rfl | (rename_i he; rw [he] at hcl; exact absurd rfl hcl))
  · refine valK_ok ?_ h
    cases op <;> first
      | exact .inl rfl
      | exact .inr rfl
      | exact absurd rfl hcm
      | exact absurd rfl hcl
      | (exfalso; rename_i h1 h2 h3 h4 h5 h6 h7 h8 h9 h10 h11 h12 h13 h14 h15; first | exact h10 _ rfl | exact h11 _ _ rfl | exact h12 _ _ _ rfl | exact h13 _ _ rfl | exact h14 _ _ _ rfl | exact h15 _ rfl)
      | skip
    rename_i op t x y yt h1 h2 h3 h4 h5 h6 h7 h8 h9 h10 h11 h12 h13 h14 h15
    left
    unfold cls
    dsimp only
    split <;> first | rfl | skip
    all_goals rename_i he
    all_goals first | (cases he; done) | exact (h5 _ _ _ he).elim | exact (h6 _ _ _ he).elim
theorem A_ok {S : AS} (h : A P ty md qt o S K) : B P ty.get md qt o S K := by
  unfold A at h
  split at h
  · rename_i hc
    obtain ⟨n, T, L, H⟩ := S
    exact memK_ok hc h
  · rename_i hc
    obtain ⟨n, T, L, H⟩ := S
    exact lookK_ok hc h
  · rename_i h1 h2
    exact A0_ok h1 h2 h
end
end Go.Proofs.Ytecpiplfjmmccaa.AM

/-
  What a run of code asks (vc), and that it is enough (vc_ok, AC.of_vc).
  Conditions: the table of types tells of the program's.
-/
namespace Go.Proofs.Ytecpiplfjmmccaa.AM
open Go

def bsp (b : Bool) (x y : Prop) : Prop :=
  match b with
  | true => x
  | false => y
theorem bsp_intro {b : Bool} {x y : Prop} (h1 : b = true → x) (h2 : b = false → y) : bsp b x y := by
  cases b
  · exact h2 rfl
  · exact h1 rfl

/-- one operation, its guard ahead -/
def A1 (P : Program) (ty : Tr) (md : Nat → Nat) (qt : FuncId → Bool) (ops : List Oper) (o : Oper) (S : AS) (K : AS → Prop) : Prop :=
  match o.guard with
  | none => A P ty md qt o S K
  | some (g, want) => match (ops[g]?).bind (·.dst) with
    | some t => match S with
      | ⟨n, T, L, H⟩ => match look T t with
        | .bool b => bsp b (match want with | true => A P ty md qt o ⟨n, (t, .bool true) :: T, L, H⟩ K | false => putK o.dst .skip n ((t, .bool true) :: T) L H K)
            (match want with | true => putK o.dst .skip n ((t, .bool false) :: T) L H K | false => A P ty md qt o ⟨n, (t, .bool false) :: T, L, H⟩ K)
        | .skip => putK o.dst .skip n T L H K
        | _ => False
    | none => False
def reg (P : Program) (ty : Tr) (md : Nat → Nat) (qt : FuncId → Bool) (ops : List Oper) : List Oper → AS → (AS → Prop) → Prop
  | [], S, K => K S
  | o :: l, S, K => A1 P ty md qt ops o S fun S => reg P ty md qt ops l S K
def regO (P : Program) (ty : Tr) (md : Nat → Nat) (qt : FuncId → Bool) (ops : List Oper) : List Nat → AS → (AS → Prop) → Prop
  | [], S, K => K S
  | i :: l, S, K => match ops[i]? with
    | some o => A1 P ty md qt ops o S fun S => regO P ty md qt ops l S K
    | none => False

inductive AX where
  | normal | ret | exit (id : Nat)

/-- A value told of less. -/
inductive Wk : AV → AV → Prop where
  | refl (x : AV) : Wk x x
  | nil (z : Nat) (tok : Option Nat) (hz : 0 < z) : Wk .nils (.sl z [] tok)
  | drop (z : Nat) (rows : List (List AV)) (tok : Option Nat) : Wk (.sl z rows tok) (.sl z rows none)
  | nilms (z id : Nat) : Wk .nils (.ms z id 0 0)
theorem Wk.of {x y : AV} (h : x = y) : Wk x y := h ▸ .refl x
def leT (T : List (Nat × AV)) : List (Nat × AV) → Prop
  | [] => True
  | (j, x) :: l => Wk (look T j) x ∧ leT T l
def leC : List AV → List AV → Prop
  | [], [] => True
  | x :: l, y :: l' => (y = .undef ∨ Wk x y) ∧ leC l l'
  | _, _ => False
def leL (L : List (Nat × List AV)) : List (Nat × List AV) → Prop
  | [] => True
  | (i, cs) :: l => (∃ ds, lookL L i = some ds ∧ leC ds cs) ∧ leL L l
/-- Tracked memory told of less: chains begun, blocks forgotten, empty ones begun, rows told of less. -/
inductive LeH : AH → AH → Prop where
  | tips {H H' : AH} (zs : List Nat) (h : H' = ⟨H.blks, H.tips ++ zs.map fun z => (z, 0)⟩) : LeH H H'
  | dead {H : AH} (id : Nat) : LeH H (H.upd id .dead)
  | empty {H : AH} (z : Nat) (hz : 0 < z) : LeH H (H.push (.rows z []))
  | weak {H : AH} (id z : Nat) (l l' : List (List AV)) (hid : H.blks[id]? = some (.rows z l)) (hw : ∀ (i : Nat) r', l'[i]? = some r' → ∃ r, l[i]? = some r ∧ leC r r') : LeH H (H.upd id (.rows z l'))
  | trans {H H' H'' : AH} (h : LeH H H') (k : LeH H' H'') : LeH H H''
theorem LeH.refl (H : AH) : LeH H H := .tips [] (by simp)
theorem LeH.of {H H' : AH} (h : H = H') : LeH H H' := h ▸ .refl H
/-- A state told of less; chains may be begun. -/
structure LeS (S S' : AS) : Prop where
  n : S.n = S'.n
  t : leT S.T S'.T
  l : leL S.L S'.L
  h : LeH S.H S'.H

structure LoopVC (body : AS → (AX → AS → Prop) → Prop) (S : AS) (Q : AX → AS → Prop) : Prop where
  out : ∃ (α : Type) (I : α → AS) (inv : α → Prop) (μ : α → Nat), (∃ x, inv x ∧ LeS S (I x)) ∧
    ∀ x, inv x → body (I x) fun e S' => match e with
      | .normal => ∃ x', inv x' ∧ μ x' < μ x ∧ LeS S' (I x')
      | .ret => Q .ret S'
      | .exit i => Q (.exit i) S'
structure DrawVC (P : Program) (ty : Tr) (md : Nat → Nat) (qt : FuncId → Bool) (ops : List Oper) (S : AS) (K : AS → Prop) : Prop where
  out : ∃ order tab, drawB md qt ops order tab = true ∧ regO P ty md qt ops order S K

theorem DrawVC.go {P : Program} {ty : Tr} {md : Nat → Nat} {qt : FuncId → Bool} {ops : List Oper} {S : AS} {K : AS → Prop} (order : List Nat) (h : drawB md qt ops order (anc ops) = true) (k : regO P ty md qt ops order S K) : DrawVC P ty md qt ops S K := ⟨order, anc ops, h, k⟩

def vc (P : Program) (ty : Tr) (md : Nat → Nat) (qt : FuncId → Bool) : Code → AS → (AX → AS → Prop) → Prop
  | .skip, S, Q => Q .normal S
  | .region _ ops draw, S, Q => match draw with
    | false => reg P ty md qt ops.toList ops.toList S (Q .normal)
    | true => DrawVC P ty md qt ops.toList S (Q .normal)
  | .seq a b, S, Q => vc P ty md qt a S fun e S => match e with
    | .normal => vc P ty md qt b S Q
    | .ret => Q .ret S
    | .exit i => Q (.exit i) S
  | .cond c a b, S, Q => match S with
    | ⟨n, T, L, H⟩ => match evA T c with
      | .bool t => match c with
        | .tmp d => bsp t (vc P ty md qt a ⟨n, (d, .bool true) :: T, L, H⟩ Q) (vc P ty md qt b ⟨n, (d, .bool false) :: T, L, H⟩ Q)
        | _ => bsp t (vc P ty md qt a ⟨n, T, L, H⟩ Q) (vc P ty md qt b ⟨n, T, L, H⟩ Q)
      | _ => False
  | .block id c, S, Q => vc P ty md qt c S fun e S => match e with
    | .normal => Q .normal S
    | .ret => Q .ret S
    | .exit i => match Nat.beq i id with
      | true => Q .normal S
      | false => Q (.exit i) S
  | .loop c, S, Q => LoopVC (vc P ty md qt c) S Q
  | .exit id, S, Q => Q (.exit id) S
  | .ret, S, Q => Q .ret S
  | .label _, S, Q => Q .normal S
  | _, _, _ => False

section
variable {E : Env} {P : Program} {ty : Tr} {md : Nat → Nat} {qt : FuncId → Bool} {lo : Nat → Nat} {G : Gh} {S : AS} {a : Act} {w : World}

theorem shadow_eqv {n t : Nat} {T : List (Nat × AV)} {L : List (Nat × List AV)} {H : AH} {b : Bool} (h : look T t = .bool b) : Eqv ⟨n, (t, .bool b) :: T, L, H⟩ ⟨n, T, L, H⟩ := by
  refine ⟨rfl, fun i => ?_, fun p => ?_, fun _ => rfl, rfl⟩
  · rw [look_cons]
    split
    · rename_i e; subst e; exact h.symm
    · rfl
  · simp only [List.mem_cons]
    refine ⟨fun hp => ?_, .inr⟩
    rcases hp with rfl | hp
    · exact look_mem h (by simp)
    · exact hp
theorem KE.of {K : AS → Prop} {S : AS} (h : K S) : KE K S := ⟨S, Eqv.refl S, h⟩

theorem A1_ok {ops : List Oper} {o : Oper} {K : AS → Prop} (h : A1 P ty md qt ops o S K) : B1 P ty.get md qt ops o S (KE K) := by
  unfold A1 at h
  unfold B1
  cases hg : o.guard with
  | none => rw [hg] at h; exact B_mono (A_ok h) fun _ => KE.of
  | some gw =>
    obtain ⟨g, want⟩ := gw
    rw [hg] at h
    dsimp only at h ⊢
    split at h
    · rename_i t ht
      obtain ⟨n, T, L, H⟩ := S
      dsimp only at h
      refine ⟨t, ht, ?_⟩
      split at h
      · rename_i b hb
        refine .inl ⟨b, hb, ?_⟩
        have run : A P ty md qt o ⟨n, (t, .bool b) :: T, L, H⟩ K → B P ty.get md qt o ⟨n, T, L, H⟩ (KE K) := fun h => B_eqv (shadow_eqv hb) (A_ok h) fun S S' e h => ⟨S, e, h⟩
        have skp : putK o.dst .skip n ((t, .bool b) :: T) L H K → DstOK o ⟨n, T, L, H⟩ ∧ KE K ((⟨n, T, L, H⟩ : AS).put o.dst .skip) := fun h => by
          obtain ⟨h1, h2⟩ := putK_eq h
          exact ⟨h1, _, put_eqv (shadow_eqv hb) _ _, h2⟩
        cases b <;> cases want <;> dsimp only [bsp] at h
        · exact ⟨fun _ => run h, fun h' => absurd rfl h'⟩
        · exact ⟨fun h' => (nomatch h'), fun _ => skp h⟩
        · exact ⟨fun h' => (nomatch h'), fun _ => skp h⟩
        · exact ⟨fun _ => run h, fun h' => absurd rfl h'⟩
      · rename_i hb
        obtain ⟨h1, h2⟩ := putK_eq h
        exact .inr ⟨hb, h1, KE.of h2⟩
      · cases h
    · cases h

theorem Breg_eqv {ops : List Oper} {ty : TypeId → Option TI} {K : AS → Prop} : ∀ {l : List Oper} {S S' : AS}, Eqv S S' → Breg P ty md qt ops l S (KE K) → Breg P ty md qt ops l S' (KE K)
  | [], _, _, e, ⟨S0, e0, h⟩ => ⟨S0, e0.trans e, h⟩
  | _ :: _, _, _, e, h => B1_eqv e h fun _ _ e' h' => Breg_eqv e' h'
theorem reg_ok {ops : List Oper} {K : AS → Prop} : ∀ {l : List Oper} {S : AS}, reg P ty md qt ops l S K → Breg P ty.get md qt ops l S (KE K)
  | [], _, h => KE.of h
  | _ :: _, _, h => B1_mono (A1_ok h) fun _ ⟨_, e, h'⟩ => Breg_eqv e (reg_ok h')
theorem regO_ok {ops : List Oper} {K : AS → Prop} : ∀ {l : List Nat} {S : AS}, regO P ty md qt ops l S K → Bord P ty.get md qt ops l S (KE K)
  | [], _, h => KE.of h
  | i :: l, S, h => by
    unfold regO at h
    split at h
    · rename_i o ho
      exact ⟨o, ho, B1_mono (A1_ok h) fun _ ⟨_, e, h'⟩ => Bord_eqv e (regO_ok h')⟩
    · cases h

theorem Wk.rep {x y : AV} {v : Value} (h : Wk x y) (hr : Rep G w x v) : Rep G w y v := by
  cases h with
  | refl => exact hr
  | nil z tok hz =>
    cases hr
    exact .sl z [] tok none 0 0 0 (fun _ _ => Go.undef) hz (by simp) (by simp [maxLen]) (by simp) (.inl ⟨rfl, .inr rfl⟩) (fun i j x hx => by simp [cellAt] at hx) (fun i j x hx => by simp [cellAt] at hx) (fun i j x hx => by simp [cellAt] at hx)
  | nilms z id =>
    cases hr
    exact .ms _ _ _ _ _ _ (Nat.le_refl _) (by simp [maxLen]) (.inr rfl)
  | drop z rows tok =>
    cases hr with
    | sl _ _ _ A c b o f hz hlc hc hk hp hcell h1 hrr =>
      refine .sl z rows none A c b o f hz hlc hc hk ?_ hcell h1 hrr
      rcases hp with ⟨h0, _⟩ | ⟨hA, hi, _⟩
      · exact .inl ⟨h0, .inl rfl⟩
      · exact .inr ⟨hA, hi, fun t e => nomatch e⟩
theorem Wk.repT {x y : AV} {v : Value} (h : Wk x y) (hr : RepT lo G w x v) : RepT lo G w y v := by
  rcases hr with rfl | ⟨i, c, rfl, hv⟩ | hr
  · cases h; exact .inl rfl
  · cases h; exact .inr (.inl ⟨i, c, rfl, hv⟩)
  · exact .inr (.inr (h.rep hr))
theorem Wk.one {x y : AV} (h : Wk x y) (hx : x.one = true) : y.one = true := by cases h <;> first | exact hx | rfl

theorem leT_get {T : List (Nat × AV)} : ∀ {T' : List (Nat × AV)}, leT T T' → ∀ i, look T' i = .undef ∨ Wk (look T i) (look T' i)
  | [], _, i => .inl rfl
  | (j, x) :: l, h, i => by
    rw [look_cons]
    split
    · rename_i e; subst e; exact .inr h.1
    · exact leT_get h.2 i
theorem leC_get : ∀ {ds cs : List AV}, leC ds cs → ds.length = cs.length ∧ ∀ (j : Nat) x, cs[j]? = some x → x = .undef ∨ ∃ y, ds[j]? = some y ∧ Wk y x
  | [], [], _ => ⟨rfl, fun j x h => by simp at h⟩
  | [], _ :: _, h => h.elim
  | _ :: _, [], h => h.elim
  | y :: ds, x :: cs, h => by
    obtain ⟨h1, h2⟩ := h
    obtain ⟨g1, g2⟩ := leC_get h2
    refine ⟨by simp [g1], fun j z hz => ?_⟩
    cases j with
    | zero =>
      simp only [List.getElem?_cons_zero, Option.some.injEq] at hz
      subst hz
      exact h1.imp id fun h => ⟨y, rfl, h⟩
    | succ j => simpa using g2 j z (by simpa using hz)
theorem leL_get {L : List (Nat × List AV)} : ∀ {L' : List (Nat × List AV)}, leL L L' → ∀ i cs, lookL L' i = some cs → ∃ ds, lookL L i = some ds ∧ leC ds cs
  | [], _, i, cs, h => by simp [lookL] at h
  | (j, x) :: l, h, i, cs, hi => by
    rw [lookL_cons] at hi
    split at hi
    · rename_i e
      subst e
      simp only [Option.some.injEq] at hi
      subst hi
      exact h.1
    · exact leL_get h.2 i cs hi

theorem tips_sim (zs : List Nat) : ∀ (H : AH), HSim G w H → Ext G H w G ⟨H.blks, H.tips ++ zs.map fun z => (z, 0)⟩ w ∧ HSim G w ⟨H.blks, H.tips ++ zs.map fun z => (z, 0)⟩ := by
  induction zs with
  | nil => intro H hh; simp only [List.map_nil, List.append_nil]; exact ⟨Ext.refl _ _ _, hh⟩
  | cons z zs ih =>
    intro H hh
    obtain ⟨e1, e2⟩ := eff_tip hh z
    obtain ⟨e3, e4⟩ := ih _ e2
    simp only [List.map_cons]
    have : H.tips ++ (z, 0) :: zs.map (fun z => (z, 0)) = (H.tips ++ [(z, 0)]) ++ zs.map (fun z => (z, 0)) := by simp
    rw [this]
    exact ⟨e1.trans e3, e4⟩
theorem RepU.weak {x y : AV} {v : Value} (h : y = .undef ∨ Wk x y) (hr : RepU G w x v) : RepU G w y v := by
  rcases h with rfl | h
  · exact .inl rfl
  · rcases hr with rfl | ⟨g4, g5⟩
    · cases h; exact .inl rfl
    · exact .inr ⟨h.one g4, h.rep g5⟩
theorem LeH.sim {H H' : AH} (k : LeH H H') : HSim G w H → Ext G H w G H' w ∧ HSim G w H' := by
  induction k with
  | tips zs h => intro hh; subst h; exact tips_sim zs _ hh
  | dead id => intro hh; exact eff_dead hh id
  | empty z hz => intro hh; exact eff_empty hh z hz
  | trans _ _ ih1 ih2 =>
    intro hh
    obtain ⟨a1, a2⟩ := ih1 hh
    obtain ⟨b1, b2⟩ := ih2 a2
    exact ⟨a1.trans b1, b2⟩
  | @weak H id z l l' hid hw =>
    intro hh
    have hll : l'.length ≤ l.length := by
      rcases Nat.lt_or_ge l.length l'.length with h | h
      · obtain ⟨r, hr, _⟩ := hw l.length _ (List.getElem?_eq_getElem h)
        simp at hr
      · exact h
    rcases hh.at_ id _ hid rfl with ⟨b, z', h1, ⟨h2, h3, vs, e2, h4, h5, h6, h7⟩, _, _⟩ | ⟨h1, z', h2, h3⟩
    · obtain ⟨_, q2, q3⟩ := eff_blk (B' := .rows z l') hh hid rfl h1 (Kin.refl w) rfl (fun _ _ => rfl) (fun _ h => h) (fun hle => ⟨h2, h3, vs, e2, h4, fun r hr => by
        obtain ⟨i, hi⟩ := List.mem_iff_getElem?.1 hr
        obtain ⟨r0, g1, g2⟩ := hw i r hi
        rw [← (leC_get g2).1]; exact h5 r0 (List.mem_of_getElem? g1), by
        have : l'.length * z ≤ l.length * z := Nat.mul_le_mul_right z hll
        omega, fun i j x hx => by
        obtain ⟨r, g1, g2⟩ := cellAt_some hx
        obtain ⟨r0, g3, g4⟩ := hw i r g1
        rcases (leC_get g4).2 j x g2 with rfl | ⟨y, g5, g6⟩
        · exact .inl rfl
        · exact (h7 i j y (by unfold cellAt; rw [g3]; exact g5)).weak (.inr g6)⟩)
      exact ⟨q2, q3⟩
    · simp only [ABlk.rows.injEq] at h3
      obtain ⟨rfl, rfl⟩ := h3
      have hl' : l' = [] := List.eq_nil_of_length_eq_zero (by simpa using hll)
      subst hl'
      have hu : H.upd id (.rows z []) = H := by
        unfold AH.upd
        rw [set_self _ _ _ hid]
      rw [hu]; exact ⟨Ext.refl _ _ _, hh⟩

theorem Sim.less {S' : AS} (h : Sim E lo G S a w) (k : LeS S S') : Sim E lo G S' a w := by
  obtain ⟨t1, t2⟩ := k.h.sim h.h
  refine { t := fun i => ?_, size := by rw [← k.n]; exact h.size, d := h.d, l := ?_, h := t2, le := h.le, ext := h.ext.trans t1, own := fun i cs hi => ?_ }
  · rcases leT_get k.t i with e | e
    · exact .inl e
    · exact e.repT (h.t i)
  · refine { at_ := fun i cs hi => ?_, free := fun i cs hi => ?_, inj := fun i j cs ds hi hj e => ?_ }
    · obtain ⟨ds, h1, h2⟩ := leL_get k.l i cs hi
      obtain ⟨vs, e, g1, g2, g3⟩ := h.l.at_ i ds h1
      obtain ⟨c1, c2⟩ := leC_get h2
      refine ⟨vs, e, g1, by omega, fun j x hx => ?_⟩
      rcases c2 j x hx with e | ⟨y, hy, hw⟩
      · exact .inl e
      · rcases g3 j y hy with rfl | ⟨g4, g5⟩
        · cases hw; exact .inl rfl
        · exact .inr ⟨hw.one g4, hw.rep g5⟩
    · obtain ⟨ds, h1, _⟩ := leL_get k.l i cs hi
      exact h.l.free i ds h1
    · obtain ⟨cs', h1, _⟩ := leL_get k.l i cs hi
      obtain ⟨ds', h2, _⟩ := leL_get k.l j ds hj
      exact h.l.inj i j cs' ds' h1 h2 e
  · obtain ⟨ds, h1, _⟩ := leL_get k.l i cs hi
    exact h.own i ds h1

def post (E : Env) (Q : AX → AS → Prop) : Exit → Act → World → Prop
  | .normal, a, w => Aft E (Q .normal) a w
  | .ret, a, w => Aft E (Q .ret) a w
  | .exit i, a, w => Aft E (Q (.exit i)) a w
  | _, _, _ => False
theorem Aft.ke {K : AS → Prop} {a : Act} {w : World} : Aft E (KE K) a w → Aft E K a w := fun ⟨lo, G, _, hs, S', e, hk⟩ => ⟨lo, G, S', hs.eqv ⟨e.n.symm, fun i => (e.t i).symm, fun p => (e.m p).symm, fun i => (e.l i).symm, e.h.symm⟩, hk⟩

theorem vc_ok (hty : TyOK P ty.get) (hmix : P.follows .mixedOrders = true) : ∀ (c : Code) {Q : AX → AS → Prop} {lo : Nat → Nat} {G : Gh} {S : AS} {a : Act} {w : World}, Sim E lo G S a w → vc P ty md qt c S Q → c.wp P (post E Q) a w
  | .skip, Q, lo, G, S, a, w, hs, h => wp_skip ⟨lo, G, S, hs, h⟩
  | .region id ops draw, Q, lo, G, S, a, w, hs, h => by
    cases draw with
    | false => exact Breg_ok hty hs (reg_ok h) fun a' w' h => Aft.ke h
    | true =>
      obtain ⟨order, tab, h1, h2⟩ := h.out
      exact Bord_ok hty hmix (drawB_ok h1) hs (regO_ok h2) fun a' w' h => Aft.ke h
  | .seq x y, Q, lo, G, S, a, w, hs, h => by
    refine wp_seq (wp_mono (vc_ok hty hmix x hs h) fun e a' w' hq => ?_)
    cases e <;> first | exact hq | skip
    · obtain ⟨lo', G', S', hs', h'⟩ := hq
      exact vc_ok hty hmix y hs' h'
  | .cond c x y, Q, lo, G, S, a, w, hs, h => by
    obtain ⟨n, T, L, H⟩ := S
    unfold vc at h
    dsimp only at h
    split at h
    · rename_i t ht
      have hr := evA_ok hs c
      rw [show evA (AS.T ⟨n, T, L, H⟩) c = _ from ht] at hr
      have hr := hr.rep (.inl rfl)
      generalize hv : a.eval c = v at hr
      cases hr
      split at h
      · rename_i d
        have he := shadow_eqv (n := n) (L := L) (H := H) (show look T d = .bool t from ht)
        have hs' := hs.eqv (S' := ⟨n, (d, .bool t) :: T, L, H⟩) ⟨rfl, fun i => (he.t i).symm, fun p => (he.m p).symm, fun _ => rfl, rfl⟩
        refine wp_cond hv ?_
        cases t
        · exact vc_ok hty hmix y hs' h
        · exact vc_ok hty hmix x hs' h
      · refine wp_cond hv ?_
        cases t
        · exact vc_ok hty hmix y hs h
        · exact vc_ok hty hmix x hs h
    · cases h
  | .block id c, Q, lo, G, S, a, w, hs, h => by
    refine wp_block (wp_mono (vc_ok hty hmix c hs h) fun e a' w' hq => ?_)
    cases e <;> first | exact hq | skip
    · rename_i i
      obtain ⟨lo', G', S', hs', h'⟩ := hq
      show if i = id then _ else _
      dsimp only at h'
      split at h'
      · rename_i hb
        rw [if_pos (Nat.eq_of_beq_eq_true hb)]
        exact ⟨lo', G', S', hs', h'⟩
      · rename_i hb
        rw [if_neg (Nat.ne_of_beq_eq_false hb)]
        exact ⟨lo', G', S', hs', h'⟩
  | .loop c, Q, lo, G, S, a, w, hs, h => by
    obtain ⟨α, I, inv, μ, ⟨x0, h1, h2⟩, h3⟩ := h.out
    refine wp_loop_ghost (fun m a w => ∃ x, inv x ∧ μ x = m ∧ ∃ lo G, Sim E lo G (I x) a w) (μ x0) ⟨x0, h1, rfl, lo, G, hs.less h2⟩ ?_
    rintro m a' w' ⟨x, hx, rfl, lo', G', hs'⟩
    refine wp_mono (vc_ok hty hmix c hs' (h3 x hx)) fun e a'' w'' hq => ?_
    cases e <;> first | exact hq | skip
    · obtain ⟨lo'', G'', S'', hs'', x', g1, g2, g3⟩ := hq
      exact ⟨μ x', g2, x', g1, rfl, lo'', G'', hs''.less g3⟩
  | .exit id, Q, lo, G, S, a, w, hs, h => wp_exit ⟨lo, G, S, hs, h⟩
  | .ret, Q, lo, G, S, a, w, hs, h => wp_ret ⟨lo, G, S, hs, h⟩
  | .label l, Q, lo, G, S, a, w, hs, h => wp_label ⟨lo, G, S, hs, h⟩
  | .rangeFunc .., _, _, _, _, _, _, _, h => h.elim
  | .goto _, _, _, _, _, _, _, _, h => h.elim
  | .scope _, _, _, _, _, _, _, _, h => h.elim
  | .refuse _, _, _, _, _, _, _, _, h => h.elim

/-! ### a function -/
def number : Nat → List AV → List (Nat × AV)
  | _, [] => []
  | i, x :: l => (i, x) :: number (i + 1) l
theorem look_number : ∀ (l : List AV) (i j : Nat), look (number i l) j = if i ≤ j then (l[j - i]?).getD .undef else .undef
  | [], i, j => by simp [number, look]
  | x :: l, i, j => by
    simp only [number]
    rw [look_cons, look_number l (i + 1) j]
    by_cases h : i = j
    · subst h; simp
    · rw [if_neg h]
      by_cases h2 : i ≤ j
      · rw [if_pos h2, if_pos (by omega)]
        obtain ⟨m, hm⟩ : ∃ m, j - i = m + 1 := ⟨j - i - 1, by omega⟩
        rw [hm, show j - (i + 1) = m by omega]
        simp
      · rw [if_neg h2, if_neg (by omega)]

/-- What the results' places hold. -/
def resK (ty : Tr) (S : AS) : List ResultVar → (List AV → Prop) → Prop
  | [], k => k []
  | .tmp t :: l, k => force (look S.T t) fun x => match x.val with
    | true => resK ty S l fun l => k (x :: l)
    | false => False
  | .cell t e :: l, k => match look S.T t with
    | .lptr i c => match lookL S.L i with
      | some cs => match loadOf (ty.get e) cs c with
        | some x => force x fun x => match x.val with
          | true => resK ty S l fun l => k (x :: l)
          | false => False
        | none => False
      | none => False
    | _ => False
def one? (l : List AV) : AV :=
  match l with
  | [x] => x
  | l => .tup l
def retK (ty : Tr) (fn : Func) (Q : AV → AH → Prop) : AX → AS → Prop
  | .exit _, _ => False
  | _, S => resK ty S fn.results.toList fun l => Q (one? l) S.H

def resOf (tmps : Array Value) : ResultVar → Sem Value
  | .tmp t => pure (tmps.getD t Go.undef)
  | .cell x t => do loadVar t (← asAddr (tmps.getD x Go.undef))
theorem resK_ok (hty : TyOK P ty.get) (hs : Sim E lo G S a w) : ∀ {l : List ResultVar} {k : List AV → Prop}, resK ty S l k → ∃ (xs : List AV) (vs : List Value), k xs ∧ (l.mapM (resOf a.tmps)).run P w = .ok vs w ∧ vs.length = xs.length ∧ ∀ (i : Nat) x, xs[i]? = some x → Rep G w x (vs.getD i Go.undef)
  | [], k, h => ⟨[], [], h, rfl, rfl, fun i x h => by simp at h⟩
  | .tmp t :: l, k, h => by
    unfold resK at h
    rw [force_eq] at h
    split at h
    · rename_i hv
      obtain ⟨xs, vs, h1, h2, h3, h4⟩ := resK_ok hty hs h
      refine ⟨look S.T t :: xs, a.tmps.getD t Go.undef :: vs, h1, ?_, by simp [h3], fun i x hx => ?_⟩
      · simp only [List.mapM_cons, Sem.run_bind, resOf, Sem.run_pure, Result.andThen_ok, h2]
      · cases i with
        | zero =>
          simp only [List.getElem?_cons_zero, Option.some.injEq] at hx
          subst hx
          exact (hs.t t).rep (.inl hv)
        | succ i => simpa using h4 i x (by simpa using hx)
    · cases h
  | .cell t e :: l, k, h => by
    unfold resK at h
    split at h
    · rename_i i c hl
      split at h
      · rename_i cs hcs
        split at h
        · rename_i x hx
          rw [force_eq] at h
          split at h
          · rename_i hv
            have hp := hs.t t
            rw [hl] at hp
            have hpv : a.tmps.getD t Go.undef = .pointer (some ⟨lo i, c, none⟩) := by
              rcases hp with hp | ⟨_, _, hp, hv⟩ | hp
              · cases hp
              · simp only [AV.lptr.injEq] at hp; rw [hp.1, hp.2]; exact hv
              · cases hp
            obtain ⟨us, e', h2, h3, h4⟩ := hs.l.at_ i cs hcs
            obtain ⟨v, g1, g2⟩ := load_ok (P := P) (w := w) (G := G) (b := lo i) (o := 0) (f := fun j => us.getD j Go.undef) hty hx (fun j y hy => ⟨by
              rw [Nat.zero_add]
              exact cell_row h2 (by have := (List.getElem?_eq_some_iff.1 hy).1; omega), h4 j y hy⟩)
            obtain ⟨xs, vs, k1, k2, k3, k4⟩ := resK_ok hty hs h
            refine ⟨x :: xs, v :: vs, k1, ?_, by simp [k3], fun i y hy => ?_⟩
            · have g1' : (loadVar e ⟨lo i, c, none⟩).run P w = .ok v w := by
                simpa [Instr.loadAt, Instr.sureAddr] using g1
              simp only [List.mapM_cons, Sem.run_bind, resOf, hpv, asAddr, Sem.run_pure, Result.andThen_ok, g1', k2]
            · cases i with
              | zero =>
                simp only [List.getElem?_cons_zero, Option.some.injEq] at hy
                subst hy
                exact g2
              | succ i => simpa using k4 i y (by simpa using hy)
          · cases h
        · cases h
      · cases h
    · cases h

/-- A function does what its text, walked, asks. -/
theorem AC.of_vc (hty : TyOK P ty.get) (hmix : P.follows .mixedOrders = true) {f : FuncId} {fn : Func} {c : Code} (hf : P.funcs[f]? = some fn) (hname : (fn.name == "runtime.NumGoroutine") = false) (hb : fn.body = some c) {args : List AV} (hlen : Nat.ble args.length fn.ntmps = true)
    {H : AH} {Q : AV → AH → Prop} (h : vc P ty md qt c ⟨fn.ntmps, number 0 args, [], H⟩ (retK ty fn Q)) : AC P f args H Q := by
  refine ⟨⟨fn, c, hf, hname, hb⟩, fun G w vs hH hr => calls_of_wp hf hb ?_⟩
  have hlen := Nat.le_of_ble_eq_true hlen
  have hs : Sim ⟨G, H, w⟩ (fun _ => 0) G ⟨fn.ntmps, number 0 args, [], H⟩ { tmps := vs.toArray ++ Array.replicate (fn.ntmps - vs.toArray.size) Go.undef, defers := [] } w := by
    refine { t := fun i => ?_, size := ?_, d := rfl, l := ⟨fun i cs hi => by simp [lookL] at hi, fun i cs hi => by simp [lookL] at hi, fun i j cs ds hi => by simp [lookL] at hi⟩, h := hH, le := Le.refl _ _, ext := Ext.refl _ _ _, own := fun i cs hi => by simp [lookL] at hi }
    · show RepT _ _ _ (look (number 0 args) i) _
      rw [look_number]
      simp only [Nat.zero_le, if_true, Nat.sub_zero]
      cases hx : args[i]? with
      | none => exact .inl rfl
      | some x =>
        have h1 := hr.2 i x hx
        have hi := (List.getElem?_eq_some_iff.1 hx).1
        rw [List.getD_eq_getElem?_getD] at h1
        refine RepT.of ?_
        rw [Option.getD_some, Array.getD_eq_getD_getElem?, Array.getElem?_append_left (by simp [hr.1]; exact hi)]
        simpa using h1
    · show fn.ntmps = _
      simp [hr.1]; omega
  refine wp_mono (vc_ok hty hmix c hs h) fun e a' w' hq => ?_
  have fin : Aft ⟨G, H, w⟩ (retK ty fn Q .ret) a' w' → a'.defers = [] ∧ ∃ v, (results fn a'.tmps).run P w' = .ok v w' ∧ ∃ r cr G' H', Ending.returned v = .returned cr ∧ Rep G' w' r cr ∧ HSim G' w' H' ∧ Le G w G' w' ∧ Ext G H w G' H' w' ∧ Q r H' := by
    rintro ⟨lo', G', S', hs', h'⟩
    obtain ⟨xs, us, h1, h2, h3, h4⟩ := resK_ok hty hs' h'
    refine ⟨hs'.d, if h : us.toArray.size = 1 then us.toArray[0] else .tuple us.toArray, ?_, one? xs, _, G', S'.H, rfl, ?_, hs'.h, hs'.le, hs'.ext, h1⟩
    · have hr : (fn.results.mapM (resOf a'.tmps)).run P w' = .ok us.toArray w' := by
        rw [← Array.toArray_toList (xs := fn.results), List.mapM_toArray]
        simp only [Sem.run_map, h2]
        rfl
      unfold results
      show ((fn.results.mapM (resOf a'.tmps)).bind fun vs => _).run P w' = _
      erw [Sem.run_bind, hr]
      rfl
    · unfold one?
      split
      · rename_i x
        have hl : us.length = 1 := h3
        rw [dif_pos (by simpa using hl)]
        have := h4 0 x rfl
        rw [List.getD_eq_getElem?_getD, List.getElem?_eq_getElem (by omega), Option.getD_some] at this
        simpa using this
      · rename_i hne
        rw [dif_neg (fun h => ?_)]
        · exact .tup xs us.toArray (by simpa using h3) (fun i x hx => by
            have := h4 i x hx
            rw [List.getD_eq_getElem?_getD] at this
            rw [Array.getD_eq_getD_getElem?]
            simpa using this)
        · have hl : xs.length = 1 := by rw [← h3]; simpa using h
          match xs, hl with
          | [x], _ => exact hne x rfl
  cases e with
  | normal => exact fin hq
  | ret => exact fin hq
  | exit i => obtain ⟨_, _, _, _, h⟩ := hq; exact h.elim
  | panic c => exact hq.elim
  | goto l => exact hq.elim
  | outgrown => exact hq.elim
end
end Go.Proofs.Ytecpiplfjmmccaa.AM
