/-
  A tracked slice that never turns again: told by its rows; tracked memory told of less, ahead of a call and behind it.
  No program in sight. Conditions: none.
-/
import Derived.Test.YtecpiplfjmmccaaAmKeys
namespace Go.Proofs.Ytecpiplfjmmccaa.AM
open Go

/-- A value in which the slices of the block id are told by their rows. -/
inductive Fz (id z : Nat) (l : List (List AV)) : AV → AV → Prop where
  | refl (x : AV) : Fz id z l x x
  | ms (off len : Nat) (h : off + len ≤ l.length) : Fz id z l (.ms z id off len) (.sl z ((l.drop off).take len) none)
  | agg (cs cs' : List AV) (f : Nat → AV) (hl : cs'.length = cs.length) (hc : ∀ (j : Nat) x, cs'[j]? = some x → cs[j]? = some (f j)) (h1 : ∀ (j : Nat) x, cs'[j]? = some x → x.one = true) (h : ∀ (j : Nat) x, cs'[j]? = some x → Fz id z l (f j) x) : Fz id z l (.agg cs) (.agg cs')
  | tup (cs cs' : List AV) (f : Nat → AV) (hl : cs'.length = cs.length) (hc : ∀ (j : Nat) x, cs'[j]? = some x → cs[j]? = some (f j)) (h : ∀ (j : Nat) x, cs'[j]? = some x → Fz id z l (f j) x) : Fz id z l (.tup cs) (.tup cs')

theorem Fz.rep {id z : Nat} {l : List (List AV)} {G G' : Gh} {w : World} (hle : Le G w G' w) (hz : 0 < z) (hk : ∀ r ∈ l, r.length = z) (hone : ∀ i j x, cellAt l i j = some x → x.one = true)
    (hmb : ∀ b z', G.mb id = some (b, z') → l.length * z ≤ G'.imm b ∧ ∃ vs e, w.heap[b]? = some (.cells vs e (0, 0)) ∧ l.length * z ≤ vs.size ∧ ∀ i j x, cellAt l i j = some x → RepU G w x (vs.getD (i * z + j) Go.undef)) {x y : AV} (h : Fz id z l x y) : ∀ {v : Value}, Rep G w x v → Rep G' w y v := by
  induction h with
  | refl x => intro v hr; exact hr.mono hle
  | ms off len hlen =>
    intro v hr
    cases hr with
    | ms _ _ _ _ c A hlc hc hsh =>
    have hnl : ((l.drop off).take len).length = len := by simp; omega
    rcases Nat.eq_zero_or_pos len with h0 | h0
    · subst h0
      simp only [List.take_zero]
      exact .sl z [] none A c 0 0 (fun _ _ => Go.undef) hz (Nat.zero_le _) hc (fun r hr => nomatch hr) (.inl ⟨rfl, .inl rfl⟩) (fun i j x hx => by simp [cellAt] at hx) (fun i j x hx => by simp [cellAt] at hx) (fun i j x hx => by simp [cellAt] at hx)
    · rcases hsh with ⟨b, rfl, hm, e, hsh⟩ | hc0
      · obtain ⟨g1, vs, e', g2, g3, g4⟩ := hmb b z hm
        have hk' : ∀ r ∈ (l.drop off).take len, r.length = z := fun r hr => hk r (List.mem_of_mem_drop (List.mem_of_mem_take hr))
        have hsub : ∀ i j x, cellAt ((l.drop off).take len) i j = some x → cellAt l (off + i) j = some x := fun i j x hx => cellAt_sub hx
        have hmul : off * z + len * z ≤ l.length * z := by rw [← Nat.add_mul]; exact Nat.mul_le_mul_right z hlen
        conv => arg 4; rw [← hnl]
        refine .sl z _ none _ c b (off * z) (fun i j => vs.getD ((off + i) * z + j) Go.undef) hz (by rw [hnl]; exact hlc) hc hk' (.inr ⟨rfl, by rw [hnl]; omega, fun t e => nomatch e⟩) (fun i j x hx => ?_) (fun i j x hx => hone _ _ x (hsub i j x hx)) (fun i j x hx => ?_)
        · have hlt := cellAt_lt hk (hsub i j x hx)
          have := row_lt hlt.1 hlt.2
          rw [Nat.add_mul] at this
          have h2 := cell_row g2 (j := off * z + i * z + j) (by omega)
          rw [h2, Nat.add_mul]
        · rcases g4 _ _ x (hsub i j x hx) with rfl | ⟨_, h2⟩
          · have := hone _ _ _ (hsub i j _ hx); cases this
          · exact h2.mono hle
      · omega
  | agg cs cs' f hl hc h1 _ ih =>
    intro v hr
    cases hr with
    | agg _ vs hvl hv1 hvr => exact .agg cs' vs (by rw [hl]; exact hvl) h1 (fun i x hx => ih i x hx (hvr i (f i) (hc i x hx)))
  | tup cs cs' f hl hc _ ih =>
    intro v hr
    cases hr with
    | tup _ vs hvl hvr => exact .tup cs' vs (by rw [hl]; exact hvl) (fun i x hx => ih i x hx (hvr i (f i) (hc i x hx)))

/-- A call's answer, a tracked slice in it told by its rows. -/
theorem AC.frz {P : Program} {f : FuncId} {args : List AV} {H : AH} {Q : AV → AH → Prop} (h : AC P f args H fun r H' => Q r H' ∨ ∃ id z l r', H'.blks[id]? = some (.rows z l) ∧ (∀ i j x, cellAt l i j = some x → x.one = true) ∧ Fz id z l r r' ∧ Q r' (H'.upd id .dead)) : AC P f args H Q := by
  refine ⟨h.1, fun G w vs hH hr => (h.2 G w vs hH hr).mono ?_⟩
  rintro e w' ⟨r, cr, G', H', h1, h2, h3, h4, h5, h6 | ⟨id, z, l, r', g1, g2, g3, g4⟩⟩
  · exact ⟨r, cr, G', H', h1, h2, h3, h4, h5, h6⟩
  · rcases h3.at_ id _ g1 rfl with ⟨b, z', q1, ⟨q2, q3, vs', e', q4, q5, q6, q7⟩, _, _⟩ | ⟨q1, z', q2, q3⟩
    · subst q2
      obtain ⟨a1, a2, a3⟩ := eff_frz h3 g1 rfl q1 (l.length * z')
      refine ⟨r', cr, _, _, h1, ?_, a3, h4.trans a1, h5.trans a2, g4⟩
      refine g3.rep a1 q3 q5 g2 (fun b2 z2 hb2 => ?_) h2
      rw [q1] at hb2
      simp only [Option.some.injEq, Prod.mk.injEq] at hb2
      obtain ⟨rfl, rfl⟩ := hb2
      exact ⟨by simp [Gh.frz], vs', e', q4, q6, q7⟩
    · simp only [ABlk.rows.injEq] at q3
      obtain ⟨rfl, rfl⟩ := q3
      obtain ⟨a1, a2⟩ := eff_dead h3 id
      refine ⟨r', cr, _, _, h1, ?_, a2, h4, h5.trans a1, g4⟩
      exact g3.rep (Le.refl _ _) q2 (by simp) g2 (fun b2 z2 hb2 => by rw [q1] at hb2; cases hb2) h2

/-- Tracked memory told of less behind a call, and ahead of it. -/
theorem AC.leH {P : Program} {f : FuncId} {args : List AV} {H : AH} {Q : AV → AH → Prop} (h : AC P f args H fun r H' => ∃ H'', LeH H' H'' ∧ Q r H'') : AC P f args H Q := by
  refine ⟨h.1, fun G w vs hH hr => (h.2 G w vs hH hr).mono ?_⟩
  rintro e w' ⟨r, cr, G', H', h1, h2, h3, h4, h5, H'', h6, h7⟩
  obtain ⟨a1, a2⟩ := h6.sim h3
  exact ⟨r, cr, G', H'', h1, h2, a2, h4, h5.trans a1, h7⟩
theorem AC.leH_pre {P : Program} {f : FuncId} {args : List AV} {H H0 : AH} {Q : AV → AH → Prop} (hl : LeH H H0) (h : AC P f args H0 Q) : AC P f args H Q := by
  refine ⟨h.1, fun G w vs hH hr => ?_⟩
  obtain ⟨a1, a2⟩ := hl.sim hH
  refine (h.2 G w vs a2 hr).mono ?_
  rintro e w' ⟨r, cr, G', H', h1, h2, h3, h4, h5, h6⟩
  exact ⟨r, cr, G', H', h1, h2, h3, h4, a1.trans h5, h6⟩
/-- A pure function whose answer bears a tracked slice of its own. -/
theorem PC.of_frz {P : Program} {ty : Tr} (md : Nat → Nat) (qt : FuncId → Bool) (hty : TyOK P ty.get) (hmix : P.follows .mixedOrders = true) {f : FuncId} {fn : Func} {c : Code} (hf : P.funcs[f]? = some fn) (hname : (fn.name == "runtime.NumGoroutine") = false) (hb : fn.body = some c) {args : List AV} (hlen : Nat.ble args.length fn.ntmps = true)
    {Q : AV → Prop} (hp : ∀ x ∈ args, Pur x) (h : (∀ x ∈ args, Fit x) → vc P ty md qt c ⟨fn.ntmps, number 0 args, [], AH.none⟩ (retK ty fn fun r H' => (∃ r', Ws r r' ∧ Pur r' ∧ Q r') ∨ ∃ id z l r', H'.blks[id]? = some (.rows z l) ∧ (∀ i j x, cellAt l i j = some x → x.one = true) ∧ Fz id z l r r' ∧ Pur r' ∧ Q r')) : PC P f args Q := by
  refine ⟨hp, AC.given ⟨fn, c, hf, hname, hb⟩ fun hfit => AC.frz ((AC.of_vc hty hmix hf hname hb hlen (h hfit)).mono ?_)⟩
  rintro r H' (h | ⟨id, z, l, r', h1, h2, h3, h4, h5⟩)
  · exact .inl h
  · exact .inr ⟨id, z, l, r', h1, h2, h3, r', .refl _, h4, h5⟩
end Go.Proofs.Ytecpiplfjmmccaa.AM
