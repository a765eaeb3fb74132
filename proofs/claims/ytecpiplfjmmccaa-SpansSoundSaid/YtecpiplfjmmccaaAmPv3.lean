/-
  The operations that touch no memory, all together (pv_ok).
  Conditions: the table of types (ty) tells of the program's.
-/
import Derived.Test.YtecpiplfjmmccaaAmPv2
namespace Go.Proofs.Ytecpiplfjmmccaa.AM
open Go

section
variable {E : Env} {P : Program} {ty : TypeId → Option TI} {lo : Nat → Nat} {G : Gh} {S : AS} {a : Act} {w : World}

theorem eqGuard_ok {op : BinOp} {t : TypeId} {x y : Operand} {v u : Value} (h : (∀ vs, v ≠ .agg vs) ∧ v ≠ .nilIface) : (eqGuard op t x y v u).run P w = .ok () w := by
  cases op <;> simp only [eqGuard, Bool.not_false, Bool.not_true, if_true, Bool.false_eq_true, if_false] <;> (try rfl)
  all_goals
    split
    · exact absurd rfl h.2
    · exact absurd rfl (h.1 _)
    · rfl
theorem bin_guard (hty : TyOK P ty) {op : BinOp} {t : TypeId} {xo yo : Operand} {x y r : AV} {v u : Value} (h : bin ty (ty t) op x y = some r) (hx : Rep G w x v) (hy : Rep G w y u) : (eqGuard op t xo yo v u).run P w = .ok () w := by
  cases x <;> cases hx <;> first
    | (exfalso; simp [bin] at h; done)
    | (refine eqGuard_ok ⟨fun _ e => ?_, fun e => ?_⟩ <;> (cases e; done))
    | skip
  rename_i cs vs _ _ _
  cases y <;> first | (exfalso; simp [bin] at h; done) | skip
  cases hy with
  | agg _ us _ _ _ =>
  refine run_eqGuard_agg w op t xo yo _ _ ?_
  unfold bin at h
  dsimp only at h
  split at h
  · rename_i fs h3
    obtain ⟨fl, hu, hl, hsafe⟩ := kind_strct' (hty _ _ h3) rfl
    unfold eqSafe at hsafe
    simp only [Bool.and_eq_true, Bool.not_eq_true'] at hsafe
    exact hsafe.1.2
  · cases h
theorem bin_val {ty : TypeId → Option TI} {k : Option TI} {op : BinOp} {x y r : AV} (h : bin ty k op x y = some r) : x.val = true ∧ y.val = true := by
  cases x <;> cases y <;> first | exact ⟨rfl, rfl⟩ | (exfalso; simp [bin] at h; done)

theorem reps_map (hs : Sim E lo G S a w) (xs : Array Operand) (h : vals (xs.toList.map (evA S.T)) = true) : (xs.map a.eval).size = (xs.toList.map (evA S.T)).length ∧ ∀ (i : Nat) x, (xs.toList.map (evA S.T))[i]? = some x → Rep G w x ((xs.map a.eval).getD i Go.undef) := by
  refine ⟨by simp, fun i x hx => ?_⟩
  have hv := vals_get h i x hx
  rw [List.getElem?_map] at hx
  obtain ⟨o, ho, rfl⟩ := Option.map_eq_some_iff.1 hx
  have hg : (xs.map a.eval).getD i Go.undef = a.eval o := by
    rw [Array.getD_eq_getD_getElem?, Array.getElem?_map, ← Array.getElem?_toList, ho]; rfl
  rw [hg]
  exact (evA_ok hs o).rep (.inl hv)

theorem places_of : ∀ {l : List Field} {fs : List (Nat × Nat × TypeId)}, optAll (fun f : Field => (P.info? f.type).map fun i => (f.offset, i.size, f.type)) l = some fs →
    l.mapM (fun f : Field => (P.info? f.type).map fun i => (f.offset, i.size)) = some (fs.map fun p => (p.1, p.2.1))
  | [], fs, hl => by simp only [optAll, Option.some.injEq] at hl; subst hl; rfl
  | f :: l, fs, hl => by
    simp only [optAll] at hl
    split at hl
    · rename_i y hy
      split at hl
      · rename_i ys hys
        simp only [Option.some.injEq] at hl
        subst hl
        obtain ⟨i, hi, rfl⟩ := Option.map_eq_some_iff.1 hy
        simp [List.mapM_cons, hi, places_of hys]
      · cases hl
    · cases hl

theorem bld_ok (hty : TyOK P ty) (hs : Sim E lo G S a w) {t : TypeId} {parts : Array (Nat × Operand)} {r : AV} (h : bld (ty t) S.T parts.toList = some r) :
    ∃ u, (Instr.build t (parts.map fun (i, x) => (i, a.eval x))).run P w = .ok u w ∧ Rep G w r u := by
  unfold bld at h
  split at h
  · rename_i sz by_ ag z fs h0
    obtain ⟨us, hf, rfl⟩ := Option.map_eq_some_iff.1 h
    have ht := hty _ _ h0
    obtain ⟨fl, hu, hl⟩ := kind_strct ht rfl
    obtain ⟨i, hi, _, _, hz⟩ := ti_size ht
    obtain ⟨zv, hzv, hza⟩ := Option.bind_eq_some_iff.1 hz
    have hzr := toAV_rep hza G w
    cases hzr with
    | agg _ zs hzl hz1 hzr =>
    obtain ⟨us', h1, h2⟩ := fillA_ok hs hf ⟨hzl, fun j x hx => ⟨hz1 j x hx, hzr j x hx⟩⟩
    refine ⟨.agg us', ?_, .agg _ _ h2.1 (fun j x hx => (h2.2 j x hx).1) (fun j x hx => (h2.2 j x hx).2)⟩
    refine run_build w t _ us' ?_
    unfold Program.built
    have hpl := places_of hl
    simp only [hi, hu, hzv, hpl]
    have hfun : (fun x : Nat => ((fs.map fun p => (p.1, p.2.1)).toArray)[x]?) = fun i => (fs[i]?).map fun p => (p.1, p.2.1) := by funext i; simp
    rw [hfun, Array.toList_map]
    exact h1
  · cases h

theorem pv_ok (hty : TyOK P ty) (hs : Sim E lo G S a w) {o : Oper} {x : AV} (h : pv ty o.op S.T = some x) : ∃ v, (execOp a.eval o).run P w = .ok (.value v) w ∧ RepT lo G w x v := by
  obtain ⟨dst, op, type, pos, after, guard⟩ := o
  simp only at h
  unfold pv at h
  split at h
  · rename_i y; simp only [Option.some.injEq] at h; subst h; exact ⟨_, rfl, evA_ok hs y⟩
  · rename_i y; simp only [Option.some.injEq] at h; subst h; exact ⟨_, rfl, evA_ok hs y⟩
  · rename_i c y z
    have hc := evA_ok hs c
    split at h
    · rename_i e; rw [e] at hc; have hc := hc.rep (.inl rfl); simp only [Option.some.injEq] at h; subst h
      generalize hev : a.eval c = cv at hc; cases hc
      exact ⟨_, by simp [execOp, hev, asBool], evA_ok hs y⟩
    · rename_i e; rw [e] at hc; have hc := hc.rep (.inl rfl); simp only [Option.some.injEq] at h; subst h
      generalize hev : a.eval c = cv at hc; cases hc
      exact ⟨_, by simp [execOp, hev, asBool], evA_ok hs z⟩
    · cases h
  · rename_i s y f
    obtain ⟨u, h1, h2⟩ := fldAddr_ok hty h (evA_ok hs y)
    exact ⟨u, by simp [execOp, h1], h2⟩
  · rename_i s y f
    split at h
    · rename_i cs hy
      split at h
      · rename_i fs h0
        split at h
        · rename_i off sz t hf
          have hr := evA_ok hs y
          rw [hy] at hr
          have hr := hr.rep (.inl rfl)
          generalize hev : a.eval y = yv at hr
          have hr' := hr
          cases hr with
          | agg _ vs hl h1 hrr =>
          obtain ⟨u, h3, h4⟩ := partOf_ok hty h hr'
          obtain ⟨fl, hu, hla⟩ := kind_strct (hty _ _ h0) rfl
          obtain ⟨_, hg⟩ := optAll_get hla
          obtain ⟨fd, hfd, hi⟩ := hg _ _ hf
          obtain ⟨i, hif, he⟩ := Option.map_eq_some_iff.1 hi
          simp only [Prod.mk.injEq] at he
          obtain ⟨e1, e2, e3⟩ := he
          have hf' : fl[f]? = some fd := by rw [← Array.getElem?_toList]; exact hfd
          refine ⟨u, ?_, RepT.of h4⟩
          simp [execOp, hev, Instr.field, run_underlying hu, hf', asAgg, e1, e3, h3]
        · cases h
      · cases h
    · cases h
  · rename_i t y i
    have hb : ∀ {p q : AV}, idxAddr ty t p q = some x → p.val = true ∧ q.val = true := by
      intro p q hq; unfold idxAddr at hq; split at hq
      · exact ⟨rfl, rfl⟩
      · exact ⟨rfl, rfl⟩
      · cases hq
    obtain ⟨u, h1, h2⟩ := idxAddr_ok hty h ((evA_ok hs y).rep (.inl (hb h).1)) ((evA_ok hs i).rep (.inl (hb h).2))
    exact ⟨u, by simp [execOp, h1], RepT.of h2⟩
  · rename_i bop t y z _
    have hv := bin_val h
    have hy := (evA_ok hs y).rep (.inl hv.1)
    have hz := (evA_ok hs z).rep (.inl hv.2)
    obtain ⟨u, h1, h2⟩ := bin_ok hty h hy hz
    exact ⟨u, by simp [execOp, bin_guard hty h hy hz, h1], RepT.of h2⟩
  · rename_i y
    have hr := evA_ok hs y
    split at h
    · rename_i b hy
      rw [hy] at hr
      have hr := hr.rep (.inl rfl)
      generalize hev : a.eval y = yv at hr
      cases hr
      simp only [Option.some.injEq] at h; subst h
      exact ⟨.bool (!b), by simp [execOp, hev, Op.unary], RepT.of (.bool _)⟩
    · cases h
  · rename_i s d y
    have hv : (evA S.T y).val = true := by
      unfold cnv at h; split at h
      · rename_i e; rw [e]; rfl
      · rename_i e; rw [e]; rfl
      · cases h
    obtain ⟨u, h1, h2⟩ := cnv_ok hty h ((evA_ok hs y).rep (.inl hv))
    exact ⟨u, by simp [execOp, h1], RepT.of h2⟩
  · rename_i y i
    have hr := evA_ok hs y
    split at h
    · rename_i vs hy
      rw [hy] at hr
      have hr := hr.rep (.inl rfl)
      generalize hev : a.eval y = yv at hr
      cases hr with
      | tup _ us hl hrr =>
      have h : vs[i]? = some x := by
        split at h
        · rename_i y hy
          split at h
          · rw [← h]; exact hy
          · cases h
        · cases h
      have hlt := (List.getElem?_eq_some_iff.1 h).1
      have hg : us[i]? = some (us.getD i Go.undef) := by rw [Array.getD_eq_getD_getElem?, Array.getElem?_eq_getElem (by omega)]; rfl
      refine ⟨us.getD i Go.undef, ?_, RepT.of (hrr i x h)⟩
      show ((Instr.extract (a.eval y) i).bind fun v => (pure (Next.value v) : Sem Next)).run P w = _
      rw [hev]
      simp only [Instr.extract, hg]
      rfl
    · cases h
  · rename_i f fi ca
    split at h
    · rename_i h1
      split at h
      · rename_i h2
        simp only [Option.some.injEq] at h; subst h
        obtain ⟨a1, a2⟩ := reps_map hs fi h1
        obtain ⟨b1, b2⟩ := reps_map hs ca h2
        exact ⟨_, rfl, RepT.of (.fn f _ _ _ _ a1 b1 a2 b2)⟩
      · cases h
    · cases h
  · rename_i t parts
    obtain ⟨u, h1, h2⟩ := bld_ok hty hs h
    exact ⟨u, by simp [execOp, h1], RepT.of h2⟩
  · rename_i t y l hh
    have hv : (evA S.T y).val = true := by
      unfold slc at h; split at h
      · rename_i e; rw [e]; rfl
      · rename_i e; rw [e]; rfl
      · rename_i e; rw [e]; rfl
      · cases h
    obtain ⟨u, h1, h2⟩ := slc_ok hty hs h ((evA_ok hs y).rep (.inl hv))
    exact ⟨u, by simp [execOp, h1], RepT.of h2⟩
  · rename_i y t
    have hv : (evA S.T y).val = true := by
      unfold lenOf at h
      split at h
      · split at h <;> first | (rename_i e; rw [e]; rfl) | cases h
      · split at h <;> first | (rename_i e; rw [e]; rfl) | cases h
      · cases h
    obtain ⟨u, h1, h2⟩ := lenOf_ok (ret := type) hty h ((evA_ok hs y).rep (.inl hv))
    exact ⟨u, by simp [execOp, resolve, invoke, builtin, h1], RepT.of h2⟩
  · rename_i y z _
    simp only [ints2] at h
    split at h
    · rename_i k p k' q he
      simp only [List.cons.injEq, and_true] at he
      have h1 := (evA_ok hs y); have h2 := (evA_ok hs z)
      rw [he.1] at h1; rw [he.2] at h2
      have h1 := h1.rep (.inl rfl); have h2 := h2.rep (.inl rfl)
      generalize hey : a.eval y = yv at h1; generalize hez : a.eval z = zv at h2
      cases h1; cases h2
      simp only [Option.some.injEq] at h; subst h
      exact ⟨_, by simp [execOp, resolve, invoke, builtin, hey, hez, Builtin.max_, Builtin.max2], RepT.of (.int _ _)⟩
    · cases h
  · rename_i y z _
    simp only [ints2] at h
    split at h
    · rename_i k p k' q he
      simp only [List.cons.injEq, and_true] at he
      have h1 := (evA_ok hs y); have h2 := (evA_ok hs z)
      rw [he.1] at h1; rw [he.2] at h2
      have h1 := h1.rep (.inl rfl); have h2 := h2.rep (.inl rfl)
      generalize hey : a.eval y = yv at h1; generalize hez : a.eval z = zv at h2
      cases h1; cases h2
      simp only [Option.some.injEq] at h; subst h
      exact ⟨_, by simp [execOp, resolve, invoke, builtin, hey, hez, Builtin.min_, Builtin.min2], RepT.of (.int _ _)⟩
    · cases h
  · cases h
end
end Go.Proofs.Ytecpiplfjmmccaa.AM
