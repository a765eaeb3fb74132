/-
  Tracked memory: a slice is cleared; every operation does what its action says (mem_ok).
  Conditions: the table of types tells of the program's.
-/
import Derived.Test.YtecpiplfjmmccaaAmMem3
namespace Go.Proofs.Ytecpiplfjmmccaa.AM
open Go

section
variable {E : Env} {P : Program} {ty : TypeId → Option TI} {md : Nat → Nat} {lo : Nat → Nat} {G : Gh} {S : AS} {a : Act} {w : World} {o : Oper}

theorem does_clr (hty : TyOK P ty) (hs : Sim E lo G S a w) {t : TypeId} {x : Operand} {s by_ : Nat} {ag : Bool} {z : AV} {kd : TK} {id off len : Nat} {K : AV → AH → Prop} (ho : o.op = .call ⟨.builtin .clear, ⟨[x]⟩, ⟨[t]⟩⟩) (ht : elemTI ty t = some ⟨s, by_, ag, some z, kd⟩) (hz : elemZ z s = true)
    (hx : evA S.T x = .ms s id off len) (hp : (MAct.clr s id off len).P S.H K) : Does P E lo G S a w o K := by
  obtain ⟨dst, op, type, pos, after, guard⟩ := o
  simp only at ho
  subst ho
  obtain ⟨l, hl, hK⟩ := hp.out
  obtain ⟨e, i, hte, hi, hisz, hiby, hiz⟩ := elemTI_ok hty ht
  obtain ⟨zv, hzv, hza⟩ := Option.bind_eq_some_iff.1 (show i.zero.bind toAV = some z from hiz)
  have hzs : zv.cells.size = s := elemZ_ok w hz hza
  have hzval : z.val = true ∧ ∀ vs, z ≠ .tup vs := by
    unfold elemZ at hz
    split at hz
    · cases hz
    · rename_i hnt
      split at hz
      · rename_i hv; exact ⟨hv, hnt⟩
      · cases hz
  have hone := (ones_cells (toAV_rep hza G w) hzval.1 hzval.2).2.1
  have hr := evA_ok hs x
  rw [hx] at hr
  have hr := hr.rep (.inl rfl)
  generalize hxv : a.eval x = xv at hr
  have htup : ∀ (G' : Gh) (w' : World), Rep G' w' (.tup []) (.tuple #[]) := fun G' w' => .tup _ _ rfl fun i x hx => by simp at hx
  have hexec : ∀ {v : Value} {w' : World}, (Builtin.clear_ #[t] type #[a.eval x]).run P w = .ok v w' → (execOp a.eval ⟨dst, .call ⟨.builtin .clear, ⟨[x]⟩, ⟨[t]⟩⟩, type, pos, after, guard⟩).run P w = .ok (.value v) w' := fun h => by
    simp [execOp, resolve, invoke, builtin, h]
  cases hr with
  | ms _ _ _ _ c A hlc hc hsh =>
  have same : (Builtin.clear_ #[t] type #[a.eval x]).run P w = .ok (.tuple #[]) w → Does P E lo G S a w ⟨dst, .call ⟨.builtin .clear, ⟨[x]⟩, ⟨[t]⟩⟩, type, pos, after, guard⟩ K := fun hrun => by
    rcases hs.h.at_ id _ hl rfl with ⟨b, z', h1, ⟨h2, h3, vs, e2, h4, h5, h6, h7⟩, _, _⟩ | ⟨h1, z', h2, h3⟩
    · obtain ⟨q1, q2, q3⟩ := eff_blk (B' := .rows s (l.take off)) hs.h hl rfl h1 (Kin.refl w) rfl (fun _ _ => rfl) (fun _ h => h) (fun hle => ⟨h2, h3, vs, e2, h4, fun r hr => h5 r (List.mem_of_mem_take hr), by
        have : (l.take off).length * s ≤ l.length * s := Nat.mul_le_mul_right s (by simp; omega)
        omega, fun i j x hx => h7 i j x (cellAt_take hx).2⟩)
      exact ⟨_, _, _, _, hK, hs.turn q1 q2 q3, .inl ⟨_, hexec hrun, htup _ _⟩⟩
    · simp only [ABlk.rows.injEq] at h3
      obtain ⟨rfl, rfl⟩ := h3
      simp only [List.take_nil] at hK
      refine ⟨_, _, G, w, hK, ?_, .inl ⟨_, hexec hrun, htup _ _⟩⟩
      have hu : S.H.upd id (.rows s []) = S.H := by
        unfold AH.upd
        rw [set_self _ _ _ hl]
      rw [hu]; exact hs
  cases A with
  | none => exact same (by rw [hxv]; simp [Builtin.clear_, run_underlying hte])
  | some a' =>
    cases len with
    | zero => exact same (by rw [hxv]; simp [Builtin.clear_, run_underlying hte])
    | succ m =>
      rcases hsh with ⟨b, hA, hmb, e1, hshp⟩ | hc0
      rotate_left
      · omega
      simp only [Option.some.injEq] at hA
      subst hA
      obtain ⟨_, h3, vs, e2, g1, g2, g3, g4⟩ := rows_at hs.h hl hmb
      have hvs : vs.size = (off + c) * s := by
        simp only [World.shape?, g1, Option.some.injEq, Prod.mk.injEq] at hshp
        exact hshp.2
      have hzc : (Builtin.zeroCells zv.cells (m + 1)).toList.length = (m + 1) * s := by
        rw [Array.length_toList, size_zeroCells, hzs]
      have hfit : off * s + (m + 1) * s ≤ vs.size := by rw [hvs, ← Nat.add_mul]; exact Nat.mul_le_mul_right s (by omega)
      have h1 : ∀ u ∈ (Builtin.zeroCells zv.cells (m + 1)).toList, u.oneCell' = true := by
        intro u hu
        simp only [Builtin.zeroCells, Array.toList_map, List.mem_map, Array.toList_range, List.mem_range] at hu
        obtain ⟨k, hk, rfl⟩ := hu
        have hkz : k % zv.cells.size < zv.cells.size := Nat.mod_lt _ (by omega)
        refine hone _ ?_
        simp [hkz]
      have hst := run_storeCells_at P b (off * s) e2 (Builtin.zeroCells zv.cells (m + 1)).toList 0 vs w g1 (by rw [hzc]; omega) h1
      simp only [Nat.add_zero] at hst
      have hrun : (Builtin.clear_ #[t] type #[a.eval x]).run P w = .ok (.tuple #[]) (w.setRow b (vs.toList.take (off * s) ++ (Builtin.zeroCells zv.cells (m + 1)).toList ++ vs.toList.drop (off * s + (Builtin.zeroCells zv.cells (m + 1)).toList.length)).toArray) := by
        rw [hxv]
        simp only [Builtin.clear_, List.getElem?_toArray, List.getElem?_cons_zero, Sem.run_bind, run_underlying hte, Result.andThen_ok, zeroValue, typeInfo, run_program, hi, hzv, Sem.run_pure, hst]
      have hget := row_get vs (Builtin.zeroCells zv.cells (m + 1)).toList (off * s) (by rw [hzc]; exact hfit)
      have hsz := row_size vs (Builtin.zeroCells zv.cells (m + 1)).toList (off * s) (by rw [hzc]; exact hfit)
      have hnew := setRow_heap w b vs (vs.toList.take (off * s) ++ (Builtin.zeroCells zv.cells (m + 1)).toList ++ vs.toList.drop (off * s + (Builtin.zeroCells zv.cells (m + 1)).toList.length)).toArray e2 (0, 0) g1
      have hoth : ∀ k, k ≠ b → (w.setRow b (vs.toList.take (off * s) ++ (Builtin.zeroCells zv.cells (m + 1)).toList ++ vs.toList.drop (off * s + (Builtin.zeroCells zv.cells (m + 1)).toList.length)).toArray).heap[k]? = w.heap[k]? := fun k hk => setRow_other w b k _ hk
      have hkin : Kin w (w.setRow b (vs.toList.take (off * s) ++ (Builtin.zeroCells zv.cells (m + 1)).toList ++ vs.toList.drop (off * s + (Builtin.zeroCells zv.cells (m + 1)).toList.length)).toArray) := ⟨by simp, by simp, by simp⟩
      have hhs : (w.setRow b (vs.toList.take (off * s) ++ (Builtin.zeroCells zv.cells (m + 1)).toList ++ vs.toList.drop (off * s + (Builtin.zeroCells zv.cells (m + 1)).toList.length)).toArray).heap.size = w.heap.size := by simp
      generalize w.setRow b (vs.toList.take (off * s) ++ (Builtin.zeroCells zv.cells (m + 1)).toList ++ vs.toList.drop (off * s + (Builtin.zeroCells zv.cells (m + 1)).toList.length)).toArray = w' at hrun hnew hoth hkin hhs
      generalize (vs.toList.take (off * s) ++ (Builtin.zeroCells zv.cells (m + 1)).toList ++ vs.toList.drop (off * s + (Builtin.zeroCells zv.cells (m + 1)).toList.length)).toArray = us' at hget hsz hnew
      have hsh' : ∀ s', w.shape? b = some s' → w'.shape? b = some s' := fun s' hs' => by
        simp only [World.shape?, g1, hnew, Option.some.injEq] at hs' ⊢
        rw [← hs', hsz]
      obtain ⟨q1, q2, q3⟩ := eff_blk (B' := .rows s (l.take off)) hs.h hl rfl hmb hkin hhs hoth hsh' (fun hle => ⟨rfl, h3, us', e2, hnew, fun r hr => g2 r (List.mem_of_mem_take hr), by
        have : (l.take off).length * s ≤ l.length * s := Nat.mul_le_mul_right s (by simp; omega)
        omega, fun i j x hx => by
          obtain ⟨c1, c2⟩ := cellAt_take hx
          have := row_lt c1 (cellAt_lt g2 c2).2
          rw [hget, if_pos this]
          exact (g4 i j x c2).mono hle⟩)
      exact ⟨_, _, _, _, hK, hs.turn q1 q2 q3, .inl ⟨_, hexec hrun, htup _ _⟩⟩

/-- Every operation on tracked memory does what its action says. -/
theorem mem_ok (hty : TyOK P ty) (hs : Sim E lo G S a w) {m : MAct} {K : AV → AH → Prop} (h : mop ty md o S.T = some m) (hp : m.P S.H K) : Does P E lo G S a w o K := by
  unfold mop at h
  split at h
  · rename_i t ho
    split at h
    · simp only [Option.some.injEq] at h; subst h
      exact does_mkMap hs ho hp
    · cases h
  · rename_i t m' k v ho
    split at h
    · rename_i q z ht
      split at h
      · rename_i id hm
        split at h
        · rename_i q' n hk
          split at h
          · rename_i hq
            have hq := of_decide_eq_true hq
            subst hq
            split at h
            · rename_i x hx
              simp only [Option.some.injEq] at h; subst h
              exact does_put hty hs ho ht hm hk hx hp
            · cases h
          · cases h
        · cases h
      · cases h
    · cases h
  · rename_i t m' k ho
    split at h
    · rename_i q z ht
      split at h
      · rename_i hz
        split at h
        · rename_i id hm
          split at h
          · rename_i q' n hk
            split at h
            · rename_i hq
              have hq := of_decide_eq_true hq
              subst hq
              simp only [Option.some.injEq] at h; subst h
              exact does_ent hty hs ho ht hz hm hk hp
            · cases h
          · cases h
        · cases h
      · cases h
    · cases h
  · rename_i t m' s v ho
    split at h
    · rename_i id hm
      split at h
      · rename_i sk n hk
        split at h
        · rename_i x hx
          simp only [Option.some.injEq] at h; subst h
          exact does_est hs ho hm hk hx hp
        · cases h
      · cases h
    · cases h
  · rename_i t m' k ok ho
    split at h
    · rename_i q z ht
      split at h
      · rename_i hz
        split at h
        · rename_i id hm
          split at h
          · rename_i q' n hk
            split at h
            · rename_i hq
              have hq := of_decide_eq_true hq
              subst hq
              simp only [Option.some.injEq] at h; subst h
              exact does_look hty hs ho ht hz hm hk hp
            · cases h
          · cases h
        · cases h
      · cases h
    · cases h
  · rename_i t ho
    split at h
    · rename_i cs hc
      split at h
      · rename_i hl
        have hl : 0 < cs.length := by simpa [Nat.blt_eq] using hl
        rw [← ho] at hc
        split at h
        · simp only [Option.some.injEq] at h; subst h
          exact does_epb hty hs hc hp
        · simp only [Option.some.injEq] at h; subst h
          exact does_obj hty hs hc hl hp
      · cases h
    · cases h
  · rename_i t y ho
    split at h
    · rename_i cs hc
      split at h
      · rename_i hl
        have hl : 0 < cs.length := by simpa [Nat.blt_eq] using hl
        rw [← ho] at hc
        split at h
        · simp only [Option.some.injEq] at h; subst h
          exact does_epb hty hs hc hp
        · simp only [Option.some.injEq] at h; subst h
          exact does_obj hty hs hc hl hp
      · cases h
    · cases h
  · rename_i t len parts ho
    split at h
    · rename_i s rows hb
      simp only [Option.some.injEq] at h; subst h
      exact does_mks hty hs ho hb hp
    · cases h
  · rename_i t n c ho
    split at h
    · rename_i s by_ ag z kd ht
      split at h
      · rename_i hs0
        split at h
        · rename_i hz
          split at h
          · rename_i x hn
            split at h
            · rename_i y hc
              split at h
              · rename_i he
                have he := of_decide_eq_true he
                subst he
                simp only [Option.some.injEq] at h; subst h
                exact does_mkz hty hs ho ht (by simpa [Nat.blt_eq] using hs0) hz hn hc hp
              · cases h
            · cases h
          · cases h
        · cases h
      · cases h
    · cases h
  · rename_i x y t u ho
    split at h
    · rename_i tu hu
      split at h
      · rename_i s by_ ag z kd ht
        split at h
        · rename_i hs0
          split at h
          · rename_i hb0
            split at h
            · rename_i hz
              simp only [Option.some.injEq] at h; subst h
              exact does_app hty hs ho hu ht (by simpa [Nat.blt_eq] using hs0) (by simpa [Nat.blt_eq] using hb0) hz hp
            · cases h
          · cases h
        · cases h
      · cases h
    · cases h
  · rename_i x t ho
    split at h
    · rename_i s by_ ag z kd ht
      split at h
      · rename_i hz
        split at h
        · rename_i z' id off len hx
          split at h
          · rename_i hzz
            have hzz := Nat.eq_of_beq_eq_true hzz
            subst hzz
            simp only [Option.some.injEq] at h; subst h
            exact does_clr hty hs ho ht hz hx hp
          · cases h
        · cases h
      · cases h
    · cases h
  · rename_i m' k t t' ho
    split at h
    · rename_i q z ht
      split at h
      · rename_i id hm
        split at h
        · rename_i q' n hk
          split at h
          · rename_i hq
            have hq := of_decide_eq_true hq
            subst hq
            simp only [Option.some.injEq] at h; subst h
            exact does_del hty hs ho ht hm hk hp
          · cases h
        · cases h
      · cases h
    · cases h
  · rename_i m' t ho
    split at h
    · rename_i q ht
      split at h
      · rename_i id hm
        simp only [Option.some.injEq] at h; subst h
        obtain ⟨q1, q2⟩ := q
        exact does_mlen hty hs ho ht hm hp
      · cases h
    · cases h
  · cases h

/-! ### actions: what they ask, of whom -/
theorem srcK_mono {H : AH} {s : Nat} {y : AV} {K K' : List (List AV) → Prop} (h : srcK H s y K) (hk : ∀ r, K r → K' r) : srcK H s y K' := by
  unfold srcK at h ⊢
  split at h <;> (try split at h) <;> first | exact hk _ h | exact h.elim | skip
  obtain ⟨l, h1, h2, h3, h4⟩ := h.out
  exact ⟨⟨l, h1, h2, h3, hk _ h4⟩⟩
theorem MAct.mono {m : MAct} {H : AH} {K K' : AV → AH → Prop} (h : m.P H K) (hk : ∀ x H', K x H' → K' x H') : m.P H K' := by
  cases m with
  | mkMap q => exact hk _ _ h
  | put id q n x => obtain ⟨es, pd, h1, h2⟩ := h.out; exact ⟨⟨es, pd, h1, hk _ _ h2⟩⟩
  | del id q n => obtain ⟨es, pd, h1, h2⟩ := h.out; exact ⟨⟨es, pd, h1, hk _ _ h2⟩⟩
  | ent id q n z => obtain ⟨es, pd, es', i, x, h1, h2, h3⟩ := h.out; exact ⟨⟨es, pd, es', i, x, h1, h2, fun s => hk _ _ (h3 s)⟩⟩
  | est id s x => obtain ⟨q, es, i, n, y, h1, h2, h3⟩ := h.out; exact ⟨⟨q, es, i, n, y, h1, h2, hk _ _ h3⟩⟩
  | obj cells => exact hk _ _ h
  | epb cells => exact hk _ _ h
  | mks s rows => exact hk _ _ h
  | mkz s by_ n z => exact ⟨h.side, hk _ _ h.out⟩
  | app s by_ x y =>
    refine srcK_mono (show srcK H s y _ from h) fun r h => ?_
    split at h
    · exact ⟨h.side, hk _ _ h.out⟩
    · split at h
      · obtain ⟨l, h1, h2⟩ := h.out
        exact ⟨⟨l, h1, h2.side, hk _ _ h2.out⟩⟩
      · exact h.elim
    · exact h.elim
  | clr z id off len => obtain ⟨l, h1, h2⟩ := h.out; exact ⟨⟨l, h1, hk _ _ h2⟩⟩
  | look id q n z ok => obtain ⟨es, pd, r, h1, h2, h3⟩ := h.out; exact ⟨⟨es, pd, r, h1, h2, hk _ _ h3⟩⟩
  | mlen id => obtain ⟨q, es, pd, h1, h2⟩ := h; exact ⟨q, es, pd, h1, hk _ _ h2⟩
end
end Go.Proofs.Ytecpiplfjmmccaa.AM
