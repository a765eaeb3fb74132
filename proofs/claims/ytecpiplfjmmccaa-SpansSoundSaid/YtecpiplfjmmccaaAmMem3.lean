/-
  Tracked memory: a slice that turns grows, or is cleared; every operation does what its action says (mem_ok).
  Conditions: the table of types tells of the program's.
-/
import Derived.Test.YtecpiplfjmmccaaAmMem2
namespace Go.Proofs.Ytecpiplfjmmccaa.AM
open Go

section
variable {E : Env} {P : Program} {ty : TypeId → Option TI} {md : Nat → Nat} {lo : Nat → Nat} {G : Gh} {S : AS} {a : Act} {w : World} {o : Oper}

theorem rows_at (hH : HSim G w S.H) {id b z z' : Nat} {l : List (List AV)} (hb : S.H.blks[id]? = some (.rows z l)) (hm : G.mb id = some (b, z')) : z' = z ∧ 0 < z ∧ ∃ vs e, w.heap[b]? = some (.cells vs e (0, 0)) ∧ (∀ r ∈ l, r.length = z) ∧ l.length * z ≤ vs.size ∧ ∀ i j x, cellAt l i j = some x → RepU G w x (vs.getD (i * z + j) Go.undef) := by
  rcases hH.at_ id _ hb rfl with ⟨b', z1, g1, g2, _, _⟩ | ⟨g1, _⟩
  · rw [hm] at g1
    simp only [Option.some.injEq, Prod.mk.injEq] at g1
    obtain ⟨rfl, rfl⟩ := g1
    exact g2
  · rw [hm] at g1; cases g1
theorem cellAt_take {l : List (List AV)} {n i j : Nat} {x : AV} (h : cellAt (l.take n) i j = some x) : i < n ∧ cellAt l i j = some x := by
  obtain ⟨r, h1, h2⟩ := cellAt_some h
  rw [List.getElem?_take] at h1
  split at h1
  · rename_i hi; exact ⟨hi, by unfold cellAt; rw [h1]; exact h2⟩
  · cases h1

/-- What is appended. -/
theorem srcK_ok (hty : TyOK P ty) (hH : HSim G w S.H) {s : Nat} {y : AV} {vy : Value} {u : TypeId} {tu : TI} {K : List (List AV) → Prop} (hu : elemTI ty u = some tu) (hs : 0 < s) (hy : Rep G w y vy) (h : srcK S.H s y K) :
    ∃ (news : List (List AV)) (nc : List Value), K news ∧ Src P s u vy news.length nc w ∧ nc.length = news.length * s ∧ (∀ r ∈ news, r.length = s) ∧ ∀ i j x, cellAt news i j = some x → x.one = true ∧ Rep G w x (nc.getD (i * s + j) Go.undef) := by
  unfold srcK at h
  split at h
  · rename_i z rows tok
    split at h
    · rename_i hz
      obtain ⟨nc, h1, h2, h3, h4⟩ := src_ok (P := P) (news := rows) hty hu hs (by simp [rowsOf, hz]) hy
      exact ⟨rows, nc, h, h1, h2, h3, h4⟩
    · cases h
  · obtain ⟨nc, h1, h2, h3, h4⟩ := src_ok (P := P) (news := []) hty hu hs rfl hy
    exact ⟨[], nc, h, h1, h2, h3, h4⟩
  · rename_i z id off len
    split at h
    · rename_i hz
      have hz := Nat.eq_of_beq_eq_true hz
      subst hz
      obtain ⟨l, hl, hlen, hone, hK⟩ := h.out
      have hk : ∃ e', P.underlying u = some (.slice e') := by
        unfold elemTI at hu
        split at hu
        · rename_i e h0; exact ⟨e, kind_slice (hty _ _ h0) rfl⟩
        · cases hu
      obtain ⟨e', hk⟩ := hk
      have hnl : ((l.drop off).take len).length = len := by simp; omega
      cases hy with
      | ms _ _ _ _ c A hlc hc hsh =>
      rcases Nat.eq_zero_or_pos len with h0 | h0
      · subst h0
        have hn : (l.drop off).take 0 = [] := by simp
        rw [hn] at hK
        refine ⟨[], [], hK, ?_, by simp, (fun r h => by cases h), fun i j x h => by simp [cellAt] at h⟩
        cases A with
        | none => exact Src.ofNil w hk c
        | some a' => exact Src.ofSlice w hk a' 0 c [] (by simp) (fun j u h => by simp at h) (fun u h => by cases h)
      · rcases hsh with ⟨b, rfl, hmb, e, hshp⟩ | hc0
        rotate_left
        · omega
        obtain ⟨_, _, vs, e2, g1, g2, g3, g4⟩ := rows_at hH hl hmb
        have hmul : off * z + len * z ≤ vs.size := by
          have := Nat.mul_le_mul_right z hlen
          rw [Nat.add_mul] at this; omega
        have hncl : ((vs.toList.drop (off * z)).take (len * z)).length = len * z := by simp; omega
        have hget : ∀ j, j < len * z → ((vs.toList.drop (off * z)).take (len * z))[j]? = some (vs.getD (off * z + j) Go.undef) := fun j hj => by
          rw [List.getElem?_take, if_pos hj, List.getElem?_drop, Array.getElem?_toList, Array.getD_eq_getD_getElem?, Array.getElem?_eq_getElem (by omega)]
          simp
        have hcells : ∀ i j x, i < len → cellAt l (off + i) j = some x → x.one = true ∧ Rep G w x (vs.getD (off * z + (i * z + j)) Go.undef) := fun i j x hi hx => by
          have h1 := hone i j x hi hx
          rcases g4 _ _ x hx with rfl | ⟨_, h2⟩
          · cases h1
          · refine ⟨h1, ?_⟩
            rw [Nat.add_mul, Nat.add_assoc] at h2
            exact h2
        refine ⟨_, (vs.toList.drop (off * z)).take (len * z), hK, ?_, by rw [hnl]; exact hncl, fun r hr => g2 r (List.mem_of_mem_drop (List.mem_of_mem_take hr)), fun i j x hx => ?_⟩
        · rw [hnl]
          refine Src.ofSlice w hk ⟨b, off * z, none⟩ len c _ hncl (fun j u hu' => ?_) (fun u hu' => ?_)
          · have hj := (List.getElem?_eq_some_iff.1 hu').1
            rw [hncl] at hj
            rw [hget j hj] at hu'
            simp only [Option.some.injEq] at hu'
            rw [Addr.add_mid, ← hu']
            exact cell_row g1 (by omega)
          · obtain ⟨j, hj⟩ := List.mem_iff_getElem?.1 hu'
            have hjl := (List.getElem?_eq_some_iff.1 hj).1
            rw [hncl] at hjl
            rw [hget j hjl] at hj
            simp only [Option.some.injEq] at hj
            have hz : 0 < z := hs
            have hi : j / z < len := by rw [Nat.div_lt_iff_lt_mul hz]; exact hjl
            obtain ⟨x, hx⟩ := cellAt_full (rows := l) g2 (i := off + j / z) (j := j % z) (by omega) (Nat.mod_lt _ hz)
            obtain ⟨q1, q2⟩ := hcells (j / z) (j % z) x hi hx
            have e3 : j / z * z + j % z = j := by rw [Nat.mul_comm]; exact Nat.div_add_mod j z
            rw [e3, hj] at q2
            exact q2.oneCell q1
        · have hsub := cellAt_sub hx
          have hi : i < len := by
            obtain ⟨r, hr, _⟩ := cellAt_some hx
            have := (List.getElem?_eq_some_iff.1 hr).1
            omega
          obtain ⟨q1, q2⟩ := hcells i j x hi hsub
          refine ⟨q1, ?_⟩
          have hj : j < z := by
            obtain ⟨r, hr, hx'⟩ := cellAt_some hsub
            have := (List.getElem?_eq_some_iff.1 hx').1
            rw [g2 r (List.mem_of_getElem? hr)] at this
            exact this
          have := row_lt hi hj
          rw [List.getD_eq_getElem?_getD, hget _ this]
          exact q2
    · cases h
  · cases h

/-- A new row: olds, news, zeros. -/
theorem grow_cellsU {s n m cap : Nat} {z : Value} {oc nc : List Value} {rows news : List (List AV)} (hz : z.cells.size = s) (ho : oc.length = n * s) (hn : nc.length = m * s) (hr : rows.length = n) (hm : news.length = m) (hcap : n + m ≤ cap)
    (h1 : ∀ r ∈ rows, r.length = s) (h2 : ∀ r ∈ news, r.length = s) (g1 : ∀ i j x, cellAt rows i j = some x → RepU G w x (oc.getD (i * s + j) Go.undef)) (g2 : ∀ i j x, cellAt news i j = some x → x.one = true ∧ Rep G w x (nc.getD (i * s + j) Go.undef)) :
    ((oc ++ nc).toArray ++ Builtin.zeroCells z.cells (cap - (n + m))).size = cap * s ∧ (∀ r ∈ rows ++ news, r.length = s) ∧
    ∀ i j x, cellAt (rows ++ news) i j = some x → RepU G w x (((oc ++ nc).toArray ++ Builtin.zeroCells z.cells (cap - (n + m))).getD (i * s + j) Go.undef) := by
  have hk : ∀ r ∈ rows ++ news, r.length = s := fun r hr => by
    rcases List.mem_append.1 hr with h | h
    · exact h1 r h
    · exact h2 r h
  refine ⟨?_, hk, fun i j x hx => ?_⟩
  · rw [Array.size_append, size_zeroCells, hz]
    simp only [List.size_toArray, List.length_append, ho, hn]
    rw [← Nat.add_mul, ← Nat.add_mul]
    congr 1
    omega
  · have hlt := cellAt_lt hk hx
    simp only [List.length_append, hr, hm] at hlt
    have hlt' := row_lt hlt.1 hlt.2
    rw [Nat.add_mul] at hlt'
    rw [Array.getD_eq_getD_getElem?, Array.getElem?_append_left (by simp [ho, hn]; omega), List.getElem?_toArray]
    rw [cellAt_append] at hx
    split at hx
    · rename_i hi
      have := row_lt (z := s) (i := i) (j := j) (n := n) (by omega) hlt.2
      rw [List.getElem?_append_left (by omega), ← List.getD_eq_getElem?_getD]
      exact g1 i j x hx
    · rename_i hi
      have h3 : n * s ≤ i * s := Nat.mul_le_mul_right s (by omega)
      rw [List.getElem?_append_right (by omega), ho, ← List.getD_eq_getElem?_getD]
      have := g2 _ j x hx
      rw [hr, Nat.sub_mul] at this
      rw [show i * s + j - n * s = i * s - n * s + j by omega]
      exact .inr this

theorem does_app (hty : TyOK P ty) (hs : Sim E lo G S a w) {t u : TypeId} {x y : Operand} {s by_ : Nat} {ag : Bool} {z : AV} {kd : TK} {tu : TI} {K : AV → AH → Prop} (ho : o.op = .call ⟨.builtin .append, ⟨[x, y]⟩, ⟨[t, u]⟩⟩) (hu : elemTI ty u = some tu) (ht : elemTI ty t = some ⟨s, by_, ag, some z, kd⟩)
    (hs0 : 0 < s) (hb0 : 0 < by_) (hez : elemZ z s = true) (hp : (MAct.app s by_ (evA S.T x) (evA S.T y)).P S.H K) : Does P E lo G S a w o K := by
  obtain ⟨dst, op, type, pos, after, guard⟩ := o
  simp only at ho
  subst ho
  have hp : srcK S.H s (evA S.T y) fun news => match evA S.T x with
    | .nils => SideVC (news.length * by_ ≤ 140737488355328) (K (.ms s S.H.blks.length 0 news.length) (S.H.push (.rows s news)))
    | .ms z id 0 len => match Nat.beq z s with
      | true => RowsVC S.H id s fun l => SideVC (len ≤ l.length ∧ (len + news.length) * by_ ≤ 140737488355328) (K (.ms s S.H.blks.length 0 (len + news.length)) ((S.H.upd id .dead).push (.rows s (l.take len ++ news))))
      | false => False
    | _ => False := hp
  have hyv : (evA S.T y).val = true := by
    unfold srcK at hp
    cases hye : evA S.T y <;> rw [hye] at hp <;> first | rfl | (exact hp.elim)
  obtain ⟨news, nc, hK, src, ncl, nrow, ncell⟩ := srcK_ok hty hs.h hu hs0 ((evA_ok hs y).rep (.inl hyv)) hp
  obtain ⟨e, i, hte, hi, hisz, hiby, hiz⟩ := elemTI_ok hty ht
  have hisz : i.size = s := hisz
  have hiby : i.bytes = by_ := hiby
  obtain ⟨zv, hzv, hza⟩ := Option.bind_eq_some_iff.1 (show i.zero.bind toAV = some z from hiz)
  have hzs : zv.cells.size = s := elemZ_ok w hez hza
  have hexec : ∀ {v : Value} {w' : World}, (Builtin.append_ #[t, u] type #[a.eval x, a.eval y]).run P w = .ok v w' → (execOp a.eval ⟨dst, .call ⟨.builtin .append, ⟨[x, y]⟩, ⟨[t, u]⟩⟩, type, pos, after, guard⟩).run P w = .ok (.value v) w' := fun h => by
    simp [execOp, resolve, invoke, builtin, h]
  rw [← hisz] at src
  -- a new row, in the place of the block that there was
  have grow : ∀ (S' : AS) (rows : List (List AV)) (cap : Nat) (base : Option Addr) (oc : List Value), Sim E lo G S' a w → a.eval x = .slice base rows.length cap → 0 < news.length → cap < rows.length + news.length → (rows.length + news.length) * by_ ≤ 140737488355328 →
      oc.length = rows.length * s → (∀ q ∈ rows, q.length = s) → (∀ i j x, cellAt rows i j = some x → RepU G w x (oc.getD (i * s + j) Go.undef)) →
      (Builtin.firstCells i.size rows.length (.slice base rows.length cap)).run P w.drew = .ok oc.toArray w.drew →
      ∃ v G' w', (Builtin.append_ #[t, u] type #[a.eval x, a.eval y]).run P w = .ok v w' ∧ Sim E lo G' { S' with H := S'.H.push (.rows s (rows ++ news)) } a w' ∧ Rep G' w' (.ms s S'.H.blks.length 0 (rows.length + news.length)) v := by
    intro S' rows cap base oc hs' hv hm hcap hbd hol hrow hcell hfst
    have hnb : rows.length + news.length ≤ 140737488355328 := by
      have : (rows.length + news.length) * 1 ≤ (rows.length + news.length) * by_ := Nat.mul_le_mul_left _ hb0
      omega
    have hrun := run_append_grow_src (P := P) w t u type e i zv hte hi hzv base rows.length cap oc hfst (a.eval y) news.length nc src hcap (by omega) (by rw [hiby]; exact growslice_fits hcap hbd)
    have hge := grownCap_ge w (rows.length + news.length) cap e
    have hmax := grownCap_le_maxLen w (rows.length + news.length) cap e (by have : maxLen = 9223372036854775807 := rfl; omega)
    obtain ⟨k1, k2, k3⟩ := grow_cellsU (G := G) (w := w) (s := s) (cap := grownCap w (rows.length + news.length) cap e) hzs hol ncl rfl rfl hge hrow nrow hcell ncell
    generalize (oc ++ nc).toArray ++ Builtin.zeroCells zv.cells (grownCap w (rows.length + news.length) cap e - (rows.length + news.length)) = us at hrun k1 k3
    have hsD := hs'.draws 1
    obtain ⟨q1, q2, q3⟩ := push_rows (S := S') (w := w.drew) (e := e) (us := us) (rows := rows ++ news) hsD.h hs0 (by rw [k1]; exact Nat.mul_le_mul_right s (by simpa using hge)) k2 (fun i j x hx => (k3 i j x hx).mono (Le.drew G w))
    refine ⟨_, _, _, by rw [hv]; exact hrun, hsD.turn q1 q2 q3, ?_⟩
    exact rep_ms_new (w := w.drew) S'.H s us e _ _ hge hmax k1
  split at hK
  · -- onto nil
    rename_i hx
    have hxv : a.eval x = .slice none 0 0 := by
      have hr := evA_ok hs x
      rw [hx] at hr
      have hr := hr.rep (.inl rfl)
      generalize a.eval x = v at hr
      cases hr; rfl
    obtain ⟨hbd, hK⟩ := hK
    rcases Nat.eq_zero_or_pos news.length with h0 | h0
    · have hnw : news = [] := List.eq_nil_of_length_eq_zero h0
      subst hnw
      have hnc : nc = [] := List.eq_nil_of_length_eq_zero (by rw [ncl]; simp)
      subst hnc
      have hrun := run_append_nothing (P := P) w t u type e i hte hi none 0 0 (Nat.le_refl _) (a.eval y) src
      obtain ⟨q1, q2⟩ := eff_empty hs.h s hs0
      exact ⟨_, _, G, w, hK, hs.turn (Le.refl _ _) q1 q2, .inl ⟨_, hexec (by rw [hxv]; exact hrun), .ms _ _ _ _ _ _ (Nat.le_refl _) (by simp [maxLen]) (.inr rfl)⟩⟩
    · obtain ⟨v, G', w', g1, g2, g3⟩ := grow S [] 0 none [] hs hxv h0 (by simpa using h0) (by simpa using hbd) (by simp) (by simp) (fun i j x hx => by simp [cellAt] at hx) (run_firstCells_none w.drew i.size 0 0 0)
      exact ⟨_, _, G', w', hK, by simpa using g2, .inl ⟨v, hexec g1, by simpa using g3⟩⟩
  · rename_i z' id len hx
    split at hK
    rotate_left
    · cases hK
    rename_i hzz
    have hzz := Nat.eq_of_beq_eq_true hzz
    subst hzz
    obtain ⟨l, hl, hK⟩ := hK.out
    obtain ⟨⟨hll, hbd⟩, hK⟩ := hK
    have hr := evA_ok hs x
    rw [hx] at hr
    have hr := hr.rep (.inl rfl)
    generalize hxv : a.eval x = xv at hr
    cases hr with
    | ms _ _ _ _ c A hlc hc hsh =>
    have htl : (l.take len).length = len := by simp; omega
    have hdl : (S.H.upd id .dead).blks.length = S.H.blks.length := AH.upd_len
    obtain ⟨d1, d2⟩ := eff_dead hs.h id
    have hsd := hs.turn (Le.refl _ _) d1 d2
    rcases hsh with ⟨b, rfl, hmb, e1, hshp⟩ | hc0
    · obtain ⟨_, _, vs, e2, g1, g2, g3, g4⟩ := rows_at hs.h hl hmb
      have hvs : vs.size = c * z' := by
        simp only [World.shape?, g1, Option.some.injEq, Prod.mk.injEq] at hshp
        rw [hshp.2]; simp
      have hlz : len * z' ≤ vs.size := by rw [hvs]; exact Nat.mul_le_mul_right z' hlc
      simp only [Nat.zero_mul] at hxv
      have hrowt : ∀ q ∈ l.take len, q.length = z' := fun q hq => g2 q (List.mem_of_mem_take hq)
      rcases Nat.lt_or_ge c (len + news.length) with hcap | hroom
      · have hm : 0 < news.length := by omega
        have hocl : (vs.toList.take (len * z')).length = (l.take len).length * z' := by rw [htl]; simp; omega
        have hget : ∀ j, j < len * z' → (vs.toList.take (len * z'))[j]? = some (vs.getD j Go.undef) := fun j hj => by
          rw [List.getElem?_take, if_pos hj, Array.getElem?_toList, Array.getD_eq_getD_getElem?, Array.getElem?_eq_getElem (by omega)]
          simp
        obtain ⟨v, G', w', f1, f2, f3⟩ := grow _ (l.take len) c (some ⟨b, 0, none⟩) (vs.toList.take (len * z')) hsd (by rw [htl]; exact hxv) hm (by rw [htl]; exact hcap) (by rw [htl]; exact hbd) hocl hrowt
          (fun i j x hx => by
            obtain ⟨h1, h2⟩ := cellAt_take hx
            have hj : j < z' := (cellAt_lt g2 h2).2
            rw [List.getD_eq_getElem?_getD, hget _ (row_lt h1 hj)]
            exact g4 i j x h2)
          (by
            rw [htl, hisz]
            refine run_firstCells_some w.drew z' len ⟨b, 0, none⟩ len c _ (by simpa [htl] using hocl) (fun j u hu' => ?_)
            have hj := (List.getElem?_eq_some_iff.1 hu').1
            rw [hocl, htl] at hj
            rw [hget j hj] at hu'
            simp only [Option.some.injEq] at hu'
            rw [Addr.add_mid, ← hu', Nat.zero_add]
            exact cell_row (w := w.drew) g1 (by omega))
        rw [htl] at f3
        simp only [hdl] at f3
        exact ⟨_, _, G', w', hK, f2, .inl ⟨v, hexec f1, f3⟩⟩
      · -- there is room: in its place
        rcases Nat.eq_zero_or_pos news.length with h0 | h0
        · have hnw : news = [] := List.eq_nil_of_length_eq_zero h0
          subst hnw
          have hnc : nc = [] := List.eq_nil_of_length_eq_zero (by rw [ncl]; simp)
          subst hnc
          have hrun := run_append_nothing (P := P) w t u type e i hte hi (some ⟨b, 0, none⟩) len c hlc (a.eval y) src
          obtain ⟨q1, q2, q3⟩ := eff_blk (B' := .rows z' (l.take len)) hs.h hl rfl hmb (Kin.refl w) rfl (fun _ _ => rfl) (fun _ h => h) (fun hle => ⟨rfl, hs0, vs, e2, g1, hrowt, by rw [htl]; exact hlz, fun i j x hx => g4 i j x (cellAt_take hx).2⟩)
          have hs1 := hs.turn q1 q2 q3
          obtain ⟨r1, r2, r3⟩ := eff_move hs1.h (AH.upd_same hl) rfl hmb
          have hs2 := hs1.turn r1 r2 r3
          have hH : ((S.H.upd id (.rows z' (l.take len))).upd id .dead).push (.rows z' (l.take len)) = (S.H.upd id .dead).push (.rows z' (l.take len ++ [])) := by simp [AH.upd, AH.push]
          refine ⟨_, _, _, w, hK, by rw [← hH]; exact hs2, .inl ⟨_, hexec (by rw [hxv]; exact hrun), ?_⟩⟩
          have hnl : (S.H.upd id (.rows z' (l.take len))).blks.length = S.H.blks.length := AH.upd_len
          refine .ms _ _ _ _ _ _ (by simpa using hlc) hc (.inl ⟨b, by simp, ?_, e1, hshp⟩)
          show (G.obj (S.H.upd id (.rows z' (l.take len))).blks.length b z').mb _ = _
          rw [hnl]; exact Gh.obj_self _ _ _ _
        · have hfit : len * z' + nc.length ≤ vs.size := by
            rw [hvs, ncl, ← Nat.add_mul]; exact Nat.mul_le_mul_right z' hroom
          have hrun := run_append_room_row (P := P) (w := w) t u type e i hte hi b len c (a.eval y) news.length nc src vs e2 g1 hroom (by rw [hisz]; exact hfit)
          rw [hisz] at hrun
          have hget := row_get vs nc (len * z') hfit
          have hsz := row_size vs nc (len * z') hfit
          have hnew := setRow_heap w b vs (vs.toList.take (len * z') ++ nc ++ vs.toList.drop (len * z' + nc.length)).toArray e2 (0, 0) g1
          have hoth : ∀ k, k ≠ b → (w.setRow b (vs.toList.take (len * z') ++ nc ++ vs.toList.drop (len * z' + nc.length)).toArray).heap[k]? = w.heap[k]? := fun k hk => setRow_other w b k _ hk
          have hkin : Kin w (w.setRow b (vs.toList.take (len * z') ++ nc ++ vs.toList.drop (len * z' + nc.length)).toArray) := ⟨by simp, by simp, by simp⟩
          have hhs : (w.setRow b (vs.toList.take (len * z') ++ nc ++ vs.toList.drop (len * z' + nc.length)).toArray).heap.size = w.heap.size := by simp
          generalize hw : w.setRow b (vs.toList.take (len * z') ++ nc ++ vs.toList.drop (len * z' + nc.length)).toArray = w' at hrun hnew hoth hkin hhs
          generalize (vs.toList.take (len * z') ++ nc ++ vs.toList.drop (len * z' + nc.length)).toArray = us' at hget hsz hnew
          have hsh' : ∀ s', w.shape? b = some s' → w'.shape? b = some s' := fun s' hs' => by
            simp only [World.shape?, g1, hnew, Option.some.injEq] at hs' ⊢
            rw [← hs', hsz]
          have hk' : ∀ q ∈ l.take len ++ news, q.length = z' := fun q hq => by
            rcases List.mem_append.1 hq with hq | hq
            · exact hrowt q hq
            · exact nrow q hq
          have hlen' : (l.take len ++ news).length = len + news.length := by simp; omega
          obtain ⟨q1, q2, q3⟩ := eff_blk (B' := .rows z' (l.take len ++ news)) hs.h hl rfl hmb hkin hhs hoth hsh' (fun hle => ⟨rfl, hs0, us', e2, hnew, hk', by rw [hlen', hsz, hvs]; exact Nat.mul_le_mul_right z' hroom, fun i j x hx => by
            have hlt := cellAt_lt hk' hx
            rw [hget]
            rw [cellAt_append] at hx
            split at hx
            · rename_i hi'
              rw [htl] at hi'
              have := row_lt hi' hlt.2
              rw [if_pos this]
              exact (g4 i j x (cellAt_take hx).2).mono hle
            · rename_i hi'
              rw [htl] at hi' hx
              have h3 : len * z' ≤ i * z' := Nat.mul_le_mul_right z' (by omega)
              have h4 := row_lt (z := z') (i := i) (j := j) (n := (l.take len ++ news).length) hlt.1 hlt.2
              rw [hlen', Nat.add_mul, ← ncl] at h4
              rw [if_neg (by omega), if_pos h4]
              have := ncell _ j x hx
              rw [Nat.sub_mul] at this
              rw [show i * z' + j - len * z' = i * z' - len * z' + j by omega]
              exact .inr ⟨this.1, this.2.mono hle⟩⟩)
          have hs1 := hs.turn q1 q2 q3
          obtain ⟨r1, r2, r3⟩ := eff_move hs1.h (AH.upd_same hl) rfl hmb
          have hs2 := hs1.turn r1 r2 r3
          have hH : ((S.H.upd id (.rows z' (l.take len ++ news))).upd id .dead).push (.rows z' (l.take len ++ news)) = (S.H.upd id .dead).push (.rows z' (l.take len ++ news)) := by simp [AH.upd, AH.push]
          refine ⟨_, _, _, w', hK, by rw [← hH]; exact hs2, .inl ⟨_, hexec (by rw [hxv]; exact hrun), ?_⟩⟩
          have hnl : (S.H.upd id (.rows z' (l.take len ++ news))).blks.length = S.H.blks.length := AH.upd_len
          refine .ms _ _ _ _ _ _ hroom hc (.inl ⟨b, by simp, ?_, e1, hsh' _ hshp⟩)
          show (G.obj (S.H.upd id (.rows z' (l.take len ++ news))).blks.length b z').mb _ = _
          rw [hnl]; exact Gh.obj_self _ _ _ _
    · subst hc0
      have hlen0 : len = 0 := by omega
      subst hlen0
      rcases Nat.eq_zero_or_pos news.length with h0 | h0
      · have hnw : news = [] := List.eq_nil_of_length_eq_zero h0
        subst hnw
        have hnc : nc = [] := List.eq_nil_of_length_eq_zero (by rw [ncl]; simp)
        subst hnc
        have hrun := run_append_nothing (P := P) w t u type e i hte hi A 0 0 hlc (a.eval y) src
        obtain ⟨q1, q2⟩ := eff_empty hsd.h z' hs0
        refine ⟨_, _, G, w, hK, ?_, .inl ⟨_, hexec (by rw [hxv]; exact hrun), .ms _ _ _ _ _ _ (by simp) hc (.inr rfl)⟩⟩
        simpa using hsd.turn (Le.refl _ _) q1 q2
      · obtain ⟨v, G', w', f1, f2, f3⟩ := grow _ [] 0 A [] hsd hxv h0 (by simpa using h0) (by simpa using hbd) (by simp) (by simp) (fun i j x hx => by simp [cellAt] at hx) (by
          cases A with
          | none => exact run_firstCells_none w.drew i.size 0 0 0
          | some a' => exact run_firstCells_some w.drew i.size 0 a' 0 0 [] (by simp) (fun j u h => by simp at h))
        simp only [hdl] at f3
        refine ⟨_, _, G', w', hK, by simpa using f2, .inl ⟨v, hexec f1, by simpa using f3⟩⟩
  · cases hK
end
end Go.Proofs.Ytecpiplfjmmccaa.AM
