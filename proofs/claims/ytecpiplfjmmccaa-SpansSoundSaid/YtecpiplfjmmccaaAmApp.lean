/-
  append, as 'app' says.
  Conditions: the table of types tells of the program's.
-/
import Derived.Test.YtecpiplfjmmccaaAmOk2
import Derived.Deep.Upon
namespace Go.Proofs.Ytecpiplfjmmccaa.AM
open Go

section
variable {E : Env} {P : Program} {ty : TypeId → Option TI} {lo : Nat → Nat} {G : Gh} {S : AS} {a : Act} {w : World}

def flat (n z : Nat) (f : Nat → Nat → Value) : List Value := (List.range (n * z)).map fun k => f (k / z) (k % z)
theorem flat_length (n z : Nat) (f : Nat → Nat → Value) : (flat n z f).length = n * z := by simp [flat]
theorem flat_get {n z : Nat} {f : Nat → Nat → Value} {j : Nat} {u : Value} (h : (flat n z f)[j]? = some u) : j < n * z ∧ u = f (j / z) (j % z) := by
  have hj := (List.getElem?_eq_some_iff.1 h).1
  rw [flat_length] at hj
  unfold flat at h
  rw [List.getElem?_map, List.getElem?_range hj] at h
  simp only [Option.map_some, Option.some.injEq] at h
  exact ⟨hj, h.symm⟩
theorem flat_at {n z i j : Nat} {f : Nat → Nat → Value} (hi : i < n) (hj : j < z) : (flat n z f).getD (i * z + j) Go.undef = f i j := by
  have h := row_lt hi hj
  unfold flat
  rw [List.getD_eq_getElem?_getD, List.getElem?_map, List.getElem?_range h]
  simp only [Option.map_some, Option.getD_some]
  rw [Nat.mul_comm i z, Nat.mul_add_div (by omega), Nat.mul_add_mod, Nat.div_eq_of_lt hj, Nat.mod_eq_of_lt hj, Nat.add_zero]

theorem cellAt_full {rows : List (List AV)} {z i j : Nat} (hk : ∀ r ∈ rows, r.length = z) (hi : i < rows.length) (hj : j < z) : ∃ x, cellAt rows i j = some x := by
  have : (rows[i]).length = z := hk _ (List.getElem_mem hi)
  exact ⟨rows[i][j], by unfold cellAt; rw [List.getElem?_eq_getElem hi]; simp⟩

/-- What stands in memory for a slice's rows. -/
theorem rep_flat {z : Nat} {rows : List (List AV)} {tok : Option Nat} {A : Option Addr} {c : Nat} (h : Rep G w (.sl z rows tok) (.slice A rows.length c)) :
    ∃ f : Nat → Nat → Value, (∀ r ∈ rows, r.length = z) ∧ (∀ i j x, cellAt rows i j = some x → x.one = true ∧ Rep G w x ((flat rows.length z f).getD (i * z + j) Go.undef)) ∧ (∀ u ∈ flat rows.length z f, u.oneCell' = true) ∧
      (rows.length = 0 ∨ ∃ a, A = some a ∧ ∀ j u, (flat rows.length z f)[j]? = some u → w.cell? (a.add j) = some u) := by
  cases h with
  | sl _ _ _ _ _ b o f hz hlc hc hk hp hcell h1 hr =>
  refine ⟨f, hk, fun i j x hx => ⟨h1 i j x hx, ?_⟩, fun u hu => ?_, ?_⟩
  · have := cellAt_lt hk hx
    rw [flat_at this.1 this.2]; exact hr i j x hx
  · obtain ⟨j, hj⟩ := List.mem_iff_getElem?.1 hu
    obtain ⟨hlt, rfl⟩ := flat_get hj
    obtain ⟨x, hx⟩ := cellAt_full hk (i := j / z) (j := j % z) (by rw [Nat.div_lt_iff_lt_mul hz]; exact hlt) (Nat.mod_lt _ hz)
    exact (hr _ _ x hx).oneCell (h1 _ _ x hx)
  · rcases hp with ⟨h0, _⟩ | ⟨rfl, _, _⟩
    · exact .inl h0
    · refine .inr ⟨_, rfl, fun j u hu => ?_⟩
      obtain ⟨hlt, rfl⟩ := flat_get hu
      obtain ⟨x, hx⟩ := cellAt_full hk (i := j / z) (j := j % z) (by rw [Nat.div_lt_iff_lt_mul hz]; exact hlt) (Nat.mod_lt _ hz)
      rw [Addr.add_mid, ← hcell _ _ x hx, Nat.add_assoc]
      congr 3
      rw [Nat.mul_comm]; exact (Nat.div_add_mod j z).symm

theorem src_ok (hty : TyOK P ty) {s : Nat} {y : AV} {vy : Value} {u : TypeId} {tu : TI} {news : List (List AV)} (hu : elemTI ty u = some tu) (hs : 0 < s) (hn : rowsOf s y = some news) (hy : Rep G w y vy) :
    ∃ nc : List Value, Src P s u vy news.length nc w ∧ nc.length = news.length * s ∧ (∀ r ∈ news, r.length = s) ∧ ∀ i j x, cellAt news i j = some x → x.one = true ∧ Rep G w x (nc.getD (i * s + j) Go.undef) := by
  have hk : ∃ e', P.underlying u = some (.slice e') := by
    unfold elemTI at hu
    split at hu
    · rename_i e h0; exact ⟨e, kind_slice (hty _ _ h0) rfl⟩
    · cases hu
  obtain ⟨e', hk⟩ := hk
  unfold rowsOf at hn
  split at hn
  · rename_i z rows tok
    split at hn
    · rename_i hz
      have hz := Nat.eq_of_beq_eq_true hz
      subst hz
      simp only [Option.some.injEq] at hn
      subst hn
      have hy' := hy
      cases hy with
      | sl _ _ _ A c b o f hz hlc hc hk' hp hcell h1 hr =>
      obtain ⟨f, g1, g2, g3, g4⟩ := rep_flat hy'
      refine ⟨flat rows.length z f, ?_, flat_length _ _ _, g1, g2⟩
      rcases g4 with h0 | ⟨a', rfl, g4⟩
      · rw [h0]
        have : flat 0 z f = [] := by simp [flat]
        rw [this]
        cases A with
        | none => exact Src.ofNil w hk c
        | some a' => exact Src.ofSlice w hk a' 0 c [] (by simp) (fun j u h => by simp at h) (fun u h => by cases h)
      · exact Src.ofSlice w hk a' _ c _ (flat_length _ _ _) g4 g3
    · cases hn
  · simp only [Option.some.injEq] at hn
    subst hn
    cases hy
    exact ⟨[], Src.ofNil w hk 0, by simp, (fun r h => by cases h), (fun i j x h => by simp [cellAt] at h)⟩
  · cases hn

theorem run_append_room_row (t tx ty' e : TypeId) (i : TypeInfo) (ht : P.underlying t = some (.slice e)) (hi : P.info? e = some i) (b sLen sCap : Nat) (x : Value) (n : Nat) (news : List Value) (hs : Src P i.size tx x n news w)
    (cur : Array Value) (e' : TypeId) (hb : w.heap[b]? = some (.cells cur e' (0, 0))) (hroom : sLen + n ≤ sCap) (hfit : sLen * i.size + news.length ≤ cur.size) :
    (Builtin.append_ #[t, tx] ty' #[.slice (some ⟨b, 0, none⟩) sLen sCap, x]).run P w = .ok (.slice (some ⟨b, 0, none⟩) (sLen + n) sCap) (w.setRow b (cur.toList.take (sLen * i.size) ++ news ++ cur.toList.drop (sLen * i.size + news.length)).toArray) := by
  have hst := run_storeCells_at P b (sLen * i.size) e' news 0 cur w hb (by simpa using hfit) hs.one
  simp only [Nat.add_zero] at hst
  rcases hs.kind with ⟨e', hk⟩ | hk <;> simp [Builtin.append_, run_underlying ht, run_underlying hk, sizeOf, typeInfo, hi, hs.len, hroom, hs.cells, Addr.add_lit, hst]

/-- rows behind rows -/
theorem cellAt_append {l l' : List (List AV)} {i j : Nat} : cellAt (l ++ l') i j = if i < l.length then cellAt l i j else cellAt l' (i - l.length) j := by
  unfold cellAt
  split
  · rename_i h; rw [List.getElem?_append_left h]
  · rename_i h; rw [List.getElem?_append_right (by omega)]

/-- A new row: olds, news, zeros. -/
theorem grow_cells {s n m cap : Nat} {z : Value} {oc nc : List Value} {rows news : List (List AV)} (hz : z.cells.size = s) (ho : oc.length = n * s) (hn : nc.length = m * s) (hr : rows.length = n) (hm : news.length = m) (hcap : n + m ≤ cap)
    (h1 : ∀ r ∈ rows, r.length = s) (h2 : ∀ r ∈ news, r.length = s) (g1 : ∀ i j x, cellAt rows i j = some x → x.one = true ∧ Rep G w x (oc.getD (i * s + j) Go.undef)) (g2 : ∀ i j x, cellAt news i j = some x → x.one = true ∧ Rep G w x (nc.getD (i * s + j) Go.undef)) :
    ((oc ++ nc).toArray ++ Builtin.zeroCells z.cells (cap - (n + m))).size = cap * s ∧ (∀ r ∈ rows ++ news, r.length = s) ∧
    ∀ i j x, cellAt (rows ++ news) i j = some x → x.one = true ∧ Rep G w x (((oc ++ nc).toArray ++ Builtin.zeroCells z.cells (cap - (n + m))).getD (i * s + j) Go.undef) := by
  have hk : ∀ r ∈ rows ++ news, r.length = s := fun r hr => by
    rcases List.mem_append.1 hr with h | h
    · exact h1 r h
    · exact h2 r h
  refine ⟨?_, hk, fun i j x hx => ?_⟩
  · rw [Array.size_append, size_zeroCells, hz]
    simp only [List.size_toArray, List.length_append, ho, hn]
    rw [← Nat.add_mul, ← Nat.add_mul]
    congr 1
    omega
  · have hlt := cellAt_lt hk hx
    simp only [List.length_append, hr, hm] at hlt
    have hlt' := row_lt hlt.1 hlt.2
    rw [Nat.add_mul] at hlt'
    rw [Array.getD_eq_getD_getElem?, Array.getElem?_append_left (by simp [ho, hn]; omega), List.getElem?_toArray]
    rw [cellAt_append] at hx
    split at hx
    · rename_i hi
      have := row_lt (z := s) (i := i) (j := j) (n := n) (by omega) hlt.2
      rw [List.getElem?_append_left (by omega), ← List.getD_eq_getElem?_getD]
      exact g1 i j x hx
    · rename_i hi
      have h3 : n * s ≤ i * s := Nat.mul_le_mul_right s (by omega)
      rw [List.getElem?_append_right (by omega), ho, ← List.getD_eq_getElem?_getD]
      have := g2 _ j x hx
      rw [hr, Nat.sub_mul] at this
      rwa [show i * s + j - n * s = i * s - n * s + j by omega]

theorem Rep.drew {x : AV} {v : Value} (h : Rep G w x v) : Rep G w.drew x v := h.mono (Le.drew G w)

theorem elemTI_ok (hty : TyOK P ty) {t : TypeId} {ti : TI} (h : elemTI ty t = some ti) : ∃ e i, P.underlying t = some (.slice e) ∧ P.info? e = some i ∧ i.size = ti.size ∧ i.bytes = ti.bytes ∧ i.zero.bind toAV = ti.zero := by
  unfold elemTI at h
  split at h
  · rename_i e h0
    obtain ⟨i, h1, h2, h3, h4⟩ := ti_size (hty _ _ h)
    exact ⟨e, i, kind_slice (hty _ _ h0) rfl, h1, h2, h3, h4⟩
  · cases h
theorem elemZ_ok (w : World) {z : AV} {s : Nat} {zv : Value} (h : elemZ z s = true) (hz : toAV zv = some z) : zv.cells.size = s := by
  unfold elemZ at h
  split at h
  · cases h
  · rename_i hnt
    split at h
    · rename_i hv
      have h := Nat.eq_of_beq_eq_true h
      obtain ⟨c1, _⟩ := (toAV_rep hz ⟨fun _ => none, fun _ => 0, fun _ => none⟩ w).cells hv hnt
      omega
    · cases h

theorem set_self {α : Type} : ∀ (l : List α) (i : Nat) (x : α), l[i]? = some x → l.set i x = l
  | [], _, _, h => by simp at h
  | y :: l, 0, x, h => by simp at h; simp [h]
  | y :: l, i + 1, x, h => by simp at h; simp [set_self l i x h]

theorem app_ok (hty : TyOK P ty) (hs : Sim E lo G S a w) {md : Nat} {t u rt : TypeId} {tu : TI} {x y r : AV} {vx vy : Value} {H' : AH} {φ : Prop} (hu : elemTI ty u = some tu) (h : app ty md t x y S.H = some (r, H', φ)) (hφ : φ)
    (hx : Rep G w x vx) (hy : Rep G w y vy) :
    ∃ v G' w', (Builtin.append_ #[t, u] rt #[vx, vy]).run P w = .ok v w' ∧ Sim E lo G' { S with H := H' } a w' ∧ Rep G' w' r v := by
  unfold app at h
  split at h
  · rename_i s by_ ag z kd h0
    obtain ⟨e, i, ht, hi, hisz, hiby, hiz⟩ := elemTI_ok hty h0
    have hisz : i.size = s := hisz
    have hiby : i.bytes = by_ := hiby
    obtain ⟨zv, hzv, hza⟩ := Option.bind_eq_some_iff.1 (show i.zero.bind toAV = some z from hiz)
    split at h
    · rename_i hs0
      have hs0 : 0 < s := by simpa [Nat.blt_eq] using hs0
      split at h
      · rename_i hb0
        have hb0 : 0 < by_ := by simpa [Nat.blt_eq] using hb0
        split at h
        · rename_i hez
          have hzs : zv.cells.size = s := elemZ_ok w hez hza
          split at h
          · rename_i news hnews
            obtain ⟨nc, src, ncl, nrow, ncell⟩ := src_ok hty hu hs0 hnews hy
            rw [← hisz] at src
            have hsD := hs.draws 1
            -- a new row
            have grow : ∀ (base : Option Addr) (rows : List (List AV)) (cap : Nat) (oc : List Value) (ow : Option Nat) (H' : AH), vx = .slice base rows.length cap → 0 < news.length → cap < rows.length + news.length → (rows.length + news.length) * by_ ≤ 140737488355328 →
                oc.length = rows.length * s → (∀ q ∈ rows, q.length = s) → (∀ i j x, cellAt rows i j = some x → x.one = true ∧ Rep G w x (oc.getD (i * s + j) Go.undef)) →
                (Builtin.firstCells i.size rows.length (.slice base rows.length cap)).run P w.drew = .ok oc.toArray w.drew →
                H'.blks = S.H.blks → ((ow = none ∧ H' = S.H) ∨ ∃ c z n, ow = some c ∧ H'.tips[c]? = some (z, n) ∧ 0 < n ∧ (rows.length + news.length) * s = n * z ∧ (∀ b', G.own b' = some c → G.imm b' < n * z) ∧ (∀ c', c' ≠ c → H'.tips[c']? = S.H.tips[c']?)) →
                ∃ v G' w', (Builtin.append_ #[t, u] rt #[vx, vy]).run P w = .ok v w' ∧ Sim E lo G' { S with H := H' } a w' ∧ Rep G' w' (.sl s (rows ++ news) ow) v := by
              intro base rows cap oc ow H' hv hm hcap hbd hol hrow hcell hfst hbl hown
              subst hv
              have hnb : rows.length + news.length ≤ 140737488355328 := by
                have : (rows.length + news.length) * 1 ≤ (rows.length + news.length) * by_ := Nat.mul_le_mul_left _ hb0
                omega
              have hrun := run_append_grow_src (P := P) w t u rt e i zv ht hi hzv base rows.length cap oc hfst vy news.length nc src hcap (by omega) (by rw [hiby]; exact growslice_fits hcap hbd)
              have hge := grownCap_ge w (rows.length + news.length) cap e
              have hmax := grownCap_le_maxLen w (rows.length + news.length) cap e (by have : maxLen = 9223372036854775807 := rfl; omega)
              obtain ⟨k1, k2, k3⟩ := grow_cells (G := G) (w := w) (s := s) (cap := grownCap w (rows.length + news.length) cap e) hzs hol ncl rfl rfl hge hrow nrow hcell ncell
              generalize (oc ++ nc).toArray ++ Builtin.zeroCells zv.cells (grownCap w (rows.length + news.length) cap e - (rows.length + news.length)) = us at hrun k1 k3
              have hx := eff_new hsD.h us e ((rows.length + news.length) * s) ow hbl hown
              refine ⟨_, _, _, hrun, hsD.turn (Le.new hsD.h _ _ _) hx.1 hx.2, ?_⟩
              exact rep_new (S := S) (w := w.drew) hs0 (by simp) (by omega) _ hge hmax k1 k2 (fun i j x hx => ⟨(k3 i j x hx).1, (k3 i j x hx).2.drew⟩) hsD.h (fun h0 => by omega)
            split at h
            · -- onto nil
              cases hx
              have hnil : ∀ (ow : Option Nat) (H' : AH), news.length * by_ ≤ 140737488355328 → ((ow = none ∧ H' = S.H) ∨ (ow = some S.H.tips.length ∧ H' = { S.H with tips := S.H.tips ++ [(s, news.length)] })) →
                  ∃ v G' w', (Builtin.append_ #[t, u] rt #[.slice none 0 0, vy]).run P w = .ok v w' ∧ Sim E lo G' { S with H := H' } a w' ∧ Rep G' w' (.sl s news ow) v := by
                intro ow H' hbd hown
                rcases Nat.eq_zero_or_pos news.length with h0 | h0
                · have hnc : nc = [] := List.eq_nil_of_length_eq_zero (by rw [ncl, h0]; simp)
                  have hnw : news = [] := List.eq_nil_of_length_eq_zero h0
                  rw [h0, hnc] at src
                  have hrun := run_append_nothing (P := P) w t u rt e i ht hi none 0 0 (Nat.le_refl _) vy src
                  have hrep : ∀ G' w', Rep G' w' (.sl s news ow) (.slice none 0 0) := fun G' w' => by
                    rw [hnw]
                    exact .sl s [] ow none 0 0 0 (fun _ _ => Go.undef) hs0 (by simp) (by simp [maxLen]) (by simp) (.inl ⟨rfl, .inr rfl⟩) (fun i j x hx => by simp [cellAt] at hx) (fun i j x hx => by simp [cellAt] at hx) (fun i j x hx => by simp [cellAt] at hx)
                  rcases hown with ⟨_, rfl⟩ | ⟨_, rfl⟩
                  · exact ⟨_, G, w, hrun, hs, hrep _ _⟩
                  · obtain ⟨q1, q2⟩ := eff_tip hs.h s
                    rw [h0]
                    exact ⟨_, G, w, hrun, hs.turn (Le.refl _ _) q1 q2, hrep _ _⟩
                · refine grow none [] 0 [] ow H' rfl h0 (by simpa using h0) (by simpa using hbd) (by simp) (by simp) (fun i j x hx => by simp [cellAt] at hx) (run_firstCells_none w.drew i.size 0 0 0) ?_ ?_
                  · rcases hown with ⟨_, rfl⟩ | ⟨_, rfl⟩ <;> rfl
                  · rcases hown with ⟨h1, h2⟩ | ⟨rfl, rfl⟩
                    · exact .inl ⟨h1, h2⟩
                    · refine .inr ⟨_, s, news.length, rfl, by simp, h0, by simp, fun b' hb' => absurd hb' (hs.h.chains _ b' (Nat.le_refl _)), fun c' hc' => ?_⟩
                      dsimp only
                      rcases Nat.lt_or_ge c' S.H.tips.length with hl | hl
                      · rw [List.getElem?_append_left hl]
                      · rw [List.getElem?_append_right hl, List.getElem?_eq_none hl, List.getElem?_eq_none (by simp; omega)]
              split at h
              · simp only [Option.some.injEq, Prod.mk.injEq] at h
                obtain ⟨rfl, rfl, rfl⟩ := h
                exact hnil _ _ hφ (.inr ⟨rfl, rfl⟩)
              · simp only [Option.some.injEq, Prod.mk.injEq] at h
                obtain ⟨rfl, rfl, rfl⟩ := h
                exact hnil _ _ hφ (.inl ⟨rfl, rfl⟩)
            · -- onto the head of a chain
              rename_i z' rows c
              split at h
              · rename_i hz'
                have hz' := (Nat.eq_of_beq_eq_true hz').symm
                subst hz'
                simp only [Option.some.injEq, Prod.mk.injEq] at h
                obtain ⟨rfl, rfl, rfl⟩ := h
                obtain ⟨htip, hbd⟩ := hφ
                have hx' := hx
                cases hx with
                | sl _ _ _ A cap b o f hz hlc hc hk hp hcell h1 hr =>
                obtain ⟨ff, g1, g2, g3, g4⟩ := rep_flat hx'
                have hclt : c < S.H.tips.length := (List.getElem?_eq_some_iff.1 htip).1
                rcases Nat.eq_zero_or_pos news.length with h0 | h0
                · have hnc : nc = [] := List.eq_nil_of_length_eq_zero (by rw [ncl, h0]; simp)
                  have hnw : news = [] := List.eq_nil_of_length_eq_zero h0
                  rw [h0, hnc] at src
                  have hrun := run_append_nothing (P := P) w t u rt e i ht hi A rows.length cap hlc vy src
                  have e1 : rows ++ news = rows := by rw [hnw]; simp
                  rw [e1, set_self _ _ _ htip]
                  exact ⟨_, G, w, hrun, hs, hx'⟩
                · rcases Nat.lt_or_ge cap (rows.length + news.length) with hcap | hroom
                  · refine grow A rows cap (flat rows.length s ff) (some c) _ rfl h0 hcap hbd (flat_length _ _ _) g1 g2 ?_ rfl (.inr ⟨c, s, (rows ++ news).length, rfl, ?_, ?_, ?_, ?_, ?_⟩)
                    · rw [hisz]
                      rcases g4 with e0 | ⟨a', rfl, g4⟩
                      · have : flat rows.length s ff = [] := by simp [flat, e0]
                        rw [this, e0]
                        cases A with
                        | none => exact run_firstCells_none w.drew s 0 0 cap
                        | some a' => exact run_firstCells_some w.drew s 0 a' 0 cap [] (by simp) (fun j u h => by simp at h)
                      · exact run_firstCells_some w.drew s rows.length a' rows.length cap _ (flat_length _ _ _) (by simpa using g4)
                    · dsimp only; rw [List.getElem?_set_self hclt]
                    · simp; omega
                    · simp
                    · intro b' hb'
                      obtain ⟨q1, q2⟩ := hs.h.chain c s _ htip
                      have hlt : rows.length * s < (rows ++ news).length * s := Nat.mul_lt_mul_of_pos_right (by simp; omega) hz
                      rcases Nat.eq_zero_or_pos rows.length with e0 | e0
                      · exact absurd hb' (q1 e0 b')
                      · obtain ⟨bb, us, e', q3, q4, q5, q6⟩ := q2 e0
                        by_cases hbb : b' = bb
                        · subst hbb; omega
                        · have := q6 b' hb' hbb; omega
                    · intro c' hc'
                      dsimp only; rw [List.getElem?_set_ne (fun e => hc' e.symm)]
                  · rcases hp with ⟨e0, hcc | hcc⟩ | ⟨rfl, him, htk⟩
                    · cases hcc
                    · omega
                    · obtain ⟨rfl, hown, e'', hsh⟩ := htk c rfl
                      obtain ⟨q1, q2⟩ := hs.h.chain c s _ htip
                      rcases Nat.eq_zero_or_pos rows.length with e0 | e0
                      · exact absurd hown (q1 e0 b)
                      · obtain ⟨bb, us, e', q3, q4, q5, q6⟩ := q2 e0
                        have hbb : b = bb := by
                          apply Decidable.byContradiction
                          intro hne
                          have := q6 b hown hne
                          omega
                        subst hbb
                        have hus : us.size = cap * s := by
                          simp only [World.shape?, q5, Option.some.injEq, Prod.mk.injEq] at hsh
                          exact hsh.2
                        have hfit : rows.length * s + nc.length ≤ us.size := by
                          rw [hus, ncl, ← Nat.add_mul]; exact Nat.mul_le_mul_right s hroom
                        have hrun := run_append_room_row (P := P) (w := w) t u rt e i ht hi b rows.length cap vy news.length nc src us e' q5 hroom (by rw [hisz]; exact hfit)
                        rw [hisz] at hrun
                        obtain ⟨r1, r2, r3⟩ := eff_room hs.h hz e0 h0 htip hown q4 q5 nc ncl hfit
                        have hlen : (rows ++ news).length = rows.length + news.length := by simp
                        have hnew := setRow_heap w b us (us.toList.take (rows.length * s) ++ nc ++ us.toList.drop (rows.length * s + nc.length)).toArray e' (0, 0) q5
                        have hget := row_get us nc (rows.length * s) hfit
                        have hsz := row_size us nc (rows.length * s) hfit
                        rw [hlen]
                        generalize w.setRow b (us.toList.take (rows.length * s) ++ nc ++ us.toList.drop (rows.length * s + nc.length)).toArray = w' at hrun r1 r2 r3 hnew
                        generalize (us.toList.take (rows.length * s) ++ nc ++ us.toList.drop (rows.length * s + nc.length)).toArray = us' at hnew hget hsz
                        refine ⟨_, _, _, hrun, hs.turn r1 r2 r3, ?_⟩
                        rw [← hlen]
                        have hk' : ∀ q ∈ rows ++ news, q.length = s := fun q hq => by
                          rcases List.mem_append.1 hq with hq | hq
                          · exact g1 q hq
                          · exact nrow q hq
                        have hall : ∀ i j x, cellAt (rows ++ news) i j = some x → x.one = true ∧ Rep G w x (us'.getD (i * s + j) Go.undef) := by
                          intro i j x hx
                          have hlt := cellAt_lt hk' hx
                          rw [hget]
                          rw [cellAt_append] at hx
                          split at hx
                          · rename_i hi'
                            have := row_lt hi' hlt.2
                            rw [if_pos this]
                            refine ⟨h1 i j x hx, ?_⟩
                            have hc1 := hcell i j x hx
                            have hc2 := cell_row q5 (w := w) (j := i * s + j) (by omega)
                            rw [Nat.zero_add, hc2] at hc1
                            simp only [Option.some.injEq] at hc1
                            rw [hc1]
                            exact hr i j x hx
                          · rename_i hi'
                            have h3 : rows.length * s ≤ i * s := Nat.mul_le_mul_right s (by omega)
                            have h4 := row_lt (z := s) (i := i) (j := j) (n := (rows ++ news).length) hlt.1 hlt.2
                            rw [hlen, Nat.add_mul, ← ncl] at h4
                            rw [if_neg (by omega), if_pos h4]
                            have := ncell _ j x hx
                            rw [Nat.sub_mul] at this
                            rwa [show i * s + j - rows.length * s = i * s - rows.length * s + j by omega]
                        refine .sl s (rows ++ news) (some c) _ cap b 0 (fun i j => us'.getD (i * s + j) Go.undef) hz (by rw [hlen]; exact hroom) hc hk' (.inr ⟨rfl, ?_, fun t ht => ?_⟩) (fun i j x hx => ?_) (fun i j x hx => (hall i j x hx).1) (fun i j x hx => (hall i j x hx).2.mono (by rw [hlen]; exact r1))
                        · simp [Gh.grow]
                        · simp only [Option.some.injEq] at ht
                          subst ht
                          refine ⟨rfl, hown, e', ?_⟩
                          unfold World.shape?
                          rw [hnew]
                          simp only [hsz, hus]
                        · have hlt := cellAt_lt hk' hx
                          have h4 := row_lt (z := s) (i := i) (j := j) (n := (rows ++ news).length) hlt.1 hlt.2
                          have h5 : (rows ++ news).length * s ≤ cap * s := Nat.mul_le_mul_right s (by rw [hlen]; exact hroom)
                          rw [Nat.zero_add]
                          exact cell_row hnew (by omega)
              · cases h
            · cases h
          · cases h
        · cases h
      · cases h
    · cases h
  · cases h
end
end Go.Proofs.Ytecpiplfjmmccaa.AM
