/-
  Each kind of operation comes to what B says (B_ok).
  Conditions: the table of types tells of the program's.
-/
import Derived.Test.YtecpiplfjmmccaaAmOp
import Derived.Great.BuildSlice
import Derived.Deep.AppendSrc
namespace Go.Proofs.Ytecpiplfjmmccaa.AM
open Go

section
variable {E : Env} {P : Program} {ty : TypeId → Option TI} {lo : Nat → Nat} {G : Gh} {S : AS} {a : Act} {w : World} {o : Oper}

theorem ones_get : ∀ {l : List AV}, ones l = true → ∀ (i : Nat) (x : AV), l[i]? = some x → x.one = true
  | [], _, i, x, h => by simp at h
  | y :: l, hv, i, x, h => by
    simp only [ones] at hv
    split at hv
    · rename_i hy
      cases i with
      | zero => simp only [List.getElem?_cons_zero, Option.some.injEq] at h; subst h; exact hy
      | succ i => exact ones_get hv i x (by simpa using h)
    · cases hv

theorem load_ok (hty : TyOK P ty) {t : TypeId} {cells : List AV} {c b o : Nat} {f : Nat → Value} {r : AV} (h : loadOf (ty t) cells c = some r)
    (hc : ∀ (j : Nat) x, cells[j]? = some x → w.cell? ⟨b, o + j, none⟩ = some (f j) ∧ RepU G w x (f j)) :
    ∃ v, (Instr.loadAt t (.pointer (some ⟨b, o + c, none⟩))).run P w = .ok v w ∧ Rep G w r v := by
  unfold loadOf at h
  split at h
  · rename_i ti h0
    have ha := ti_agg (hty _ _ h0) w
    have hs := ti_sizeOf (hty _ _ h0) w
    split at h
    · rename_i hag
      split at h
      · rename_i hle
        have hle := Nat.le_of_ble_eq_true hle
        split at h
        · rename_i hones
          simp only [Option.some.injEq] at h
          subst h
          have hone := ones_get hones
          have hlen : ((cells.drop c).take ti.size).length = ti.size := by simp; omega
          have hget : ∀ (j : Nat) x, ((cells.drop c).take ti.size)[j]? = some x → j < ti.size ∧ cells[c + j]? = some x := by
            intro j x hx
            have := (List.getElem?_eq_some_iff.1 hx).1
            rw [List.getElem?_take, if_pos (by omega), List.getElem?_drop] at hx
            exact ⟨by omega, hx⟩
          have hcell : ∀ j, j < ti.size → w.cell? ((⟨b, o + c, none⟩ : Addr).add j) = some (f (c + j)) := by
            intro j hj
            have hlt : c + j < cells.length := by omega
            have := (hc (c + j) cells[c + j] (List.getElem?_eq_getElem hlt)).1
            rw [Addr.add_mid, Nat.add_assoc]; exact this
          have hl := run_loadCells (P := P) w ⟨b, o + c, none⟩ ti.size (fun j => f (c + j)) hcell
          refine ⟨.agg ((List.range ti.size).map fun j => f (c + j)).toArray, ?_, .agg _ _ (by simp; omega) hone (fun i x hx => ?_)⟩
          · simp only [Instr.loadAt, Instr.sureAddr, loadVar, Sem.run_bind, Sem.run_pure, Result.andThen_ok, ha, hag, if_true, hs, hl]
          · obtain ⟨hi, hx'⟩ := hget i x hx
            have := (hc _ x hx').2
            rcases this with rfl | ⟨_, this⟩
            · have := hone i _ hx; simp [AV.one] at this
            · simpa [Array.getD_eq_getD_getElem?, hi] using this
        · cases h
      · cases h
    · rename_i hag
      split at h
      · rename_i x hx
        split at h
        · rename_i h1
          simp only [Option.some.injEq] at h
          subst h
          obtain ⟨g1, g2⟩ := hc c x hx
          refine ⟨f c, ?_, ?_⟩
          · simp [Instr.loadAt, Instr.sureAddr, loadVar, ha, hag, g1]
          · rcases g2 with rfl | ⟨_, g2⟩
            · simp [AV.one] at h1
            · exact g2
        · cases h
      · cases h
  · cases h

theorem cell_row {b : Nat} {vs : Array Value} {e : TypeId} (h : w.heap[b]? = some (.cells vs e (0, 0))) {j : Nat} (hj : j < vs.size) : w.cell? ⟨b, j, none⟩ = some (vs.getD j Go.undef) := by
  simp [World.cell?, h, hj]

theorem cut_length (z : Nat) : ∀ (n : Nat) (cs : List AV), (cut z n cs).length = n
  | 0, _ => rfl
  | n + 1, cs => by simp [cut, cut_length z n]
theorem cut_row (z : Nat) : ∀ (n : Nat) (cs : List AV), n * z ≤ cs.length → ∀ r ∈ cut z n cs, r.length = z
  | 0, _, _, _, h => by cases h
  | n + 1, cs, hl, r, h => by
    rw [Nat.add_mul] at hl
    rcases List.mem_cons.1 h with rfl | h
    · simp; omega
    · exact cut_row z n _ (by simp; omega) r h
theorem cut_get (z : Nat) : ∀ (n : Nat) (cs : List AV) (i j : Nat) (x : AV), cellAt (cut z n cs) i j = some x → cs[i * z + j]? = some x
  | 0, _, i, j, x, h => by simp [cut, cellAt] at h
  | n + 1, cs, i, j, x, h => by
    cases i with
    | zero =>
      simp only [cut, cellAt, List.getElem?_cons_zero, Option.bind_some] at h
      rw [List.getElem?_take] at h
      split at h
      · simpa using h
      · cases h
    | succ i =>
      have h' : cellAt (cut z n (cs.drop z)) i j = some x := by simpa [cut, cellAt] using h
      have := cut_get z n _ i j x h'
      rw [List.getElem?_drop] at this
      rw [← this, Nat.add_mul]
      congr 1
      omega

theorem repn_length (z : List AV) : ∀ n, (repn z n).length = n * z.length
  | 0 => by simp [repn]
  | n + 1 => by simp [repn, repn_length z n, Nat.add_mul, Nat.add_comm]
theorem repn_get (z : List AV) : ∀ (n j : Nat) (x : AV), (repn z n)[j]? = some x → z[j % z.length]? = some x
  | 0, j, x, h => by simp [repn] at h
  | n + 1, j, x, h => by
    simp only [repn] at h
    rcases Nat.lt_or_ge j z.length with hj | hj
    · rw [List.getElem?_append_left hj] at h
      rwa [Nat.mod_eq_of_lt hj]
    · rw [List.getElem?_append_right hj] at h
      have := repn_get z n _ x h
      rwa [← Nat.mod_eq_sub_mod hj] at this

theorem placesFrom_get (z : Nat) : ∀ (n o i : Nat) (p : Nat × Nat × TypeId), (placesFrom z o n)[i]? = some p → p = (o + i * z, z, 0) ∧ i < n
  | 0, o, i, p, h => by simp [placesFrom] at h
  | n + 1, o, i, p, h => by
    cases i with
    | zero => simp only [placesFrom, List.getElem?_cons_zero, Option.some.injEq] at h; subst h; simp
    | succ i =>
      obtain ⟨h1, h2⟩ := placesFrom_get z n (o + z) i p (by simpa [placesFrom] using h)
      refine ⟨?_, by omega⟩
      rw [h1, Nat.add_mul]
      simp [Nat.add_assoc, Nat.add_comm z]

theorem fill_mono {p q : Nat → Option (Nat × Nat)} (hpq : ∀ i x, p i = some x → q i = some x) : ∀ (l : List (Nat × Value)) (cs us : Array Value), Instr.fill p cs l = some us → Instr.fill q cs l = some us
  | [], _, _, h => h
  | (i, v) :: l, cs, us, h => by
    simp only [Instr.fill] at h ⊢
    cases hp : p i with
    | none => simp [hp] at h
    | some x =>
      rw [hpq i x hp]
      simp only [hp] at h ⊢
      split at h
      · cases h
      · rename_i hc; rw [if_neg hc]; exact fill_mono hpq l _ us h

/-- A slice laid out: its cells. -/
theorem bsl_ok (hty : TyOK P ty) (hs : Sim E lo G S a w) {t : TypeId} {len : Nat} {parts : Array (Nat × Operand)} {s : Nat} {rows : List (List AV)} (h : bsl ty t len parts.toList S.T = some (s, rows)) :
    ∃ (us : Array Value) (e : TypeId), (Instr.buildSlice t len (parts.map fun (i, x) => (i, a.eval x))).run P w = .ok (.slice (some ⟨w.heap.size, 0, none⟩) len len) (w.alloc (.cells us e)) ∧ 0 < s ∧ rows.length = len ∧ len * s ≤ maxLen ∧ len ≤ maxLen ∧ us.size = len * s ∧
      (∀ r ∈ rows, r.length = s) ∧ ∀ i j x, cellAt rows i j = some x → x.one = true ∧ Rep G w x (us.getD (i * s + j) Go.undef) := by
  unfold bsl at h
  split at h
  · rename_i e h0
    have hu := kind_slice (hty _ _ h0) rfl
    split at h
    · rename_i s' by_ ag z kd h1
      split at h
      · rename_i hs0
        have hs0 : 0 < s' := by simpa [Nat.blt_eq] using hs0
        split at h
        · rename_i hsm
          have hsm := Nat.le_of_ble_eq_true hsm
          split at h
          · rename_i hzl
            have hzl := Nat.eq_of_beq_eq_true hzl
            split at h
            · rename_i hzv
              obtain ⟨i, hi, hisz, _, hz⟩ := ti_size (hty _ _ h1)
              obtain ⟨zv, hzv', hza⟩ := Option.bind_eq_some_iff.1 hz
              have hzr := toAV_rep hza G w
              have hcases : (∀ vs, z ≠ .tup vs) ∧ ∃ cs, fillA (placesFrom s' 0 len) S.T parts.toList (repn z.cellsOf len) = some cs ∧ s = s' ∧ rows = cut s' len cs := by
                split at h
                · cases h
                · rename_i hnt
                  split at h
                  · rename_i cs hcs
                    simp only [Option.some.injEq, Prod.mk.injEq] at h
                    exact ⟨hnt, cs, hcs, h.1.symm, h.2.symm⟩
                  · cases h
              obtain ⟨hnt, cs, hcs, rfl, rfl⟩ := hcases
              have hisz : i.size = s := hisz
              obtain ⟨c1, c2⟩ := hzr.cells hzv hnt
              have hzs : zv.cells.size = s := by omega
              -- the zero cells
              have hzero : CellsRep G w (repn z.cellsOf len) ((Array.range (len * s)).map (zv.cells[· % zv.cells.size]!)) := by
                refine ⟨by rw [repn_length]; simp [hzl], fun j x hx => ?_⟩
                have hj := (List.getElem?_eq_some_iff.1 hx).1
                rw [repn_length, hzl] at hj
                have hx' := repn_get _ _ _ _ hx
                obtain ⟨d1, d2⟩ := c2 _ x hx'
                refine ⟨d1, ?_⟩
                have hm : j % zv.cells.size < zv.cells.size := Nat.mod_lt _ (by omega)
                have : ((Array.range (len * s)).map (zv.cells[· % zv.cells.size]!)).getD j Go.undef = zv.cells.getD (j % z.cellsOf.length) Go.undef := by
                  rw [Array.getD_eq_getD_getElem?, Array.getElem?_map]
                  simp only [Array.getElem?_range, hj, if_true, Option.map_some, Option.getD_some]
                  rw [← c1, getElem!_pos zv.cells _ hm, Array.getD_eq_getD_getElem?, Array.getElem?_eq_getElem hm]
                  rfl
                rw [this]; exact d2
              obtain ⟨us, f1, f2⟩ := fillA_ok hs hcs hzero
              have f1' : Instr.fill (fun i => some (i * s, s)) ((Array.range (len * s)).map (zv.cells[· % zv.cells.size]!)) (parts.toList.map fun p => (p.1, a.eval p.2)) = some us := by
                refine fill_mono (fun i x hx => ?_) _ _ _ f1
                obtain ⟨p, hp, rfl⟩ := Option.map_eq_some_iff.1 hx
                obtain ⟨rfl, _⟩ := placesFrom_get _ _ _ _ _ hp
                simp
              have hcl : cs.length = len * s := by
                have h1 := f2.1
                have h2 : us.size = len * s := by
                  have : ∀ (l : List (Nat × Value)) (p : Nat → Option (Nat × Nat)) (c u : Array Value), Instr.fill p c l = some u → u.size = c.size := by
                    intro l
                    induction l with
                    | nil => intro p c u hf; simp only [Instr.fill, Option.some.injEq] at hf; rw [hf]
                    | cons q l ih =>
                      obtain ⟨i, v⟩ := q
                      intro p c u hf
                      simp only [Instr.fill] at hf
                      split at hf
                      · cases hf
                      · split at hf
                        · cases hf
                        · rename_i hcnd
                          rw [ih _ _ _ hf, ← Array.foldl_toList, Array.toList_zipIdx, setAll_size]
                  rw [this _ _ _ _ f1']; simp
                omega
              refine ⟨us, e, ?_, hs0, cut_length _ _ _, ?_, ?_, by rw [f2.1, hcl], cut_row _ _ _ (by omega), fun i j x hx => f2.2 _ x (cut_get _ _ _ _ _ _ hx)⟩
              · have e1 : (parts.map fun (i, x) => (i, a.eval x)).toList = parts.toList.map fun p => (p.1, a.eval p.2) := by rw [Array.toList_map]
                rcases Nat.eq_zero_or_pos len with rfl | hlen
                · have hus : us.size = 0 := by rw [f2.1, hcl]; simp
                  have hus : us = #[] := Array.eq_empty_of_size_eq_zero hus
                  rw [← e1, ← hisz] at f1'
                  have e2 : ∀ (g : Nat → Value), (Array.range (0 * i.size)).map g = #[] := by intro g; simp
                  rw [e2] at f1'
                  have f3 : Instr.fill (fun k => some (k * i.size, i.size)) #[] (Array.map (fun x => (x.fst, a.eval x.snd)) parts).toList = some us := f1'
                  have e3 : Array.map (fun _ => (default : Value)) (Array.range 0) = #[] := by simp
                  simp only [Array.toList_map] at f3
                  simp [Instr.buildSlice, run_underlying hu, sizeOf, typeInfo, hi, newRow, e3, f3]
                · refine run_buildSlice w t e len _ us i zv hu hi hzv' (by rw [hisz]; omega) ?_ ?_
                  · rw [hisz]
                    have := Nat.mul_pos hlen hs0
                    omega
                  · rw [hisz, e1]; exact f1'
              · have : maxLen = 9223372036854775807 := rfl
                omega
              · have h1 : len * 1 ≤ len * s := Nat.mul_le_mul_left len hs0
                have : maxLen = 9223372036854775807 := rfl
                omega
            · cases h
          · cases h
        · cases h
      · cases h
    · cases h
  · cases h
end
end Go.Proofs.Ytecpiplfjmmccaa.AM
