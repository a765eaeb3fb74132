/-
  Tracked memory: an operation does what its action says (mem_ok). The rest of maps; objects; slices that turn.
  Conditions: the table of types tells of the program's.
-/
import Derived.Test.YtecpiplfjmmccaaAmMem
namespace Go.Proofs.Ytecpiplfjmmccaa.AM
open Go

section
variable {E : Env} {P : Program} {ty : TypeId → Option TI} {md : Nat → Nat} {lo : Nat → Nat} {G : Gh} {S : AS} {a : Act} {w : World} {o : Oper}

theorem does_est (hs : Sim E lo G S a w) {t : TypeId} {m s v : Operand} {id : Nat} {sk : IntKind} {sn : Int} {x : AV} {K : AV → AH → Prop} (ho : o.op = .entryStore t m s v) (hm : evA S.T m = .map id) (hsv : evA S.T s = .int sk sn)
    (hx : okV (evA S.T v) = some x) (hp : (MAct.est id sn x).P S.H K) : Does P E lo G S a w o K := by
  obtain ⟨dst, op, type, pos, after, guard⟩ := o
  simp only at ho
  subst ho
  obtain ⟨rfl, hxv⟩ := okV_ok hx
  obtain ⟨q, es, i, n, y, hb, hi, hK⟩ := hp.out
  obtain ⟨b, hev, hmb⟩ := ev_map hs hm
  have hse := ev_int hs hsv
  have hr := (evA_ok hs v).rep (.inl hxv)
  obtain ⟨en, clock, hat⟩ := map_at hs.h hb hmb
  have hob := MapKept.run_getObj_map (P := P) hat.1
  have hso := fun o => MapKept.run_setObj_map (P := P) (w := w) o hat.1
  obtain ⟨e, he, hborn⟩ := hat.2.2.2.2 sn i rfl
  have hfi : en.findIdx? (fun e => (e.born : Int) == sn) = some i := by
    have hlt := (Array.getElem?_eq_some_iff.1 he).1
    have hei := (Array.getElem?_eq_some_iff.1 he).2
    rw [Array.findIdx?_eq_some_iff_getElem]
    refine ⟨hlt, by simp [hei, hborn], fun j hj => ?_⟩
    intro hc
    have hd := ((MapKept.stamped_iff en clock).1 hat.2.1).2.1
    have hb1 : (en[j]'(by omega)).born = e.born := by
      have : ((en[j]'(by omega)).born : Int) = e.born := by rw [hborn]; simpa using hc
      omega
    rw [List.Nodup, List.pairwise_iff_getElem] at hd
    exact hd j i (by simp; omega) (by simpa using hlt) hj (by simp [hb1, hei])
  refine ⟨_, _, _, _, hK, map_turn hs hb hmb hat.1 (fun w' _ hle hb' => hat.modify (f := fun e => { e with val := a.eval v }) he hi hxv hr rfl (fun _ _ => rfl) hle hb' none (fun s i h => by cases h)), .inr ⟨?_, rfl⟩⟩
  simp [execOp, Instr.entryStore, hev, hse, asInt, asIntOf, hob, hfi, hso, Result.andThen]

theorem does_look (hty : TyOK P ty) (hs : Sim E lo G S a w) {t : TypeId} {m k : Operand} {ok : Bool} {q : IntKind} {z : AV} {id : Nat} {n : Int} {K : AV → AH → Prop} (ho : o.op = .lookup t m k ok) (ht : mapK ty t = some (q, some z)) (hzv : z.val = true) (hm : evA S.T m = .map id) (hk : evA S.T k = .int q n)
    (hp : (MAct.look id q n z ok).P S.H K) : Does P E lo G S a w o K := by
  obtain ⟨dst, op, type, pos, after, guard⟩ := o
  simp only at ho
  subst ho
  obtain ⟨kt, et, ti, t1, t2, t3, t4⟩ := mapK_ok hty ht
  obtain ⟨es, pd, r, hb, hl, hK⟩ := hp.out
  obtain ⟨b, hev, hmb⟩ := ev_map hs hm
  have hke := ev_int hs hk
  obtain ⟨zv, hz1, hz2⟩ := zero_ok hty t3 t4
  obtain ⟨en, clock, hat⟩ := map_at hs.h hb hmb
  have hob := MapKept.run_getObj_map (P := P) hat.1
  have hck := MapKept.run_checkKey (P := P) (w := w) (k := .int q n) t2 rfl en.isEmpty 9999
  have tup : ∀ {y : AV} {v : Value} {c : Bool}, Rep G w y v → Rep G w (.tup [y, .bool c]) (.tuple #[v, .bool c]) := fun hy => .tup _ _ rfl fun i x hx => by
    match i, hx with
    | 0, hx => simp only [List.getElem?_cons_zero, Option.some.injEq] at hx; subst hx; exact hy
    | 1, hx => simp only [List.getElem?_cons_succ, List.getElem?_cons_zero, Option.some.injEq] at hx; subst hx; exact .bool _
  rcases hat.find n with ⟨f1, f2, f3⟩ | ⟨j, e, y, f1, f2, f3, f4, f5, f6⟩
  · have hr : r = none := by
      cases r with
      | none => rfl
      | some x => exact absurd rfl (f2 _ hl)
    subst hr
    refine ⟨_, _, G, w, hK, hs, .inl ⟨if ok then .tuple #[zv, .bool false] else zv, ?_, ?_⟩⟩
    · simp [execOp, Instr.lookup, hev, hke, run_underlying t1, hob, hck, MapKept.run_findKey t2 f1, hz1, Result.andThen]
    · cases ok
      · exact hz2 _ _
      · exact tup (hz2 _ _)
  · have hr : r = some y := by
      cases r with
      | none => exact absurd rfl (hl _ (List.mem_of_getElem? f4))
      | some x =>
        obtain ⟨i, hi⟩ := List.mem_iff_getElem?.1 hl
        have := Look.uniq hat.keys hi f4
        subst this
        rw [hi] at f4
        simp only [Option.some.injEq, Prod.mk.injEq, true_and] at f4
        rw [f4]
    subst hr
    refine ⟨_, _, G, w, hK, hs, .inl ⟨if ok then .tuple #[e.val, .bool true] else e.val, ?_, ?_⟩⟩
    · simp [execOp, Instr.lookup, hev, hke, run_underlying t1, hob, hck, MapKept.run_findKey t2 f1, Result.andThen]
    · cases ok
      · exact f6
      · exact tup f6

theorem does_del (hty : TyOK P ty) (hs : Sim E lo G S a w) {t t' : TypeId} {m k : Operand} {q : IntKind} {z : Option AV} {id : Nat} {n : Int} {K : AV → AH → Prop} (ho : o.op = .call ⟨.builtin .delete, ⟨[m, k]⟩, ⟨[t, t']⟩⟩) (ht : mapK ty t = some (q, z)) (hm : evA S.T m = .map id) (hk : evA S.T k = .int q n)
    (hp : (MAct.del id q n).P S.H K) : Does P E lo G S a w o K := by
  obtain ⟨dst, op, type, pos, after, guard⟩ := o
  simp only at ho
  subst ho
  obtain ⟨kt, et, ti, t1, t2, _, _⟩ := mapK_ok hty ht
  obtain ⟨es, pd, hb, hK⟩ := hp.out
  obtain ⟨b, hev, hmb⟩ := ev_map hs hm
  have hke := ev_int hs hk
  obtain ⟨en, clock, hat⟩ := map_at hs.h hb hmb
  have hob := MapKept.run_getObj_map (P := P) hat.1
  have hso := fun o => MapKept.run_setObj_map (P := P) (w := w) o hat.1
  have hck := MapKept.run_checkKey (P := P) (w := w) (k := .int q n) t2 rfl en.isEmpty 9999
  have htup : ∀ (G' : Gh) (w' : World), Rep G' w' (.tup []) (.tuple #[]) := fun G' w' => .tup _ _ rfl fun i x hx => by simp at hx
  rcases hat.find n with ⟨f1, f2, f3⟩ | ⟨j, e, y, f1, f2, f3, f4, f5, f6⟩
  · rw [delE_none f2] at hK
    refine ⟨_, _, _, _, hK, map_turn hs hb hmb hat.1 (en' := en) (clock' := clock) (fun w' _ hle hb' => ⟨hb', hat.2.1, hat.2.2.1, fun i m x hx => by obtain ⟨g1, e, g2, g3, g4⟩ := hat.2.2.2.1 i m x hx; exact ⟨g1, e, g2, g3, g4.mono hle⟩, fun s i h => by cases h⟩), .inl ⟨_, ?_, htup _ _⟩⟩
    simp [execOp, resolve, invoke, builtin, Builtin.delete_, hev, hke, run_underlying t1, hob, hck, MapKept.run_findKey t2 f1, hso, Result.andThen]
  · rw [filter_erase hat.keys f4] at hK
    refine ⟨_, _, _, _, hK, map_turn hs hb hmb hat.1 (en' := en.eraseIdxIfInBounds j) (clock' := clock) (fun w' _ hle hb' => ?_), .inl ⟨_, ?_, htup _ _⟩⟩
    · have hjl := (Array.getElem?_eq_some_iff.1 f2).1
      have hel : (en.eraseIdxIfInBounds j).toList = en.toList.eraseIdx j := by
        unfold Array.eraseIdxIfInBounds
        rw [dif_pos hjl, Array.toList_eraseIdx]
      have hget : ∀ i : Nat, (en.eraseIdxIfInBounds j)[i]? = if i < j then en[i]? else en[i + 1]? := fun i => by
        rw [← Array.getElem?_toList, hel, List.getElem?_eraseIdx, Array.getElem?_toList, Array.getElem?_toList]
      refine ⟨hb', MapKept.stamped_erase hat.2.1 j, ?_, fun i m x hx => ?_, fun s i h => by cases h⟩
      · have : (en.eraseIdxIfInBounds j).toList.length = es.length - 1 := by
          rw [hel, List.length_eraseIdx, if_pos (by simpa using hjl)]
          simp [hat.2.2.1]
        have hjl' := (List.getElem?_eq_some_iff.1 f4).1
        rw [List.length_eraseIdx, if_pos hjl', ← Array.length_toList]
        exact this
      · rw [List.getElem?_eraseIdx] at hx
        rw [hget]
        split at hx
        · rename_i hij
          obtain ⟨g1, e, g2, g3, g4⟩ := hat.2.2.2.1 i m x hx
          exact ⟨g1, e, by rw [if_pos hij]; exact g2, g3, g4.mono hle⟩
        · rename_i hij
          obtain ⟨g1, e, g2, g3, g4⟩ := hat.2.2.2.1 _ m x hx
          exact ⟨g1, e, by rw [if_neg hij]; exact g2, g3, g4.mono hle⟩
    · simp [execOp, resolve, invoke, builtin, Builtin.delete_, hev, hke, run_underlying t1, hob, hck, MapKept.run_findKey t2 f1, hso, Result.andThen]

theorem does_mlen (hty : TyOK P ty) (hs : Sim E lo G S a w) {t : TypeId} {m : Operand} {q : IntKind} {z : Option AV} {id : Nat} {K : AV → AH → Prop} (ho : o.op = .call ⟨.builtin .len, ⟨[m]⟩, ⟨[t]⟩⟩) (ht : mapK ty t = some (q, z)) (hm : evA S.T m = .map id)
    (hp : (MAct.mlen id).P S.H K) : Does P E lo G S a w o K := by
  obtain ⟨dst, op, type, pos, after, guard⟩ := o
  simp only at ho
  subst ho
  obtain ⟨kt, et, ti, t1, t2, _, _⟩ := mapK_ok hty ht
  obtain ⟨q', es, pd, hb, hK⟩ := hp
  obtain ⟨b, hev, hmb⟩ := ev_map hs hm
  obtain ⟨en, clock, hat⟩ := map_at hs.h hb hmb
  have hob := MapKept.run_getObj_map (P := P) hat.1
  refine ⟨_, _, G, w, hK, hs, .inl ⟨.int .i64 en.size, ?_, by rw [hat.2.2.1]; exact .int _ _⟩⟩
  simp [execOp, resolve, invoke, builtin, Builtin.len_, hev, run_underlying t1, hob, Result.andThen, goInt]

theorem newC_new {d : Option Tmp} {x : Op} {T : List (Nat × AV)} {cs : List AV} (h : newC ty x T = some cs) (_ : o.op = x) (_ : S.T = T) (_ : d = d) : newC ty x T = some cs := h

theorem does_obj (hty : TyOK P ty) (hs : Sim E lo G S a w) {cs : List AV} {K : AV → AH → Prop} (h : newC ty o.op S.T = some cs) (hpos : 0 < cs.length) (hp : (MAct.obj cs).P S.H K) : Does P E lo G S a w o K := by
  obtain ⟨vs, e, h1, h2, h3⟩ := newC_ok (P := P) hty hs h
  obtain ⟨q1, q2, q3⟩ := eff_push hs.h (.cells vs e) cs.length (.rows cs.length [cs]) (fun hle => ⟨rfl, hpos, vs, e, heap_new w _, by simp, by simp [h2], fun i j x hx => by
    obtain ⟨r, hr, hx⟩ := cellAt_some hx
    have hi : i = 0 := by
      have := (List.getElem?_eq_some_iff.1 hr).1
      simp at this; omega
    subst hi
    simp only [List.getElem?_cons_zero, Option.some.injEq] at hr
    subst hr
    obtain ⟨g1, g2⟩ := h3 j x hx
    rw [Nat.zero_mul, Nat.zero_add]
    exact .inr ⟨g1, g2.mono hle⟩⟩)
  refine ⟨_, _, _, _, hp, hs.turn q1 q2 q3, .inl ⟨_, h1, ?_⟩⟩
  have := Rep.ptr (G := G.obj S.H.blks.length w.heap.size cs.length) (w := w.alloc (.cells vs e)) S.H.blks.length 0 0 w.heap.size cs.length (Gh.obj_self _ _ _ _)
  simpa using this

theorem does_epb (hty : TyOK P ty) (hs : Sim E lo G S a w) {cs : List AV} {K : AV → AH → Prop} (h : newC ty o.op S.T = some cs) (hp : (MAct.epb cs).P S.H K) : Does P E lo G S a w o K := by
  obtain ⟨vs, e, h1, h2, h3⟩ := newC_ok (P := P) hty hs h
  obtain ⟨q2, q3⟩ := eff_new hs.h vs e cs.length none rfl (.inl ⟨rfl, rfl⟩)
  have hle := Le.new hs.h (.cells vs e) cs.length none
  refine ⟨_, _, _, _, hp, hs.turn hle q2 q3, .inl ⟨_, h1, ?_⟩⟩
  have := Rep.ep (G := G.new w.heap.size cs.length none) (w := w.alloc (.cells vs e)) cs 0 w.heap.size 0 (fun j => vs.getD j Go.undef) (by simp [Gh.new]) (fun j x hx => by
    rw [Nat.zero_add]
    exact cell_row (heap_new w _) (by have := (List.getElem?_eq_some_iff.1 hx).1; omega)) (fun j x hx => (h3 j x hx).1) (fun j x hx => (h3 j x hx).2.mono hle)
  simpa using this

/-- New rows, tracked. -/
theorem push_rows (hH : HSim G w S.H) {s : Nat} {rows : List (List AV)} {us : Array Value} {e : TypeId} (hs : 0 < s) (hsz : rows.length * s ≤ us.size) (hrow : ∀ r ∈ rows, r.length = s) (hcell : ∀ i j x, cellAt rows i j = some x → RepU G w x (us.getD (i * s + j) Go.undef)) :
    Le G w (G.obj S.H.blks.length w.heap.size s) (w.alloc (.cells us e)) ∧ Ext G S.H w (G.obj S.H.blks.length w.heap.size s) (S.H.push (.rows s rows)) (w.alloc (.cells us e)) ∧ HSim (G.obj S.H.blks.length w.heap.size s) (w.alloc (.cells us e)) (S.H.push (.rows s rows)) :=
  eff_push hH (.cells us e) s (.rows s rows) (fun hle => ⟨rfl, hs, us, e, heap_new w _, hrow, hsz, fun i j x hx => (hcell i j x hx).mono hle⟩)
theorem rep_ms_new (H : AH) (s : Nat) (us : Array Value) (e : TypeId) (len cap : Nat) (h1 : len ≤ cap) (h2 : cap ≤ maxLen) (hsz : us.size = cap * s) : Rep (G.obj H.blks.length w.heap.size s) (w.alloc (.cells us e)) (.ms s H.blks.length 0 len) (.slice (some ⟨w.heap.size, 0, none⟩) len cap) := by
  refine .ms _ _ _ _ _ _ h1 h2 (.inl ⟨w.heap.size, by simp, Gh.obj_self _ _ _ _, e, ?_⟩)
  unfold World.shape?
  rw [heap_new]
  simp [hsz]

theorem does_mks (hty : TyOK P ty) (hs : Sim E lo G S a w) {t : TypeId} {len : Nat} {parts : Array (Nat × Operand)} {s : Nat} {rows : List (List AV)} {K : AV → AH → Prop} (ho : o.op = .buildSlice t len parts) (h : bsl ty t len parts.toList S.T = some (s, rows)) (hp : (MAct.mks s rows).P S.H K) : Does P E lo G S a w o K := by
  obtain ⟨dst, op, type, pos, after, guard⟩ := o
  simp only at ho
  subst ho
  obtain ⟨us, e, f1, f2, f3, f4, f5, f6, f7, f8⟩ := bsl_ok hty hs h
  obtain ⟨q1, q2, q3⟩ := push_rows (S := S) (e := e) hs.h f2 (by rw [f3, f6]; exact Nat.le_refl _) f7 (fun i j x hx => .inr (f8 i j x hx))
  refine ⟨_, _, _, _, hp, hs.turn q1 q2 q3, .inl ⟨.slice (some ⟨w.heap.size, 0, none⟩) len len, by simp only [execOp, Sem.run_bind]; erw [f1]; rfl, ?_⟩⟩
  rw [f3]
  exact rep_ms_new _ _ _ _ _ _ (Nat.le_refl _) f5 f6

theorem does_mkz (hty : TyOK P ty) (hs : Sim E lo G S a w) {t : TypeId} {l c : Operand} {s by_ : Nat} {ag : Bool} {z : AV} {kd : TK} {n : Int} {K : AV → AH → Prop} (ho : o.op = .makeSlice t l c) (ht : elemTI ty t = some ⟨s, by_, ag, some z, kd⟩) (hs0 : 0 < s) (hz : elemZ z s = true)
    (hl : evA S.T l = .int .i64 n) (hc : evA S.T c = .int .i64 n) (hp : (MAct.mkz s by_ n z.cellsOf).P S.H K) : Does P E lo G S a w o K := by
  obtain ⟨dst, op, type, pos, after, guard⟩ := o
  simp only at ho
  subst ho
  obtain ⟨⟨hn, hby, hmx⟩, hK⟩ : (0 ≤ n ∧ n * by_ ≤ 140737488355328 ∧ n ≤ 140737488355328) ∧ _ := ⟨hp.side, hp.out⟩
  obtain ⟨e, i, hu, hi, hisz, hiby, hiz⟩ := elemTI_ok hty ht
  have hisz : i.size = s := hisz
  have hiby : i.bytes = by_ := hiby
  obtain ⟨zv, hzv, hza⟩ := Option.bind_eq_some_iff.1 (show i.zero.bind toAV = some z from hiz)
  have hzs : zv.cells.size = s := elemZ_ok w hz hza
  have hrun := run_make (P := P) w t e i zv hu hi hzv .i64 .i64 n n hn (Int.le_refl _) (by rw [hiby, Int.mul_comm]; omega) (by omega)
  have hzrep := toAV_rep hza G w
  have hzval : z.val = true ∧ ∀ vs, z ≠ .tup vs := by
    unfold elemZ at hz
    split at hz
    · cases hz
    · rename_i hnt
      split at hz
      · rename_i hv; exact ⟨hv, hnt⟩
      · cases hz
  obtain ⟨z1, z2⟩ := hzrep.cells hzval.1 hzval.2
  have hzl : z.cellsOf.length = s := by omega
  obtain ⟨m, rfl⟩ := Int.eq_ofNat_of_zero_le hn
  simp only [Int.toNat_natCast] at hrun hK
  rw [hisz] at hrun
  have hus : (madeCells zv.cells (m * s)).size = m * s := size_madeCells _ _
  obtain ⟨q1, q2, q3⟩ := push_rows (S := S) (e := e) (us := madeCells zv.cells (m * s)) (rows := List.replicate m z.cellsOf) hs.h hs0 (by rw [hus, List.length_replicate]; exact Nat.le_refl _)
    (fun r hr => by rw [(List.mem_replicate.1 hr).2]; exact hzl) (fun i' j x hx => by
      obtain ⟨r, hr, hx⟩ := cellAt_some hx
      obtain ⟨hr1, hr2⟩ := List.getElem?_eq_some_iff.1 hr
      simp only [List.getElem_replicate] at hr2
      subst hr2
      simp only [List.length_replicate] at hr1
      have hj := (List.getElem?_eq_some_iff.1 hx).1
      have hlt := row_lt (z := s) (n := m) hr1 (j := j) (by omega)
      obtain ⟨g1, g2⟩ := z2 j x hx
      have hget : (madeCells zv.cells (m * s)).getD (i' * s + j) Go.undef = zv.cells.getD j Go.undef := by
        unfold madeCells
        rw [Array.getD_eq_getD_getElem?, Array.getElem?_map, Array.getElem?_range, if_pos hlt]
        have : (i' * s + j) % zv.cells.size = j := by rw [hzs, Nat.mul_comm, Nat.mul_add_mod, Nat.mod_eq_of_lt (by omega)]
        simp only [Option.map_some, Option.getD_some, this]
        rw [Array.getD_eq_getD_getElem?, getElem!_def]
        have hjz : j < zv.cells.size := by omega
        simp [hjz]
      rw [hget]
      exact .inr ⟨g1, g2⟩)
  refine ⟨_, _, _, _, hK, hs.turn q1 q2 q3, .inl ⟨.slice (some ⟨w.heap.size, 0, none⟩) m m, ?_, ?_⟩⟩
  · simp [execOp, ev_int hs hl, ev_int hs hc, hrun]
  · exact rep_ms_new _ _ _ _ _ _ (Nat.le_refl _) (by have : maxLen = 9223372036854775807 := rfl; omega) hus
end
end Go.Proofs.Ytecpiplfjmmccaa.AM
