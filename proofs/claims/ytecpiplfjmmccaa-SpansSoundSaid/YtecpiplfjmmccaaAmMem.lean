/-
  Tracked memory: an operation does what its action says (mem_ok). Maps.
  Conditions: the table of types tells of the program's.
-/
import Derived.Test.YtecpiplfjmmccaaAmApp
import Derived.Laws.MakeOwn
namespace Go.Proofs.Ytecpiplfjmmccaa.AM
open Go

theorem Look.uniq {es : List (Int × AV)} {n : Int} (hd : es.Pairwise fun p q => p.1 ≠ q.1) {i j : Nat} {x y : AV} (hi : es[i]? = some (n, x)) (hj : es[j]? = some (n, y)) : i = j := by
  apply Decidable.byContradiction
  intro hne
  obtain ⟨h1, e1⟩ := List.getElem?_eq_some_iff.1 hi
  obtain ⟨h2, e2⟩ := List.getElem?_eq_some_iff.1 hj
  rcases Nat.lt_or_gt_of_ne hne with h | h
  · exact List.pairwise_iff_getElem.1 hd i j h1 h2 h (by rw [e1, e2])
  · exact List.pairwise_iff_getElem.1 hd j i h2 h1 h (by rw [e1, e2])
theorem filter_erase : ∀ {es : List (Int × AV)} {n : Int} {j : Nat} {x : AV}, es.Pairwise (fun p q => p.1 ≠ q.1) → es[j]? = some (n, x) → delE es n = es.eraseIdx j
  | [], _, _, _, _, h => by simp at h
  | p :: es, n, 0, x, hd, h => by
    simp only [List.getElem?_cons_zero, Option.some.injEq] at h
    subst h
    simp only [delE, List.eraseIdx_zero, List.tail_cons]
    rw [List.filter_cons_of_neg (by simp)]
    refine List.filter_eq_self.2 fun q hq => ?_
    have := (List.pairwise_cons.1 hd).1 q hq
    simpa using fun e => this e.symm
  | p :: es, n, j + 1, x, hd, h => by
    obtain ⟨h1, h2⟩ := List.pairwise_cons.1 hd
    have h3 : es[j]? = some (n, x) := by simpa using h
    have hp : p.1 ≠ n := h1 _ (List.mem_of_getElem? h3)
    have ih := filter_erase h2 h3
    simp only [delE, List.eraseIdx_cons_succ] at ih ⊢
    rw [List.filter_cons_of_pos (by simpa using hp), ih]
theorem delE_none {es : List (Int × AV)} {n : Int} (h : ∀ p ∈ es, p.1 ≠ n) : delE es n = es := List.filter_eq_self.2 fun q hq => by simpa using h q hq
theorem putE_none {es : List (Int × AV)} {n : Int} {x : AV} (h : ∀ p ∈ es, p.1 ≠ n) : putE es n x = es ++ [(n, x)] := by
  unfold putE; rw [if_neg]; rintro ⟨p, hp, e⟩; exact h p hp e
theorem putE_some {es : List (Int × AV)} {n : Int} {j : Nat} {x y : AV} (hd : es.Pairwise (fun p q => p.1 ≠ q.1)) (h : es[j]? = some (n, y)) : putE es n x = es.set j (n, x) := by
  unfold putE
  rw [if_pos ⟨_, List.mem_of_getElem? h, rfl⟩]
  apply List.ext_getElem?
  intro i
  rw [List.getElem?_map, List.getElem?_set]
  by_cases hij : j = i
  · subst hij
    rw [if_pos rfl, if_pos (List.getElem?_eq_some_iff.1 h).1, h]
    simp
  · rw [if_neg hij]
    cases hi : es[i]? with
    | none => rfl
    | some p =>
      simp only [Option.map_some, Option.some.injEq]
      rw [if_neg]
      intro e
      obtain ⟨m, z⟩ := p
      subst e
      exact hij (Look.uniq hd h hi)

section
variable {E : Env} {P : Program} {ty : TypeId → Option TI} {md : Nat → Nat} {lo : Nat → Nat} {G : Gh} {S : AS} {a : Act} {w : World} {o : Oper}

/-- What stands in a map's block. -/
def MapAt (G : Gh) (w : World) (b : Nat) (k : IntKind) (es : List (Int × AV)) (pd : Option (Int × Nat)) (en : Array MapEntry) (clock : Nat) : Prop :=
  w.heap[b]? = some (.map en clock) ∧ MapKept.Stamped en clock ∧ en.size = es.length ∧
      (∀ (i : Nat) n x, es[i]? = some (n, x) → x.val = true ∧ ∃ e : MapEntry, en[i]? = some e ∧ e.key = .int k n ∧ Rep G w x e.val) ∧
      ∀ n i, pd = some (n, i) → ∃ e : MapEntry, en[i]? = some e ∧ (e.born : Int) = n
theorem MapAt.get {b : Nat} {k : IntKind} {es : List (Int × AV)} {pd : Option (Int × Nat)} {en : Array MapEntry} {clock : Nat} (h : MapAt G w b k es pd en clock) {i : Nat} {e : MapEntry} (he : en[i]? = some e) : ∃ n x, es[i]? = some (n, x) ∧ x.val = true ∧ e.key = .int k n ∧ Rep G w x e.val := by
  have hi := (Array.getElem?_eq_some_iff.1 he).1
  have hlt : i < es.length := by rw [← h.2.2.1]; exact hi
  obtain ⟨h1, e', h2, h3, h4⟩ := h.2.2.2.1 i es[i].1 es[i].2 (List.getElem?_eq_getElem hlt)
  rw [he] at h2
  simp only [Option.some.injEq] at h2
  subst h2
  exact ⟨_, _, List.getElem?_eq_getElem hlt, h1, h3, h4⟩
theorem MapAt.isKey {b : Nat} {k : IntKind} {es : List (Int × AV)} {pd : Option (Int × Nat)} {en : Array MapEntry} {clock : Nat} (h : MapAt G w b k es pd en clock) : ∀ x ∈ en.toList, MapKept.IsKey (.int k) x.key := by
  intro e he
  obtain ⟨i, hi⟩ := Array.mem_iff_getElem?.1 (Array.mem_toList_iff.1 he)
  obtain ⟨n, x, _, _, h3, _⟩ := h.get hi
  rw [h3]; rfl
theorem MapAt.keys {b : Nat} {k : IntKind} {es : List (Int × AV)} {pd : Option (Int × Nat)} {en : Array MapEntry} {clock : Nat} (h : MapAt G w b k es pd en clock) : es.Pairwise fun p q => p.1 ≠ q.1 := by
  have hp := ((MapKept.stamped_iff en clock).1 h.2.1).2.2
  rw [List.pairwise_iff_getElem] at hp ⊢
  intro i j hi hj hij
  have hs := h.2.2.1
  have hi' : i < en.toList.length := by simpa [hs] using hi
  have hj' : j < en.toList.length := by simpa [hs] using hj
  have := hp i j hi' hj' hij
  intro e
  obtain ⟨_, e1, g1, g2, _⟩ := h.2.2.2.1 i es[i].1 es[i].2 (List.getElem?_eq_getElem hi)
  obtain ⟨_, e2, g3, g4, _⟩ := h.2.2.2.1 j es[j].1 es[j].2 (List.getElem?_eq_getElem hj)
  have q1 : en.toList[i] = e1 := by
    have := Array.getElem?_eq_some_iff.1 g1
    obtain ⟨_, q⟩ := this
    simpa using q
  have q2 : en.toList[j] = e2 := by
    have := Array.getElem?_eq_some_iff.1 g3
    obtain ⟨_, q⟩ := this
    simpa using q
  exact this (by rw [q1, q2, g2, g4, e])
/-- Where a key stands, if it stands. -/
theorem MapAt.find {b : Nat} {k : IntKind} {es : List (Int × AV)} {pd : Option (Int × Nat)} {en : Array MapEntry} {clock : Nat} (h : MapAt G w b k es pd en clock) (n : Int) :
    (Instr.findNow (.int k) (.int k n) en.toList 0 = some none ∧ (∀ p ∈ es, p.1 ≠ n) ∧ ∀ x ∈ en.toList, x.key ≠ .int k n) ∨
    ∃ j e x, Instr.findNow (.int k) (.int k n) en.toList 0 = some (some (j, e.val)) ∧ en[j]? = some e ∧ e.key = .int k n ∧ es[j]? = some (n, x) ∧ x.val = true ∧ Rep G w x e.val := by
  rcases MapKept.findNow_spec (d := .int k) (k := .int k n) rfl en.toList 0 h.isKey with ⟨h1, h2⟩ | ⟨j, e, h1, h2, h3⟩
  · refine .inl ⟨h1, fun p hp e => ?_, h2⟩
    obtain ⟨i, hi⟩ := List.mem_iff_getElem?.1 hp
    obtain ⟨_, e', g1, g2, _⟩ := h.2.2.2.1 i p.1 p.2 hi
    exact h2 e' (Array.mem_toList_iff.2 (Array.mem_of_getElem? g1)) (by rw [g2, e])
  · have he : en[j]? = some e := by rwa [Array.getElem?_toList] at h2
    obtain ⟨n', x, g1, g2, g3, g4⟩ := h.get he
    rw [h3] at g3
    simp only [Value.int.injEq, true_and] at g3
    subst g3
    exact .inr ⟨j, e, x, by simpa using h1, he, h3, g1, g2, g4⟩

theorem map_at (hH : HSim G w S.H) {id b : Nat} {k : IntKind} {es : List (Int × AV)} {pd : Option (Int × Nat)} (hb : S.H.blks[id]? = some (.map k es pd)) (hm : G.mb id = some (b, 0)) : ∃ en clock, MapAt G w b k es pd en clock := by
  rcases hH.at_ id _ hb rfl with ⟨b', z, g1, ⟨g2, en, clock, g3⟩, _, _⟩ | ⟨g1, _⟩
  · rw [hm] at g1
    simp only [Option.some.injEq, Prod.mk.injEq] at g1
    rw [g1.1]
    exact ⟨en, clock, g3⟩
  · rw [hm] at g1; cases g1

/-- A map's block turned. -/
theorem map_turn (hs : Sim E lo G S a w) {id b : Nat} {k : IntKind} {es : List (Int × AV)} {pd : Option (Int × Nat)} {en : Array MapEntry} {clock : Nat} (hb : S.H.blks[id]? = some (.map k es pd)) (hm : G.mb id = some (b, 0)) (h : w.heap[b]? = some (.map en clock))
    {en' : Array MapEntry} {clock' : Nat} {es' : List (Int × AV)} {pd' : Option (Int × Nat)} (hn : ∀ w', w' = { w with heap := w.heap.setIfInBounds b (.map en' clock') } → Le G w G w' → w'.heap[b]? = some (.map en' clock') → MapAt G w' b k es' pd' en' clock') :
    Sim E lo G { S with H := S.H.upd id (.map k es' pd') } a { w with heap := w.heap.setIfInBounds b (.map en' clock') } := by
  obtain ⟨g1, g2⟩ := MapKept.heap_set (o' := .map en' clock') h
  have h1 : ∀ k', k' ≠ b → ({ w with heap := w.heap.setIfInBounds b (.map en' clock') } : World).heap[k']? = w.heap[k']? := g2
  have h2 : ({ w with heap := w.heap.setIfInBounds b (.map en' clock') } : World).heap[b]? = some (.map en' clock') := g1
  have h3 : ({ w with heap := w.heap.setIfInBounds b (.map en' clock') } : World).heap.size = w.heap.size := by simp
  have h4 := hn _ rfl
  have h5 : Kin w { w with heap := w.heap.setIfInBounds b (.map en' clock') } := ⟨rfl, rfl, rfl⟩
  generalize ({ w with heap := w.heap.setIfInBounds b (.map en' clock') } : World) = w' at h1 h2 h3 h4 h5 ⊢
  obtain ⟨q1, q2, q3⟩ := eff_blk hs.h hb rfl hm h5 h3 h1 (fun s hsh => by simp [World.shape?, h] at hsh) (B' := .map k es' pd') (fun hle => ⟨rfl, en', clock', h4 hle h2⟩)
  exact hs.turn q1 q2 q3

theorem mapK_ok (hty : TyOK P ty) {t : TypeId} {q : IntKind} {z : Option AV} (h : mapK ty t = some (q, z)) : ∃ k e ti, P.underlying t = some (.map k e) ∧ P.underlying k = some (.int q) ∧ ty e = some ti ∧ ti.zero = z := by
  unfold mapK at h
  split at h
  · rename_i k e h0
    have hu := kind_map (hty _ _ h0) rfl
    split at h
    · rename_i q' h1
      have hk := kind_int (hty _ _ h1) rfl
      split at h
      · rename_i sz by_ ag z' kd h2
        simp only [Option.some.injEq, Prod.mk.injEq] at h
        obtain ⟨rfl, rfl⟩ := h
        exact ⟨k, e, _, hu, hk, h2, rfl⟩
      · cases h
    · cases h
  · cases h
theorem zero_ok (hty : TyOK P ty) {e : TypeId} {ti : TI} {z : AV} (h : ty e = some ti) (hz : ti.zero = some z) : ∃ v, (∀ w, (zeroValue e).run P w = .ok v w) ∧ ∀ (G : Gh) (w : World), Rep G w z v := by
  obtain ⟨i, hi, _, _, h3⟩ := ti_size (hty _ _ h)
  rw [hz] at h3
  obtain ⟨zv, hzv, hza⟩ := Option.bind_eq_some_iff.1 h3
  exact ⟨zv, fun w => by simp [zeroValue, typeInfo, hi, hzv], fun G w => toAV_rep hza G w⟩
theorem ev_map (hs : Sim E lo G S a w) {m : Operand} {id : Nat} (h : evA S.T m = .map id) : ∃ b, a.eval m = .map (some b) ∧ G.mb id = some (b, 0) := by
  have hr := evA_ok hs m
  rw [h] at hr
  have hr := hr.rep (.inl rfl)
  generalize a.eval m = v at hr
  cases hr with
  | map _ b hb => exact ⟨b, rfl, hb⟩
theorem ev_int (hs : Sim E lo G S a w) {m : Operand} {k : IntKind} {n : Int} (h : evA S.T m = .int k n) : a.eval m = .int k n := by
  have hr := evA_ok hs m
  rw [h] at hr
  have hr := hr.rep (.inl rfl)
  generalize a.eval m = v at hr
  cases hr
  rfl
theorem okV_ok {x y : AV} (h : okV x = some y) : x = y ∧ x.val = true := by
  unfold okV at h
  split at h
  · rename_i hv
    split at h
    · cases h
    · simp only [Option.some.injEq] at h; exact ⟨h, hv⟩
  · cases h

/-! ### the actions -/
def Does (P : Program) (E : Env) (lo : Nat → Nat) (G : Gh) (S : AS) (a : Act) (w : World) (o : Oper) (K : AV → AH → Prop) : Prop :=
  ∃ x H' G' w', K x H' ∧ Sim E lo G' { S with H := H' } a w' ∧ ((∃ v, (execOp a.eval o).run P w = .ok (.value v) w' ∧ Rep G' w' x v) ∨ ((execOp a.eval o).run P w = .ok .skip w' ∧ x = .skip))

theorem does_mkMap (hs : Sim E lo G S a w) {t : TypeId} {q : IntKind} {K : AV → AH → Prop} (ho : o.op = .makeMap t none) (hk : (MAct.mkMap q).P S.H K) : Does P E lo G S a w o K := by
  obtain ⟨dst, op, type, pos, after, guard⟩ := o
  simp only at ho
  subst ho
  obtain ⟨q1, q2, q3⟩ := eff_push hs.h (.map #[] 0) 0 (.map q [] none) (fun hle => ⟨rfl, #[], 0, heap_new w _, MapKept.stamped_empty 0, rfl, fun i n x h => by simp at h, fun n i h => by cases h⟩)
  refine ⟨_, _, _, _, hk, hs.turn q1 q2 q3, .inl ⟨.map (some w.heap.size), by simp [execOp, Instr.makeMap], .map _ _ (Gh.obj_self _ _ _ _)⟩⟩

theorem MapAt.push {b : Nat} {k : IntKind} {es : List (Int × AV)} {pd : Option (Int × Nat)} {en : Array MapEntry} {clock : Nat} (h : MapAt G w b k es pd en clock) {n : Int} {x : AV} {v : Value} (hx : x.val = true) (hr : Rep G w x v) (hne : ∀ e ∈ en.toList, e.key ≠ .int k n)
    {w' : World} (hle : Le G w G w') (hb : w'.heap[b]? = some (.map (en.push ⟨.int k n, v, clock⟩) (clock + 1))) (pd' : Option (Int × Nat)) (hp : ∀ s i, pd' = some (s, i) → s = clock ∧ i = es.length) : MapAt G w' b k (es ++ [(n, x)]) pd' (en.push ⟨.int k n, v, clock⟩) (clock + 1) := by
  obtain ⟨h1, h2, h3, h4, h5⟩ := h
  refine ⟨hb, MapKept.stamped_push h2 hne, by simp [h3], fun i m y hy => ?_, fun s i hpd => ?_⟩
  · rcases Nat.lt_or_ge i es.length with hi | hi
    · rw [List.getElem?_append_left hi] at hy
      obtain ⟨g1, e, g2, g3, g4⟩ := h4 i m y hy
      exact ⟨g1, e, by rw [Array.getElem?_push, if_neg (by omega)]; exact g2, g3, g4.mono hle⟩
    · rw [List.getElem?_append_right hi] at hy
      have hi0 : i = es.length := by
        have := (List.getElem?_eq_some_iff.1 hy).1
        simp at this; omega
      subst hi0
      simp only [Nat.sub_self, List.getElem?_cons_zero, Option.some.injEq, Prod.mk.injEq] at hy
      obtain ⟨rfl, rfl⟩ := hy
      exact ⟨hx, _, by rw [Array.getElem?_push, if_pos h3.symm], rfl, hr.mono hle⟩
  · obtain ⟨rfl, rfl⟩ := hp s i hpd
    exact ⟨_, by rw [Array.getElem?_push, if_pos h3.symm], rfl⟩
theorem MapAt.modify {b : Nat} {k : IntKind} {es : List (Int × AV)} {pd : Option (Int × Nat)} {en : Array MapEntry} {clock : Nat} (h : MapAt G w b k es pd en clock) {j : Nat} {e : MapEntry} {n : Int} {y : AV} (he : en[j]? = some e) (hj : es[j]? = some (n, y)) {x : AV} {v : Value} (hx : x.val = true) (hr : Rep G w x v)
    {f : MapEntry → MapEntry} (hf : f e = { e with val := v }) (hf2 : ∀ e' ∈ en.toList, (f e').born = e'.born) {w' : World} (hle : Le G w G w') (hb : w'.heap[b]? = some (.map (en.modify j f) clock)) (pd' : Option (Int × Nat)) (hp : ∀ s i, pd' = some (s, i) → s = e.born ∧ i = j) : MapAt G w' b k (es.set j (n, x)) pd' (en.modify j f) clock := by
  obtain ⟨h1, h2, h3, h4, h5⟩ := h
  have hjl := (List.getElem?_eq_some_iff.1 hj).1
  have hkey : e.key = .int k n := by
    obtain ⟨_, e', g1, g2, _⟩ := h4 j n y hj
    rw [he] at g1
    simp only [Option.some.injEq] at g1
    rw [g1]; exact g2
  refine ⟨hb, MapKept.stamped_modify h2 j f hf2 (fun e' _ he' => by rw [he] at he'; simp only [Option.some.injEq] at he'; subst he'; rw [hf]), by simp [h3], fun i m z hz => ?_, fun s i hpd => ?_⟩
  · rw [List.getElem?_set] at hz
    rw [Array.getElem?_modify]
    by_cases hij : j = i
    · subst hij
      rw [if_pos rfl, if_pos hjl] at hz
      simp only [Option.some.injEq, Prod.mk.injEq] at hz
      obtain ⟨rfl, rfl⟩ := hz
      refine ⟨hx, f e, by rw [if_pos rfl, he]; rfl, by rw [hf]; exact hkey, by rw [hf]; exact hr.mono hle⟩
    · rw [if_neg hij] at hz
      obtain ⟨g1, e', g2, g3, g4⟩ := h4 i m z hz
      exact ⟨g1, e', by rw [if_neg hij]; exact g2, g3, g4.mono hle⟩
  · obtain ⟨rfl, rfl⟩ := hp s i hpd
    exact ⟨f e, by rw [Array.getElem?_modify, if_pos rfl, he]; rfl, by rw [hf]⟩

theorem does_put (hty : TyOK P ty) (hs : Sim E lo G S a w) {t : TypeId} {m k v : Operand} {q : IntKind} {z : Option AV} {id : Nat} {n : Int} {x : AV} {K : AV → AH → Prop} (ho : o.op = .mapUpdate t m k v) (ht : mapK ty t = some (q, z)) (hm : evA S.T m = .map id) (hk : evA S.T k = .int q n)
    (hx : okV (evA S.T v) = some x) (hp : (MAct.put id q n x).P S.H K) : Does P E lo G S a w o K := by
  obtain ⟨dst, op, type, pos, after, guard⟩ := o
  simp only at ho
  subst ho
  obtain ⟨rfl, hxv⟩ := okV_ok hx
  obtain ⟨kt, et, ti, t1, t2, _, _⟩ := mapK_ok hty ht
  obtain ⟨es, pd, hb, hK⟩ := hp.out
  obtain ⟨b, hev, hmb⟩ := ev_map hs hm
  have hke := ev_int hs hk
  have hr := (evA_ok hs v).rep (.inl hxv)
  obtain ⟨en, clock, hat⟩ := map_at hs.h hb hmb
  have hob := MapKept.run_getObj_map (P := P) hat.1
  have hso := fun o => MapKept.run_setObj_map (P := P) (w := w) o hat.1
  have hck := MapKept.run_checkKey (P := P) (w := w) (k := .int q n) t2 rfl false 9999
  rcases hat.find n with ⟨f1, f2, f3⟩ | ⟨j, e, y, f1, f2, f3, f4, f5, f6⟩
  · rw [putE_none f2] at hK
    refine ⟨_, _, _, _, hK, map_turn hs hb hmb hat.1 (fun w' _ hle hb' => hat.push hxv hr f3 hle hb' none (fun s i h => by cases h)), .inr ⟨?_, rfl⟩⟩
    simp [execOp, Instr.mapUpdate, hev, hke, run_underlying t1, hob, hck, MapKept.run_findKey t2 f1, hso, Result.andThen]
  · rw [putE_some hat.keys f4] at hK
    refine ⟨_, _, _, _, hK, map_turn hs hb hmb hat.1 (fun w' _ hle hb' => hat.modify (f := fun e => { e with key := .int q n, val := a.eval v }) f2 f4 hxv hr (by rw [← f3]) (fun _ _ => rfl) hle hb' none (fun s i h => by cases h)), .inr ⟨?_, rfl⟩⟩
    simp [execOp, Instr.mapUpdate, hev, hke, run_underlying t1, hob, hck, MapKept.run_findKey t2 f1, f2, f3, MapKept.run_keyThatStays (d := .int q) (k := .int q n) rfl, hso, Result.andThen]

theorem does_ent (hty : TyOK P ty) (hs : Sim E lo G S a w) {t : TypeId} {m k : Operand} {q : IntKind} {z : AV} {id : Nat} {n : Int} {K : AV → AH → Prop} (ho : o.op = .mapEntry t m k) (ht : mapK ty t = some (q, some z)) (hzv : z.val = true) (hm : evA S.T m = .map id) (hk : evA S.T k = .int q n)
    (hp : (MAct.ent id q n z).P S.H K) : Does P E lo G S a w o K := by
  obtain ⟨dst, op, type, pos, after, guard⟩ := o
  simp only at ho
  subst ho
  obtain ⟨kt, et, ti, t1, t2, t3, t4⟩ := mapK_ok hty ht
  obtain ⟨es, pd, es', i, x, hb, hc, hK⟩ := hp.out
  obtain ⟨b, hev, hmb⟩ := ev_map hs hm
  have hke := ev_int hs hk
  obtain ⟨zv, hz1, hz2⟩ := zero_ok hty t3 t4
  obtain ⟨en, clock, hat⟩ := map_at hs.h hb hmb
  have hob := MapKept.run_getObj_map (P := P) hat.1
  have hso := fun o => MapKept.run_setObj_map (P := P) (w := w) o hat.1
  have hck := MapKept.run_checkKey (P := P) (w := w) (k := .int q n) t2 rfl false 9999
  have tup : ∀ {G' : Gh} {w' : World} {y : AV} {v : Value} {s : Int}, Rep G' w' y v → Rep G' w' (.tup [y, .int .i64 s]) (.tuple #[v, .int .i64 s]) := fun hy => .tup _ _ rfl fun i x hx => by
    match i, hx with
    | 0, hx => simp only [List.getElem?_cons_zero, Option.some.injEq] at hx; subst hx; exact hy
    | 1, hx => simp only [List.getElem?_cons_succ, List.getElem?_cons_zero, Option.some.injEq] at hx; subst hx; exact .int _ _
  rcases hat.find n with ⟨f1, f2, f3⟩ | ⟨j, e, y, f1, f2, f3, f4, f5, f6⟩
  · rcases hc with ⟨hc, _⟩ | ⟨_, rfl, rfl, rfl⟩
    · exact absurd rfl (f2 _ (List.mem_of_getElem? hc))
    refine ⟨_, _, _, _, hK clock, map_turn hs hb hmb hat.1 (fun w' _ hle hb' => hat.push hzv (hz2 _ _) f3 hle hb' _ (fun s i h => by simpa using ⟨(congrArg Prod.fst (Option.some.inj h)).symm, (congrArg Prod.snd (Option.some.inj h)).symm⟩)), .inl ⟨.tuple #[zv, .int .i64 clock], ?_, tup ?_⟩⟩
    · simp [execOp, Instr.mapEntry, hev, hke, run_underlying t1, hob, hck, MapKept.run_findKey t2 f1, hz1, hso, Result.andThen, goInt]
    · exact hz2 _ _
  · have hij : es' = es ∧ i = j ∧ x = y := by
      rcases hc with ⟨hc, rfl⟩ | ⟨hc, _⟩
      · have := Look.uniq hat.keys hc f4
        subst this
        rw [hc] at f4
        simp only [Option.some.injEq, Prod.mk.injEq, true_and] at f4
        exact ⟨rfl, rfl, f4⟩
      · exact absurd rfl (hc _ (List.mem_of_getElem? f4))
    obtain ⟨rfl, rfl, rfl⟩ := hij
    have hset : es'.set i (n, x) = es' := by
      apply List.ext_getElem?
      intro k'
      rw [List.getElem?_set]
      split
      · rename_i hk'; subst hk'
        rw [if_pos (List.getElem?_eq_some_iff.1 f4).1, f4]
      · rfl
    have hturn := map_turn (es' := es') (pd' := some ((e.born : Int), i)) (clock' := clock) (en' := en.modify i fun e => { e with key := .int q n }) hs hb hmb hat.1 (fun w' _ hle hb' => by
      have := hat.modify (f := fun e => { e with key := .int q n }) (x := x) (v := e.val) f2 f4 f5 f6 (by rw [← f3]) (fun _ _ => rfl) hle hb' (some ((e.born : Int), i)) (fun s i h => by simpa using ⟨(congrArg Prod.fst (Option.some.inj h)).symm, (congrArg Prod.snd (Option.some.inj h)).symm⟩)
      rwa [hset] at this)
    have hle : Le G w G { w with heap := w.heap.setIfInBounds b (.map (en.modify i fun e => { e with key := .int q n }) clock) } := by
      obtain ⟨g1, g2⟩ := MapKept.heap_set (o' := .map (en.modify i fun e => { e with key := .int q n }) clock) hat.1
      refine Le.of_agree (fun k' hk' => g2 k' (fun e' => ?_)) (fun k' s hsh => ?_)
      · subst e'
        rcases hs.h.at_ id _ hb rfl with ⟨b', z', r1, _, r2, _⟩ | ⟨r1, _⟩
        · rw [hmb] at r1
          simp only [Option.some.injEq, Prod.mk.injEq] at r1
          rw [← r1.1] at r2; omega
        · rw [hmb] at r1; cases r1
      · have hne : k' ≠ b := by rintro rfl; simp [World.shape?, hat.1] at hsh
        rw [← hsh]; exact shape_of_heap (g2 k' hne)
    refine ⟨_, _, _, _, hK e.born, hturn, .inl ⟨.tuple #[e.val, .int .i64 e.born], ?_, tup (f6.mono hle)⟩⟩
    simp [execOp, Instr.mapEntry, hev, hke, run_underlying t1, hob, hck, MapKept.run_findKey t2 f1, f2, f3, MapKept.run_keyThatStays (d := .int q) (k := .int q n) rfl, hso, Result.andThen, goInt]
end
end Go.Proofs.Ytecpiplfjmmccaa.AM
