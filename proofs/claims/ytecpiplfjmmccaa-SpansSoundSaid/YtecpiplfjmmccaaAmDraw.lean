/-
  A region whose order is drawn: one order speaks for all, where what is out of order does not meet.
  Conditions: the table of types tells of the program's.
-/
import Derived.Test.YtecpiplfjmmccaaAmCg
namespace Go.Proofs.Ytecpiplfjmmccaa.AM
open Go

/-- The same state, told otherwise. -/
structure Eqv (S S' : AS) : Prop where
  n : S.n = S'.n
  t : ∀ i, look S.T i = look S'.T i
  m : ∀ p, p ∈ S.T ↔ p ∈ S'.T
  l : ∀ i, lookL S.L i = lookL S'.L i
  h : S.H = S'.H
theorem Eqv.refl (S : AS) : Eqv S S := ⟨rfl, fun _ => rfl, fun _ => Iff.rfl, fun _ => rfl, rfl⟩
theorem Eqv.trans {S S' S'' : AS} (h : Eqv S S') (k : Eqv S' S'') : Eqv S S'' := ⟨h.n.trans k.n, fun i => (h.t i).trans (k.t i), fun p => (h.m p).trans (k.m p), fun i => (h.l i).trans (k.l i), h.h.trans k.h⟩
theorem Sim.eqv {E : Env} {lo : Nat → Nat} {G : Gh} {S S' : AS} {a : Act} {w : World} (h : Sim E lo G S a w) (e : Eqv S S') : Sim E lo G S' a w where
  t i := by rw [← e.t]; exact h.t i
  size := by rw [← e.n]; exact h.size
  d := h.d
  l := ⟨fun i cs hi => h.l.at_ i cs (by rw [e.l]; exact hi), fun i cs hi => h.l.free i cs (by rw [e.l]; exact hi), fun i j cs ds hi hj => h.l.inj i j cs ds (by rw [e.l]; exact hi) (by rw [e.l]; exact hj)⟩
  h := by rw [← e.h]; exact h.h
  le := h.le
  ext := by rw [← e.h]; exact h.ext
  own i cs hi := h.own i cs (by rw [e.l]; exact hi)

theorem evA_eqv {S S' : AS} (e : ∀ i, look S.T i = look S'.T i) (x : Operand) : evA S.T x = evA S'.T x := by cases x <;> simp only [evA, e]
theorem noL_iff {d : Nat} : ∀ {T : List (Nat × AV)}, noL d T = true ↔ ∀ i j c, (i, AV.lptr j c) ∈ T → j ≠ d
  | [] => by simp [noL]
  | (k, x) :: T => by
    constructor
    · intro h i j c hm; exact noL_ne h hm
    · intro h
      have ih := (noL_iff (d := d) (T := T)).2 fun i j c hm => h i j c (List.mem_cons_of_mem _ hm)
      cases x <;> simp only [noL] <;> first | exact ih | skip
      rename_i j c
      have hne := h k j c (List.mem_cons_self ..)
      split
      · rename_i hb; exact absurd (Nat.eq_of_beq_eq_true hb) hne
      · exact ih
theorem put_eqv {S S' : AS} (e : Eqv S S') (d : Option Tmp) (x : AV) : Eqv (S.put d x) (S'.put d x) := by
  cases d with
  | none => exact e
  | some d =>
    refine ⟨e.n, fun i => ?_, fun p => ?_, e.l, e.h⟩
    · simp only [AS.put, look_cons, e.t]
    · simp only [AS.put, List.mem_cons, e.m]

section
variable {P : Program} {ty : TypeId → Option TI} {md : Nat → Nat} {qt : FuncId → Bool}

def res (ops : List Oper) (o : Oper) (S : AS) : Option Bool :=
  match o.guard with
  | none => some true
  | some (g, want) => match (ops[g]?).bind (·.dst) with
    | some t => match look S.T t with
      | .bool b => some (b == want)
      | .skip => some false
      | _ => none
    | none => none
theorem B1_iff {ops : List Oper} {o : Oper} {S : AS} {K : AS → Prop} : B1 P ty md qt ops o S K ↔ (res ops o S = some true ∧ B P ty md qt o S K) ∨ (res ops o S = some false ∧ DstOK o S ∧ K (S.put o.dst .skip)) := by
  unfold B1 res
  cases o.guard with
  | none => simp
  | some gw =>
    obtain ⟨g, want⟩ := gw
    dsimp only
    cases ht : (ops[g]?).bind (·.dst) with
    | none => simp
    | some t =>
      simp only [Option.some.injEq, exists_eq_left']
      cases hl : look S.T t <;> simp
      rename_i b
      by_cases hb : b = want
      · subst hb; simp
      · simp [hb]

abbrev Dl := Option (Nat × AV) × Option (Nat × List AV)
def AS.add (S : AS) (D : Dl) : AS := { S with T := D.1.toList ++ S.T, L := D.2.toList ++ S.L }
def dstb (o : Oper) (S : AS) : Bool :=
  match o.dst with
  | some d => decide (d < S.n)
  | none => true
theorem dstb_iff {o : Oper} {S : AS} : dstb o S = true ↔ DstOK o S := by
  unfold dstb DstOK
  cases o.dst <;> simp
def light : Cls → Bool
  | .val | .rd | .new => true
  | _ => false
/-- What an operation that stays in the call lays down. -/
def dl (ty : TypeId → Option TI) (md : Nat → Nat) (qt : FuncId → Bool) (ops : List Oper) (o : Oper) (S : AS) : Option Dl :=
  match dstb o S with
  | false => none
  | true => match res ops o S with
    | none => none
    | some false => some (o.dst.map (·, .skip), none)
    | some true => match cls md qt o with
      | .val | .rd => (vop ty o.op S).map fun x => (o.dst.map (·, x), none)
      | .new => match o.dst with
        | some d => match newC ty o.op S.T with
          | some cs => match noL d S.T with
            | true => some (some (d, .lptr d 0), some (d, cs))
            | false => none
          | none => none
        | none => none
      | _ => none
theorem put_add (S : AS) (d : Option Tmp) (x : AV) : S.put d x = S.add (d.map (·, x), none) := by cases d <;> rfl
theorem B1_light {ops : List Oper} {o : Oper} {S : AS} {K : AS → Prop} (hl : light (cls md qt o) = true) : B1 P ty md qt ops o S K ↔ ∃ D, dl ty md qt ops o S = some D ∧ K (S.add D) := by
  rw [B1_iff]
  unfold dl
  cases hd : dstb o S with
  | false =>
    have hn : ¬ DstOK o S := fun h => by rw [← dstb_iff, hd] at h; cases h
    simp only [reduceCtorEq, false_and, exists_false, iff_false]
    rintro (⟨_, h, _⟩ | ⟨_, h, _⟩) <;> exact hn h
  | true =>
    have hd' := dstb_iff.1 hd
    cases hr : res ops o S with
    | none => simp
    | some b =>
      cases b with
      | false => simp [hd', put_add]
      | true =>
        simp only [true_and, Option.some.injEq, reduceCtorEq, false_and, or_false]
        unfold B
        cases hc : cls md qt o <;> rw [hc] at hl <;> first | (cases hl; done) | skip
        · simp only [hd', true_and]
          constructor
          · rintro ⟨x, h1, h2⟩; exact ⟨_, by rw [h1]; rfl, by rw [← put_add]; exact h2⟩
          · rintro ⟨D, h1, h2⟩
            obtain ⟨x, h3, rfl⟩ := Option.map_eq_some_iff.1 h1
            exact ⟨x, h3, by rw [put_add]; exact h2⟩
        · simp only [hd', true_and]
          constructor
          · rintro ⟨x, h1, h2⟩; exact ⟨_, by rw [h1]; rfl, by rw [← put_add]; exact h2⟩
          · rintro ⟨D, h1, h2⟩
            obtain ⟨x, h3, rfl⟩ := Option.map_eq_some_iff.1 h1
            exact ⟨x, h3, by rw [put_add]; exact h2⟩
        · simp only [hd', true_and]
          constructor
          · rintro ⟨d, cs, h1, h2, h3, h4⟩
            exact ⟨(some (d, .lptr d 0), some (d, cs)), by simp [h1, h2, h3], h4⟩
          · rintro ⟨D, h1, h2⟩
            split at h1
            · rename_i d hd1
              split at h1
              · rename_i cs hcs
                split at h1
                · rename_i hn
                  simp only [Option.some.injEq] at h1
                  subst h1
                  exact ⟨d, cs, hd1, hcs, hn, h2⟩
                · cases h1
              · cases h1
            · cases h1

theorem looks_op {ops : List Oper} {o : Oper} {t : Tmp} (h : Operand.tmp t ∈ o.op.operands) : t ∈ o.looksAt ops.toArray := by
  unfold Oper.looksAt
  refine List.mem_append_left _ (List.mem_filterMap.2 ⟨.tmp t, by simpa using h, rfl⟩)
theorem looks_guard {ops : List Oper} {o : Oper} {g : Nat} {want : Bool} {t : Tmp} (h : o.guard = some (g, want)) (ht : (ops[g]?).bind (·.dst) = some t) : t ∈ o.looksAt ops.toArray := by
  unfold Oper.looksAt
  rw [h]
  refine List.mem_append_right _ ?_
  simp only [List.getElem?_toArray]
  rw [ht]; simp
theorem evA_agr {T T' : List (Nat × AV)} {ops : List Oper} {o : Oper} (h : ∀ t ∈ o.looksAt ops.toArray, look T t = look T' t) : ∀ x ∈ o.op.operands, evA T x = evA T' x := by
  intro x hx
  cases x with
  | tmp t => exact h t (looks_op hx)
  | _ => rfl
theorem res_agr {S S' : AS} {ops : List Oper} {o : Oper} (h : ∀ t ∈ o.looksAt ops.toArray, look S.T t = look S'.T t) : res ops o S = res ops o S' := by
  unfold res
  split
  · rfl
  · rename_i g want hg
    split
    · rename_i t ht; rw [h t (looks_guard hg ht)]
    · rfl

theorem dl_agr {S S' : AS} {ops : List Oper} {o : Oper} (hn : S.n = S'.n) (ht : ∀ t ∈ o.looksAt ops.toArray, look S.T t = look S'.T t)
    (hr : cls md qt o = .rd → (∀ x ∈ o.op.operands, ∀ j c, evA S.T x = .lptr j c → lookL S.L j = lookL S'.L j) ∧ S.H = S'.H) (hw : cls md qt o = .new → ∀ d, o.dst = some d → noL d S.T = noL d S'.T) :
    dl ty md qt ops o S = dl ty md qt ops o S' := by
  have he := evA_agr ht
  unfold dl
  have h1 : dstb o S = dstb o S' := by unfold dstb; rw [hn]
  rw [h1, res_agr ht]
  split
  · rfl
  · split
    · rfl
    · rfl
    · split
      · rename_i hc
        rw [vop_congr he]
        intro t p hp
        unfold cls at hc; rw [hp] at hc; cases hc
      · rename_i hc
        rw [vop_congr he]
        intro t p hp
        obtain ⟨h2, h3⟩ := hr hc
        exact ⟨fun j c hj => h2 p (by rw [hp]; simp [Op.operands]) j c hj, h3⟩
      · rename_i hc
        rw [newC_congr he]
        split
        · rename_i d hd; rw [hw hc d hd]
        · rfl
      · rfl

/-- The delta of a light operation: its destination alone; a place in it has gone in, or is the operation's own. -/
theorem dl_shape {S : AS} {ops : List Oper} {o : Oper} {D : Dl} (h : dl ty md qt ops o S = some D) : (∀ d x, D.1 = some (d, x) → o.dst = some d) ∧
    (∀ d cs, D.2 = some (d, cs) → cls md qt o = .new ∧ o.dst = some d ∧ noL d S.T = true) ∧ (∀ d j c, D.1 = some (d, .lptr j c) → (cls md qt o = .new ∧ o.dst = some j) ∨ ∃ x ∈ o.op.operands, ∃ c', evA S.T x = .lptr j c') := by
  unfold dl at h
  split at h
  · cases h
  · split at h
    · cases h
    · simp only [Option.some.injEq] at h
      subst h
      cases o.dst <;> simp
    · have hv : ∀ {D : Dl}, (vop ty o.op S).map (fun x => (o.dst.map (·, x), (none : Option (Nat × List AV)))) = some D → (∀ d x, D.1 = some (d, x) → o.dst = some d) ∧
          (∀ d cs, D.2 = some (d, cs) → cls md qt o = .new ∧ o.dst = some d ∧ noL d S.T = true) ∧ (∀ d j c, D.1 = some (d, .lptr j c) → (cls md qt o = .new ∧ o.dst = some j) ∨ ∃ x ∈ o.op.operands, ∃ c', evA S.T x = .lptr j c') := by
        intro D h
        obtain ⟨x, hx, rfl⟩ := Option.map_eq_some_iff.1 h
        refine ⟨fun d y hy => ?_, fun d cs hd => (by cases hd), fun d j c hy => .inr ?_⟩
        · obtain ⟨d', hd', e⟩ := Option.map_eq_some_iff.1 hy
          simp only [Prod.mk.injEq] at e
          rw [hd', e.1]
        · obtain ⟨d', hd', e⟩ := Option.map_eq_some_iff.1 hy
          simp only [Prod.mk.injEq] at e
          rw [e.2] at hx
          exact vop_lptr hx
      split at h
      · exact hv h
      · exact hv h
      · rename_i hc
        split at h
        · rename_i d hd
          split at h
          · split at h
            · rename_i hn
              simp only [Option.some.injEq] at h
              subst h
              refine ⟨fun d' x e => ?_, fun d' cs e => ?_, fun d' j c e => .inl ?_⟩
              · simp only [Option.some.injEq, Prod.mk.injEq] at e; rw [hd, e.1]
              · simp only [Option.some.injEq, Prod.mk.injEq] at e; rw [← e.1]; exact ⟨hc, hd, hn⟩
              · simp only [Option.some.injEq, Prod.mk.injEq, AV.lptr.injEq] at e; exact ⟨hc, by rw [hd, e.2.1]⟩
            · cases h
          · cases h
        · cases h
      · cases h

theorem evA_lptr {T : List (Nat × AV)} {x : Operand} {j c : Nat} (h : evA T x = .lptr j c) : ∃ t, (t, AV.lptr j c) ∈ T := by
  cases x with
  | tmp t => exact ⟨t, look_mem h (by simp)⟩
  | const v =>
    simp only [evA] at h
    split at h
    · rename_i y hy
      subst h
      have := toAV_rep hy ⟨fun _ => none, fun _ => 0, fun _ => none⟩ (default : World)
      exact nomatch this
    · cases h
  | func f => cases h
  | global g => cases h
theorem noL_add {d : Nat} {T : List (Nat × AV)} {p : Option (Nat × AV)} (h : ∀ e c, p = some (e, .lptr d c) → noL d T = false) : noL d (p.toList ++ T) = noL d T := by
  cases p with
  | none => rfl
  | some p =>
    obtain ⟨e, x⟩ := p
    simp only [Option.toList_some, List.singleton_append]
    cases x <;> simp only [noL]
    rename_i j c
    split
    · rename_i hb
      have := Nat.eq_of_beq_eq_true hb
      subst this
      exact (h e c rfl).symm
    · rfl

def Apart (ops : List Oper) (x y : Oper) : Prop := (∀ d, x.dst = some d → d ∉ y.looksAt ops.toArray) ∧ (∀ d, x.dst = some d → y.dst ≠ some d) ∧ (∀ d, y.dst = some d → d ∉ x.looksAt ops.toArray)
theorem Apart.symm {ops : List Oper} {x y : Oper} (h : Apart ops x y) : Apart ops y x := ⟨h.2.2, fun d h1 h2 => h.2.1 d h2 h1, h.1⟩

theorem look_add {S : AS} {D : Dl} {t : Nat} (h : ∀ d x, D.1 = some (d, x) → d ≠ t) : look (S.add D).T t = look S.T t := by
  obtain ⟨p, q⟩ := D
  cases p with
  | none => rfl
  | some p =>
    obtain ⟨d, x⟩ := p
    show look ((d, x) :: S.T) t = _
    rw [look_cons, if_neg (h d x rfl)]
theorem lookL_add {S : AS} {D : Dl} {j : Nat} (h : ∀ d x, D.2 = some (d, x) → d ≠ j) : lookL (S.add D).L j = lookL S.L j := by
  obtain ⟨p, q⟩ := D
  cases q with
  | none => rfl
  | some q =>
    obtain ⟨d, x⟩ := q
    show lookL ((d, x) :: S.L) j = _
    rw [lookL_cons, if_neg (h d x rfl)]

theorem dl_add {S : AS} {ops : List Oper} {o o' : Oper} {D : Dl} (ha : Apart ops o' o) (h : dl ty md qt ops o' S = some D) : dl ty md qt ops o (S.add D) = dl ty md qt ops o S := by
  obtain ⟨s1, s2, s3⟩ := dl_shape h
  have hlook : ∀ t ∈ o.looksAt ops.toArray, look (S.add D).T t = look S.T t := fun t ht => look_add fun d x hd e => by
    subst e
    exact ha.1 d (s1 d x hd) ht
  refine dl_agr rfl hlook (fun _ => ⟨fun x hx j c hj => ?_, rfl⟩) (fun _ d hd => ?_)
  · rw [evA_agr hlook x hx] at hj
    obtain ⟨t, ht⟩ := evA_lptr hj
    refine lookL_add fun d cs hd e => ?_
    subst e
    obtain ⟨_, _, hn⟩ := s2 d cs hd
    exact noL_iff.1 hn _ _ _ ht rfl
  · refine noL_add fun e c hp => ?_
    rcases s3 e d c hp with ⟨_, h2⟩ | ⟨x, hx, c', hc'⟩
    · exact absurd hd (ha.2.1 d h2)
    · obtain ⟨t, ht⟩ := evA_lptr hc'
      cases hnb : noL d S.T with
      | false => rfl
      | true => exact absurd rfl (noL_iff.1 hnb _ _ _ ht)

theorem add_comm_eqv {S : AS} {D D' : Dl} (h1 : ∀ d x e y, D.1 = some (d, x) → D'.1 = some (e, y) → d ≠ e) (h2 : ∀ d x e y, D.2 = some (d, x) → D'.2 = some (e, y) → d ≠ e) : Eqv ((S.add D).add D') ((S.add D').add D) := by
  obtain ⟨p, q⟩ := D
  obtain ⟨p', q'⟩ := D'
  refine ⟨rfl, fun i => ?_, fun r => ?_, fun i => ?_, rfl⟩
  · show look (p'.toList ++ (p.toList ++ S.T)) i = look (p.toList ++ (p'.toList ++ S.T)) i
    cases p with
    | none => rfl
    | some p => cases p' with
      | none => rfl
      | some p' =>
        obtain ⟨d, x⟩ := p
        obtain ⟨e, y⟩ := p'
        have := h1 d x e y rfl rfl
        simp only [Option.toList_some, List.singleton_append, look_cons]
        by_cases hd : d = i <;> by_cases he : e = i <;> simp [hd, he]
        exact absurd (hd.trans he.symm) this
  · show r ∈ p'.toList ++ (p.toList ++ S.T) ↔ r ∈ p.toList ++ (p'.toList ++ S.T)
    simp only [List.mem_append]
    exact ⟨fun h => by rcases h with h | h | h <;> simp [h], fun h => by rcases h with h | h | h <;> simp [h]⟩
  · show lookL (q'.toList ++ (q.toList ++ S.L)) i = lookL (q.toList ++ (q'.toList ++ S.L)) i
    cases q with
    | none => rfl
    | some q => cases q' with
      | none => rfl
      | some q' =>
        obtain ⟨d, x⟩ := q
        obtain ⟨e, y⟩ := q'
        have := h2 d x e y rfl rfl
        simp only [Option.toList_some, List.singleton_append, lookL_cons]
        by_cases hd : d = i <;> by_cases he : e = i <;> simp [hd, he]
        exact absurd (hd.trans he.symm) this

/-- What may change places. -/
def clsOK : Cls → Cls → Bool
  | .val, _ => true
  | .rd, .val | .rd, .rd | .rd, .new | .rd, .quiet | .rd, .look => true
  | .new, .val | .new, .rd | .new, .new | .new, .quiet | .new, .call | .new, .look | .new, .mem => true
  | _, _ => false

theorem eopC_agr {S S' : AS} {ops : List Oper} {o : Oper} (ht : ∀ t ∈ o.looksAt ops.toArray, look S.T t = look S'.T t) (hl : S.L = S'.L) (hh : S.H = S'.H) : eopC ty md o S = eopC ty md o S' := by
  have he := evA_agr ht
  unfold eopC
  split
  · rename_i t p x hop
    rw [he p (by rw [hop]; simp [Op.operands]), he x (by rw [hop]; simp [Op.operands]), hl, hh]
  · rename_i t len parts hop
    rw [bsl_congr (T' := S'.T) fun p hp => he p.2 (by rw [hop]; simp only [Op.operands, List.mem_toArray, List.mem_map]; exact ⟨p, hp, rfl⟩), hl, hh]
  · rename_i x y t u hop
    rw [he x (by rw [hop]; simp [Op.operands, Call.operands]), he y (by rw [hop]; simp [Op.operands, Call.operands]), hl, hh]
  · rfl

/-- A light operation may stand behind one that it does not meet. -/
theorem commute {S : AS} {ops : List Oper} {o1 o2 : Oper} {K : AS → Prop} (ha : Apart ops o1 o2) (hc : clsOK (cls md qt o1) (cls md qt o2) = true) (h : B1 P ty md qt ops o1 S fun S1 => B1 P ty md qt ops o2 S1 K) :
    B1 P ty md qt ops o2 S fun S2 => B1 P ty md qt ops o1 S2 fun S3 => ∃ S4, Eqv S4 S3 ∧ K S4 := by
  have hl : light (cls md qt o1) = true := by cases hc1 : cls md qt o1 <;> rw [hc1] at hc <;> first | rfl | (cases hc; done)
  obtain ⟨D, hD, h⟩ := (B1_light hl).1 h
  obtain ⟨s1, s2, s3⟩ := dl_shape hD
  by_cases hl2 : light (cls md qt o2) = true
  · obtain ⟨D', hD', h⟩ := (B1_light hl2).1 h
    rw [dl_add ha hD] at hD'
    refine (B1_light hl2).2 ⟨D', hD', (B1_light hl).2 ⟨D, by rw [dl_add ha.symm hD']; exact hD, _, ?_, h⟩⟩
    obtain ⟨s1', s2', _⟩ := dl_shape hD'
    exact add_comm_eqv (fun d x e y p q r => ha.2.1 d (s1 d x p) (by rw [r]; exact s1' e y q)) (fun d x e y p q r => ha.2.1 d (s2 d x p).2.1 (by rw [r]; exact (s2' e y q).2.1))
  · -- behind a change, or a call
    have hlook : ∀ t ∈ o2.looksAt ops.toArray, look (S.add D).T t = look S.T t := fun t ht => look_add fun d x hd e => by
      subst e
      exact ha.1 d (s1 d x hd) ht
    -- where the light one stands behind S2, it lays down what it laid down ahead
    have light2 : ∀ (L : List (Nat × List AV)) (H : AH) (x : AV), (∀ j c, x ≠ .lptr j c) → (cls md qt o1 = .rd → L = S.L ∧ H = S.H) →
        dl ty md qt ops o1 (({ S with L := L, H := H } : AS).put o2.dst x) = some D := by
      intro L H x hx hrd
      rw [← hD]
      have hlk : ∀ t ∈ o1.looksAt ops.toArray, look (({ S with L := L, H := H } : AS).put o2.dst x).T t = look S.T t := by
        intro t ht
        rw [put_add]
        refine look_add (S := { S with L := L, H := H }) fun d y hd e => ?_
        obtain ⟨d', hd', e'⟩ := Option.map_eq_some_iff.1 hd
        simp only [Prod.mk.injEq] at e'
        subst e
        exact ha.2.2 d (by rw [← e'.1]; exact hd') ht
      refine dl_agr (by cases o2.dst <;> rfl) hlk (fun hr => ⟨fun y hy j c hj => ?_, ?_⟩) (fun _ d hd => ?_)
      · obtain ⟨e1, _⟩ := hrd hr
        subst e1
        cases o2.dst <;> rfl
      · obtain ⟨_, e2⟩ := hrd hr
        subst e2
        cases o2.dst <;> rfl
      · rw [put_add]
        refine noL_add fun e c hp => ?_
        obtain ⟨d', hd', e'⟩ := Option.map_eq_some_iff.1 hp
        simp only [Prod.mk.injEq] at e'
        exact absurd e'.2 (hx _ _)
    have eqv : ∀ (L : List (Nat × List AV)) (H : AH) (x : AV), (D.2 = none ∨ L = S.L) → Eqv (({ (S.add D) with L := D.2.toList ++ L, H := H } : AS).put o2.dst x) ((({ S with L := L, H := H } : AS).put o2.dst x).add D) := by
      intro L H x _
      rw [put_add, put_add]
      have := add_comm_eqv (S := { S with L := L, H := H }) (D := D) (D' := (o2.dst.map (·, x), none)) (fun d y e z p q r => by
        obtain ⟨d', hd', e'⟩ := Option.map_eq_some_iff.1 q
        simp only [Prod.mk.injEq] at e'
        exact ha.2.1 d (s1 d y p) (by rw [r, ← e'.1]; exact hd')) (fun _ _ _ _ _ q => by cases q)
      exact this
    rw [B1_iff] at h ⊢
    rw [res_agr hlook] at h
    have hdst : DstOK o2 (S.add D) → DstOK o2 S := fun h => h
    rcases h with ⟨hr, hd, h⟩ | ⟨hr, hd, h⟩
    · refine .inl ⟨hr, hd, ?_⟩
      cases hc2 : cls md qt o2 <;> rw [hc2] at h hc hl2 <;> first | exact absurd rfl hl2 | skip
      · -- eff
        obtain ⟨L, H, x, φ, g1, g2, g3⟩ := h
        have hval : cls md qt o1 = .val := by cases hc1 : cls md qt o1 <;> rw [hc1] at hc <;> first | rfl | (cases hc; done)
        have hD2 : D.2 = none := by
          cases h2 : D.2 with
          | none => rfl
          | some p => obtain ⟨d, cs⟩ := p; have := (s2 d cs h2).1; rw [hval] at this; cases this
        have hL : (S.add D).L = S.L := by unfold AS.add; rw [hD2]; rfl
        rw [eopC_agr hlook hL rfl] at g1
        refine ⟨L, H, x, φ, g1, g2, (B1_light hl).2 ⟨D, light2 L H x ?_ (fun e => by rw [hval] at e; cases e), _, ?_, g3⟩⟩
        · rintro j c rfl
          unfold eopC at g1
          repeat' split at g1
          all_goals first | (cases g1; done) | skip
          rename_i happ
          simp only [Option.some.injEq, Prod.mk.injEq] at g1
          obtain ⟨_, _, rfl, _⟩ := g1
          unfold app at happ
          repeat' split at happ
          all_goals cases happ
        · have := eqv L H x (.inl hD2)
          rw [hD2] at this
          exact this
      · -- call
        obtain ⟨g, args, g1, g2, g3⟩ := h
        rw [callOf_congr (evA_agr hlook)] at g1
        refine ⟨g, args, g1, g2, g3.mono fun r H' ⟨k1, k2⟩ => ⟨k1, (B1_light hl).2 ⟨D, light2 S.L H' r ?_ ?_, _, eqv S.L H' r (.inr rfl), k2⟩⟩⟩
        · rintro j c rfl; cases k1
        · intro e; rw [e] at hc; cases hc
      · -- a quiet call
        obtain ⟨g, args, g1, g2, g3⟩ := h
        rw [callOf_congr (evA_agr hlook)] at g1
        refine ⟨g, args, g1, g2, g3.mono fun r H' ⟨k0, k1, k2⟩ => ⟨k0, k1, (B1_light hl).2 ⟨D, light2 S.L S.H r ?_ (fun _ => ⟨rfl, rfl⟩), _, eqv S.L S.H r (.inr rfl), k2⟩⟩⟩
        rintro j c rfl; cases k1
      rotate_left
      · -- tracked memory turned
        obtain ⟨m, g1, g2⟩ := h
        rw [mop_congr (evA_agr hlook)] at g1
        refine ⟨m, g1, MAct.mono (m := m) g2 fun r H' ⟨k1, k2⟩ => ⟨k1, (B1_light hl).2 ⟨D, light2 S.L H' r ?_ ?_, _, eqv S.L H' r (.inr rfl), k2⟩⟩⟩
        · rintro j c rfl; cases k1
        · intro e; rw [e] at hc; cases hc
      · -- tracked memory looked at
        obtain ⟨m, g1, g2⟩ := h
        rw [mop_congr (evA_agr hlook)] at g1
        refine ⟨m, g1, MAct.mono (m := m) g2 fun r H' ⟨k1, k0, k2⟩ => ⟨k1, k0, (B1_light hl).2 ⟨D, light2 S.L S.H r ?_ (fun _ => ⟨rfl, rfl⟩), _, eqv S.L S.H r (.inr rfl), k2⟩⟩⟩
        rintro j c rfl; cases k1
      · -- is it nil?
        obtain ⟨neg, t, x, g1, g2, g3⟩ := h
        have hval : cls md qt o1 = .val := by cases hc1 : cls md qt o1 <;> rw [hc1] at hc <;> first | rfl | (cases hc; done)
        have hx : x ∈ o2.op.operands := by
          unfold nilqOf at g1
          split at g1
          · rename_i hop
            simp only [Option.some.injEq, Prod.mk.injEq] at g1
            rw [hop, g1.2.2]; simp [Op.operands]
          · rename_i hop
            simp only [Option.some.injEq, Prod.mk.injEq] at g1
            rw [hop, g1.2.2]; simp [Op.operands]
          · cases g1
        rw [evA_agr hlook x hx] at g3
        exact ⟨neg, t, x, g1, g2, nilqK_mono g3 fun b hb => (B1_light hl).2 ⟨D, light2 S.L S.H (.bool (neg ^^ b)) (by simp) (fun _ => ⟨rfl, rfl⟩), _, eqv S.L S.H (.bool (neg ^^ b)) (.inr rfl), hb⟩⟩
    · exact .inr ⟨hr, hd, (B1_light hl).2 ⟨D, light2 S.L S.H .skip (by simp) (fun _ => ⟨rfl, rfl⟩), _, eqv S.L S.H .skip (.inr rfl), h⟩⟩
end
end Go.Proofs.Ytecpiplfjmmccaa.AM
