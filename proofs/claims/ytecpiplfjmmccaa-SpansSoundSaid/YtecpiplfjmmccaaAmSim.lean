/-
  A state without addresses (AS) beside an activation of the machine (Sim), and what becomes of it where memory is laid or written.
  No program in sight. Conditions: none.
-/
import Derived.Test.YtecpiplfjmmccaaAmCore
import Derived.Laws.Tables
import Derived.Laws.CopyRow
import Derived.Deep.Draws
import Derived.Deep.MidRow
namespace Go.Proofs.Ytecpiplfjmmccaa.AM
open Go

structure AS where
  n : Nat
  T : List (Nat × AV)
  L : List (Nat × List AV)
  H : AH
  deriving Inhabited

/-- What a temporary holds: the first entry of its number. -/
def look : List (Nat × AV) → Nat → AV
  | [], _ => .undef
  | (j, x) :: T, i => match Nat.beq j i with
    | true => x
    | false => look T i
def lookL : List (Nat × List AV) → Nat → Option (List AV)
  | [], _ => none
  | (j, x) :: L, i => match Nat.beq j i with
    | true => some x
    | false => lookL L i
theorem look_cons (j : Nat) (x : AV) (T : List (Nat × AV)) (i : Nat) : look ((j, x) :: T) i = if j = i then x else look T i := by
  conv => lhs; unfold look
  split
  · rename_i h; rw [if_pos (Nat.eq_of_beq_eq_true h)]
  · rename_i h; rw [if_neg (Nat.ne_of_beq_eq_false h)]
theorem lookL_cons (j : Nat) (x : List AV) (L : List (Nat × List AV)) (i : Nat) : lookL ((j, x) :: L) i = if j = i then some x else lookL L i := by
  conv => lhs; unfold lookL
  split
  · rename_i h; rw [if_pos (Nat.eq_of_beq_eq_true h)]
  · rename_i h; rw [if_neg (Nat.ne_of_beq_eq_false h)]
/-- A variable's cells turned, in their place. -/
def updL : List (Nat × List AV) → Nat → List AV → List (Nat × List AV)
  | [], i, cs => [(i, cs)]
  | (j, x) :: L, i, cs => match Nat.beq j i with
    | true => (j, cs) :: L
    | false => (j, x) :: updL L i cs
theorem lookL_updL : ∀ (L : List (Nat × List AV)) (i : Nat) (cs : List AV) (k : Nat), lookL (updL L i cs) k = if i = k then some cs else lookL L k
  | [], i, cs, k => by simp only [updL]; rw [lookL_cons]
  | (j, x) :: L, i, cs, k => by
    unfold updL
    split
    · rename_i h
      have h := Nat.eq_of_beq_eq_true h
      subst h
      rw [lookL_cons, lookL_cons]
      split <;> rfl
    · rename_i h
      have h := Nat.ne_of_beq_eq_false h
      rw [lookL_cons, lookL_cons, lookL_updL L i cs k]
      by_cases h1 : j = k
      · rw [if_pos h1, if_pos h1, if_neg (by omega)]
      · rw [if_neg h1, if_neg h1]
theorem look_mem {T : List (Nat × AV)} {i : Nat} {x : AV} (h : look T i = x) (hx : x ≠ .undef) : (i, x) ∈ T := by
  induction T with
  | nil => simp [look] at h; exact absurd h.symm hx
  | cons p T ih =>
    obtain ⟨j, y⟩ := p
    rw [look_cons] at h
    split at h
    · rename_i e; subst e; subst h; exact List.mem_cons_self ..
    · exact List.mem_cons_of_mem _ (ih h)

/-- A value of a temporary: unknown, a place in a variable of this activation (named by the temporary that its address was first laid in), or a value. -/
def RepT (lo : Nat → Nat) (G : Gh) (w : World) (x : AV) (v : Value) : Prop :=
  x = .undef ∨ (∃ i c, x = .lptr i c ∧ v = .pointer (some ⟨lo i, c, none⟩)) ∨ Rep G w x v

structure LSim (G : Gh) (w : World) (lo : Nat → Nat) (L : List (Nat × List AV)) : Prop where
  at_ : ∀ (i : Nat) cs, lookL L i = some cs → ∃ (vs : Array Value) (e : TypeId), w.heap[lo i]? = some (.cells vs e (0, 0)) ∧ vs.size = cs.length ∧ ∀ j x, cs[j]? = some x → RepU G w x (vs.getD j Go.undef)
  free : ∀ (i : Nat) cs, lookL L i = some cs → G.imm (lo i) = 0 ∧ G.own (lo i) = Option.none ∧ ∀ id z, G.mb id ≠ some (lo i, z)
  inj : ∀ (i j : Nat) cs ds, lookL L i = some cs → lookL L j = some ds → lo i = lo j → i = j

/-- Where the call began. -/
structure Env where
  G : Gh
  H : AH
  w : World

structure Sim (E : Env) (lo : Nat → Nat) (G : Gh) (S : AS) (a : Act) (w : World) : Prop where
  t : ∀ i, RepT lo G w (look S.T i) (a.tmps.getD i Go.undef)
  size : S.n = a.tmps.size
  d : a.defers = []
  l : LSim G w lo S.L
  h : HSim G w S.H
  le : Le E.G E.w G w
  ext : Ext E.G E.H E.w G S.H w
  own : ∀ (i : Nat) cs, lookL S.L i = some cs → E.w.heap.size ≤ lo i

theorem RepT.mono {lo : Nat → Nat} {G G' : Gh} {w w' : World} (hle : Le G w G' w') {x : AV} {v : Value} (h : RepT lo G w x v) : RepT lo G' w' x v :=
  h.imp id (fun h => h.imp id (fun h => h.mono hle))

theorem shape_of_heap {w w' : World} {b : Nat} (h : w'.heap[b]? = w.heap[b]?) : w'.shape? b = w.shape? b := by simp [World.shape?, h]
theorem cell_of_heap {w w' : World} {b o : Nat} (h : w'.heap[b]? = w.heap[b]?) : w'.cell? ⟨b, o, none⟩ = w.cell? ⟨b, o, none⟩ := by simp [World.cell?, h]

/-- Only blocks that nothing leans on have turned, and those keep their sizes. -/
theorem Le.of_agree {G : Gh} {w w' : World} (h1 : ∀ b, 0 < G.imm b → w'.heap[b]? = w.heap[b]?) (h2 : ∀ b s, w.shape? b = some s → w'.shape? b = some s) : Le G w G w' :=
  ⟨fun _ _ h => h, fun _ => Nat.le_refl _, fun _ _ h => h, fun b o ho => cell_of_heap (h1 b (by omega)), h2⟩

/-! ### draws -/
theorem Le.drew (G : Gh) (w : World) : Le G w G w.drew := ⟨fun _ _ h => h, fun _ => Nat.le_refl _, fun _ _ h => h, fun _ _ _ => rfl, fun _ _ h => h⟩
theorem BlkAt.heap {G G' : Gh} {w w' : World} {b z : Nat} {B : ABlk} (hle : Le G w G' w') (hh : w'.heap[b]? = w.heap[b]?) (h : BlkAt G w b z B) : BlkAt G' w' b z B := by
  cases B with
  | rows z l =>
    obtain ⟨a, a0, vs, e, h1, h2, h3, h4⟩ := h
    exact ⟨a, a0, vs, e, hh.trans h1, h2, h3, fun i j x hx => (h4 i j x hx).mono hle⟩
  | map kd es pd =>
    obtain ⟨a, en, k, h1, h2, h3, h4, h5⟩ := h
    exact ⟨a, en, k, hh.trans h1, h2, h3, fun i n x hx => by obtain ⟨g, e, h5, h6, h7⟩ := h4 i n x hx; exact ⟨g, e, h5, h6, h7.mono hle⟩, h5⟩
  | dead => trivial

/-- The tracked memory stands: same ghosts; the blocks that they name lie as they lay. -/
theorem HSim.same {G : Gh} {w w' : World} {H : AH} (h : HSim G w H) (hle : Le G w G w') (hsz : w.heap.size ≤ w'.heap.size)
    (hb : ∀ b, (∃ id z, Live H id ∧ G.mb id = some (b, z)) ∨ (∃ c, G.own b = some c) → w'.heap[b]? = w.heap[b]?) : HSim G w' H where
  at_ id B h1 h2 := by
    rcases h.at_ id B h1 h2 with ⟨b, z, h3, h4, h5, h6⟩ | h3
    · exact .inl ⟨b, z, h3, h4.heap hle (hb b (.inl ⟨id, z, ⟨B, h1, h2⟩, h3⟩)), h5, h6⟩
    · exact .inr h3
  inj := h.inj
  ids := h.ids
  chain c z n h1 := by
    obtain ⟨h2, h3⟩ := h.chain c z n h1
    refine ⟨h2, fun hn => ?_⟩
    obtain ⟨b, vs, e, h4, h5, h6, h7⟩ := h3 hn
    exact ⟨b, vs, e, h4, h5, (hb b (.inr ⟨c, h4⟩)).trans h6, h7⟩
  chains := h.chains
  new b hbs := h.new b (by omega)

theorem LSim.same {G : Gh} {w w' : World} {lo : Nat → Nat} {L : List (Nat × List AV)} (h : LSim G w lo L) (hle : Le G w G w') (hb : ∀ (i : Nat) cs, lookL L i = some cs → w'.heap[lo i]? = w.heap[lo i]?) : LSim G w' lo L where
  at_ i cs hi := by
    obtain ⟨vs, e, h2, h3, h4⟩ := h.at_ i cs hi
    exact ⟨vs, e, (hb i cs hi).trans h2, h3, fun j x hx => (h4 j x hx).mono hle⟩
  free := h.free
  inj := h.inj

theorem Ext.same {G0 G : Gh} {H0 H : AH} {w0 w w' : World} (h : Ext G0 H0 w0 G H w) (hos : w'.os = w.os) (ht : w'.tape = w.tape) (ho : w'.output = w.output) (hsz : w.heap.size ≤ w'.heap.size)
    (hb : ∀ b, b < w0.heap.size → ¬ Mut G0 H0 b → w'.heap[b]? = w.heap[b]?) : Ext G0 H0 w0 G H w' where
  os := hos.trans h.os
  tape := ht.trans h.tape
  output := ho.trans h.output
  size := Nat.le_trans h.size hsz
  block b h1 h2 := by
    obtain ⟨a1, a2, a3⟩ := h.block b h1 h2
    exact ⟨(hb b h1 h2).trans a1, a2, a3⟩
  mb := h.mb
  muts := h.muts

/-- Draws alone. -/
theorem Sim.draws {E : Env} {lo : Nat → Nat} {G : Gh} {S : AS} {a : Act} {w : World} (h : Sim E lo G S a w) (n : Nat) : Sim E lo G S a (w.drewN n) := by
  have hle : Le G w G (w.drewN n) := ⟨fun _ _ h => h, fun _ => Nat.le_refl _, fun _ _ h => h, fun _ _ _ => rfl, fun _ _ h => h⟩
  exact { t := fun i => (h.t i).mono hle, size := h.size, d := h.d, l := h.l.same hle (fun _ _ _ => rfl), h := h.h.same hle (Nat.le_refl _) (fun _ _ => rfl)
          le := h.le.trans hle, ext := h.ext.same rfl rfl rfl (Nat.le_refl _) (fun _ _ _ => rfl), own := h.own }

/-- What a temporary holds may be told otherwise. -/
theorem Sim.put {E : Env} {lo : Nat → Nat} {G : Gh} {S : AS} {a : Act} {w : World} (h : Sim E lo G S a w) (d : Option Tmp) {x : AV} {v : Value} (hx : RepT lo G w x v) (hd : ∀ k, d = some k → k < S.n) :
    Sim E lo G { S with T := match d with | some d => (d, x) :: S.T | none => S.T } (a.put d v) w := by
  cases d with
  | none => exact h
  | some d =>
    have hd := hd d rfl
    refine { t := fun i => ?_, size := by simp [Act.put, h.size], d := by simpa [Act.put] using h.d, l := h.l, h := h.h, le := h.le, ext := h.ext, own := h.own }
    simp only [Act.put, look_cons, Array.getD_eq_getD_getElem?, Array.getElem?_setIfInBounds]
    by_cases hdi : d = i
    · subst hdi
      rw [if_pos rfl, if_pos rfl, if_pos (by rw [← h.size]; exact hd)]; exact hx
    · rw [if_neg hdi, if_neg hdi]
      have := h.t i
      rwa [Array.getD_eq_getD_getElem?] at this

/-! ### new blocks -/
theorem heap_new (w : World) (o : Obj) : (w.alloc o).heap[w.heap.size]? = some o := by
  show (w.heap.push o)[w.heap.size]? = some o
  simp
theorem heap_old (w : World) (o : Obj) {b : Nat} (h : b < w.heap.size) : (w.alloc o).heap[b]? = w.heap[b]? := by
  show (w.heap.push o)[b]? = w.heap[b]?
  simp [Array.getElem?_push, Nat.ne_of_lt h]
theorem lt_of_heap {w : World} {b : Nat} {o : Obj} (h : w.heap[b]? = some o) : b < w.heap.size := (Array.getElem?_eq_some_iff.1 h).1
theorem lt_of_shape {w : World} {b : Nat} {s : TypeId × Nat} (h : w.shape? b = some s) : b < w.heap.size := by
  unfold World.shape? at h
  cases hb : w.heap[b]? with
  | none => simp [hb] at h
  | some o => exact lt_of_heap hb
theorem HSim.imm_lt {G : Gh} {w : World} {H : AH} (h : HSim G w H) {b : Nat} (hb : 0 < G.imm b) : b < w.heap.size := by
  rcases Nat.lt_or_ge b w.heap.size with h1 | h1
  · exact h1
  · have := (h.new b h1).1; omega
theorem HSim.own_lt {G : Gh} {w : World} {H : AH} (h : HSim G w H) {b c : Nat} (hb : G.own b = some c) : b < w.heap.size := by
  rcases Nat.lt_or_ge b w.heap.size with h1 | h1
  · exact h1
  · have := (h.new b h1).2.1; rw [hb] at this; cases this
theorem HSim.mb_lt {G : Gh} {w : World} {H : AH} (h : HSim G w H) {id b z : Nat} (hb : G.mb id = some (b, z)) : b < w.heap.size := by
  rcases Nat.lt_or_ge b w.heap.size with h1 | h1
  · exact h1
  · exact absurd hb ((h.new b h1).2.2 id z)
theorem LSim.lt {G : Gh} {w : World} {lo : Nat → Nat} {L : List (Nat × List AV)} (h : LSim G w lo L) {i : Nat} {cs : List AV} (hi : lookL L i = some cs) : lo i < w.heap.size := by
  obtain ⟨vs, e, h2, _⟩ := h.at_ i cs hi
  exact lt_of_heap h2
theorem Le.alloc {G : Gh} {w : World} {H : AH} (h : HSim G w H) (o : Obj) : Le G w G (w.alloc o) :=
  Le.of_agree (fun b hb => heap_old w o (h.imm_lt hb)) (fun b s hs => by rw [← hs]; exact shape_of_heap (heap_old w o (lt_of_shape hs)))

/-- A new block that nothing tells of. -/
theorem Sim.alloc_any {E : Env} {lo : Nat → Nat} {G : Gh} {S : AS} {a : Act} {w : World} (h : Sim E lo G S a w) (o : Obj) : Sim E lo G S a (w.alloc o) := by
  have hle := Le.alloc h.h o
  refine { t := fun i => (h.t i).mono hle, size := h.size, d := h.d, l := h.l.same hle (fun i cs hi => heap_old w o (h.l.lt hi)),
           h := h.h.same hle (by simp) (fun b hb => heap_old w o ?_),
           le := h.le.trans hle, ext := h.ext.same rfl rfl rfl (by simp) (fun b hb _ => heap_old w o (Nat.lt_of_lt_of_le hb h.ext.size)), own := h.own }
  rcases hb with ⟨id, z, _, hb⟩ | ⟨c, hb⟩
  · exact h.h.mb_lt hb
  · exact h.h.own_lt hb

/-- No temporary leads to the variable d. -/
def noL (d : Nat) : List (Nat × AV) → Bool
  | [] => true
  | (_, .lptr j _) :: T => match Nat.beq j d with
    | true => false
    | false => noL d T
  | _ :: T => noL d T
theorem noL_ne {d : Nat} : ∀ {T : List (Nat × AV)} {i j c : Nat}, noL d T = true → (i, AV.lptr j c) ∈ T → j ≠ d
  | [], _, _, _, _, h => by cases h
  | (k, x) :: T, i, j, c, h, hm => by
    rcases List.mem_cons.1 hm with e | hm
    · simp only [Prod.mk.injEq] at e
      obtain ⟨rfl, rfl⟩ := e
      simp only [noL] at h
      split at h
      · cases h
      · rename_i hb; exact Nat.ne_of_beq_eq_false hb
    · have : noL d T = true := by
        cases x <;> simp only [noL] at h <;> first | exact h | skip
        split at h
        · cases h
        · exact h
      exact noL_ne this hm
/-- A new variable of this activation; no temporary leads to an elder one of its name. -/
theorem Sim.alloc_local {E : Env} {lo : Nat → Nat} {G : Gh} {S : AS} {a : Act} {w : World} (h : Sim E lo G S a w) (d : Nat) (hno : noL d S.T = true)
    (vs : Array Value) (e : TypeId) (cs : List AV) (hl : vs.size = cs.length)
    (hr : ∀ (j : Nat) x, cs[j]? = some x → RepU G w x (vs.getD j Go.undef)) : Sim E (fun i => if i = d then w.heap.size else lo i) G { S with L := (d, cs) :: S.L } a (w.alloc (.cells vs e)) := by
  have h' := h.alloc_any (.cells vs e)
  have hle := Le.alloc h.h (.cells vs e)
  have hset : ∀ (i : Nat) c, lookL ((d, cs) :: S.L) i = some c → (i = d ∧ c = cs) ∨ (i ≠ d ∧ lookL S.L i = some c) := by
    intro i c hi
    rw [lookL_cons] at hi
    by_cases e1 : d = i
    · subst e1
      rw [if_pos rfl] at hi
      exact .inl ⟨rfl, by simpa using hi.symm⟩
    · rw [if_neg e1] at hi
      exact .inr ⟨fun e2 => e1 e2.symm, hi⟩
  refine { t := fun i => ?_, size := h.size, d := h.d, l := ?_, h := h'.h, le := h'.le, ext := h'.ext, own := ?_ }
  · rcases h.t i with h1 | ⟨j, c, h1, h2⟩ | h1
    · exact .inl h1
    · refine .inr (.inl ⟨j, c, h1, ?_⟩)
      have : j ≠ d := by
        rintro rfl
        exact noL_ne hno (look_mem h1 (by simp)) rfl
      show a.tmps.getD i Go.undef = .pointer (some ⟨if j = d then w.heap.size else lo j, c, none⟩)
      rw [if_neg this]; exact h2
    · exact .inr (.inr (h1.mono hle))
  · refine { at_ := ?_, free := ?_, inj := ?_ }
    · intro i c hi
      rcases hset i c hi with ⟨rfl, rfl⟩ | ⟨hne, hi⟩
      · rw [if_pos rfl]
        exact ⟨vs, e, heap_new w _, hl, fun j x hx => (hr j x hx).mono hle⟩
      · rw [if_neg hne]
        exact h'.l.at_ i c hi
    · intro i c hi
      rcases hset i c hi with ⟨rfl, rfl⟩ | ⟨hne, hi⟩
      · rw [if_pos rfl]
        exact h.h.new _ (Nat.le_refl _)
      · rw [if_neg hne]
        exact h.l.free i c hi
    · intro i j c c' hi hj he
      rcases hset i c hi with ⟨e1, _⟩ | ⟨hne, hi1⟩ <;> rcases hset j c' hj with ⟨e2, _⟩ | ⟨hne', hj1⟩
      · rw [e1, e2]
      · have he' : w.heap.size = lo j := by simpa [e1, hne'] using he
        have := h.l.lt hj1
        omega
      · have he' : lo i = w.heap.size := by simpa [e2, hne] using he
        have := h.l.lt hi1
        omega
      · exact h.l.inj i j c c' hi1 hj1 (by simpa [hne, hne'] using he)
  · intro i c hi
    rcases hset i c hi with ⟨rfl, rfl⟩ | ⟨hne, hi⟩
    · rw [if_pos rfl]; exact h.ext.size
    · rw [if_neg hne]; exact h.own i c hi

/-- cells from o on replaced -/
def splice (cs : List AV) (o : Nat) (new : List AV) : List AV := cs.take o ++ new ++ cs.drop (o + new.length)
theorem splice_get {α : Type} (cs new : List α) (o j : Nat) (h : o + new.length ≤ cs.length) : (cs.take o ++ new ++ cs.drop (o + new.length))[j]? = if j < o then cs[j]? else if j < o + new.length then new[j - o]? else cs[j]? := by
  have ho : (cs.take o).length = o := by simp; omega
  by_cases h1 : j < o
  · rw [if_pos h1, List.append_assoc, List.getElem?_append_left (by omega), List.getElem?_take_of_lt h1]
  · rw [if_neg h1, List.append_assoc, List.getElem?_append_right (by omega), ho]
    by_cases h2 : j < o + new.length
    · rw [if_pos h2, List.getElem?_append_left (by omega)]
    · rw [if_neg h2, List.getElem?_append_right (by omega), List.getElem?_drop]
      congr 1
      omega

/-- A store into a variable of this activation. -/
theorem Sim.store_local {E : Env} {lo : Nat → Nat} {G : Gh} {S : AS} {a : Act} {w : World} (h : Sim E lo G S a w) {i c : Nat} {cs : List AV} (hi : lookL S.L i = some cs)
    (new : List AV) (nv : List Value) (hl : nv.length = new.length) (hc : c + new.length ≤ cs.length) (hr : ∀ (j : Nat) x, new[j]? = some x → RepU G w x (nv.getD j Go.undef)) :
    ∃ (vs : Array Value) (e : TypeId), w.heap[lo i]? = some (.cells vs e (0, 0)) ∧ c + nv.length ≤ vs.size ∧
      Sim E lo G { S with L := updL S.L i (splice cs c new) } a (w.setRow (lo i) (vs.toList.take c ++ nv ++ vs.toList.drop (c + nv.length)).toArray) := by
  obtain ⟨vs, e, h2, h3, h4⟩ := h.l.at_ i cs hi
  refine ⟨vs, e, h2, by omega, ?_⟩
  obtain ⟨f1, f2, f3⟩ := h.l.free i cs hi
  have hoth : ∀ k, k ≠ lo i → (w.setRow (lo i) (vs.toList.take c ++ nv ++ vs.toList.drop (c + nv.length)).toArray).heap[k]? = w.heap[k]? := fun k hk => setRow_other w (lo i) k _ hk
  have hnew := setRow_heap w (lo i) vs (vs.toList.take c ++ nv ++ vs.toList.drop (c + nv.length)).toArray e (0, 0) h2
  have hsz : (vs.toList.take c ++ nv ++ vs.toList.drop (c + nv.length)).length = vs.size := by simp; omega
  generalize hw : w.setRow (lo i) (vs.toList.take c ++ nv ++ vs.toList.drop (c + nv.length)).toArray = w' at hoth hnew
  have hos : w'.os = w.os ∧ w'.tape = w.tape ∧ w'.output = w.output ∧ w'.heap.size = w.heap.size := by rw [← hw]; simp
  have hle : Le G w G w' := by
    refine Le.of_agree (fun k hk => hoth k (fun e => by subst e; omega)) (fun k s hs => ?_)
    by_cases hk : k = lo i
    · subst hk
      simp only [World.shape?, h2, hnew, Option.some.injEq] at hs ⊢
      rw [← hs]
      simp
      omega
    · rw [← hs]; exact shape_of_heap (hoth k hk)
  have hset : ∀ (k : Nat) d, lookL (updL S.L i (splice cs c new)) k = some d → (k = i ∧ d = splice cs c new) ∨ (k ≠ i ∧ lookL S.L k = some d) := by
    intro k d hk
    rw [lookL_updL] at hk
    by_cases e1 : i = k
    · subst e1
      rw [if_pos rfl] at hk
      exact .inl ⟨rfl, by simpa using hk.symm⟩
    · rw [if_neg e1] at hk
      exact .inr ⟨fun e2 => e1 e2.symm, hk⟩
  refine { t := fun j => (h.t j).mono hle, size := h.size, d := h.d, l := ?_, h := h.h.same hle (by omega) (fun k hk => hoth k ?_), le := h.le.trans hle,
           ext := h.ext.same hos.1 hos.2.1 hos.2.2.1 (by omega) (fun k hk _ => hoth k (fun e => ?_)), own := ?_ }
  · refine { at_ := ?_, free := ?_, inj := ?_ }
    · intro k ck hk
      rcases hset k ck hk with ⟨rfl, rfl⟩ | ⟨hne, hk⟩
      · refine ⟨_, e, hnew, by simp [splice]; omega, fun j x hx => ?_⟩
        unfold splice at hx
        rw [splice_get cs new c j hc] at hx
        have hg : (vs.toList.take c ++ nv ++ vs.toList.drop (c + nv.length)).toArray.getD j Go.undef = ((vs.toList.take c ++ nv ++ vs.toList.drop (c + nv.length))[j]?).getD Go.undef := by
          rw [Array.getD_eq_getD_getElem?]; simp
        rw [hg, splice_get vs.toList nv c j (by simpa using (by omega : c + nv.length ≤ vs.size)), hl]
        by_cases j1 : j < c
        · rw [if_pos j1] at hx ⊢
          have := (h4 j x hx).mono hle
          rwa [Array.getD_eq_getD_getElem?, ← Array.getElem?_toList] at this
        · rw [if_neg j1] at hx ⊢
          by_cases j2 : j < c + new.length
          · rw [if_pos j2] at hx ⊢
            have := (hr _ x hx).mono hle
            rwa [List.getD_eq_getElem?_getD] at this
          · rw [if_neg j2] at hx ⊢
            have := (h4 j x hx).mono hle
            rwa [Array.getD_eq_getD_getElem?, ← Array.getElem?_toList] at this
      · obtain ⟨vs', e', g2, g3, g4⟩ := h.l.at_ k ck hk
        exact ⟨vs', e', (hoth (lo k) (fun eb => hne (h.l.inj k i _ _ hk hi eb))).trans g2, g3, fun j x hx => (g4 j x hx).mono hle⟩
    · intro k d hk
      rcases hset k d hk with ⟨rfl, _⟩ | ⟨_, hk⟩
      · exact ⟨f1, f2, f3⟩
      · exact h.l.free k d hk
    · intro j k c1 c2 hj hk he
      rcases hset j c1 hj with ⟨e1, _⟩ | ⟨_, hj1⟩ <;> rcases hset k c2 hk with ⟨e2, _⟩ | ⟨_, hk1⟩
      · rw [e1, e2]
      · subst e1; exact h.l.inj _ _ _ _ hi hk1 he
      · subst e2; exact h.l.inj _ _ _ _ hj1 hi he
      · exact h.l.inj _ _ _ _ hj1 hk1 he
  · rintro rfl
    rcases hk with ⟨id, z, _, hk⟩ | ⟨cc, hk⟩
    · exact f3 id z hk
    · rw [f2] at hk; cases hk
  · subst e
    have := h.own i cs hi
    omega
  · intro k d hk
    rcases hset k d hk with ⟨rfl, _⟩ | ⟨_, hk⟩
    · exact h.own _ cs hi
    · exact h.own k d hk
end Go.Proofs.Ytecpiplfjmmccaa.AM
