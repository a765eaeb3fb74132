/-
  What becomes of the tracked memory: a new block, a row that is written, a slice that grows.
  No program in sight. Conditions: none.
-/
import Derived.Test.YtecpiplfjmmccaaAmPv3
namespace Go.Proofs.Ytecpiplfjmmccaa.AM
open Go

/-- Memory has turned as a call may turn it. -/
theorem Sim.turn {E : Env} {lo : Nat → Nat} {G G' : Gh} {S : AS} {a : Act} {w w' : World} {H' : AH} (h : Sim E lo G S a w) (hle : Le G w G' w') (hx : Ext G S.H w G' H' w') (hh : HSim G' w' H') :
    Sim E lo G' { S with H := H' } a w' := by
  have hfree : ∀ (i : Nat) cs, lookL S.L i = some cs → ¬ Mut G S.H (lo i) := by
    intro i cs hi hm
    obtain ⟨f1, f2, f3⟩ := h.l.free i cs hi
    rcases hm with ⟨id, z, _, hm⟩ | ⟨c, hm⟩
    · exact f3 id z hm
    · rw [f2] at hm; cases hm
  refine { t := fun i => (h.t i).mono hle, size := h.size, d := h.d, l := ?_, h := hh, le := h.le.trans hle, ext := h.ext.trans hx, own := h.own }
  refine { at_ := fun i cs hi => ?_, free := fun i cs hi => ?_, inj := h.l.inj }
  · obtain ⟨vs, e, h2, h3, h4⟩ := h.l.at_ i cs hi
    exact ⟨vs, e, (hx.block _ (h.l.lt hi) (hfree i cs hi)).1.trans h2, h3, fun j x hj => (h4 j x hj).mono hle⟩
  · obtain ⟨f1, f2, f3⟩ := h.l.free i cs hi
    obtain ⟨_, b2, b3⟩ := hx.block _ (h.l.lt hi) (hfree i cs hi)
    refine ⟨b2.trans f1, b3.trans f2, fun id z hm => ?_⟩
    rcases hx.mb id _ _ hm with ⟨id', hm⟩ | hm
    · exact f3 id' z hm
    · have := h.l.lt hi; omega

/-- A new block of cells: m of them never turn; it may be the head of the chain c. -/
def Gh.new (G : Gh) (b m : Nat) (oc : Option Nat) : Gh := ⟨G.mb, fun k => if k = b then m else G.imm k, fun k => if k = b then oc else G.own k⟩

theorem Le.new {G : Gh} {w : World} {H : AH} (h : HSim G w H) (o : Obj) (m : Nat) (oc : Option Nat) : Le G w (G.new w.heap.size m oc) (w.alloc o) where
  mb _ _ e := e
  imm b := by
    unfold Gh.new; dsimp only
    split
    · rename_i e; have := (h.new b (by omega)).1; omega
    · exact Nat.le_refl _
  own b c e := by
    unfold Gh.new; dsimp only
    have := h.own_lt e
    rw [if_neg (by omega)]; exact e
  cell b o' ho := by
    refine cell_of_heap (heap_old w o (h.imm_lt (b := b) (by omega)))
  shape b s hs := by rw [← hs]; exact shape_of_heap (heap_old w o (lt_of_shape hs))

theorem eff_new {G : Gh} {w : World} {H H' : AH} (h : HSim G w H) (vs : Array Value) (e : TypeId) (m : Nat) (oc : Option Nat) (hb : H'.blks = H.blks)
    (hc : (oc = none ∧ H' = H) ∨ ∃ c z n, oc = some c ∧ H'.tips[c]? = some (z, n) ∧ 0 < n ∧ m = n * z ∧ (∀ b', G.own b' = some c → G.imm b' < n * z) ∧ (∀ c', c' ≠ c → H'.tips[c']? = H.tips[c']?)) :
    Ext G H w (G.new w.heap.size m oc) H' (w.alloc (.cells vs e)) ∧ HSim (G.new w.heap.size m oc) (w.alloc (.cells vs e)) H' := by
  have hle := Le.new h (.cells vs e) m oc
  have hlive : ∀ id, Live H' id ↔ Live H id := fun id => by unfold Live; rw [hb]
  refine ⟨{ os := rfl, tape := rfl, output := rfl, size := by simp, block := fun b hlt hm => ?_, mb := fun id b z e => .inl ⟨_, e⟩, muts := fun b hlt hm => ?_ },
          { at_ := fun id B h1 h2 => ?_, inj := fun id id' b z z' h1 h2 h3 h4 => ?_, ids := ?_, chain := fun c z n hcn => ?_, chains := fun c b hlen => ?_, new := fun b hlt => ?_ }⟩
  · refine ⟨heap_old w _ hlt, ?_, ?_⟩ <;> (unfold Gh.new; dsimp only; rw [if_neg (by omega)])
  · rcases hm with ⟨id, z, hl, hm⟩ | ⟨c, hm⟩
    · exact .inl ⟨id, z, (hlive id).1 hl, hm⟩
    · refine .inr ⟨c, ?_⟩
      unfold Gh.new at hm; dsimp only at hm
      rwa [if_neg (by omega)] at hm
  · rw [hb] at h1
    rcases h.at_ id B h1 h2 with ⟨b, z, h3, h4, h5, h6⟩ | h3
    rotate_left
    · exact .inr h3
    have hlt := h.mb_lt h3
    refine .inl ⟨b, z, h3, h4.heap hle (heap_old w _ hlt), ?_, ?_⟩ <;> (unfold Gh.new; dsimp only; rw [if_neg (by omega)]; assumption)
  · exact h.inj id id' b z z' ((hlive _).1 h1) ((hlive _).1 h2) h3 h4
  · rw [hb]; exact h.ids
  · have hold : ∀ c z n, oc ≠ some c → H.tips[c]? = some (z, n) → (n = 0 → ∀ b, (G.new w.heap.size m oc).own b ≠ some c) ∧ (0 < n → ∃ b us e', (G.new w.heap.size m oc).own b = some c ∧ (G.new w.heap.size m oc).imm b = n * z ∧
        (w.alloc (.cells vs e)).heap[b]? = some (.cells us e' (0, 0)) ∧ ∀ b', (G.new w.heap.size m oc).own b' = some c → b' ≠ b → (G.new w.heap.size m oc).imm b' < n * z) := by
      intro c z n hne hcn
      obtain ⟨h1, h2⟩ := h.chain c z n hcn
      refine ⟨fun hn b => ?_, fun hn => ?_⟩
      · unfold Gh.new; dsimp only
        split
        · exact hne
        · exact h1 hn b
      · obtain ⟨b, us, e', h3, h4, h5, h6⟩ := h2 hn
        have hlt := h.own_lt h3
        refine ⟨b, us, e', ?_, ?_, (heap_old w _ hlt).trans h5, fun b' hb' hne' => ?_⟩
        · unfold Gh.new; dsimp only; rw [if_neg (by omega)]; exact h3
        · unfold Gh.new; dsimp only; rw [if_neg (by omega)]; exact h4
        · unfold Gh.new at hb' ⊢; dsimp only at hb' ⊢
          split at hb'
          · exact absurd hb' hne
          · rename_i hnb; rw [if_neg hnb]; exact h6 b' hb' hne'
    rcases hc with ⟨rfl, rfl⟩ | ⟨c0, z0, n0, rfl, h1, h2, h3, h4, h5⟩
    · exact hold c z n (by simp) hcn
    · by_cases hcc : c = c0
      · subst hcc
        rw [h1] at hcn
        simp only [Option.some.injEq, Prod.mk.injEq] at hcn
        obtain ⟨rfl, rfl⟩ := hcn
        refine ⟨fun hn => by omega, fun _ => ⟨w.heap.size, vs, e, by simp [Gh.new], by simp [Gh.new, h3], heap_new w _, fun b' hb' hne' => ?_⟩⟩
        unfold Gh.new at hb' ⊢; dsimp only at hb' ⊢
        rw [if_neg hne'] at hb' ⊢
        exact h4 b' hb'
      · rw [h5 c hcc] at hcn
        exact hold c z n (by simpa using fun e => hcc e.symm) hcn
  · unfold Gh.new; dsimp only
    rcases hc with ⟨rfl, rfl⟩ | ⟨c0, z0, n0, rfl, h1, h2, h3, h4, h5⟩
    · split
      · simp
      · exact h.chains c b hlen
    · have hc0 : c ≠ c0 := by
        rintro rfl
        rw [List.getElem?_eq_none hlen] at h1
        cases h1
      split
      · simpa using fun e => hc0 e.symm
      · refine h.chains c b ?_
        have := h5 c hc0
        rw [List.getElem?_eq_none hlen] at this
        exact List.getElem?_eq_none_iff.1 this.symm
  · simp at hlt
    unfold Gh.new; dsimp only
    rw [if_neg (by omega), if_neg (by omega)]
    exact h.new b (by omega)

/-- The head of a chain grows in its place. -/
def Gh.grow (G : Gh) (b m : Nat) : Gh := ⟨G.mb, fun k => if k = b then m else G.imm k, G.own⟩

theorem row_get (vs : Array Value) (nv : List Value) (o : Nat) (h : o + nv.length ≤ vs.size) (j : Nat) :
    (vs.toList.take o ++ nv ++ vs.toList.drop (o + nv.length)).toArray.getD j Go.undef = if j < o then vs.getD j Go.undef else if j < o + nv.length then nv.getD (j - o) Go.undef else vs.getD j Go.undef := by
  rw [Array.getD_eq_getD_getElem?, List.getElem?_toArray, splice_get vs.toList nv o j (by simpa using h)]
  split
  · rw [Array.getD_eq_getD_getElem?, ← Array.getElem?_toList]
  · split
    · rw [List.getD_eq_getElem?_getD]
    · rw [Array.getD_eq_getD_getElem?, ← Array.getElem?_toList]
theorem row_size (vs : Array Value) (nv : List Value) (o : Nat) (h : o + nv.length ≤ vs.size) : (vs.toList.take o ++ nv ++ vs.toList.drop (o + nv.length)).toArray.size = vs.size := by simp; omega
theorem row_old (vs : Array Value) (nv : List Value) (o j : Nat) (h : o + nv.length ≤ vs.size) (hj : j < o) : (vs.toList.take o ++ nv ++ vs.toList.drop (o + nv.length)).toArray[j]? = vs[j]? := by
  rw [List.getElem?_toArray, splice_get vs.toList nv o j (by simpa using h), if_pos hj, Array.getElem?_toList]

theorem eff_room {G : Gh} {w : World} {H : AH} (h : HSim G w H) {c z n m b : Nat} {vs : Array Value} {e : TypeId} (hz : 0 < z) (hn : 0 < n) (hm : 0 < m) (ht : H.tips[c]? = some (z, n)) (ho : G.own b = some c) (hi : G.imm b = n * z)
    (hb : w.heap[b]? = some (.cells vs e (0, 0))) (nv : List Value) (_ : nv.length = m * z) (hfit : n * z + nv.length ≤ vs.size) :
    Le G w (G.grow b ((n + m) * z)) (w.setRow b (vs.toList.take (n * z) ++ nv ++ vs.toList.drop (n * z + nv.length)).toArray) ∧
    Ext G H w (G.grow b ((n + m) * z)) { H with tips := H.tips.set c (z, n + m) } (w.setRow b (vs.toList.take (n * z) ++ nv ++ vs.toList.drop (n * z + nv.length)).toArray) ∧
    HSim (G.grow b ((n + m) * z)) (w.setRow b (vs.toList.take (n * z) ++ nv ++ vs.toList.drop (n * z + nv.length)).toArray) { H with tips := H.tips.set c (z, n + m) } := by
  have hoth : ∀ k, k ≠ b → (w.setRow b (vs.toList.take (n * z) ++ nv ++ vs.toList.drop (n * z + nv.length)).toArray).heap[k]? = w.heap[k]? := fun k hk => setRow_other w b k _ hk
  have hnew := setRow_heap w b vs (vs.toList.take (n * z) ++ nv ++ vs.toList.drop (n * z + nv.length)).toArray e (0, 0) hb
  have hsz := row_size vs nv (n * z) hfit
  have hlt := fun j hj => row_old vs nv (n * z) j hfit hj
  generalize hr : (vs.toList.take (n * z) ++ nv ++ vs.toList.drop (n * z + nv.length)).toArray = us at hoth hnew hsz hlt ⊢
  generalize hw : w.setRow b us = w' at hoth hnew ⊢
  have hos : w'.os = w.os ∧ w'.tape = w.tape ∧ w'.output = w.output ∧ w'.heap.size = w.heap.size := by rw [← hw]; simp
  have hmz : 0 < m * z := Nat.mul_pos hm hz
  have hnm : (n + m) * z = n * z + m * z := Nat.add_mul n m z
  have hblt := lt_of_heap hb
  have hle : Le G w (G.grow b ((n + m) * z)) w' := by
    refine { mb := fun _ _ e => e, imm := fun k => ?_, own := fun _ _ e => e, cell := fun k o hk => ?_, shape := fun k s hs => ?_ }
    · unfold Gh.grow; dsimp only
      split
      · rename_i e'; rw [e']; omega
      · exact Nat.le_refl _
    · by_cases hkb : k = b
      · subst hkb
        simp only [World.cell?, hb, hnew]
        exact hlt o (by omega)
      · exact cell_of_heap (hoth k hkb)
    · by_cases hkb : k = b
      · subst hkb
        simp only [World.shape?, hb, hnew, Option.some.injEq] at hs ⊢
        rw [← hs, hsz]
      · rw [← hs]; exact shape_of_heap (hoth k hkb)
  have hclt : c < H.tips.length := (List.getElem?_eq_some_iff.1 ht).1
  refine ⟨hle, { os := hos.1, tape := hos.2.1, output := hos.2.2.1, size := by omega, block := fun k hk hmu => ?_, mb := fun _ _ _ e => .inl ⟨_, e⟩, muts := fun k hk hmu => ?_ },
          { at_ := fun id B h1 h2 => ?_, inj := fun id id' b z z' h1 h2 h3 h4 => h.inj id id' b z z' h1 h2 h3 h4, ids := h.ids, chain := fun c' z' n' hcn => ?_, chains := fun c' k hlen => ?_, new := fun k hk => ?_ }⟩
  · have hkb : k ≠ b := fun e => hmu (.inr ⟨c, by rw [e]; exact ho⟩)
    exact ⟨hoth k hkb, by unfold Gh.grow; dsimp only; rw [if_neg hkb], rfl⟩
  · rcases hmu with ⟨id, z, hl', hmu⟩ | ⟨c', hmu⟩
    · exact .inl ⟨id, z, hl', hmu⟩
    · exact .inr ⟨c', hmu⟩
  · rcases h.at_ id B h1 h2 with ⟨b', z', h3, h4, h5, h6⟩ | h3
    rotate_left
    · exact .inr h3
    have hkb : b' ≠ b := by rintro rfl; rw [h6] at ho; cases ho
    exact .inl ⟨b', z', h3, h4.heap hle (hoth b' hkb), by unfold Gh.grow; dsimp only; rw [if_neg hkb]; exact h5, h6⟩
  · by_cases hcc : c' = c
    · subst hcc
      rw [List.getElem?_set_self hclt] at hcn
      simp only [Option.some.injEq, Prod.mk.injEq] at hcn
      obtain ⟨rfl, rfl⟩ := hcn
      refine ⟨fun _ => by omega, fun _ => ⟨b, us, e, ho, by simp [Gh.grow], hnew, fun b' hb' hne => ?_⟩⟩
      obtain ⟨bb, us', e', g1, g2, g3, g4⟩ := (h.chain _ _ _ ht).2 hn
      have hbb : bb = b := by
        apply Decidable.byContradiction
        intro hne'
        have := g4 b ho (fun e => hne' e.symm)
        omega
      subst hbb
      have := g4 b' hb' hne
      unfold Gh.grow; dsimp only
      rw [if_neg hne]; omega
    · rw [List.getElem?_set_ne (fun e => hcc e.symm)] at hcn
      obtain ⟨g1, g2⟩ := h.chain c' z' n' hcn
      refine ⟨g1, fun hn' => ?_⟩
      obtain ⟨bb, us', e', g3, g4, g5, g6⟩ := g2 hn'
      have hbb : ∀ k, G.own k = some c' → k ≠ b := by
        rintro k hk rfl
        rw [hk] at ho
        exact hcc (by simpa using ho)
      refine ⟨bb, us', e', g3, ?_, (hoth bb (hbb bb g3)).trans g5, fun b' hb' hne => ?_⟩
      · unfold Gh.grow; dsimp only; rw [if_neg (hbb bb g3)]; exact g4
      · unfold Gh.grow; dsimp only; rw [if_neg (hbb b' hb')]; exact g6 b' hb' hne
  · exact h.chains c' k (by simpa using hlen)
  · unfold Gh.grow; dsimp only
    rw [if_neg (by omega)]
    exact h.new k (by omega)

/-- A new, empty chain: nothing turns. -/
theorem eff_tip {G : Gh} {w : World} {H : AH} (h : HSim G w H) (z : Nat) : Ext G H w G { H with tips := H.tips ++ [(z, 0)] } w ∧ HSim G w { H with tips := H.tips ++ [(z, 0)] } := by
  refine ⟨{ os := rfl, tape := rfl, output := rfl, size := Nat.le_refl _, block := fun _ _ _ => ⟨rfl, rfl, rfl⟩, mb := fun _ _ _ e => .inl ⟨_, e⟩, muts := fun k _ hm => hm },
    { at_ := h.at_, inj := h.inj, ids := h.ids, chain := fun c z' n hc => ?_, chains := fun c b hl => h.chains c b (by simp at hl; omega), new := h.new }⟩
  rcases Nat.lt_or_ge c H.tips.length with hlt | hge
  · rw [List.getElem?_append_left hlt] at hc
    exact h.chain c z' n hc
  · rw [List.getElem?_append_right hge] at hc
    cases hcl : c - H.tips.length with
    | zero =>
      rw [hcl] at hc
      simp only [List.getElem?_cons_zero, Option.some.injEq, Prod.mk.injEq] at hc
      obtain ⟨rfl, rfl⟩ := hc
      exact ⟨fun _ b => h.chains c b hge, fun h0 => by omega⟩
    | succ k => rw [hcl] at hc; simp at hc

/-- A row of a tracked block is written. -/
theorem eff_row {G : Gh} {w : World} {H : AH} (h : HSim G w H) {id z : Nat} {l : List (List AV)} (hid : H.blks[id]? = some (.rows z l)) {r c : Nat} {row : List AV} (hr : l[r]? = some row) (new : List AV) (nv : List Value)
    (hl : nv.length = new.length) (hc : c + new.length ≤ row.length) (hnew : ∀ (j : Nat) x, new[j]? = some x → RepU G w x (nv.getD j Go.undef)) :
    ∃ b vs e, G.mb id = some (b, z) ∧ w.heap[b]? = some (.cells vs e (0, 0)) ∧ r * z + c + nv.length ≤ vs.size ∧
      Le G w G (w.setRow b (vs.toList.take (r * z + c) ++ nv ++ vs.toList.drop (r * z + c + nv.length)).toArray) ∧
      Ext G H w G { H with blks := H.blks.set id (.rows z (l.set r (splice row c new))) } (w.setRow b (vs.toList.take (r * z + c) ++ nv ++ vs.toList.drop (r * z + c + nv.length)).toArray) ∧
      HSim G (w.setRow b (vs.toList.take (r * z + c) ++ nv ++ vs.toList.drop (r * z + c + nv.length)).toArray) { H with blks := H.blks.set id (.rows z (l.set r (splice row c new))) } := by
  rcases h.at_ id _ hid rfl with ⟨b, zz, h3, ⟨h40, h41, vs, e, h42, h43, h44, h45⟩, h5, h6⟩ | ⟨_, z', _, e⟩
  rotate_left
  · simp only [ABlk.rows.injEq] at e
    rw [e.2] at hr
    simp at hr
  subst h40
  have hrlt := (List.getElem?_eq_some_iff.1 hr).1
  have hrow : row.length = zz := h43 row (List.mem_of_getElem? hr)
  have hmul : (r + 1) * zz ≤ l.length * zz := Nat.mul_le_mul_right zz hrlt
  rw [Nat.add_mul] at hmul
  have hfit : r * zz + c + nv.length ≤ vs.size := by omega
  refine ⟨b, vs, e, h3, h42, hfit, ?_⟩
  have hoth : ∀ k, k ≠ b → (w.setRow b (vs.toList.take (r * zz + c) ++ nv ++ vs.toList.drop (r * zz + c + nv.length)).toArray).heap[k]? = w.heap[k]? := fun k hk => setRow_other w b k _ hk
  have hheap := setRow_heap w b vs (vs.toList.take (r * zz + c) ++ nv ++ vs.toList.drop (r * zz + c + nv.length)).toArray e (0, 0) h42
  have hsz := row_size vs nv (r * zz + c) hfit
  have hget := row_get vs nv (r * zz + c) hfit
  generalize hus : (vs.toList.take (r * zz + c) ++ nv ++ vs.toList.drop (r * zz + c + nv.length)).toArray = us at hoth hheap hsz hget ⊢
  generalize hw : w.setRow b us = w' at hoth hheap ⊢
  have hos : w'.os = w.os ∧ w'.tape = w.tape ∧ w'.output = w.output ∧ w'.heap.size = w.heap.size := by rw [← hw]; simp
  have hidlt : id < H.blks.length := (List.getElem?_eq_some_iff.1 hid).1
  have hle : Le G w G w' := by
    refine Le.of_agree (fun k hk => hoth k (fun e => by subst e; omega)) (fun k s hs => ?_)
    by_cases hkb : k = b
    · subst hkb
      simp only [World.shape?, h42, hheap, Option.some.injEq] at hs ⊢
      rw [← hs, hsz]
    · rw [← hs]; exact shape_of_heap (hoth k hkb)
  have hlive : ∀ k, Live { H with blks := H.blks.set id (.rows zz (l.set r (splice row c new))) } k ↔ Live H k := by
    intro k
    unfold Live
    dsimp only
    by_cases hk : id = k
    · subst hk
      rw [List.getElem?_set_self hidlt, hid]
      exact ⟨fun _ => ⟨_, rfl, rfl⟩, fun _ => ⟨_, rfl, rfl⟩⟩
    · rw [List.getElem?_set_ne hk]
  have hlid : Live H id := ⟨_, hid, rfl⟩
  refine ⟨hle, { os := hos.1, tape := hos.2.1, output := hos.2.2.1, size := by omega, block := fun k hk hmu => ?_, mb := fun _ _ _ e => .inl ⟨_, e⟩, muts := fun k hk hmu => ?_ },
          { at_ := fun id' B h1 h2 => ?_, inj := fun i i' b z z' h1 h2 h3 h4 => h.inj i i' b z z' ((hlive _).1 h1) ((hlive _).1 h2) h3 h4, ids := fun k hk => h.ids k (by simpa using hk),
            chain := fun c' z' n' hcn => ?_, chains := h.chains, new := fun k hk => h.new k (by omega) }⟩
  · have hkb : k ≠ b := fun e => hmu (.inl ⟨id, zz, hlid, by rw [e]; exact h3⟩)
    exact ⟨hoth k hkb, rfl, rfl⟩
  · rcases hmu with ⟨k', z, hl', hmu⟩ | ⟨c', hmu⟩
    · exact .inl ⟨k', z, (hlive _).1 hl', hmu⟩
    · exact .inr ⟨c', hmu⟩
  · dsimp only at h1
    by_cases hk : id = id'
    · subst hk
      rw [List.getElem?_set_self hidlt] at h1
      simp only [Option.some.injEq] at h1
      subst h1
      refine .inl ⟨b, zz, h3, ⟨rfl, h41, us, e, hheap, ?_, by simp [hsz]; exact h44, fun i j x hx => ?_⟩, h5, h6⟩
      · intro q hq
        rcases List.mem_or_eq_of_mem_set hq with hq | rfl
        · exact h43 q hq
        · simp [splice]; omega
      · obtain ⟨q, hq1, hq2⟩ := cellAt_some hx
        rw [hget]
        rw [List.getElem?_set] at hq1
        by_cases hri : r = i
        · subst hri
          rw [if_pos rfl, if_pos hrlt] at hq1
          simp only [Option.some.injEq] at hq1
          subst hq1
          unfold splice at hq2
          rw [splice_get row new c j hc] at hq2
          by_cases j1 : j < c
          · rw [if_pos j1] at hq2; rw [if_pos (by omega)]
            exact (h45 r j x (by unfold cellAt; rw [hr]; exact hq2)).mono hle
          · rw [if_neg j1] at hq2; rw [if_neg (by omega)]
            by_cases j2 : j < c + new.length
            · rw [if_pos j2] at hq2; rw [if_pos (by omega)]
              have := (hnew _ x hq2).mono hle
              rwa [show r * zz + j - (r * zz + c) = j - c by omega]
            · rw [if_neg j2] at hq2; rw [if_neg (by omega)]
              exact (h45 r j x (by unfold cellAt; rw [hr]; exact hq2)).mono hle
        · rw [if_neg hri] at hq1
          have hx' : cellAt l i j = some x := by unfold cellAt; rw [hq1]; exact hq2
          have hlt := cellAt_lt h43 hx'
          have := h45 i j x hx'
          have hne : ¬ (r * zz + c ≤ i * zz + j ∧ i * zz + j < r * zz + c + nv.length) := by
            rintro ⟨g1, g2⟩
            rcases Nat.lt_or_ge i r with g | g
            · have : (i + 1) * zz ≤ r * zz := Nat.mul_le_mul_right zz g
              rw [Nat.add_mul] at this
              omega
            · have : (r + 1) * zz ≤ i * zz := Nat.mul_le_mul_right zz (by omega)
              rw [Nat.add_mul] at this
              omega
          by_cases g1 : i * zz + j < r * zz + c
          · rw [if_pos g1]; exact this.mono hle
          · rw [if_neg g1, if_neg (by omega)]; exact this.mono hle
    · rw [List.getElem?_set_ne hk] at h1
      rcases h.at_ id' B h1 h2 with ⟨b', z', g3, g4, g5, g6⟩ | g3
      rotate_left
      · exact .inr g3
      have hkb : b' ≠ b := by
        rintro rfl
        exact hk (h.inj id id' b' zz z' hlid ⟨B, h1, h2⟩ h3 g3)
      exact .inl ⟨b', z', g3, g4.heap hle (hoth b' hkb), g5, g6⟩
  · obtain ⟨g1, g2⟩ := h.chain c' z' n' hcn
    refine ⟨g1, fun hn' => ?_⟩
    obtain ⟨bb, us', e', g3, g4, g5, g6⟩ := g2 hn'
    have hbb : bb ≠ b := by rintro rfl; rw [g3] at h6; cases h6
    exact ⟨bb, us', e', g3, g4, (hoth bb hbb).trans g5, g6⟩
end Go.Proofs.Ytecpiplfjmmccaa.AM
