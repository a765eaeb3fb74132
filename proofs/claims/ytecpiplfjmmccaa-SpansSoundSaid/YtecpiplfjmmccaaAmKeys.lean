/-
  A tracked map as the base's laws tell of it; what a call that turns nothing leaves.
  No program in sight. Conditions: none.
-/
import Derived.Test.YtecpiplfjmmccaaAmPure
import Derived.Lib.SlKeysI
import Derived.Carry
namespace Go.Proofs.Ytecpiplfjmmccaa.AM
open Go Go.RowKit

/-- What a call leaves that turns nothing that was there; a new block never turns again. -/
theorem of_below {G : Gh} {w w' : World} {H : AH} (hH : HSim G w H) (hb : Below w.heap.size w w') (g m : Nat) (h1 : w.heap.size ≤ g) (h2 : g < w'.heap.size) : Le G w (G.frz g m) w' ∧ Ext G H w (G.frz g m) H w' ∧ HSim (G.frz g m) w' H := by
  have hne : ∀ k, k < w.heap.size → (G.frz g m).imm k = G.imm k := fun k hk => by unfold Gh.frz; dsimp only; rw [if_neg (by omega)]
  have hle : Le G w (G.frz g m) w' := by
    refine ⟨fun _ _ e => e, fun k => ?_, fun _ _ e => e, fun b o ho => cell_of_heap (hb.block b (hH.imm_lt (by omega))), fun b s hs => ?_⟩
    · unfold Gh.frz; dsimp only
      split
      · rename_i e; have := (hH.new k (by omega)).1; omega
      · exact Nat.le_refl _
    · rw [← hs]; exact shape_of_heap (hb.block b (lt_of_shape hs))
  refine ⟨hle, { os := hb.os, tape := hb.tape, output := hb.output, size := hb.size, block := fun b h _ => ⟨hb.block b h, hne b h, rfl⟩, mb := fun _ _ _ e => .inl ⟨_, e⟩, muts := fun _ _ h => h },
    { at_ := fun id B h1 h2 => ?_, inj := hH.inj, ids := hH.ids, chain := fun c z n hc => ?_, chains := hH.chains, new := fun k hk => ?_ }⟩
  · rcases hH.at_ id B h1 h2 with ⟨b, z, g1, g2, g3, g4⟩ | g1
    · have hlt := hH.mb_lt g1
      exact .inl ⟨b, z, g1, g2.heap hle (hb.block b hlt), by rw [hne b hlt]; exact g3, g4⟩
    · exact .inr g1
  · obtain ⟨g1, g2⟩ := hH.chain c z n hc
    refine ⟨g1, fun hn => ?_⟩
    obtain ⟨b, us, e', g3, g4, g5, g6⟩ := g2 hn
    exact ⟨b, us, e', g3, by rw [hne b (hH.own_lt g3)]; exact g4, (hb.block b (hH.own_lt g3)).trans g5, fun b' hb' hn' => by rw [hne b' (hH.own_lt hb')]; exact g6 b' hb' hn'⟩
  · have := hb.size
    obtain ⟨g1, g2, g3⟩ := hH.new k (by omega)
    refine ⟨?_, g2, g3⟩
    unfold Gh.frz; dsimp only
    rw [if_neg (by omega)]; exact g1
theorem of_below0 {G : Gh} {w w' : World} {H : AH} (hH : HSim G w H) (hb : Below w.heap.size w w') : Le G w G w' ∧ Ext G H w G H w' ∧ HSim G w' H := by
  have hle : Le G w G w' := Le.of_agree (fun b h => hb.block b (hH.imm_lt h)) (fun b s hs => by rw [← hs]; exact shape_of_heap (hb.block b (lt_of_shape hs)))
  refine ⟨hle, { os := hb.os, tape := hb.tape, output := hb.output, size := hb.size, block := fun b h _ => ⟨hb.block b h, rfl, rfl⟩, mb := fun _ _ _ e => .inl ⟨_, e⟩, muts := fun _ _ h => h }, hH.same hle hb.size (fun b h => ?_)⟩
  rcases h with ⟨id, z, _, h⟩ | ⟨c, h⟩
  · exact hb.block b (hH.mb_lt h)
  · exact hb.block b (hH.own_lt h)

/-- An element, whatever it is. -/
def anyR (_ : Value) : Option (DataW Nat × List MemPlace) := some (.nil, [])
/-- The keys of a map, as the base's laws read them. -/
theorem map_owns {P : Program} {G : Gh} {w : World} {b : Nat} {q : IntKind} {es : List (Int × AV)} {pd : Option (Int × Nat)} {en : Array MapEntry} {clock : Nat} (h : MapAt G w b q es pd en clock) {k : TypeId} (hk : P.underlying k = some (.int q)) (hw : ∀ p ∈ es, (Lit.int q p.1).wf = true) (hl : es.length ≤ maxLen) :
    ∃ D : List (Lit × DataW Nat), w.ownsMap P k anyR b es.length (.map D) ∧ D.length = es.length ∧ (D.map (·.1)).Perm (es.map fun p => .int q p.1) := by
  have hrd : ∀ x ∈ en.toList, ∃ p ∈ es, WideElems.rd (H := Nat) P k anyR x = some (.int q p.1, .nil) ∧ x.key = .int q p.1 := by
    intro x hx
    obtain ⟨i, hi⟩ := Array.mem_iff_getElem?.1 (Array.mem_toList_iff.1 hx)
    obtain ⟨n, y, h1, _, h2, _⟩ := h.get hi
    have hm := List.mem_of_getElem? h1
    refine ⟨_, hm, ?_, h2⟩
    unfold WideElems.rd anyR
    rw [h2, Maps.keyOf_int_mk hk (hw _ hm)]
    rfl
  refine ⟨_, ⟨en, clock, h.1, ⟨by rw [h.2.2.1]; exact hl, h.2.1, fun x hx => by obtain ⟨p, _, h1, _⟩ := hrd x hx; exact ⟨_, h1⟩⟩, by rw [h.2.2.1]; exact Nat.le_refl _, rfl⟩, ?_, ?_⟩
  · rw [length_sorted, List.length_map, Array.length_toList, h.2.2.1]
  · refine ((WideShapes.sorted_perm _).map _).trans ?_
    have : (en.toList.map (WideElems.rg (H := Nat) P k anyR)).map (·.1) = es.map fun p => .int q p.1 := by
      apply List.ext_getElem?
      intro i
      rw [List.getElem?_map, List.getElem?_map, List.getElem?_map, Array.getElem?_toList]
      cases he : en[i]? with
      | none =>
        have h1 := Array.getElem?_eq_none_iff.1 he
        rw [List.getElem?_eq_none (by rw [← h.2.2.1]; exact h1)]; rfl
      | some x =>
        obtain ⟨n, y, h1, _, h2, _⟩ := h.get he
        rw [h1]
        simp only [Option.map_some, Option.some.injEq]
        unfold WideElems.rg WideElems.rd anyR
        rw [h2, Maps.keyOf_int_mk hk (hw _ (List.mem_of_getElem? h1))]
        rfl
    rw [this]

/-- A slice of numbers that a call has made: its rows. -/
theorem owns_rep {G : Gh} {w w' : World} {H : AH} (hH : HSim G w H) (hb : Below w.heap.size w w') {e : TypeId} {v : Value} {q : IntKind} {l : List Int} (h : w'.ownsRow w.heap.size e 1 v l.length (l.map fun n => .int q n)) (hl : v = .slice none 0 0 ↔ l = []) :
    ∃ G', Le G w G' w' ∧ Ext G H w G' H w' ∧ HSim G' w' H ∧ ((l = [] ∧ Rep G' w' .nils v) ∨ Rep G' w' (.sl 1 (l.map fun n => [.int q n]) none) v) := by
  obtain ⟨h1, h2⟩ := h
  rcases h2 with ⟨rfl, h0⟩ | ⟨g, cap, cur, rfl, h3, h4, h5, h6, h7, h8⟩
  · obtain ⟨q1, q2, q3⟩ := of_below0 hH hb
    exact ⟨G, q1, q2, q3, .inl ⟨List.eq_nil_of_length_eq_zero h0, .nils⟩⟩
  · have hg : g < w'.heap.size := lt_of_heap h4
    obtain ⟨q1, q2, q3⟩ := of_below hH hb g (l.length * 1) h3 hg
    refine ⟨_, q1, q2, q3, .inr ?_⟩
    have hlen : (l.map fun n => [AV.int q n]).length = l.length := by simp
    have hc : ∀ i j x, cellAt (l.map fun n => [AV.int q n]) i j = some x → j = 0 ∧ ∃ n, l[i]? = some n ∧ x = .int q n := by
      intro i j x hx
      obtain ⟨r, hr, hx⟩ := cellAt_some hx
      rw [List.getElem?_map] at hr
      obtain ⟨n, hn, rfl⟩ := Option.map_eq_some_iff.1 hr
      have hj : j = 0 := by
        have := (List.getElem?_eq_some_iff.1 hx).1
        simp at this; omega
      subst hj
      simp only [List.getElem?_cons_zero, Option.some.injEq] at hx
      exact ⟨rfl, n, hn, hx.symm⟩
    rw [show l.length = (l.map fun n => [AV.int q n]).length from hlen.symm]
    refine .sl 1 _ none _ cap g 0 (fun i _ => .int q (l[i]?.getD 0)) (by omega) (by rw [hlen]; exact h5) h6 (fun r hr => by obtain ⟨n, _, rfl⟩ := List.mem_map.1 hr; rfl) (.inr ⟨rfl, by simp [Gh.frz], fun t e => nomatch e⟩) (fun i j x hx => ?_) (fun i j x hx => ?_) (fun i j x hx => ?_)
    · obtain ⟨rfl, n, hn, rfl⟩ := hc i j x hx
      have hi := (List.getElem?_eq_some_iff.1 hn).1
      have hcur : cur.toList[i]? = some (.int q n) := by
        have : (cur.toList.take (l.length * 1))[i]? = some (.int q n) := by rw [h8, List.getElem?_map, hn]; rfl
        rw [List.getElem?_take] at this
        split at this
        · exact this
        · cases this
      rw [Nat.zero_add, Nat.mul_one, Nat.add_zero]
      unfold World.cell?
      rw [h4]
      simp only [Option.isSome_none, Bool.false_eq_true, if_false]
      rw [← Array.getElem?_toList, hcur, hn]; rfl
    · obtain ⟨rfl, n, hn, rfl⟩ := hc i j x hx; rfl
    · obtain ⟨rfl, n, hn, rfl⟩ := hc i j x hx
      rw [hn]; exact .int _ _
end Go.Proofs.Ytecpiplfjmmccaa.AM
