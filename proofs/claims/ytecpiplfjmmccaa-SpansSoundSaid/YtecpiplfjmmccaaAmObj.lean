/-
  What becomes of the tracked memory: a block's content turned, a block more, a block forgotten, one that moves, one that never turns again.
  No program in sight. Conditions: none.
-/
import Derived.Test.YtecpiplfjmmccaaAmEff
namespace Go.Proofs.Ytecpiplfjmmccaa.AM
open Go

def Kin (w w' : World) : Prop := w'.os = w.os ∧ w'.tape = w.tape ∧ w'.output = w.output
theorem Kin.refl (w : World) : Kin w w := ⟨rfl, rfl, rfl⟩

/-- A tracked block's content turned. -/
theorem eff_blk {G : Gh} {w w' : World} {H : AH} (h : HSim G w H) {id b z : Nat} {B B' : ABlk} (hid : H.blks[id]? = some B) (hl : B.live = true) (hmb : G.mb id = some (b, z)) (hos : Kin w w') (hsz : w'.heap.size = w.heap.size)
    (hoth : ∀ k, k ≠ b → w'.heap[k]? = w.heap[k]?) (hsh : ∀ s, w.shape? b = some s → w'.shape? b = some s) (hat : Le G w G w' → BlkAt G w' b z B') :
    Le G w G w' ∧ Ext G H w G (H.upd id B') w' ∧ HSim G w' (H.upd id B') := by
  have hidlt : id < H.blks.length := (List.getElem?_eq_some_iff.1 hid).1
  obtain ⟨h5, h6⟩ : G.imm b = 0 ∧ G.own b = none := by
    rcases h.at_ id _ hid hl with ⟨b', zz, h3, _, h5, h6⟩ | ⟨h3, _⟩
    · rw [hmb] at h3
      simp only [Option.some.injEq, Prod.mk.injEq] at h3
      rw [h3.1]; exact ⟨h5, h6⟩
    · rw [hmb] at h3; cases h3
  have hle : Le G w G w' := by
    refine Le.of_agree (fun k hk => hoth k (fun e => by subst e; omega)) (fun k s hs => ?_)
    by_cases hkb : k = b
    · subst hkb; exact hsh s hs
    · rw [← hs]; exact shape_of_heap (hoth k hkb)
  have hlid : Live H id := ⟨_, hid, hl⟩
  have hlive : ∀ k, Live (H.upd id B') k → Live H k := by
    rintro k ⟨B1, g1, g2⟩
    by_cases hk : id = k
    · subst hk; exact hlid
    · rw [AH.upd_other hk] at g1; exact ⟨B1, g1, g2⟩
  refine ⟨hle, { os := hos.1, tape := hos.2.1, output := hos.2.2, size := by omega, block := fun k hk hmu => ?_, mb := fun _ _ _ e => .inl ⟨_, e⟩, muts := fun k hk hmu => ?_ },
          { at_ := fun id' B1 h1 h2 => ?_, inj := fun i i' b z z' h1 h2 h3 h4 => h.inj i i' b z z' (hlive _ h1) (hlive _ h2) h3 h4, ids := fun k hk => h.ids k (by simpa [AH.upd_len] using hk),
            chain := fun c' z' n' hcn => ?_, chains := h.chains, new := fun k hk => h.new k (by omega) }⟩
  · have hkb : k ≠ b := fun e => hmu (.inl ⟨id, z, hlid, by rw [e]; exact hmb⟩)
    exact ⟨hoth k hkb, rfl, rfl⟩
  · rcases hmu with ⟨k', z, hl', hmu⟩ | ⟨c', hmu⟩
    · exact .inl ⟨k', z, hlive _ hl', hmu⟩
    · exact .inr ⟨c', hmu⟩
  · by_cases hk : id = id'
    · subst hk
      rw [AH.upd_same hid] at h1
      simp only [Option.some.injEq] at h1
      subst h1
      exact .inl ⟨b, z, hmb, hat hle, h5, h6⟩
    · rw [AH.upd_other hk] at h1
      rcases h.at_ id' B1 h1 h2 with ⟨b', z', g3, g4, g5, g6⟩ | g3
      rotate_left
      · exact .inr g3
      have hkb : b' ≠ b := by
        rintro rfl
        exact hk (h.inj id id' b' z z' hlid ⟨B1, h1, h2⟩ hmb g3)
      exact .inl ⟨b', z', g3, g4.heap hle (hoth b' hkb), g5, g6⟩
  · obtain ⟨g1, g2⟩ := h.chain c' z' n' hcn
    refine ⟨g1, fun hn' => ?_⟩
    obtain ⟨bb, us', e', g3, g4, g5, g6⟩ := g2 hn'
    have hbb : bb ≠ b := by rintro rfl; rw [g3] at h6; cases h6
    exact ⟨bb, us', e', g3, g4, (hoth bb hbb).trans g5, g6⟩

/-- A number given to a block. -/
def Gh.obj (G : Gh) (id b z : Nat) : Gh := ⟨fun k => if k = id then some (b, z) else G.mb k, G.imm, G.own⟩
theorem Gh.obj_self (G : Gh) (id b z : Nat) : (G.obj id b z).mb id = some (b, z) := by simp [Gh.obj]
theorem Le.obj {G : Gh} {w w' : World} {H : AH} (h : HSim G w H) (hle : Le G w G w') (b z : Nat) : Le G w (G.obj H.blks.length b z) w' :=
  ⟨fun i x e => by
     unfold Gh.obj; dsimp only
     have : i ≠ H.blks.length := by rintro rfl; rw [h.ids _ (Nat.le_refl _)] at e; cases e
     rw [if_neg this]; exact hle.mb i x e, hle.imm, hle.own, hle.cell, hle.shape⟩

/-- A tracked block more, new in memory. -/
theorem eff_push {G : Gh} {w : World} {H : AH} (h : HSim G w H) (o : Obj) (z : Nat) (B : ABlk) (hB : Le G w (G.obj H.blks.length w.heap.size z) (w.alloc o) → BlkAt (G.obj H.blks.length w.heap.size z) (w.alloc o) w.heap.size z B) :
    Le G w (G.obj H.blks.length w.heap.size z) (w.alloc o) ∧ Ext G H w (G.obj H.blks.length w.heap.size z) (H.push B) (w.alloc o) ∧ HSim (G.obj H.blks.length w.heap.size z) (w.alloc o) (H.push B) := by
  have hle := Le.obj h (Le.alloc h o) w.heap.size z
  have hmb : ∀ k x, (G.obj H.blks.length w.heap.size z).mb k = some x → (k = H.blks.length ∧ x = (w.heap.size, z)) ∨ (k ≠ H.blks.length ∧ G.mb k = some x) := by
    intro k x e
    unfold Gh.obj at e; dsimp only at e
    split at e
    · rename_i hk; exact .inl ⟨hk, by simpa using e.symm⟩
    · rename_i hk; exact .inr ⟨hk, e⟩
  have hlive : ∀ k, k ≠ H.blks.length → Live (H.push B) k → Live H k := by
    rintro k hk ⟨B1, g1, g2⟩
    rw [AH.push_at, if_neg hk] at g1
    exact ⟨B1, g1, g2⟩
  refine ⟨hle, { os := rfl, tape := rfl, output := rfl, size := by simp, block := fun k hk hmu => ⟨heap_old w o hk, rfl, rfl⟩, mb := fun k b z' e => ?_, muts := fun k hk hmu => ?_ },
          { at_ := fun id' B1 h1 h2 => ?_, inj := fun i i' b z1 z2 h1 h2 h3 h4 => ?_, ids := fun k hk => ?_, chain := fun c z' n hc => ?_, chains := h.chains, new := fun k hk => ?_ }⟩
  · rcases hmb k _ e with ⟨_, e'⟩ | ⟨_, e'⟩
    · simp only [Prod.mk.injEq] at e'; right; omega
    · exact .inl ⟨_, e'⟩
  · rcases hmu with ⟨i, z1, hl, hmu⟩ | hmu
    · rcases hmb i _ hmu with ⟨_, e'⟩ | ⟨hne, e'⟩
      · simp only [Prod.mk.injEq] at e'; omega
      · exact .inl ⟨i, z1, hlive i hne hl, e'⟩
    · exact .inr hmu
  · rw [AH.push_at] at h1
    split at h1
    · rename_i hk
      simp only [Option.some.injEq] at h1
      subst hk; subst h1
      obtain ⟨g1, g2, _⟩ := h.new w.heap.size (Nat.le_refl _)
      exact .inl ⟨w.heap.size, z, Gh.obj_self _ _ _ _, hB hle, g1, g2⟩
    · rename_i hk
      rcases h.at_ id' B1 h1 h2 with ⟨b', z', g3, g4, g5, g6⟩ | ⟨g3, g4⟩
      · exact .inl ⟨b', z', hle.mb _ _ g3, g4.heap hle (heap_old w o (h.mb_lt g3)), g5, g6⟩
      · refine .inr ⟨?_, g4⟩
        unfold Gh.obj; dsimp only
        rw [if_neg hk]; exact g3
  · rcases hmb i _ h3 with ⟨e1, e2⟩ | ⟨e1, e2⟩ <;> rcases hmb i' _ h4 with ⟨e3, e4⟩ | ⟨e3, e4⟩
    · rw [e1, e3]
    · simp only [Prod.mk.injEq] at e2
      have := h.mb_lt e4; omega
    · simp only [Prod.mk.injEq] at e4
      have := h.mb_lt e2; omega
    · exact h.inj i i' b z1 z2 (hlive i e1 h1) (hlive i' e3 h2) e2 e4
  · rw [AH.push_len] at hk
    unfold Gh.obj; dsimp only
    rw [if_neg (by omega)]
    exact h.ids k (by omega)
  · obtain ⟨g1, g2⟩ := h.chain c z' n hc
    refine ⟨g1, fun hn => ?_⟩
    obtain ⟨b, us, e', g3, g4, g5, g6⟩ := g2 hn
    exact ⟨b, us, e', g3, g4, (heap_old w o (h.own_lt g3)).trans g5, g6⟩
  · simp at hk
    obtain ⟨g1, g2, g3⟩ := h.new k (by omega)
    refine ⟨g1, g2, fun i z' e => ?_⟩
    rcases hmb i _ e with ⟨_, e'⟩ | ⟨_, e'⟩
    · simp only [Prod.mk.injEq] at e'; omega
    · exact g3 i z' e'

/-- A tracked block forgotten. -/
theorem eff_dead {G : Gh} {w : World} {H : AH} (h : HSim G w H) (id : Nat) : Ext G H w G (H.upd id .dead) w ∧ HSim G w (H.upd id .dead) := by
  have hlive : ∀ (k : Nat) (B : ABlk), (H.upd id .dead).blks[k]? = some B → B.live = true → H.blks[k]? = some B := by
    intro k B g1 g2
    by_cases hk : id = k
    · subst hk
      rw [AH.upd_at, if_pos rfl] at g1
      split at g1
      · simp only [Option.some.injEq] at g1; subst g1; cases g2
      · cases g1
    · rwa [AH.upd_other hk] at g1
  have hlv : ∀ k, Live (H.upd id .dead) k → Live H k := fun k ⟨B, g1, g2⟩ => ⟨B, hlive k B g1 g2, g2⟩
  refine ⟨{ os := rfl, tape := rfl, output := rfl, size := Nat.le_refl _, block := fun _ _ _ => ⟨rfl, rfl, rfl⟩, mb := fun _ _ _ e => .inl ⟨_, e⟩, muts := fun k _ hm => ?_ },
    { at_ := fun k B g1 g2 => h.at_ k B (hlive k B g1 g2) g2, inj := fun i i' b z z' h1 h2 h3 h4 => h.inj i i' b z z' (hlv _ h1) (hlv _ h2) h3 h4, ids := fun k hk => h.ids k (by simpa [AH.upd_len] using hk), chain := h.chain, chains := h.chains, new := h.new }⟩
  rcases hm with ⟨i, z, hl, hm⟩ | hm
  · exact .inl ⟨i, z, hlv i hl, hm⟩
  · exact .inr hm

/-- A tracked block, empty, nowhere in memory. -/
theorem eff_empty {G : Gh} {w : World} {H : AH} (h : HSim G w H) (z : Nat) (hz : 0 < z) : Ext G H w G (H.push (.rows z [])) w ∧ HSim G w (H.push (.rows z [])) := by
  have hno : G.mb H.blks.length = none := h.ids _ (Nat.le_refl _)
  have hlive : ∀ k x, G.mb k = some x → Live (H.push (.rows z [])) k → Live H k := by
    rintro k x e ⟨B1, g1, g2⟩
    rw [AH.push_at] at g1
    split at g1
    · rename_i hk; subst hk; rw [hno] at e; cases e
    · exact ⟨B1, g1, g2⟩
  refine ⟨{ os := rfl, tape := rfl, output := rfl, size := Nat.le_refl _, block := fun _ _ _ => ⟨rfl, rfl, rfl⟩, mb := fun _ _ _ e => .inl ⟨_, e⟩, muts := fun k _ hm => ?_ },
    { at_ := fun k B g1 g2 => ?_, inj := fun i i' b z z' h1 h2 h3 h4 => h.inj i i' b z z' (hlive _ _ h3 h1) (hlive _ _ h4 h2) h3 h4, ids := fun k hk => h.ids k (by rw [AH.push_len] at hk; omega), chain := h.chain, chains := h.chains, new := h.new }⟩
  · rcases hm with ⟨i, z, hl, hm⟩ | hm
    · exact .inl ⟨i, z, hlive i _ hm hl, hm⟩
    · exact .inr hm
  · rw [AH.push_at] at g1
    split at g1
    · rename_i hk
      simp only [Option.some.injEq] at g1
      subst hk; subst g1
      exact .inr ⟨hno, z, hz, rfl⟩
    · exact h.at_ k B g1 g2

/-- A tracked block goes under a new number. -/
theorem eff_move {G : Gh} {w : World} {H : AH} (h : HSim G w H) {id b z : Nat} {B : ABlk} (hid : H.blks[id]? = some B) (hl : B.live = true) (hmb : G.mb id = some (b, z)) :
    Le G w (G.obj H.blks.length b z) w ∧ Ext G H w (G.obj H.blks.length b z) ((H.upd id .dead).push B) w ∧ HSim (G.obj H.blks.length b z) w ((H.upd id .dead).push B) := by
  have hle := Le.obj h (Le.refl G w) b z
  have hidlt : id < H.blks.length := (List.getElem?_eq_some_iff.1 hid).1
  have hlid : Live H id := ⟨_, hid, hl⟩
  have hlen : (H.upd id .dead).blks.length = H.blks.length := AH.upd_len
  have hmb' : ∀ k x, (G.obj H.blks.length b z).mb k = some x → (k = H.blks.length ∧ x = (b, z)) ∨ (k ≠ H.blks.length ∧ G.mb k = some x) := by
    intro k x e
    unfold Gh.obj at e; dsimp only at e
    split at e
    · rename_i hk; exact .inl ⟨hk, by simpa using e.symm⟩
    · rename_i hk; exact .inr ⟨hk, e⟩
  have hlive : ∀ k, k ≠ H.blks.length → Live ((H.upd id .dead).push B) k → Live H k ∧ k ≠ id := by
    rintro k hk ⟨B1, g1, g2⟩
    rw [AH.push_at, hlen, if_neg hk] at g1
    by_cases e : id = k
    · subst e
      rw [AH.upd_at, if_pos rfl, if_pos hidlt] at g1
      simp only [Option.some.injEq] at g1
      subst g1; cases g2
    · rw [AH.upd_other e] at g1
      exact ⟨⟨B1, g1, g2⟩, fun h => e h.symm⟩
  refine ⟨hle, { os := rfl, tape := rfl, output := rfl, size := Nat.le_refl _, block := fun _ _ _ => ⟨rfl, rfl, rfl⟩, mb := fun k b' z' e => ?_, muts := fun k hk hmu => ?_ },
          { at_ := fun k B1 h1 h2 => ?_, inj := fun i i' b' z1 z2 h1 h2 h3 h4 => ?_, ids := fun k hk => ?_, chain := h.chain, chains := h.chains, new := fun k hk => ?_ }⟩
  · rcases hmb' k _ e with ⟨_, e'⟩ | ⟨_, e'⟩
    · exact .inl ⟨id, by rw [hmb, e']⟩
    · exact .inl ⟨_, e'⟩
  · rcases hmu with ⟨i, z1, hl1, hmu⟩ | hmu
    · rcases hmb' i _ hmu with ⟨_, e'⟩ | ⟨hne, e'⟩
      · simp only [Prod.mk.injEq] at e'
        exact .inl ⟨id, z, hlid, by rw [hmb, e'.1]⟩
      · exact .inl ⟨i, z1, (hlive i hne hl1).1, e'⟩
    · exact .inr hmu
  · have hcase : (k = H.blks.length ∧ B1 = B) ∨ (k ≠ H.blks.length ∧ k ≠ id ∧ H.blks[k]? = some B1) := by
      rw [AH.push_at, hlen] at h1
      split at h1
      · rename_i hk; exact .inl ⟨hk, by simpa using h1.symm⟩
      · rename_i hk
        have hh := hlive k hk ⟨B1, by rw [AH.push_at, hlen, if_neg hk]; exact h1, h2⟩
        rw [AH.upd_other (fun e => hh.2 e.symm)] at h1
        exact .inr ⟨hk, hh.2, h1⟩
    rcases hcase with ⟨hk, rfl⟩ | ⟨hk, hki, h1⟩
    · subst hk
      rcases h.at_ id _ hid hl with ⟨b', z', g3, g4, g5, g6⟩ | ⟨g3, _⟩
      · rw [hmb] at g3
        simp only [Option.some.injEq, Prod.mk.injEq] at g3
        obtain ⟨rfl, rfl⟩ := g3
        exact .inl ⟨b, z, Gh.obj_self _ _ _ _, g4.heap hle rfl, g5, g6⟩
      · rw [hmb] at g3; cases g3
    · rcases h.at_ k B1 h1 h2 with ⟨b', z', g3, g4, g5, g6⟩ | ⟨g3, g4⟩
      · exact .inl ⟨b', z', hle.mb _ _ g3, g4.heap hle rfl, g5, g6⟩
      · refine .inr ⟨?_, g4⟩
        unfold Gh.obj; dsimp only
        rw [if_neg hk]; exact g3
  · rcases hmb' i _ h3 with ⟨e1, e2⟩ | ⟨e1, e2⟩ <;> rcases hmb' i' _ h4 with ⟨e3, e4⟩ | ⟨e3, e4⟩
    · rw [e1, e3]
    · simp only [Prod.mk.injEq] at e2
      obtain ⟨l1, l2⟩ := hlive i' e3 h2
      exact absurd (h.inj i' id b' z2 z l1 hlid e4 (by rw [e2.1]; exact hmb)) l2
    · simp only [Prod.mk.injEq] at e4
      obtain ⟨l1, l2⟩ := hlive i e1 h1
      exact absurd (h.inj i id b' z1 z l1 hlid e2 (by rw [e4.1]; exact hmb)) l2
    · exact h.inj i i' b' z1 z2 (hlive i e1 h1).1 (hlive i' e3 h2).1 e2 e4
  · rw [AH.push_len, hlen] at hk
    unfold Gh.obj; dsimp only
    rw [if_neg (by omega)]
    exact h.ids k (by omega)
  · obtain ⟨g1, g2, g3⟩ := h.new k hk
    refine ⟨g1, g2, fun i z' e => ?_⟩
    rcases hmb' i _ e with ⟨_, e'⟩ | ⟨_, e'⟩
    · simp only [Prod.mk.injEq] at e'
      have := h.mb_lt hmb; omega
    · exact g3 i z' e'

/-- A tracked block never turns again: its rows are told. -/
def Gh.frz (G : Gh) (b m : Nat) : Gh := ⟨G.mb, fun k => if k = b then m else G.imm k, G.own⟩
theorem eff_frz {G : Gh} {w : World} {H : AH} (h : HSim G w H) {id b z : Nat} {B : ABlk} (hid : H.blks[id]? = some B) (hl : B.live = true) (hmb : G.mb id = some (b, z)) (m : Nat) :
    Le G w (G.frz b m) w ∧ Ext G H w (G.frz b m) (H.upd id .dead) w ∧ HSim (G.frz b m) w (H.upd id .dead) := by
  have hidlt : id < H.blks.length := (List.getElem?_eq_some_iff.1 hid).1
  have hlid : Live H id := ⟨_, hid, hl⟩
  obtain ⟨h5, h6⟩ : G.imm b = 0 ∧ G.own b = none := by
    rcases h.at_ id _ hid hl with ⟨b', zz, h3, _, h5, h6⟩ | ⟨h3, _⟩
    · rw [hmb] at h3
      simp only [Option.some.injEq, Prod.mk.injEq] at h3
      rw [h3.1]; exact ⟨h5, h6⟩
    · rw [hmb] at h3; cases h3
  have hle : Le G w (G.frz b m) w := ⟨fun _ _ e => e, fun k => by
    unfold Gh.frz; dsimp only
    split
    · rename_i e; rw [e]; omega
    · exact Nat.le_refl _, fun _ _ e => e, fun _ _ _ => rfl, fun _ _ e => e⟩
  obtain ⟨q1, q2⟩ := eff_dead h id
  have hne : ∀ k, k ≠ b → (G.frz b m).imm k = G.imm k := fun k hk => by unfold Gh.frz; dsimp only; rw [if_neg hk]
  refine ⟨hle, { os := rfl, tape := rfl, output := rfl, size := Nat.le_refl _, block := fun k _ hm => ⟨rfl, hne k fun e => hm (.inl ⟨id, z, hlid, by rw [e]; exact hmb⟩), rfl⟩, mb := fun _ _ _ e => .inl ⟨_, e⟩, muts := q1.muts },
    { at_ := fun k B1 g1 g2 => ?_, inj := q2.inj, ids := q2.ids, chain := fun c z' n hc => ?_, chains := q2.chains, new := fun k hk => ?_ }⟩
  · have hki : k ≠ id := by
      rintro rfl
      rw [AH.upd_at, if_pos rfl, if_pos hidlt] at g1
      simp only [Option.some.injEq] at g1
      subst g1; cases g2
    rw [AH.upd_other (fun e => hki e.symm)] at g1
    rcases h.at_ k B1 g1 g2 with ⟨b', z', g3, g4, g5, g6⟩ | g3
    · have hbb : b' ≠ b := by
        rintro rfl
        exact hki (h.inj k id b' z' z ⟨B1, g1, g2⟩ hlid g3 hmb)
      exact .inl ⟨b', z', g3, g4.heap hle rfl, by rw [hne b' hbb]; exact g5, g6⟩
    · exact .inr g3
  · obtain ⟨g1, g2⟩ := h.chain c z' n hc
    refine ⟨g1, fun hn => ?_⟩
    obtain ⟨bb, us, e', g3, g4, g5, g6⟩ := g2 hn
    have hbb : ∀ k, G.own k = some c → k ≠ b := by rintro k hk rfl; rw [hk] at h6; cases h6
    exact ⟨bb, us, e', g3, by rw [hne bb (hbb bb g3)]; exact g4, g5, fun b' hb' hne' => by rw [hne b' (hbb b' hb')]; exact g6 b' hb' hne'⟩
  · obtain ⟨g1, g2, g3⟩ := h.new k hk
    refine ⟨?_, g2, g3⟩
    rw [hne k (fun e => by have := h.mb_lt hmb; omega)]
    exact g1
end Go.Proofs.Ytecpiplfjmmccaa.AM
