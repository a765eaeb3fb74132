/-
  Texts laid together by program (bundle.py): each part says in its own head what is proved. What is proved here serves the law's row.
  Conditions: as each part says.
-/
import Derived.Test.YtecpiplfjmmccaaCn5
import Derived.Test.YtecpiplfjmmccaaCnShelf2
/-
  Coord: maps.DeleteFunc of the open batches: by the base's own law; told without addresses.
  Conditions: none.
-/
namespace Go.Proofs.Ytecpiplfjmmccaa.AM
open Go Go.Proofs Go.RowKit Go.Maps Go.Shelf
set_option maxRecDepth 20000

theorem isOpen_ok (k st : Int) (H : AH) : AC Try.prog 77 [.int .u32 k, .ep [.int .u8 st] 0] H fun r _ => r = .bool (decide (st = 1)) := by
  refine AC.of_vc (md := mdS) (qt := fun _ => true) ty_ok mix Try.func77 (by kernel_rfl) rfl (by kernel_rfl) ?_
  conv => whnf
  have : (st == 1) = decide (st = 1) := by simp [BEq.beq]
  exact congrArg AV.bool this

/-- What a map whose entries have turned, and blocks more, leave. -/
theorem eff_grown {G : Gh} {w w' : World} {H : AH} (h : HSim G w H) {id b z : Nat} {B B' : ABlk} (hid : H.blks[id]? = some B) (hl : B.live = true) (hmb : G.mb id = some (b, z)) (hg : w.grownBy w' (some b))
    (hsh : ∀ s, w.shape? b = some s → w'.shape? b = some s) (hat : Le G w G w' → BlkAt G w' b z B') :
    Le G w G w' ∧ Ext G H w G (H.upd id B') w' ∧ HSim G w' (H.upd id B') := by
  have hidlt : id < H.blks.length := (List.getElem?_eq_some_iff.1 hid).1
  have hoth : ∀ k, k < w.heap.size → k ≠ b → w'.heap[k]? = w.heap[k]? := fun k h1 h2 => hg.block k h1 (by simpa using h2)
  have hsz := hg.size
  obtain ⟨h5, h6⟩ : G.imm b = 0 ∧ G.own b = none := by
    rcases h.at_ id _ hid hl with ⟨b', zz, h3, _, h5, h6⟩ | ⟨h3, _⟩
    · rw [hmb] at h3
      simp only [Option.some.injEq, Prod.mk.injEq] at h3
      rw [h3.1]; exact ⟨h5, h6⟩
    · rw [hmb] at h3; cases h3
  have hle : Le G w G w' := by
    refine Le.of_agree (fun k hk => hoth k (h.imm_lt (by omega)) (fun e => by subst e; omega)) (fun k s hs => ?_)
    by_cases hkb : k = b
    · subst hkb; exact hsh s hs
    · rw [← hs]; exact shape_of_heap (hoth k (lt_of_shape hs) hkb)
  have hlid : Live H id := ⟨_, hid, hl⟩
  have hlive : ∀ k, Live (H.upd id B') k → Live H k := by
    rintro k ⟨B1, g1, g2⟩
    by_cases hk : id = k
    · subst hk; exact hlid
    · rw [AH.upd_other hk] at g1; exact ⟨B1, g1, g2⟩
  refine ⟨hle, { os := hg.os, tape := hg.tape, output := hg.output, size := hsz, block := fun k hk hmu => ?_, mb := fun _ _ _ e => .inl ⟨_, e⟩, muts := fun k hk hmu => ?_ },
          { at_ := fun id' B1 h1 h2 => ?_, inj := fun i i' b z z' h1 h2 h3 h4 => h.inj i i' b z z' (hlive _ h1) (hlive _ h2) h3 h4, ids := fun k hk => h.ids k (by simpa [AH.upd_len] using hk),
            chain := fun c' z' n' hcn => ?_, chains := h.chains, new := fun k hk => h.new k (by omega) }⟩
  · have hkb : k ≠ b := fun e => hmu (.inl ⟨id, z, hlid, by rw [e]; exact hmb⟩)
    exact ⟨hoth k hk hkb, rfl, rfl⟩
  · rcases hmu with ⟨k', z, hl', hmu⟩ | ⟨c', hmu⟩
    · exact .inl ⟨k', z, hlive _ hl', hmu⟩
    · exact .inr ⟨c', hmu⟩
  · by_cases hk : id = id'
    · subst hk
      rw [AH.upd_same hid] at h1
      simp only [Option.some.injEq] at h1
      subst h1
      exact .inl ⟨b, z, hmb, hat hle, h5, h6⟩
    · rw [AH.upd_other hk] at h1
      rcases h.at_ id' B1 h1 h2 with ⟨b', z', g3, g4, g5, g6⟩ | g3
      rotate_left
      · exact .inr g3
      have hkb : b' ≠ b := by
        rintro rfl
        exact hk (h.inj id id' b' z z' hlid ⟨B1, h1, h2⟩ hmb g3)
      exact .inl ⟨b', z', g3, g4.heap hle (hoth b' (h.mb_lt g3) hkb), g5, g6⟩
  · obtain ⟨g1, g2⟩ := h.chain c' z' n' hcn
    refine ⟨g1, fun hn' => ?_⟩
    obtain ⟨bb, us', e', g3, g4, g5, g6⟩ := g2 hn'
    have hbb : bb ≠ b := by rintro rfl; rw [g3] at h6; cases h6
    exact ⟨bb, us', e', g3, g4, (hoth bb (h.own_lt g3) hbb).trans g5, g6⟩

/-- Every element is what it is. -/
def heldR (v : Value) : Option (DataW Value × List MemPlace) := some (.held v, [])
theorem rd_held {P : Program} {k : TypeId} {q : IntKind} (hk : P.underlying k = some (.int q)) {x : MapEntry} {n : Int} (he : x.key = .int q n) (hw : (Lit.int q n).wf = true) :
    WideElems.rd (H := Value) P k heldR x = some (.int q n, .held x.val) := by
  unfold WideElems.rd heldR
  rw [he, Maps.keyOf_int_mk hk hw]; rfl
theorem perm_map_inv {α β : Type} {f : α → β} {L M : List β} (h : L.Perm M) : ∀ l : List α, M = l.map f → ∃ l' : List α, l'.Perm l ∧ L = l'.map f := by
  induction h with
  | nil => intro l e; cases l with
    | nil => exact ⟨[], .nil, rfl⟩
    | cons a l => cases e
  | cons x h ih => intro l e; cases l with
    | nil => cases e
    | cons a l =>
      rw [List.map_cons, List.cons.injEq] at e
      obtain ⟨l', h1, h2⟩ := ih l e.2
      exact ⟨a :: l', h1.cons a, by rw [List.map_cons, h2, e.1]⟩
  | swap x y L => intro l e; match l, e with
    | a :: b :: l, e =>
      simp only [List.map_cons, List.cons.injEq] at e
      exact ⟨b :: a :: l, .swap .., by simp only [List.map_cons]; rw [e.1, e.2.1, e.2.2]⟩
  | trans h1 h2 ih1 ih2 =>
    intro l e
    obtain ⟨l2, a1, a2⟩ := ih2 l e
    obtain ⟨l1, b1, b2⟩ := ih1 l2 a2
    exact ⟨l1, b1.trans a1, b2⟩
end Go.Proofs.Ytecpiplfjmmccaa.AM

/-
  Coord: maps.DeleteFunc of the open batches, told without addresses.
  Conditions: at most 1000000000000 batches.
-/
namespace Go.Proofs.Ytecpiplfjmmccaa.AM
open Go Go.Proofs Go.RowKit Go.Maps Go.Shelf
set_option maxRecDepth 20000

/-- A batch's place, as it is in w. -/
def Good (w : World) (bm : Nat) (v : Value) : Prop := ∃ bb st, v = .pointer (some ⟨bb, 0, none⟩) ∧ w.cell? ⟨bb, 0, none⟩ = some (.int .u8 st) ∧ bb ≠ bm ∧ bb < w.heap.size
open Classical in
noncomputable def goodR (w : World) (bm : Nat) (v : Value) : Option (DataW Value × List MemPlace) := if Good w bm v then some (.held v, []) else none
def isOpen (w : World) : DataW Value → Bool
  | .held (.pointer (some a)) => match w.cell? ⟨a.block, 0, none⟩ with
    | some (.int _ n) => decide (n = 1)
    | _ => false
  | _ => false

theorem isOpen_calls {w W : World} {bm bb : Nat} {k st : Int} (hg : w.grownBy W (some bm)) (hc : w.cell? ⟨bb, 0, none⟩ = some (.int .u8 st)) (hne : bb ≠ bm) (hlt : bb < w.heap.size) :
    Calls Try.prog 77 #[.int .u32 k, .pointer (some ⟨bb, 0, none⟩)] W fun e w' => e = .returned (.bool (decide (st = 1))) ∧ W.grownBy w' none := by
  have hcW : W.cell? ⟨bb, 0, none⟩ = some (.int .u8 st) := by
    rw [← hc]
    exact cell_of_heap (hg.block bb hlt (by simpa using hne))
  have hltW : bb < W.heap.size := Nat.lt_of_lt_of_le hlt hg.size
  have hsim : HSim ⟨fun _ => none, fun k => if k = bb then 1 else 0, fun _ => none⟩ W AH.none := {
    at_ := fun id B h1 => by simp [AH.none] at h1
    inj := fun id id' b z z' h1 => by obtain ⟨B, hB, _⟩ := h1; simp [AH.none] at hB
    ids := fun _ _ => rfl
    chain := fun c z n h => by simp [AH.none] at h
    chains := fun _ _ _ h => by cases h
    new := fun b hb => ⟨by dsimp only; rw [if_neg (by omega)], rfl, fun _ _ h => by cases h⟩ }
  have h := (isOpen_ok k st AH.none).2 _ W [.int .u32 k, .pointer (some ⟨bb, 0, none⟩)] hsim ⟨rfl, fun i x hx => by
    match i, hx with
    | 0, hx => simp at hx; subst hx; exact .int _ _
    | 1, hx =>
      simp at hx; subst hx
      refine .ep [.int .u8 st] 0 bb 0 (fun _ => .int .u8 st) (by simp) (fun j x hx => ?_) (fun j x hx => ?_) (fun j x hx => ?_) <;> match j, hx with
      | 0, hx => first | exact hcW | (simp at hx; subst hx; first | rfl | exact .int _ _)⟩
  refine h.mono ?_
  rintro e w' ⟨r, cr, G', H', rfl, h1, _, _, hx, rfl⟩
  cases h1
  exact ⟨rfl, ⟨hx.os, hx.tape, hx.output, hx.size, fun k hk _ => (hx.block k hk (by
    rintro (⟨id, z, ⟨B, hB, _⟩, _⟩ | ⟨c, hc⟩)
    · simp [AH.none] at hB
    · cases hc)).1⟩⟩

/-- A batch's place in w. -/
def Bt.vl (G : Gh) (b : Bt) : Value := .pointer (some ⟨((G.mb b.id).getD (0, 0)).1, 0, none⟩)
def Bt.dg (G : Gh) (b : Bt) : Lit × DataW Value := (.int .u32 b.key, .held (b.vl G))

theorem bt_good {c : Co} {H : AH} (h : c.In H) {G : Gh} {w : World} (hH : HSim G w H) {bm : Nat} {en : Array MapEntry} {clock : Nat} (hat : MapAt G w bm .u32 (c.l.map Bt.ent) none en clock) {i : Nat} {b : Bt} (hb : c.l[i]? = some b) :
    ∃ e : MapEntry, en[i]? = some e ∧ e.key = .int .u32 b.key ∧ e.val = b.vl G ∧ (∃ bb z, G.mb b.id = some (bb, z) ∧ b.vl G = .pointer (some ⟨bb, 0, none⟩) ∧ w.cell? ⟨bb, 0, none⟩ = some (.int .u8 b.st) ∧ bb ≠ bm ∧ bb < w.heap.size) := by
  have hbm := List.mem_of_getElem? hb
  obtain ⟨_, e, h1, h2, h3⟩ := hat.2.2.2.1 i b.key (.ptr b.id 0 0) (by rw [List.getElem?_map, hb]; rfl)
  generalize hv : e.val = v at h3
  cases h3 with
  | ptr _ _ _ bb z hmb =>
  obtain ⟨rfl, _, us, ee, g1, _, g3, g4⟩ := rows_at (S := ⟨0, [], [], H⟩) hH (h.bts b hbm).row hmb
  have g5 := g4 0 0 (.int .u8 b.st) rfl
  simp only [Nat.zero_mul, Nat.add_zero] at g5
  rcases g5 with g5 | ⟨_, g5⟩
  · cases g5
  generalize hu0 : us.getD 0 Go.undef = u0 at g5
  cases g5
  have hcB : w.cell? ⟨bb, 0, none⟩ = some (.int .u8 b.st) := by
    have := cell_row (w := w) g1 (j := 0) (by simp at g3; omega)
    rw [this, hu0]
  have hvl : b.vl G = .pointer (some ⟨bb, 0, none⟩) := by unfold Bt.vl; rw [hmb]; rfl
  refine ⟨e, h1, h2, by rw [hv, hvl], bb, 5, hmb, hvl, hcB, fun e => ?_, lt_of_heap g1⟩
  subst e
  rw [hat.1] at g1; cases g1

theorem goodR_of {w : World} {bm : Nat} {v : Value} (h : Good w bm v) : goodR w bm v = some (.held v, []) := by unfold goodR; rw [if_pos h]

set_option maxHeartbeats 1000000 in
theorem df_ok {c : Co} {H : AH} (h : c.In H) (hlen : c.l.length ≤ 1000000000000) : AC Try.prog 76 [.map c.idm, .fn 77 [] []] H fun r H' =>
    r = .tup [] ∧ ∃ l' : List Bt, l'.Perm (c.l.filter fun b => decide (b.st ≠ 1)) ∧ H' = H.upd c.idm (.map .u32 (l'.map Bt.ent) none) := by
  refine ⟨⟨_, _, Try.func76, by kernel_rfl, rfl⟩, fun G w vs hH hr => ?_⟩
  obtain ⟨hlv, hr⟩ := hr
  match vs, hlv with
  | [v, f], _ =>
  have h0 := hr 0 _ rfl
  have h1 := hr 1 _ rfl
  simp only [List.getD_cons_zero, List.getD_cons_succ] at h0 h1
  cases h0 with
  | map _ bm hmb =>
  cases h1 with
  | fn _ _ _ fv cv hf hc _ _ =>
  have hf0 : fv = #[] := Array.eq_empty_of_size_eq_zero hf
  have hc0 : cv = #[] := Array.eq_empty_of_size_eq_zero hc
  subst hf0 hc0
  obtain ⟨en, clock, hat⟩ := map_at (S := ⟨0, [], [], H⟩) hH h.map hmb
  have hk : Try.prog.underlying 30 = some (.int .u32) := Try.underlying30
  have hwf : ∀ b ∈ c.l, (Lit.int .u32 b.key).wf = true := fun b hb => by
    have := h.krng b hb
    have e1 : IntKind.u32.min = 0 := rfl
    have e2 : IntKind.u32.max = 4294967295 := rfl
    simp [Lit.wf, e1, e2]; omega
  have hsz : en.size = c.l.length := by rw [hat.2.2.1, List.length_map]
  have hrd : ∀ (i : Nat) (b : Bt), c.l[i]? = some b → ∃ e : MapEntry, en[i]? = some e ∧ WideElems.rd Try.prog 30 (goodR w bm) e = some (b.dg G) := by
    intro i b hb
    obtain ⟨e, g1, g2, g3, bb, z, g4, g5, g6, g7, g8⟩ := bt_good h hH hat hb
    refine ⟨e, g1, ?_⟩
    unfold WideElems.rd
    rw [g2, Maps.keyOf_int_mk hk (hwf b (List.mem_of_getElem? hb)), g3, goodR_of ⟨bb, b.st, g5, g6, g7, g8⟩]
    rfl
  have hrg : en.toList.map (WideElems.rg Try.prog 30 (goodR w bm)) = c.l.map (Bt.dg G) := by
    apply List.ext_getElem?
    intro i
    rw [List.getElem?_map, List.getElem?_map, Array.getElem?_toList]
    cases hb : c.l[i]? with
    | none => rw [Array.getElem?_eq_none (by rw [hsz]; exact List.getElem?_eq_none_iff.1 hb)]; rfl
    | some b =>
      obtain ⟨e, g1, g2⟩ := hrd i b hb
      rw [g1]
      simp only [Option.map_some, WideElems.rg_of g2]
  have hown : w.ownsMap Try.prog 30 (goodR w bm) bm en.size (.map ((c.l.map (Bt.dg G)).foldr DataW.insert [])) := by
    refine ⟨en, clock, hat.1, ⟨by rw [hsz]; have : maxLen = 9223372036854775807 := rfl; omega, hat.2.1, fun x hx => ?_⟩, Nat.le_refl _, by rw [hrg]⟩
    obtain ⟨i, hi⟩ := Array.mem_iff_getElem?.1 (Array.mem_toList_iff.1 hx)
    have hlt : i < c.l.length := by rw [← hsz]; exact (Array.getElem?_eq_some_iff.1 hi).1
    obtain ⟨e, g1, g2⟩ := hrd i _ (List.getElem?_eq_getElem hlt)
    rw [hi] at g1
    simp only [Option.some.injEq] at g1
    subst g1
    exact ⟨_, g2⟩
  have hcall := AnyDf.maps_DeleteFunc (H := Value) { Try.delA with } (Maps.int_keyed hk) (goodR w bm) (fun _ d => isOpen w d) 77 #[] bm en.size _ w
    (enters_of Try.func77 (by kernel_rfl) rfl) hown (fun W key val kl yd yp hg hkey hval => by
      obtain ⟨n, rfl, _, _⟩ := Maps.keyOf_int_inv hk hkey
      by_cases hgd : Good w bm val
      · rw [goodR_of hgd] at hval
        simp only [Option.some.injEq, Prod.mk.injEq] at hval
        obtain ⟨bb, st, rfl, g2, g3, g4⟩ := hgd
        have := isOpen_calls (k := n) hg g2 g3 g4
        rw [← hval.1]
        have e : isOpen w (.held (.pointer (some ⟨bb, 0, none⟩))) = decide (st = 1) := by simp only [isOpen, g2]
        rw [e]
        exact this
      · unfold goodR at hval; rw [if_neg hgd] at hval; cases hval)
  change Calls _ 76 _ _ _ at hcall
  refine hcall.mono ?_
  rintro e w' ⟨rfl, ⟨en', clock', hb', hfit, hsz', hD⟩, hg⟩
  rw [show Try.delA_ren.t 26 = 30 from rfl] at hfit hD
  have hp : (en'.toList.map (WideElems.rg Try.prog 30 (goodR w bm))).Perm ((c.l.filter fun b => decide (b.st ≠ 1)).map (Bt.dg G)) := by
    simp only [Lib.deleteFuncD, DataW.map.injEq] at hD
    refine (WideShapes.sorted_perm _).symm.trans ?_
    rw [← hD]
    refine ((WideShapes.sorted_perm _).filter _).trans ?_
    rw [List.filter_map]
    refine List.Perm.of_eq ?_
    congr 1
    apply List.filter_congr
    intro b hb
    obtain ⟨i, hi⟩ := List.getElem?_of_mem hb
    obtain ⟨e, g1, g2, g3, bb, z, g4, g5, g6, g7, g8⟩ := bt_good h hH hat hi
    simp only [Function.comp, Bt.dg, g5, isOpen, g6]
    simp
  obtain ⟨l', hl1, hl2⟩ := perm_map_inv hp _ rfl
  have hent : ∀ (i : Nat) (b : Bt), l'[i]? = some b → b ∈ c.l ∧ ∃ e : MapEntry, en'[i]? = some e ∧ e.key = .int .u32 b.key ∧ e.val = b.vl G := by
    intro i b hb
    refine ⟨(List.mem_filter.1 (hl1.mem_iff.1 (List.mem_of_getElem? hb))).1, ?_⟩
    have h1 : (en'.toList.map (WideElems.rg Try.prog 30 (goodR w bm)))[i]? = some (b.dg G) := by rw [hl2, List.getElem?_map, hb]; rfl
    rw [List.getElem?_map, Array.getElem?_toList] at h1
    obtain ⟨e, h2, h3⟩ := Option.map_eq_some_iff.1 h1
    obtain ⟨y, hy⟩ := hfit.reads e (Array.mem_toList_iff.2 (Array.mem_of_getElem? h2))
    rw [WideElems.rg_of hy] at h3
    subst h3
    have hk1 := WideElems.rd_key hy
    obtain ⟨n, g1, g2, _⟩ := Maps.keyOf_int_inv hk hk1
    obtain ⟨zz, g3, g4⟩ := WideElems.rd_val hy
    refine ⟨e, h2, ?_, ?_⟩
    · simp only [Bt.dg, Lit.int.injEq, true_and] at g2
      rw [g1, g2]
    · by_cases hgd : Good w bm e.val
      · rw [goodR_of hgd] at g3
        simp only [Option.some.injEq] at g3
        subst g3
        simp only [Bt.dg, DataW.held.injEq] at g4
        exact g4.symm
      · unfold goodR at g3; rw [if_neg hgd] at g3; cases g3
  have hsl : en'.size = l'.length := by
    have := congrArg List.length hl2
    simpa using this
  obtain ⟨q1, q2, q3⟩ := eff_grown (B' := .map .u32 (l'.map Bt.ent) none) hH h.map rfl hmb hg (fun s hs => by
    simp [World.shape?, hat.1] at hs) (fun hle => ⟨rfl, en', clock', hb', hfit.stamped, by rw [hsl, List.length_map], fun i n x hx => by
      rw [List.getElem?_map] at hx
      obtain ⟨b, hb, e⟩ := Option.map_eq_some_iff.1 hx
      simp only [Bt.ent, Prod.mk.injEq] at e
      obtain ⟨rfl, rfl⟩ := e
      obtain ⟨hm, e, g1, g2, g3⟩ := hent i b hb
      refine ⟨rfl, e, g1, g2, ?_⟩
      rw [g3]
      obtain ⟨j, hj⟩ := List.getElem?_of_mem hm
      obtain ⟨_, _, _, _, bb, z, g4, g5, _⟩ := bt_good h hH hat hj
      rw [g5]
      have := Rep.ptr (G := G) (w := w') b.id 0 0 bb z g4
      simpa using this, fun n i hh => by cases hh⟩)
  exact ⟨.tup [], .tuple #[], G, _, rfl, .tup [] #[] rfl (fun i x hx => by simp at hx), q3, q1, q2, rfl, l', hl1, rfl⟩
end Go.Proofs.Ytecpiplfjmmccaa.AM

/-
  Coord: start, commit, Apply, New, walked.
  Conditions: none.
-/
namespace Go.Proofs.Ytecpiplfjmmccaa.AM
open Go
set_option maxRecDepth 20000

/-- A record: of a kind, a number, a time, nodes, a map. -/
def recV (k id at_ : Int) (nv : AV) (e : Int) (lv : AV) : AV := .agg [.int .u8 k, .int .u32 id, .int .u32 at_, nv, .nils, .int .u32 e, lv, .int .i64 0, .int .i64 0, .nils]

/-- The batches are turned. -/
theorem Co.In.left {c : Co} {H : AH} (h : c.In H) {l' : List Bt} {p : Bt → Bool} (hp : l'.Perm (c.l.filter p)) : ({ c with l := l' }).In (H.upd c.idm (.map .u32 (l'.map Bt.ent) none)) ∧ Fr H (H.upd c.idm (.map .u32 (l'.map Bt.ent) none)) := by
  have hm : ∀ b ∈ l', b ∈ c.l := fun b hb => (List.mem_filter.1 (hp.mem_iff.1 hb)).1
  have hd : ∀ {α : Type} (f : Bt → α), (c.l.map f).Nodup → (l'.map f).Nodup := fun f hn => (hp.map f).nodup_iff.2 (hn.sublist (List.filter_sublist.map f))
  have hne : c.idm ≠ c.id := fun e => by have := h.row; rw [← e, h.map] at this; cases this
  refine ⟨⟨?_, AH.upd_same h.map, fun b hb => ?_, hd _ h.keys, hd _ h.ids, hd _ h.idls, fun b hb => h.krng b (hm b hb), h.rng⟩, Fr.upd h.map fun a => a⟩
  · rw [show ({ c with l := l' } : Co).id = c.id from rfl, AH.upd_other hne]; exact h.row
  · have := h.bts b (hm b hb)
    exact ⟨by rw [AH.upd_other (h.ne_map (hm b hb)).symm]; exact this.row, by rw [AH.upd_other (h.ne_lmap (hm b hb)).symm]; exact this.lks, this.nod⟩

def StartP (c : Co) (id : Int) (H : AH) (r : AV) (H' : AH) : Prop :=
  ((id ≤ c.starts ∨ 1000 < id) ∧ r = .int .u16 140 ∧ H' = H) ∨
  (c.starts < id ∧ id ≤ 1000 ∧ r = .int .u16 0 ∧ (∃ l' : List Bt, l'.Perm (c.l.filter fun b => decide (b.st ≠ 1)) ∧ ({ c with starts := id, begun := 0, l := l' }).In H') ∧ Fr H H')
theorem start_ok {c : Co} {H : AH} (h : c.In H) (hlen : c.l.length ≤ 1000000000000) (k id at_ : Int) : AC Try.prog 52 [.ptr c.id 0 0, recV k id at_ .nils 0 .nils] H fun r H' => StartP c id H r H' := by
  refine AC.of_vc (md := mdS) (qt := fun _ => false) ty_ok mix Try.func52 (by kernel_rfl) rfl (by kernel_rfl) ?_
  obtain ⟨r1, r2, r3, r4⟩ := h.rng
  conv => whnf
  refine DrawVC.go [0, 1, 2, 3, 4, 5, 6, 7, 8, 9, 10, 11] (by kernel_rfl) ?_
  conv => whnf
  refine ⟨_, _, _, h.row, rfl, ?_⟩
  conv => whnf
  refine bsp_intro ?_ ?_
  · intro h1
    have h1 := of_decide_eq_true h1
    conv => whnf
    exact .inl ⟨.inl h1, rfl, rfl⟩
  intro h1
  have h1 := of_decide_eq_false h1
  have h1 : ¬ id ≤ c.starts := h1
  conv => whnf
  refine bsp_intro ?_ ?_
  · intro h2
    have h2 := of_decide_eq_true h2
    conv => whnf
    exact .inl ⟨.inr h2, rfl, rfl⟩
  intro h2
  have h2 := of_decide_eq_false h2
  have h2 : ¬ 1000 < id := h2
  conv => whnf
  refine ⟨_, _, _, h.row, rfl, ?_⟩
  obtain ⟨hi, hf⟩ := h.rowed (c' := { c with starts := id }) rfl rfl rfl ⟨by dsimp only; omega, by dsimp only; omega, r3, r4⟩
  conv => whnf
  refine ⟨_, _, _, hi.row, rfl, ?_⟩
  obtain ⟨hi2, hf2⟩ := hi.rowed (c' := { c with starts := id, begun := 0 }) rfl rfl rfl ⟨by dsimp only; omega, by dsimp only; omega, by dsimp only; omega, by dsimp only; omega⟩
  conv => whnf
  refine ⟨_, _, _, hi2.row, rfl, ?_⟩
  conv => whnf
  refine ⟨(df_ok hi2 hlen).mono ?_⟩
  rintro r H' ⟨rfl, l', hl', hH'⟩
  conv => whnf
  obtain ⟨hi3, hf3⟩ := hi2.left hl'
  rw [← hH'] at hi3 hf3
  exact .inr ⟨by omega, by omega, rfl, ⟨l', hl', hi3⟩, (hf.trans hf2).trans hf3⟩
end Go.Proofs.Ytecpiplfjmmccaa.AM

/-
  Coord: commit, Apply of a start and of a commit, New, Starts, Last, Status, walked.
  Conditions: none.
-/
namespace Go.Proofs.Ytecpiplfjmmccaa.AM
open Go
set_option maxRecDepth 20000

/-- A batch laid at its number, in whichever's place. -/
noncomputable def putB (l : List Bt) (b : Bt) : List Bt := if ∃ x ∈ l, x.key = b.key then l.map (fun x => if x.key = b.key then b else x) else l ++ [b]
theorem putB_ent (l : List Bt) (b : Bt) : putE (l.map Bt.ent) b.key (.ptr b.id 0 0) = (putB l b).map Bt.ent := by
  unfold putE putB
  by_cases h : ∃ x ∈ l, x.key = b.key
  · rw [if_pos h, if_pos (by obtain ⟨x, hx, e⟩ := h; exact ⟨_, List.mem_map.2 ⟨x, hx, rfl⟩, e⟩), List.map_map, List.map_map]
    apply List.map_congr_left
    intro x _
    simp only [Function.comp, Bt.ent]
    split <;> simp_all
  · rw [if_neg h, if_neg (by rintro ⟨p, hp, e⟩; obtain ⟨x, hx, rfl⟩ := List.mem_map.1 hp; exact h ⟨x, hx, e⟩), List.map_append]
    rfl
theorem putB_mem {l : List Bt} {b x : Bt} (h : x ∈ putB l b) : x = b ∨ (x ∈ l ∧ x.key ≠ b.key) := by
  unfold putB at h
  split at h
  · obtain ⟨y, hy, e⟩ := List.mem_map.1 h
    split at e
    · exact .inl e.symm
    · rename_i hne; subst e; exact .inr ⟨hy, hne⟩
  · rename_i hne
    rcases List.mem_append.1 h with h | h
    · exact .inr ⟨h, fun e => hne ⟨x, h, e⟩⟩
    · exact .inl (List.mem_singleton.1 h)
theorem putB_old {l : List Bt} {b x : Bt} (h : x ∈ l) (hk : x.key ≠ b.key) : x ∈ putB l b := by
  unfold putB
  split
  · exact List.mem_map.2 ⟨x, h, if_neg hk⟩
  · exact List.mem_append_left _ h
theorem putB_new {l : List Bt} {b : Bt} : b ∈ putB l b := by
  unfold putB
  split
  · rename_i h
    obtain ⟨x, hx, e⟩ := h
    exact List.mem_map.2 ⟨x, hx, if_pos e⟩
  · exact List.mem_append_right _ (by simp)
theorem putB_len {l : List Bt} {b : Bt} : (putB l b).length ≤ l.length + 1 := by
  unfold putB
  split <;> simp
theorem putB_nodup {α : Type} {l : List Bt} {b : Bt} (f : Bt → α) (hk : (l.map Bt.key).Nodup) (hf : (l.map f).Nodup) (hb : ∀ x ∈ l, x.key ≠ b.key → f x ≠ f b) : ((putB l b).map f).Nodup := by
  unfold putB
  split
  · rename_i h
    clear h
    induction l with
    | nil => exact .nil
    | cons a l ih =>
      rw [List.map_cons, List.nodup_cons] at hk hf
      have ih := ih hk.2 hf.2 fun x hx => hb x (List.mem_cons_of_mem _ hx)
      rw [List.map_cons, List.map_cons, List.nodup_cons]
      refine ⟨fun hm => ?_, ih⟩
      obtain ⟨y, hy, e⟩ := List.mem_map.1 hm
      obtain ⟨x, hx, rfl⟩ := List.mem_map.1 hy
      have hxa : x.key ≠ a.key := fun e => hk.1 (List.mem_map.2 ⟨x, hx, e⟩)
      by_cases h1 : a.key = b.key
      · rw [if_pos h1, if_neg (by rw [← h1]; exact hxa)] at e
        exact hb x (List.mem_cons_of_mem _ hx) (by rw [← h1]; exact hxa) e
      · rw [if_neg h1] at e
        by_cases h2 : x.key = b.key
        · rw [if_pos h2] at e
          exact hb a (List.mem_cons_self ..) h1 e.symm
        · rw [if_neg h2] at e
          exact hf.1 (List.mem_map.2 ⟨x, hx, e⟩)
  · rename_i h
    rw [List.map_append, List.nodup_append]
    refine ⟨hf, by simp, fun a ha a' ha' => ?_⟩
    obtain ⟨x, hx, rfl⟩ := List.mem_map.1 ha
    rw [List.map_cons, List.map_nil, List.mem_singleton] at ha'
    rw [ha']
    exact hb x hx fun e => h ⟨x, hx, e⟩

theorem Co.In.put {c : Co} {H : AH} (h : c.In H) {b : Bt} (hi : b.id = H.blks.length + 1) (hl : b.idl = H.blks.length) (hn : (b.lk.map (·.1)).Nodup) (hkr : 0 ≤ b.key ∧ b.key ≤ 4294967295) {H2 : AH} (hH : H2 = (H.push (.map .i64 (lkE b.lk) none)).push (.rows 5 [b.row])) :
    ({ c with l := putB c.l b }).In (H2.upd c.idm (.map .u32 ((putB c.l b).map Bt.ent) none)) ∧ Fr H (H2.upd c.idm (.map .u32 ((putB c.l b).map Bt.ent) none)) := by
  have hg : Grow H H2 := by rw [hH]; exact Grow.push.trans Grow.push
  have hf : Fr H H2 := by rw [hH]; exact Fr.push.trans Fr.push
  have h2 := h.grow hg
  have hlt : ∀ {i B}, H.blks[i]? = some B → i < H.blks.length := fun e => (List.getElem?_eq_some_iff.1 e).1
  have hm : c.idm < H.blks.length := hlt h.map
  refine ⟨⟨?_, ?_, fun x hx => ?_, ?_, ?_, ?_, fun x hx => ?_, h.rng⟩, hf.trans (Fr.upd h2.map fun a => a)⟩
  · have hne : c.idm ≠ c.id := fun e => by have := h.row; rw [← e, h.map] at this; cases this
    rw [show ({ c with l := putB c.l b } : Co).id = c.id from rfl, AH.upd_other hne]; exact h2.row
  · exact AH.upd_same h2.map
  · rcases putB_mem hx with rfl | ⟨hx, _⟩
    · refine ⟨?_, ?_, hn⟩
      · rw [AH.upd_other (by omega), hH, hi, ← AH.push_len (B := .map .i64 (lkE x.lk) none), AH.push_new]
      · rw [AH.upd_other (by omega), hH, hl, AH.push_old (by rw [AH.push_len]; omega), AH.push_new]
    · have := h2.bts x hx
      exact ⟨by rw [AH.upd_other (h2.ne_map hx).symm]; exact this.row, by rw [AH.upd_other (h2.ne_lmap hx).symm]; exact this.lks, this.nod⟩
  · exact putB_nodup _ h.keys h.keys fun x _ hx => hx
  · exact putB_nodup _ h.keys h.ids fun x hx _ => by have := hlt (h.bts x hx).row; omega
  · exact putB_nodup _ h.keys h.idls fun x hx _ => by have := hlt (h.bts x hx).lks; omega
  · rcases putB_mem hx with rfl | ⟨hx, _⟩
    · exact hkr
    · exact h.krng x hx

def CommitP (c : Co) (id at_ : Int) (ns : List Int) (H : AH) (r : AV) (H' : AH) : Prop :=
  ((∃ b ∈ c.l, b.key = id ∧ b.st = 2) ∧ r = .int .u16 140 ∧ H' = H) ∨
  ((∀ b ∈ c.l, b.key = id → b.st ≠ 2) ∧ at_ ≤ c.last ∧ r = .int .u16 130 ∧ H' = H) ∨
  ((∀ b ∈ c.l, b.key = id → b.st ≠ 2) ∧ c.last < at_ ∧ r = .int .u16 0 ∧ (∃ idb idl, ({ c with last := at_, l := putB c.l (ofB idb idl id 2 at_ ns) }).In H') ∧ Fr H H')
theorem commit_ok {c : Co} {H : AH} (h : c.In H) (id at_ : Int) (ns : List Int) (hn : ns.Nodup) (hl : ns.length ≤ 1000000000000) (hid : 0 ≤ id ∧ id ≤ 4294967295) : AC Try.prog 51 [.ptr c.id 0 0, recV 2 id at_ (intS ns) 0 .nils] H fun r H' => CommitP c id at_ ns H r H' := by
  refine AC.of_vc (md := fun | 1000000 => 1 | 2000056 => 2 | _ => 0) (qt := fun f => Nat.beq f 53) ty_ok mix Try.func51 (by kernel_rfl) rfl (by kernel_rfl) ?_
  conv => whnf
  refine ⟨fun H1 hg => (in_ok (h.grow hg) id 2).mono ?_⟩
  rintro r H' ⟨hH, hr⟩
  rcases hr with ⟨b, hb, hk, hs, rfl⟩ | ⟨hno, rfl⟩
  · refine ⟨hH, ?_⟩
    conv => whnf
    exact .inl ⟨⟨b, hb, hk, hs⟩, rfl, rfl⟩
  refine ⟨hH, ?_⟩
  conv => whnf
  refine DrawVC.go [0, 1, 2, 3, 4, 5, 6, 7] (by kernel_rfl) ?_
  conv => whnf
  refine ⟨_, _, _, h.row, rfl, ?_⟩
  conv => whnf
  refine bsp_intro ?_ ?_
  · intro h1
    have h1 := of_decide_eq_true h1
    conv => whnf
    exact .inr (.inl ⟨hno, h1, rfl, rfl⟩)
  intro h1
  have h1 : ¬ at_ ≤ c.last := of_decide_eq_false h1
  conv => whnf
  refine DrawVC.go [0, 1, 2, 3, 4, 5, 6, 7, 8, 9, 10, 11, 12] (by kernel_rfl) ?_
  conv => whnf
  refine ⟨_, _, _, h.row, rfl, ?_⟩
  conv => whnf
  refine ⟨(of_ok 2 at_ ns hn hl H).mono ?_⟩
  rintro r H2 ⟨rfl, hH2⟩
  refine ⟨by rw [hH2]; exact Grow.push.trans Grow.push, ?_⟩
  obtain ⟨hm1, hm2⟩ := h.put (b := ofB (H.blks.length + 1) H.blks.length id 2 at_ ns) rfl rfl (by rw [show (ofB (H.blks.length + 1) H.blks.length id 2 at_ ns).lk = lkOf ns from rfl, lkOf_keys]; exact hn) hid hH2
  have h2 := h.grow (H' := H2) (by rw [hH2]; exact Grow.push.trans Grow.push)
  conv => whnf
  refine ⟨_, _, h2.map, ?_⟩
  erw [show putE (c.l.map Bt.ent) id (.ptr (H.blks.length + 1) 0 0) = _ from putB_ent c.l (ofB (H.blks.length + 1) H.blks.length id 2 at_ ns)]
  conv => whnf
  refine ⟨_, _, _, hm1.row, rfl, ?_⟩
  conv => whnf
  obtain ⟨hi, hf⟩ := hm1.rowed (c' := { c with last := at_, l := putB c.l (ofB (H.blks.length + 1) H.blks.length id 2 at_ ns) }) rfl rfl rfl h.rng
  exact .inr (.inr ⟨hno, by omega, rfl, ⟨_, _, hi⟩, hm2.trans hf⟩)
end Go.Proofs.Ytecpiplfjmmccaa.AM
