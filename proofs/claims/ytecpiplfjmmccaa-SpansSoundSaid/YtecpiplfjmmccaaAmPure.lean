/-
  Functions that lean on no memory of the caller's: proved over none, they hold over any (PC.ac).
  No program in sight. Conditions: none.
-/
import Derived.Test.YtecpiplfjmmccaaAmVc2
namespace Go.Proofs.Ytecpiplfjmmccaa.AM
open Go

/-- A value told of less: chains and the nil slice forgotten. -/
inductive Ws : AV → AV → Prop where
  | refl (x : AV) : Ws x x
  | nil (z : Nat) (hz : 0 < z) : Ws .nils (.sl z [] none)
  | sl (z : Nat) (rows rows' : List (List AV)) (tok : Option Nat) (f : Nat → Nat → AV) (hl : rows'.length = rows.length) (hk : ∀ r ∈ rows', r.length = z)
      (hc : ∀ i j x, cellAt rows' i j = some x → cellAt rows i j = some (f i j)) (h1 : ∀ i j x, cellAt rows' i j = some x → x.one = true) (h : ∀ i j x, cellAt rows' i j = some x → Ws (f i j) x) : Ws (.sl z rows tok) (.sl z rows' none)
  | agg (cs cs' : List AV) (f : Nat → AV) (hl : cs'.length = cs.length) (hc : ∀ (j : Nat) x, cs'[j]? = some x → cs[j]? = some (f j)) (h1 : ∀ (j : Nat) x, cs'[j]? = some x → x.one = true) (h : ∀ (j : Nat) x, cs'[j]? = some x → Ws (f j) x) : Ws (.agg cs) (.agg cs')
  | tup (cs cs' : List AV) (f : Nat → AV) (hl : cs'.length = cs.length) (hc : ∀ (j : Nat) x, cs'[j]? = some x → cs[j]? = some (f j)) (h : ∀ (j : Nat) x, cs'[j]? = some x → Ws (f j) x) : Ws (.tup cs) (.tup cs')
theorem Ws.of {x y : AV} (h : x = y) : Ws x y := h ▸ .refl x
theorem Ws.drop (z : Nat) (rows : List (List AV)) (tok : Option Nat) (hk : ∀ r ∈ rows, r.length = z) (h1 : ∀ i j x, cellAt rows i j = some x → x.one = true) : Ws (.sl z rows tok) (.sl z rows none) :=
  .sl z rows rows tok (fun i j => (cellAt rows i j).getD .undef) rfl hk (fun i j x h => by simp [h]) h1 (fun i j x h => by simp only [h, Option.getD_some]; exact .refl x)

theorem Ws.rep {G : Gh} {w : World} {x y : AV} {v : Value} (h : Ws x y) (hr : Rep G w x v) : Rep G w y v := by
  induction h generalizing v with
  | refl => exact hr
  | nil z hz =>
    cases hr
    exact .sl z [] none none 0 0 0 (fun _ _ => Go.undef) hz (by simp) (by simp [maxLen]) (by simp) (.inl ⟨rfl, .inr rfl⟩) (fun i j x hx => by simp [cellAt] at hx) (fun i j x hx => by simp [cellAt] at hx) (fun i j x hx => by simp [cellAt] at hx)
  | sl z rows rows' tok f hl hk hc h1 h ih =>
    cases hr with
    | sl _ _ _ A c b o g hz hlc hcm hkr hp hcell h1r hrr =>
      rw [← hl]
      refine .sl z rows' none A c b o g hz (by omega) hcm hk ?_ (fun i j x hx => hcell i j _ (hc i j x hx)) h1 (fun i j x hx => ih i j x hx (hrr i j _ (hc i j x hx)))
      rcases hp with ⟨h0, _⟩ | ⟨hA, hi, _⟩
      · exact .inl ⟨by omega, .inl rfl⟩
      · exact .inr ⟨hA, by rw [hl]; exact hi, fun t e => nomatch e⟩
  | agg cs cs' f hl hc h1 h ih =>
    cases hr with
    | agg _ vs hlv h1v hrv => exact .agg cs' vs (by omega) h1 (fun j x hx => ih j x hx (hrv j _ (hc j x hx)))
  | tup cs cs' f hl hc h ih =>
    cases hr with
    | tup _ vs hlv hrv => exact .tup cs' vs (by omega) (fun j x hx => ih j x hx (hrv j _ (hc j x hx)))

/-- A value that leads to no tracked memory. -/
inductive Pur : AV → Prop where
  | int (k : IntKind) (n : Int) : Pur (.int k n)
  | bool (b : Bool) : Pur (.bool b)
  | str (s : ByteArray) : Pur (.str s)
  | nilptr : Pur .nilptr
  | nils : Pur .nils
  | nilmap : Pur .nilmap
  | nilfn : Pur .nilfn
  | nilif : Pur .nilif
  | sl (z : Nat) (rows : List (List AV)) (h : ∀ i j x, cellAt rows i j = some x → Pur x) : Pur (.sl z rows none)
  | agg (cs : List AV) (h : ∀ (j : Nat) x, cs[j]? = some x → Pur x) : Pur (.agg cs)
  | tup (cs : List AV) (h : ∀ (j : Nat) x, cs[j]? = some x → Pur x) : Pur (.tup cs)
  | fn (f : FuncId) (a b : List AV) (ha : ∀ (j : Nat) x, a[j]? = some x → Pur x) (hb : ∀ (j : Nat) x, b[j]? = some x → Pur x) : Pur (.fn f a b)

theorem Rep.pur {G G' : Gh} {w : World} (him : ∀ b, G.imm b = G'.imm b) {x : AV} {v : Value} (h : Rep G w x v) (hp : Pur x) : Rep G' w x v := by
  induction h with
  | skip => cases hp
  | int k n => exact .int k n
  | bool b => exact .bool b
  | str s => exact .str s
  | nilptr => exact .nilptr
  | ptr id row col b z h => cases hp
  | ep row col b o f hi hc h1 _ ih => cases hp
  | nils => exact .nils
  | sl z rows tok A c b o f hz hlc hc hk hpl hcell h1 _ ih =>
    cases hp with
    | sl _ _ hpp =>
      refine .sl z rows none A c b o f hz hlc hc hk ?_ hcell h1 (fun i j x hx => ih i j x hx (hpp i j x hx))
      rcases hpl with h | ⟨hA, hi, _⟩
      · exact .inl h
      · exact .inr ⟨hA, by rw [← him]; exact hi, fun t e => nomatch e⟩
  | ms z id off len c A hlc hc hs => cases hp
  | nilmap => exact .nilmap
  | map id b h => cases hp
  | fn f fi ca fv cv hf hc _ _ ih1 ih2 =>
    cases hp with
    | fn _ _ _ ha hb => exact .fn f fi ca fv cv hf hc (fun i x hx => ih1 i x hx (ha i x hx)) (fun i x hx => ih2 i x hx (hb i x hx))
  | nilfn => exact .nilfn
  | iface t x v _ ih => cases hp
  | nilif => exact .nilif
  | agg cs vs hl h1 _ ih => cases hp with | agg _ hpp => exact .agg cs vs hl h1 (fun i x hx => ih i x hx (hpp i x hx))
  | tup cs vs hl _ ih => cases hp with | tup _ hpp => exact .tup cs vs hl (fun i x hx => ih i x hx (hpp i x hx))

inductive Wss : List AV → List AV → Prop where
  | nil : Wss [] []
  | cons {x y : AV} {l l' : List AV} (h : Ws x y) (t : Wss l l') : Wss (x :: l) (y :: l')
theorem Wss.refl : ∀ l : List AV, Wss l l
  | [] => .nil
  | x :: l => .cons (.refl x) (Wss.refl l)
theorem Wss.get : ∀ {l l' : List AV}, Wss l l' → l'.length = l.length ∧ ∀ (i : Nat) y, l'[i]? = some y → ∃ x, l[i]? = some x ∧ Ws x y
  | _, _, .nil => ⟨rfl, fun i y h => by simp at h⟩
  | _, _, .cons h t => by
    obtain ⟨h1, h2⟩ := t.get
    refine ⟨by simp [h1], fun i y hy => ?_⟩
    cases i with
    | zero => simp only [List.getElem?_cons_zero, Option.some.injEq] at hy; subst hy; exact ⟨_, rfl, h⟩
    | succ i => simpa using h2 i y (by simpa using hy)
theorem Wss.reps {G : Gh} {w : World} {l l' : List AV} {vs : List Value} (h : Wss l l') (hr : Reps G w l vs) : Reps G w l' vs := by
  obtain ⟨h1, h2⟩ := h.get
  refine ⟨by rw [h1]; exact hr.1, fun i y hy => ?_⟩
  obtain ⟨x, hx, hw⟩ := h2 i y hy
  exact hw.rep (hr.2 i x hx)
theorem AC.args {P : Program} {f : FuncId} {args args' : List AV} {H : AH} {Q : AV → AH → Prop} (hw : Wss args args') (h : AC P f args' H Q) : AC P f args H Q :=
  ⟨h.1, fun G w vs hH hr => h.2 G w vs hH (hw.reps hr)⟩

/-- A call that leans on no memory of the caller's, and comes to an answer of which Q holds. -/
def PC (P : Program) (f : FuncId) (args : List AV) (Q : AV → Prop) : Prop :=
  (∀ x ∈ args, Pur x) ∧ AC P f args AH.none fun r _ => ∃ r', Ws r r' ∧ Pur r' ∧ Q r'

theorem HSim.none {G : Gh} {w : World} {H : AH} (h : HSim G w H) : HSim ⟨fun _ => none, G.imm, fun _ => Option.none⟩ w AH.none where
  at_ id B h1 := by simp [AH.none] at h1
  inj id id' b z z' h1 := by obtain ⟨B, hB, _⟩ := h1; simp [AH.none] at hB
  ids _ _ := rfl
  chain c z n h1 := by simp [AH.none] at h1
  chains c b _ := by simp
  new b hb := ⟨(h.new b hb).1, rfl, fun id z e => nomatch e⟩

theorem PC.ac {P : Program} {f : FuncId} {args args' : List AV} {Q : AV → Prop} (h : PC P f args Q) (hw : Wss args' args) (H : AH) : AC P f args' H fun r H' => H' = H ∧ Q r := by
  obtain ⟨hp, he, h⟩ := h
  refine ⟨he, fun G w vs hH hr => ?_⟩
  have hr := hw.reps hr
  have hr0 : Reps ⟨fun _ => none, G.imm, fun _ => none⟩ w args vs := ⟨hr.1, fun i x hx => Rep.pur (G := G) (G' := ⟨fun _ => none, G.imm, fun _ => none⟩) (fun _ => rfl) (hr.2 i x hx) (hp x (List.mem_of_getElem? hx))⟩
  refine (h _ w vs hH.none hr0).mono ?_
  rintro e w' ⟨r, cr, G', H', rfl, q1, q2, q3, q4, r', q5, q6, q7⟩
  have hnm : ∀ b, ¬ Mut ⟨fun _ => none, G.imm, fun _ => none⟩ AH.none b := by
    rintro b (⟨id, z, _, hm⟩ | ⟨c, hm⟩) <;> cases hm
  have hb : ∀ b, b < w.heap.size → w'.heap[b]? = w.heap[b]? ∧ G'.imm b = G.imm b := fun b hb => by
    obtain ⟨h1, h2, _⟩ := q4.block b hb (hnm b)
    exact ⟨h1, h2⟩
  have hle : Le G w ⟨G.mb, G'.imm, G.own⟩ w' := ⟨fun _ _ h => h, q3.imm, fun _ _ h => h, q3.cell, q3.shape⟩
  refine ⟨r', cr, ⟨G.mb, G'.imm, G.own⟩, H, rfl, Rep.pur (G := G') (G' := ⟨G.mb, G'.imm, G.own⟩) (fun _ => rfl) (q5.rep q1) q6, ?_, hle, ?_, rfl, q7⟩
  · refine { at_ := fun id B h1 h2 => ?_, inj := hH.inj, ids := hH.ids, chain := fun c z n h1 => ?_, chains := hH.chains, new := fun b hbs => ?_ }
    · rcases hH.at_ id B h1 h2 with ⟨b, z, g1, g2, g3, g4⟩ | g1
      rotate_left
      · exact .inr g1
      have hlt := hH.mb_lt g1
      exact .inl ⟨b, z, g1, g2.heap hle (hb b hlt).1, by rw [(hb b hlt).2]; exact g3, g4⟩
    · obtain ⟨g1, g2⟩ := hH.chain c z n h1
      refine ⟨g1, fun hn => ?_⟩
      obtain ⟨b, us, e, g3, g4, g5, g6⟩ := g2 hn
      have hlt := hH.own_lt g3
      exact ⟨b, us, e, g3, by rw [(hb b hlt).2]; exact g4, (hb b hlt).1.trans g5, fun b' hb' hne => by rw [(hb b' (hH.own_lt hb')).2]; exact g6 b' hb' hne⟩
    · have h1 := q4.size
      obtain ⟨g1, g2, g3⟩ := hH.new b (by omega)
      exact ⟨(q2.new b hbs).1, g2, g3⟩
  · exact { os := q4.os, tape := q4.tape, output := q4.output, size := q4.size, block := fun b hlt _ => ⟨(hb b hlt).1, (hb b hlt).2, rfl⟩, mb := fun _ _ _ e => .inl ⟨_, e⟩, muts := fun b _ hm => hm }

theorem PC.mono {P : Program} {f : FuncId} {args : List AV} {Q Q' : AV → Prop} (h : PC P f args Q) (hq : ∀ r, Q r → Q' r) : PC P f args Q' :=
  ⟨h.1, h.2.mono fun _ _ ⟨r', h1, h2, h3⟩ => ⟨r', h1, h2, hq _ h3⟩⟩
theorem PC.quiet {P : Program} {f : FuncId} {args args' : List AV} {H : AH} {Q : AV → Prop} {K : AV → Prop} (h : PC P f args Q) (hw : Wss args' args) (hk : ∀ r, Q r → K r) : QuietVC P f args' H K :=
  ⟨(h.ac hw H).mono fun r _ ⟨h1, h2⟩ => ⟨h1, hk r h2⟩⟩

/-- A value that some memory holds. -/
def Fit (x : AV) : Prop := ∃ G w v, Rep G w x v
theorem Fit.sl {z : Nat} {rows : List (List AV)} {tok : Option Nat} (h : Fit (.sl z rows tok)) : rows.length ≤ 9223372036854775807 ∧ (∀ r ∈ rows, r.length = z) ∧ ∀ i j x, cellAt rows i j = some x → Fit x := by
  obtain ⟨G, w, v, h⟩ := h
  cases h with
  | sl _ _ _ A c b o f hz hlc hc hk hp hcell h1 hr =>
    have : maxLen = 9223372036854775807 := rfl
    exact ⟨by omega, hk, fun i j x hx => ⟨G, w, _, hr i j x hx⟩⟩
theorem Fit.agg {cs : List AV} (h : Fit (.agg cs)) : ∀ x ∈ cs, Fit x := by
  obtain ⟨G, w, v, h⟩ := h
  cases h with
  | agg _ vs hl h1 hr =>
    intro x hx
    obtain ⟨i, hi⟩ := List.mem_iff_getElem?.1 hx
    exact ⟨G, w, _, hr i x hi⟩
theorem Fit.tup {cs : List AV} (h : Fit (.tup cs)) : ∀ x ∈ cs, Fit x := by
  obtain ⟨G, w, v, h⟩ := h
  cases h with
  | tup _ vs hl hr =>
    intro x hx
    obtain ⟨i, hi⟩ := List.mem_iff_getElem?.1 hx
    exact ⟨G, w, _, hr i x hi⟩
theorem AC.fit {P : Program} {f : FuncId} {args : List AV} {H : AH} {Q : AV → AH → Prop} (h : AC P f args H Q) : AC P f args H fun r H' => Fit r ∧ Q r H' :=
  ⟨h.1, fun G w vs hH hr => (h.2 G w vs hH hr).mono fun _ _ ⟨r, cr, G', H', h1, h2, h3, h4, h5, h6⟩ => ⟨r, cr, G', H', h1, h2, h3, h4, h5, ⟨G', _, cr, h2⟩, h6⟩⟩
/-- What is asked may lean on it that some memory holds the arguments. -/
theorem AC.given {P : Program} {f : FuncId} {args : List AV} {H : AH} {Q : AV → AH → Prop} (he : Ent P f) (h : (∀ x ∈ args, Fit x) → AC P f args H Q) : AC P f args H Q := by
  refine ⟨he, fun G w vs hH hr => (h fun x hx => ?_).2 G w vs hH hr⟩
  obtain ⟨i, hi⟩ := List.mem_iff_getElem?.1 hx
  exact ⟨G, w, _, hr.2 i x hi⟩
theorem PC.fit {P : Program} {f : FuncId} {args : List AV} {Q : AV → Prop} (h : PC P f args Q) : PC P f args fun r => Fit r ∧ Q r :=
  ⟨h.1, ⟨h.2.1, fun G w vs hH hr => (h.2.2 G w vs hH hr).mono fun _ _ ⟨r, cr, G', H', h1, h2, h3, h4, h5, r', h6, h7, h8⟩ => ⟨r, cr, G', H', h1, h2, h3, h4, h5, r', h6, h7, ⟨G', _, cr, h6.rep h2⟩, h8⟩⟩⟩
/-- A pure function does what its text, walked, asks. -/
theorem PC.of_vc {P : Program} {ty : Tr} (md : Nat → Nat) (qt : FuncId → Bool) (hty : TyOK P ty.get) (hmix : P.follows .mixedOrders = true) {f : FuncId} {fn : Func} {c : Code} (hf : P.funcs[f]? = some fn) (hname : (fn.name == "runtime.NumGoroutine") = false) (hb : fn.body = some c) {args : List AV} (hlen : Nat.ble args.length fn.ntmps = true)
    {Q : AV → Prop} (hp : ∀ x ∈ args, Pur x) (h : (∀ x ∈ args, Fit x) → vc P ty md qt c ⟨fn.ntmps, number 0 args, [], AH.none⟩ (retK ty fn fun r _ => ∃ r', Ws r r' ∧ Pur r' ∧ Q r')) : PC P f args Q :=
  ⟨hp, AC.given ⟨fn, c, hf, hname, hb⟩ fun hfit => AC.of_vc hty hmix hf hname hb hlen (h hfit)⟩

/-! ### laying a state out again -/
theorem leT_nil {T : List (Nat × AV)} : leT T [] := trivial
theorem leT_cons {T : List (Nat × AV)} {j : Nat} {x : AV} {l : List (Nat × AV)} (h : Wk (look T j) x) (t : leT T l) : leT T ((j, x) :: l) := ⟨h, t⟩
theorem leC_nil : leC [] [] := trivial
theorem leC_cons {x y : AV} {l l' : List AV} (h : Wk x y) (t : leC l l') : leC (x :: l) (y :: l') := ⟨.inr h, t⟩
theorem leC_undef {x : AV} {l l' : List AV} (t : leC l l') : leC (x :: l) (.undef :: l') := ⟨.inl rfl, t⟩
theorem leC_refl : ∀ l : List AV, leC l l
  | [] => trivial
  | _ :: l => ⟨.inr (.refl _), leC_refl l⟩
theorem leL_nil {L : List (Nat × List AV)} : leL L [] := trivial
theorem leL_cons {L : List (Nat × List AV)} {i : Nat} {ds cs : List AV} {l : List (Nat × List AV)} (h : lookL L i = some ds) (hc : leC ds cs) (t : leL L l) : leL L ((i, cs) :: l) := ⟨⟨ds, h, hc⟩, t⟩
theorem Wk.int {k : IntKind} {a b : Int} (h : a = b) : Wk (.int k a) (.int k b) := h ▸ .refl _
theorem Wk.bool {a b : Bool} (h : a = b) : Wk (.bool a) (.bool b) := h ▸ .refl _
theorem Wk.rows {z : Nat} {a b : List (List AV)} {tok : Option Nat} (h : a = b) : Wk (.sl z a tok) (.sl z b tok) := h ▸ .refl _
theorem pur2 {P : AV → Prop} {a : AV} {l : List AV} (h : P a) (t : ∀ x ∈ l, P x) : ∀ x ∈ a :: l, P x := fun x hx => by
  rcases List.mem_cons.1 hx with rfl | hx
  · exact h
  · exact t x hx
theorem pur0 {P : AV → Prop} : ∀ x ∈ ([] : List AV), P x := fun _ h => nomatch h
theorem fin {r : AV} {Q : AV → Prop} (hp : Pur r) (hq : Q r) : ∃ r', Ws r r' ∧ Pur r' ∧ Q r' := ⟨r, .refl r, hp, hq⟩
theorem take_snoc {α : Type} {l : List α} {i : Nat} (h : i < l.length) : l.take (i + 1) = l.take i ++ [l[i]] := by
  rw [List.take_add_one, List.getElem?_eq_getElem h]; rfl
theorem take_eq {α : Type} {a b : List α} {i : Nat} (ha : i < a.length) (hb : i < b.length) (h : a.take i = b.take i) (he : a[i] = b[i]) : a.take (i + 1) = b.take (i + 1) := by
  rw [take_snoc ha, take_snoc hb, h, he]
theorem rows_get {α : Type} {l : List α} {f : α → List AV} {i : Nat} (h : i < l.length) : (l.map f)[(i : Int).toNat]? = some (f l[i]) := by simp [h]
end Go.Proofs.Ytecpiplfjmmccaa.AM
