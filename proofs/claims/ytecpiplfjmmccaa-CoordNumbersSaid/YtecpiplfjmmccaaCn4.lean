/-
  Texts laid together by program (bundle.py): each part says in its own head what is proved. What is proved here serves the law's row.
  Conditions: as each part says.
-/
import Derived.Test.YtecpiplfjmmccaaCn3
import Derived.Test.YtecpiplfjmmccaaRows
import Derived.WalkKit
import Derived.ProofKit
import Derived.OpenShut
import Derived.ShutString
import Derived.ChangeOld
import Derived.Below
import Derived.SizedLaws
import Derived.JoinedCond
import Derived.Carry
import Derived.KernelRfl
/-
  Functions that lean on no memory of the caller's: proved over none, they hold over any (PC.ac).
  No program in sight. Conditions: none.
-/
namespace Go.Proofs.Ytecpiplfjmmccaa.AM
open Go

/-- A value told of less: chains and the nil slice forgotten. -/
inductive Ws : AV → AV → Prop where
  | refl (x : AV) : Ws x x
  | nil (z : Nat) (hz : 0 < z) : Ws .nils (.sl z [] none)
  | sl (z : Nat) (rows rows' : List (List AV)) (tok : Option Nat) (f : Nat → Nat → AV) (hl : rows'.length = rows.length) (hk : ∀ r ∈ rows', r.length = z)
      (hc : ∀ i j x, cellAt rows' i j = some x → cellAt rows i j = some (f i j)) (h1 : ∀ i j x, cellAt rows' i j = some x → x.one = true) (h : ∀ i j x, cellAt rows' i j = some x → Ws (f i j) x) : Ws (.sl z rows tok) (.sl z rows' none)
  | agg (cs cs' : List AV) (f : Nat → AV) (hl : cs'.length = cs.length) (hc : ∀ (j : Nat) x, cs'[j]? = some x → cs[j]? = some (f j)) (h1 : ∀ (j : Nat) x, cs'[j]? = some x → x.one = true) (h : ∀ (j : Nat) x, cs'[j]? = some x → Ws (f j) x) : Ws (.agg cs) (.agg cs')
  | tup (cs cs' : List AV) (f : Nat → AV) (hl : cs'.length = cs.length) (hc : ∀ (j : Nat) x, cs'[j]? = some x → cs[j]? = some (f j)) (h : ∀ (j : Nat) x, cs'[j]? = some x → Ws (f j) x) : Ws (.tup cs) (.tup cs')
theorem Ws.of {x y : AV} (h : x = y) : Ws x y := h ▸ .refl x
theorem Ws.drop (z : Nat) (rows : List (List AV)) (tok : Option Nat) (hk : ∀ r ∈ rows, r.length = z) (h1 : ∀ i j x, cellAt rows i j = some x → x.one = true) : Ws (.sl z rows tok) (.sl z rows none) :=
  .sl z rows rows tok (fun i j => (cellAt rows i j).getD .undef) rfl hk (fun i j x h => by simp [h]) h1 (fun i j x h => by simp only [h, Option.getD_some]; exact .refl x)

theorem Ws.rep {G : Gh} {w : World} {x y : AV} {v : Value} (h : Ws x y) (hr : Rep G w x v) : Rep G w y v := by
  induction h generalizing v with
  | refl => exact hr
  | nil z hz =>
    cases hr
    exact .sl z [] none none 0 0 0 (fun _ _ => Go.undef) hz (by simp) (by simp [maxLen]) (by simp) (.inl ⟨rfl, .inr rfl⟩) (fun i j x hx => by simp [cellAt] at hx) (fun i j x hx => by simp [cellAt] at hx) (fun i j x hx => by simp [cellAt] at hx)
  | sl z rows rows' tok f hl hk hc h1 h ih =>
    cases hr with
    | sl _ _ _ A c b o g hz hlc hcm hkr hp hcell h1r hrr =>
      rw [← hl]
      refine .sl z rows' none A c b o g hz (by omega) hcm hk ?_ (fun i j x hx => hcell i j _ (hc i j x hx)) h1 (fun i j x hx => ih i j x hx (hrr i j _ (hc i j x hx)))
      rcases hp with ⟨h0, _⟩ | ⟨hA, hi, _⟩
      · exact .inl ⟨by omega, .inl rfl⟩
      · exact .inr ⟨hA, by rw [hl]; exact hi, fun t e => nomatch e⟩
  | agg cs cs' f hl hc h1 h ih =>
    cases hr with
    | agg _ vs hlv h1v hrv => exact .agg cs' vs (by omega) h1 (fun j x hx => ih j x hx (hrv j _ (hc j x hx)))
  | tup cs cs' f hl hc h ih =>
    cases hr with
    | tup _ vs hlv hrv => exact .tup cs' vs (by omega) (fun j x hx => ih j x hx (hrv j _ (hc j x hx)))

/-- A value that leads to no tracked memory. -/
inductive Pur : AV → Prop where
  | int (k : IntKind) (n : Int) : Pur (.int k n)
  | bool (b : Bool) : Pur (.bool b)
  | str (s : ByteArray) : Pur (.str s)
  | nilptr : Pur .nilptr
  | nils : Pur .nils
  | nilmap : Pur .nilmap
  | nilfn : Pur .nilfn
  | nilif : Pur .nilif
  | sl (z : Nat) (rows : List (List AV)) (h : ∀ i j x, cellAt rows i j = some x → Pur x) : Pur (.sl z rows none)
  | agg (cs : List AV) (h : ∀ (j : Nat) x, cs[j]? = some x → Pur x) : Pur (.agg cs)
  | tup (cs : List AV) (h : ∀ (j : Nat) x, cs[j]? = some x → Pur x) : Pur (.tup cs)
  | fn (f : FuncId) (a b : List AV) (ha : ∀ (j : Nat) x, a[j]? = some x → Pur x) (hb : ∀ (j : Nat) x, b[j]? = some x → Pur x) : Pur (.fn f a b)

theorem Rep.pur {G G' : Gh} {w : World} (him : ∀ b, G.imm b = G'.imm b) {x : AV} {v : Value} (h : Rep G w x v) (hp : Pur x) : Rep G' w x v := by
  induction h with
  | skip => cases hp
  | int k n => exact .int k n
  | bool b => exact .bool b
  | str s => exact .str s
  | nilptr => exact .nilptr
  | ptr id row col b z h => cases hp
  | ep row col b o f hi hc h1 _ ih => cases hp
  | nils => exact .nils
  | sl z rows tok A c b o f hz hlc hc hk hpl hcell h1 _ ih =>
    cases hp with
    | sl _ _ hpp =>
      refine .sl z rows none A c b o f hz hlc hc hk ?_ hcell h1 (fun i j x hx => ih i j x hx (hpp i j x hx))
      rcases hpl with h | ⟨hA, hi, _⟩
      · exact .inl h
      · exact .inr ⟨hA, by rw [← him]; exact hi, fun t e => nomatch e⟩
  | ms z id off len c A hlc hc hs => cases hp
  | nilmap => exact .nilmap
  | map id b h => cases hp
  | fn f fi ca fv cv hf hc _ _ ih1 ih2 =>
    cases hp with
    | fn _ _ _ ha hb => exact .fn f fi ca fv cv hf hc (fun i x hx => ih1 i x hx (ha i x hx)) (fun i x hx => ih2 i x hx (hb i x hx))
  | nilfn => exact .nilfn
  | iface t x v _ ih => cases hp
  | nilif => exact .nilif
  | agg cs vs hl h1 _ ih => cases hp with | agg _ hpp => exact .agg cs vs hl h1 (fun i x hx => ih i x hx (hpp i x hx))
  | tup cs vs hl _ ih => cases hp with | tup _ hpp => exact .tup cs vs hl (fun i x hx => ih i x hx (hpp i x hx))

inductive Wss : List AV → List AV → Prop where
  | nil : Wss [] []
  | cons {x y : AV} {l l' : List AV} (h : Ws x y) (t : Wss l l') : Wss (x :: l) (y :: l')
theorem Wss.refl : ∀ l : List AV, Wss l l
  | [] => .nil
  | x :: l => .cons (.refl x) (Wss.refl l)
theorem Wss.get : ∀ {l l' : List AV}, Wss l l' → l'.length = l.length ∧ ∀ (i : Nat) y, l'[i]? = some y → ∃ x, l[i]? = some x ∧ Ws x y
  | _, _, .nil => ⟨rfl, fun i y h => by simp at h⟩
  | _, _, .cons h t => by
    obtain ⟨h1, h2⟩ := t.get
    refine ⟨by simp [h1], fun i y hy => ?_⟩
    cases i with
    | zero => simp only [List.getElem?_cons_zero, Option.some.injEq] at hy; subst hy; exact ⟨_, rfl, h⟩
    | succ i => simpa using h2 i y (by simpa using hy)
theorem Wss.reps {G : Gh} {w : World} {l l' : List AV} {vs : List Value} (h : Wss l l') (hr : Reps G w l vs) : Reps G w l' vs := by
  obtain ⟨h1, h2⟩ := h.get
  refine ⟨by rw [h1]; exact hr.1, fun i y hy => ?_⟩
  obtain ⟨x, hx, hw⟩ := h2 i y hy
  exact hw.rep (hr.2 i x hx)
theorem AC.args {P : Program} {f : FuncId} {args args' : List AV} {H : AH} {Q : AV → AH → Prop} (hw : Wss args args') (h : AC P f args' H Q) : AC P f args H Q :=
  ⟨h.1, fun G w vs hH hr => h.2 G w vs hH (hw.reps hr)⟩

/-- A call that leans on no memory of the caller's, and comes to an answer of which Q holds. -/
def PC (P : Program) (f : FuncId) (args : List AV) (Q : AV → Prop) : Prop :=
  (∀ x ∈ args, Pur x) ∧ AC P f args AH.none fun r _ => ∃ r', Ws r r' ∧ Pur r' ∧ Q r'

theorem HSim.none {G : Gh} {w : World} {H : AH} (h : HSim G w H) : HSim ⟨fun _ => none, G.imm, fun _ => Option.none⟩ w AH.none where
  at_ id B h1 := by simp [AH.none] at h1
  inj id id' b z z' h1 := by obtain ⟨B, hB, _⟩ := h1; simp [AH.none] at hB
  ids _ _ := rfl
  chain c z n h1 := by simp [AH.none] at h1
  chains c b _ := by simp
  new b hb := ⟨(h.new b hb).1, rfl, fun id z e => nomatch e⟩

theorem PC.ac {P : Program} {f : FuncId} {args args' : List AV} {Q : AV → Prop} (h : PC P f args Q) (hw : Wss args' args) (H : AH) : AC P f args' H fun r H' => H' = H ∧ Q r := by
  obtain ⟨hp, he, h⟩ := h
  refine ⟨he, fun G w vs hH hr => ?_⟩
  have hr := hw.reps hr
  have hr0 : Reps ⟨fun _ => none, G.imm, fun _ => none⟩ w args vs := ⟨hr.1, fun i x hx => Rep.pur (G := G) (G' := ⟨fun _ => none, G.imm, fun _ => none⟩) (fun _ => rfl) (hr.2 i x hx) (hp x (List.mem_of_getElem? hx))⟩
  refine (h _ w vs hH.none hr0).mono ?_
  rintro e w' ⟨r, cr, G', H', rfl, q1, q2, q3, q4, r', q5, q6, q7⟩
  have hnm : ∀ b, ¬ Mut ⟨fun _ => none, G.imm, fun _ => none⟩ AH.none b := by
    rintro b (⟨id, z, _, hm⟩ | ⟨c, hm⟩) <;> cases hm
  have hb : ∀ b, b < w.heap.size → w'.heap[b]? = w.heap[b]? ∧ G'.imm b = G.imm b := fun b hb => by
    obtain ⟨h1, h2, _⟩ := q4.block b hb (hnm b)
    exact ⟨h1, h2⟩
  have hle : Le G w ⟨G.mb, G'.imm, G.own⟩ w' := ⟨fun _ _ h => h, q3.imm, fun _ _ h => h, q3.cell, q3.shape⟩
  refine ⟨r', cr, ⟨G.mb, G'.imm, G.own⟩, H, rfl, Rep.pur (G := G') (G' := ⟨G.mb, G'.imm, G.own⟩) (fun _ => rfl) (q5.rep q1) q6, ?_, hle, ?_, rfl, q7⟩
  · refine { at_ := fun id B h1 h2 => ?_, inj := hH.inj, ids := hH.ids, chain := fun c z n h1 => ?_, chains := hH.chains, new := fun b hbs => ?_ }
    · rcases hH.at_ id B h1 h2 with ⟨b, z, g1, g2, g3, g4⟩ | g1
      rotate_left
      · exact .inr g1
      have hlt := hH.mb_lt g1
      exact .inl ⟨b, z, g1, g2.heap hle (hb b hlt).1, by rw [(hb b hlt).2]; exact g3, g4⟩
    · obtain ⟨g1, g2⟩ := hH.chain c z n h1
      refine ⟨g1, fun hn => ?_⟩
      obtain ⟨b, us, e, g3, g4, g5, g6⟩ := g2 hn
      have hlt := hH.own_lt g3
      exact ⟨b, us, e, g3, by rw [(hb b hlt).2]; exact g4, (hb b hlt).1.trans g5, fun b' hb' hne => by rw [(hb b' (hH.own_lt hb')).2]; exact g6 b' hb' hne⟩
    · have h1 := q4.size
      obtain ⟨g1, g2, g3⟩ := hH.new b (by omega)
      exact ⟨(q2.new b hbs).1, g2, g3⟩
  · exact { os := q4.os, tape := q4.tape, output := q4.output, size := q4.size, block := fun b hlt _ => ⟨(hb b hlt).1, (hb b hlt).2, rfl⟩, mb := fun _ _ _ e => .inl ⟨_, e⟩, muts := fun b _ hm => hm }

theorem PC.mono {P : Program} {f : FuncId} {args : List AV} {Q Q' : AV → Prop} (h : PC P f args Q) (hq : ∀ r, Q r → Q' r) : PC P f args Q' :=
  ⟨h.1, h.2.mono fun _ _ ⟨r', h1, h2, h3⟩ => ⟨r', h1, h2, hq _ h3⟩⟩
theorem PC.quiet {P : Program} {f : FuncId} {args args' : List AV} {H : AH} {Q : AV → Prop} {K : AV → Prop} (h : PC P f args Q) (hw : Wss args' args) (hk : ∀ r, Q r → K r) : QuietVC P f args' H K :=
  ⟨fun H1 _ => (h.ac hw H1).mono fun r _ ⟨h1, h2⟩ => ⟨h1, hk r h2⟩⟩
theorem PC.pure {P : Program} {f : FuncId} {args args' : List AV} {Q : AV → Prop} {K : AV → Prop} (h : PC P f args Q) (hw : Wss args' args) (hk : ∀ r, Q r → K r) : PureVC P f args' K :=
  ⟨fun H1 => (h.ac hw H1).mono fun r _ ⟨h1, h2⟩ => ⟨h1, hk r h2⟩⟩

/-- A value that some memory holds. -/
def Fit (x : AV) : Prop := ∃ G w v, Rep G w x v
theorem Fit.sl {z : Nat} {rows : List (List AV)} {tok : Option Nat} (h : Fit (.sl z rows tok)) : rows.length ≤ 9223372036854775807 ∧ (∀ r ∈ rows, r.length = z) ∧ ∀ i j x, cellAt rows i j = some x → Fit x := by
  obtain ⟨G, w, v, h⟩ := h
  cases h with
  | sl _ _ _ A c b o f hz hlc hc hk hp hcell h1 hr =>
    have : maxLen = 9223372036854775807 := rfl
    exact ⟨by omega, hk, fun i j x hx => ⟨G, w, _, hr i j x hx⟩⟩
theorem Fit.agg {cs : List AV} (h : Fit (.agg cs)) : ∀ x ∈ cs, Fit x := by
  obtain ⟨G, w, v, h⟩ := h
  cases h with
  | agg _ vs hl h1 hr =>
    intro x hx
    obtain ⟨i, hi⟩ := List.mem_iff_getElem?.1 hx
    exact ⟨G, w, _, hr i x hi⟩
theorem Fit.tup {cs : List AV} (h : Fit (.tup cs)) : ∀ x ∈ cs, Fit x := by
  obtain ⟨G, w, v, h⟩ := h
  cases h with
  | tup _ vs hl hr =>
    intro x hx
    obtain ⟨i, hi⟩ := List.mem_iff_getElem?.1 hx
    exact ⟨G, w, _, hr i x hi⟩
theorem AC.fit {P : Program} {f : FuncId} {args : List AV} {H : AH} {Q : AV → AH → Prop} (h : AC P f args H Q) : AC P f args H fun r H' => Fit r ∧ Q r H' :=
  ⟨h.1, fun G w vs hH hr => (h.2 G w vs hH hr).mono fun _ _ ⟨r, cr, G', H', h1, h2, h3, h4, h5, h6⟩ => ⟨r, cr, G', H', h1, h2, h3, h4, h5, ⟨G', _, cr, h2⟩, h6⟩⟩
/-- What is asked may lean on it that some memory holds the arguments. -/
theorem AC.given {P : Program} {f : FuncId} {args : List AV} {H : AH} {Q : AV → AH → Prop} (he : Ent P f) (h : (∀ x ∈ args, Fit x) → AC P f args H Q) : AC P f args H Q := by
  refine ⟨he, fun G w vs hH hr => (h fun x hx => ?_).2 G w vs hH hr⟩
  obtain ⟨i, hi⟩ := List.mem_iff_getElem?.1 hx
  exact ⟨G, w, _, hr.2 i x hi⟩
theorem PC.fit {P : Program} {f : FuncId} {args : List AV} {Q : AV → Prop} (h : PC P f args Q) : PC P f args fun r => Fit r ∧ Q r :=
  ⟨h.1, ⟨h.2.1, fun G w vs hH hr => (h.2.2 G w vs hH hr).mono fun _ _ ⟨r, cr, G', H', h1, h2, h3, h4, h5, r', h6, h7, h8⟩ => ⟨r, cr, G', H', h1, h2, h3, h4, h5, r', h6, h7, ⟨G', _, cr, h6.rep h2⟩, h8⟩⟩⟩
/-- A pure function does what its text, walked, asks. -/
theorem PC.of_vc {P : Program} {ty : Tr} (md : Nat → Nat) (qt : FuncId → Bool) (hty : TyOK P ty.get) (hmix : P.follows .mixedOrders = true) {f : FuncId} {fn : Func} {c : Code} (hf : P.funcs[f]? = some fn) (hname : (fn.name == "runtime.NumGoroutine") = false) (hb : fn.body = some c) {args : List AV} (hlen : Nat.ble args.length fn.ntmps = true)
    {Q : AV → Prop} (hp : ∀ x ∈ args, Pur x) (h : (∀ x ∈ args, Fit x) → vc P ty md qt c ⟨fn.ntmps, number 0 args, [], AH.none⟩ (retK ty fn fun r _ => ∃ r', Ws r r' ∧ Pur r' ∧ Q r')) : PC P f args Q :=
  ⟨hp, AC.given ⟨fn, c, hf, hname, hb⟩ fun hfit => AC.of_vc hty hmix hf hname hb hlen (h hfit)⟩

/-! ### laying a state out again -/
theorem leT_nil {T : List (Nat × AV)} : leT T [] := trivial
theorem leT_cons {T : List (Nat × AV)} {j : Nat} {x : AV} {l : List (Nat × AV)} (h : Wk (look T j) x) (t : leT T l) : leT T ((j, x) :: l) := ⟨h, t⟩
theorem leC_nil : leC [] [] := trivial
theorem leC_cons {x y : AV} {l l' : List AV} (h : Wk x y) (t : leC l l') : leC (x :: l) (y :: l') := ⟨.inr h, t⟩
theorem leC_undef {x : AV} {l l' : List AV} (t : leC l l') : leC (x :: l) (.undef :: l') := ⟨.inl rfl, t⟩
theorem leC_refl : ∀ l : List AV, leC l l
  | [] => trivial
  | _ :: l => ⟨.inr (.refl _), leC_refl l⟩
theorem leL_nil {L : List (Nat × List AV)} : leL L [] := trivial
theorem leL_cons {L : List (Nat × List AV)} {i : Nat} {ds cs : List AV} {l : List (Nat × List AV)} (h : lookL L i = some ds) (hc : leC ds cs) (t : leL L l) : leL L ((i, cs) :: l) := ⟨⟨ds, h, hc⟩, t⟩
theorem Wk.int {k : IntKind} {a b : Int} (h : a = b) : Wk (.int k a) (.int k b) := h ▸ .refl _
theorem Wk.bool {a b : Bool} (h : a = b) : Wk (.bool a) (.bool b) := h ▸ .refl _
theorem Wk.rows {z : Nat} {a b : List (List AV)} {tok : Option Nat} (h : a = b) : Wk (.sl z a tok) (.sl z b tok) := h ▸ .refl _
theorem pur2 {P : AV → Prop} {a : AV} {l : List AV} (h : P a) (t : ∀ x ∈ l, P x) : ∀ x ∈ a :: l, P x := fun x hx => by
  rcases List.mem_cons.1 hx with rfl | hx
  · exact h
  · exact t x hx
theorem pur0 {P : AV → Prop} : ∀ x ∈ ([] : List AV), P x := fun _ h => nomatch h
theorem fin {r : AV} {Q : AV → Prop} (hp : Pur r) (hq : Q r) : ∃ r', Ws r r' ∧ Pur r' ∧ Q r' := ⟨r, .refl r, hp, hq⟩
theorem take_snoc {α : Type} {l : List α} {i : Nat} (h : i < l.length) : l.take (i + 1) = l.take i ++ [l[i]] := by
  rw [List.take_add_one, List.getElem?_eq_getElem h]; rfl
theorem take_eq {α : Type} {a b : List α} {i : Nat} (ha : i < a.length) (hb : i < b.length) (h : a.take i = b.take i) (he : a[i] = b[i]) : a.take (i + 1) = b.take (i + 1) := by
  rw [take_snoc ha, take_snoc hb, h, he]
theorem rows_get {α : Type} {l : List α} {f : α → List AV} {i : Nat} (h : i < l.length) : (l.map f)[(i : Int).toNat]? = some (f l[i]) := by simp [h]
end Go.Proofs.Ytecpiplfjmmccaa.AM

/-
  A law's arguments, as they read, told without addresses; and what a pure law's truth gives for its statement.
  No program's text in sight. Conditions: the parameters are made of numbers, bools, strings, structs and slices of them.
-/
namespace Go.Proofs.Ytecpiplfjmmccaa.AM
open Go Go.ChangeShapes Go.WideShapes Go.ChangeAt Go.RowKit

/-- What stands in one cell of an argument. -/
inductive Sch where
  | int (k : IntKind)
  | bool
  | str
  | sl (z : Nat) (fs : List Sch)
  deriving Inhabited
mutual
/-- A cell's value is of its kind; n: how much it holds. -/
inductive FitC : Sch → AV → Nat → Prop where
  | int (k : IntKind) (n : Int) (h : (Lit.int k n).wf = true) : FitC (.int k) (.int k n) 1
  | bool (b : Bool) : FitC .bool (.bool b) 1
  | str (s : ByteArray) : FitC .str (.str s) (s.size + 1)
  | sl (z : Nat) (fs : List Sch) (rows : List (List AV)) (ns : List Nat) (n : Nat) (hl : rows.length = ns.length) (h : ∀ (i : Nat) r m, rows[i]? = some r → ns[i]? = some m → FitR fs r m) (hn : ns.sum + 1 ≤ n) : FitC (.sl z fs) (.sl z rows none) n
inductive FitR : List Sch → List AV → Nat → Prop where
  | nil : FitR [] [] 0
  | cons {S : Sch} {fs : List Sch} {x : AV} {r : List AV} {m n : Nat} (h : FitC S x m) (t : FitR fs r n) : FitR (S :: fs) (x :: r) (m + n)
end
theorem FitR.append {S S' : List Sch} {r r' : List AV} {m n : Nat} (h : FitR S r m) (h' : FitR S' r' n) : FitR (S ++ S') (r ++ r') (m + n) := by
  cases h with
  | nil => simpa using h'
  | cons a b =>
    rw [Nat.add_assoc]
    exact .cons a (b.append h')
theorem FitR.len {S : List Sch} {r : List AV} {m : Nat} (h : FitR S r m) : r.length = S.length := by
  cases h with
  | nil => rfl
  | cons a b => simp [b.len]

/-- A type's cells. -/
def schF (go : TypeId → Option (List Sch)) (sz : TypeId → Nat) : List Field → Nat → Option (List Sch × Nat)
  | [], o => some ([], o)
  | f :: r, o => if f.offset = o then (go f.type).bind fun S => if S.length = sz f.type then (schF go sz r (o + S.length)).map fun x => (S ++ x.1, x.2) else none else none
def schT (P : Program) : Nat → TypeId → Option (List Sch)
  | 0, _ => none
  | n + 1, t => match P.underlying t with
    | some .bool => some [.bool]
    | some (.int k) => some [.int k]
    | some .string => some [.str]
    | some (.slice e) => (schT P n e).bind fun fs => if 0 < fs.length ∧ fs.length = P.cellsOf e then some [.sl fs.length fs] else none
    | some (.struct fs) => (schF (schT P n) P.cellsOf fs.toList 0).bind fun x => if x.2 = P.cellsOf t then some x.1 else none
    | _ => none

/-- Where a call begins: all that is there never turns. -/
def G0 (w : World) : Gh := ⟨fun _ => none, fun b => match w.heap[b]? with | some (.cells c _ _) => c.size | _ => 0, fun _ => none⟩
theorem hsim0 (w : World) : HSim (G0 w) w AH.none where
  at_ id B h1 := by simp [AH.none] at h1
  inj id id' b z z' h1 := by obtain ⟨B, hB, _⟩ := h1; simp [AH.none] at hB
  ids _ _ := rfl
  chain c z n h1 := by simp [AH.none] at h1
  chains c b _ := by simp [G0]
  new b hb := ⟨by simp [G0, hb], rfl, fun id z e => nomatch e⟩
theorem cell_imm {w : World} {b o : Nat} {v : Value} (h : w.cell? ⟨b, o, none⟩ = some v) : o < (G0 w).imm b := by
  unfold World.cell? at h
  unfold G0
  dsimp only
  split at h
  · rename_i c _ _ hb
    rw [hb]
    simp only [Option.isSome_none, Bool.false_eq_true, if_false] at h
    exact (Array.getElem?_eq_some_iff.1 h).1
  · cases h

theorem mapM_get {α β : Type} {f : α → Option β} : ∀ {l : List α} {ys : List β}, l.mapM f = some ys → ys.length = l.length ∧ ∀ (i : Nat) x, l[i]? = some x → ∃ y, ys[i]? = some y ∧ f x = some y
  | [], ys, h => by
    simp only [List.mapM_nil, Option.pure_def, Option.some.injEq] at h
    subst h
    exact ⟨rfl, fun i x hx => by simp at hx⟩
  | a :: l, ys, h => by
    simp only [List.mapM_cons, Option.pure_def, Option.bind_eq_bind, Option.bind_eq_some_iff, Option.some.injEq] at h
    obtain ⟨y, h1, zs, h2, rfl⟩ := h
    obtain ⟨g1, g2⟩ := mapM_get h2
    refine ⟨by simp [g1], fun i x hx => ?_⟩
    cases i with
    | zero => simp only [List.getElem?_cons_zero, Option.some.injEq] at hx; subst hx; exact ⟨y, rfl, h1⟩
    | succ i => simpa using g2 i x (by simpa using hx)

/-- cells that read -/
def Cells (w : World) (row : List AV) (cs : List Value) : Prop := row.length = cs.length ∧ ∀ (j : Nat) x, row[j]? = some x → x.one = true ∧ Pur x ∧ Rep (G0 w) w x (cs.getD j Go.undef)
theorem Cells.append {w : World} {r r' : List AV} {cs cs' : List Value} (h : Cells w r cs) (h' : Cells w r' cs') : Cells w (r ++ r') (cs ++ cs') := by
  refine ⟨by simp [h.1, h'.1], fun j x hx => ?_⟩
  rcases Nat.lt_or_ge j r.length with hj | hj
  · rw [List.getElem?_append_left hj] at hx
    rw [List.getD_eq_getElem?_getD, List.getElem?_append_left (by rw [← h.1]; exact hj), ← List.getD_eq_getElem?_getD]
    exact h.2 j x hx
  · rw [List.getElem?_append_right hj] at hx
    rw [List.getD_eq_getElem?_getD, List.getElem?_append_right (by rw [← h.1]; exact hj), ← h.1, ← List.getD_eq_getElem?_getD]
    exact h'.2 _ x hx
theorem Cells.one {w : World} {x : AV} {v : Value} (h1 : x.one = true) (h2 : Pur x) (h3 : Rep (G0 w) w x v) : Cells w [x] [v] := by
  refine ⟨rfl, fun j y hy => ?_⟩
  have hj : j = 0 := by
    have := (List.getElem?_eq_some_iff.1 hy).1
    simp at this; omega
  subst hj
  simp only [List.getElem?_cons_zero, Option.some.injEq] at hy
  subst hy
  exact ⟨h1, h2, h3⟩

section
variable {P : Program} {w : World} {H : Type} {enc : TypeId × Value → H}

def Reads (P : Program) (w : World) (enc : TypeId × Value → H) (n fuel : Nat) : Prop := ∀ (t : TypeId) (cs : List Value) (d : DataW H) (ps : List MemPlace) (S : List Sch), schT P n t = some S → DataW.trod enc P w 0 (fun _ => true) true fuel t cs = some (d, ps) →
  ∃ row m, FitR S row m ∧ Cells w row cs ∧ m ≤ Rows.uptoBulk d ∧ cs.length = S.length

theorem cells?_get {a : Addr} {n : Nat} {cs : List Value} (h : w.cells? 0 a n = some cs) : cs.length = n ∧ ∀ j, j < n → w.cell? (a.add j) = some (cs.getD j Go.undef) := by
  unfold World.cells? at h
  rw [if_pos (Nat.zero_le _)] at h
  obtain ⟨h1, h2⟩ := mapM_get h
  refine ⟨by simpa using h1, fun j hj => ?_⟩
  obtain ⟨y, g1, g2⟩ := h2 j j (by simp [hj])
  rw [g2, List.getD_eq_getElem?_getD, g1]; rfl

theorem reads_fields {n fuel : Nat} (ih : Reads P w enc n fuel) (cs : List Value) : ∀ (fl : List Field) (o : Nat) (S : List Sch) (e : Nat) (xs : List (DataW H × List MemPlace)), schF (schT P n) P.cellsOf fl o = some (S, e) →
    fl.mapM (fun f => DataW.trod enc P w 0 (fun _ => true) true fuel f.type ((cs.drop f.offset).take (P.cellsOf f.type))) = some xs → o ≤ cs.length →
    ∃ row m, FitR S row m ∧ Cells w row ((cs.drop o).take (e - o)) ∧ m ≤ Rows.uptoBulkAll (xs.map (·.1)) ∧ o ≤ e ∧ e ≤ cs.length ∧ S.length = e - o
  | [], o, S, e, xs, h1, h2, ho => by
    simp only [schF, Option.some.injEq, Prod.mk.injEq] at h1
    obtain ⟨rfl, rfl⟩ := h1
    exact ⟨[], 0, .nil, ⟨by simp, fun j x hx => by simp at hx⟩, Nat.zero_le _, Nat.le_refl _, ho, by simp⟩
  | f :: fl, o, S, e, xs, h1, h2, ho => by
    simp only [schF] at h1
    split at h1
    · rename_i hof
      obtain ⟨S1, h3, h1⟩ := Option.bind_eq_some_iff.1 h1
      split at h1
      · rename_i hsz
        obtain ⟨⟨S2, e2⟩, h4, h5⟩ := Option.map_eq_some_iff.1 h1
        simp only [Prod.mk.injEq] at h5
        obtain ⟨rfl, rfl⟩ := h5
        simp only [List.mapM_cons, Option.pure_def, Option.bind_eq_bind, Option.bind_eq_some_iff, Option.some.injEq] at h2
        obtain ⟨⟨d, ps⟩, g1, ys, g2, rfl⟩ := h2
        obtain ⟨row, m, k1, k2, k3, k4⟩ := ih f.type _ d ps S1 h3 g1
        rw [hof] at k2 k4 g1
        rw [List.length_take, List.length_drop] at k4
        have hle : o + S1.length ≤ cs.length := by omega
        obtain ⟨row2, m2, q1, q2, q3, q4, q5, q6⟩ := reads_fields ih cs fl (o + S1.length) S2 e2 ys h4 g2 hle
        refine ⟨row ++ row2, m + m2, k1.append q1, ?_, ?_, by omega, q5, by rw [List.length_append, q6]; omega⟩
        · have := k2.append q2
          have e1 : (cs.drop o).take (e2 - o) = (cs.drop o).take (P.cellsOf f.type) ++ (cs.drop (o + S1.length)).take (e2 - (o + S1.length)) := by
            rw [← hsz, show e2 - o = S1.length + (e2 - (o + S1.length)) by omega, List.take_add, List.drop_drop]
          rw [e1]; exact this
        · simp only [List.map_cons, Rows.uptoBulkAll]; omega
      · cases h1
    · cases h1

theorem reads_all : ∀ (fuel n : Nat), Reads P w enc n fuel
  | 0, n => fun t cs d ps S _ h => by simp [DataW.trod] at h
  | fuel + 1, 0 => fun t cs d ps S h => by simp [schT] at h
  | fuel + 1, n + 1 => fun t cs d ps S hS h => by
    have ih := reads_all fuel n
    unfold schT at hS
    unfold DataW.trod at h
    split at hS
    · rename_i hu
      simp only [Option.some.injEq] at hS; subst hS
      rw [hu] at h
      split at h <;> rename_i h1 <;> first | (cases h1; done) | (cases h; done) | skip
      simp only [Option.some.injEq, Prod.mk.injEq] at h
      obtain ⟨rfl, rfl⟩ := h
      refine ⟨[.bool _], 1, .cons (.bool _) .nil, .one rfl (.bool _) (.bool _), by simp [Rows.uptoBulk], rfl⟩
    · rename_i k hu
      simp only [Option.some.injEq] at hS; subst hS
      rw [hu] at h
      split at h <;> rename_i h1 <;> first | (cases h1; done) | (cases h; done) | skip
      simp only [Option.some.injEq, TypeDesc.int.injEq] at h1
      subst h1
      split at h
      · rename_i hc
        obtain ⟨rfl, hw⟩ := hc
        simp only [Option.some.injEq, Prod.mk.injEq] at h
        obtain ⟨rfl, rfl⟩ := h
        exact ⟨[.int _ _], 1, .cons (.int _ _ hw) .nil, .one rfl (.int _ _) (.int _ _), by simp [Rows.uptoBulk], rfl⟩
      · cases h
    · rename_i hu
      simp only [Option.some.injEq] at hS; subst hS
      rw [hu] at h
      split at h <;> rename_i h1 <;> first | (cases h1; done) | (cases h; done) | skip
      split at h
      · simp only [Option.some.injEq, Prod.mk.injEq] at h
        obtain ⟨rfl, rfl⟩ := h
        rename_i s _
        refine ⟨[.str s], s.size + 1 + 0, .cons (.str s) .nil, .one rfl (.str s) (.str s), ?_, rfl⟩
        simp only [Rows.uptoBulk, Array.length_toList]
        exact Nat.le_refl _
      · cases h
    · rename_i e hu
      obtain ⟨fs, h3, hS⟩ := Option.bind_eq_some_iff.1 hS
      split at hS
      · rename_i hfs
        obtain ⟨hpos, hsz⟩ := hfs
        simp only [Option.some.injEq] at hS; subst hS
        rw [hu] at h
        split at h <;> rename_i h1 <;> first | (cases h1; done) | (cases h; done) | skip
        · simp only [Option.some.injEq, Prod.mk.injEq] at h
          obtain ⟨rfl, rfl⟩ := h
          refine ⟨[.sl fs.length [] none], 1, .cons (.sl _ _ [] [] 1 rfl (fun i r m hr => by simp at hr) (by simp)) .nil, .one rfl (.sl _ _ fun i j x hx => by simp [cellAt] at hx) ?_, by simp [Rows.uptoBulk], rfl⟩
          exact .sl _ [] none none 0 0 0 (fun _ _ => Go.undef) hpos (by simp) (by simp [maxLen]) (by simp) (.inl ⟨rfl, .inl rfl⟩) (fun i j x hx => by simp [cellAt] at hx) (fun i j x hx => by simp [cellAt] at hx) (fun i j x hx => by simp [cellAt] at hx)
        · rename_i a len cap
          simp only [Option.some.injEq, TypeDesc.slice.injEq] at h1
          subst h1
          split at h
          · rename_i hc
            obtain ⟨_, hlc, hcm⟩ := hc
            obtain ⟨elems, h4, h5⟩ := Option.bind_eq_some_iff.1 h
            obtain ⟨rest, _, h6⟩ := Option.map_eq_some_iff.1 h5
            simp only [Prod.mk.injEq] at h6
            obtain ⟨rfl, rfl⟩ := h6
            obtain ⟨g1, g2⟩ := mapM_get h4
            rw [List.length_range] at g1
            have g3 : ∀ i, i < len → ∃ y cs', elems[i]? = some y ∧ w.cells? 0 (a.add (i * fs.length)) fs.length = some cs' ∧ DataW.trod enc P w 0 (fun _ => true) true fuel e cs' = some y := by
              intro i hi
              obtain ⟨y, g4, g5⟩ := g2 i i (by simp [hi])
              obtain ⟨cs', g6, g7⟩ := Option.bind_eq_some_iff.1 g5
              rw [← hsz] at g6
              exact ⟨y, cs', g4, g6, g7⟩
            have g4 : ∀ i, i < len → ∃ row m cs', w.cells? 0 (a.add (i * fs.length)) fs.length = some cs' ∧ FitR fs row m ∧ Cells w row cs' ∧ ∃ y, elems[i]? = some y ∧ m ≤ Rows.uptoBulk y.1 := by
              intro i hi
              obtain ⟨⟨d, ps⟩, cs', q1, q2, q3⟩ := g3 i hi
              obtain ⟨row, m, k1, k2, k3, _⟩ := ih e cs' d ps fs h3 q3
              exact ⟨row, m, cs', q2, k1, k2, _, q1, k3⟩
            let row : Nat → List AV := fun i => if h : i < len then (g4 i h).choose else []
            let mm : Nat → Nat := fun i => if h : i < len then (g4 i h).choose_spec.choose else 0
            have g5 : ∀ i, i < len → ∃ cs', w.cells? 0 (a.add (i * fs.length)) fs.length = some cs' ∧ FitR fs (row i) (mm i) ∧ Cells w (row i) cs' ∧ ∃ y, elems[i]? = some y ∧ mm i ≤ Rows.uptoBulk y.1 := by
              intro i hi
              have := (g4 i hi).choose_spec.choose_spec
              simp only [row, mm, dif_pos hi]
              exact this
            clear_value row mm
            have hrl : ((List.range len).map row).length = len := by simp
            have hrow : ∀ (i : Nat) r, ((List.range len).map row)[i]? = some r → i < len ∧ r = row i := by
              intro i r hr
              have hi := (List.getElem?_eq_some_iff.1 hr).1
              rw [hrl] at hi
              rw [List.getElem?_map, List.getElem?_range hi] at hr
              simp only [Option.map_some, Option.some.injEq] at hr
              exact ⟨hi, hr.symm⟩
            have hsum : ((List.range len).map mm).sum ≤ Rows.uptoBulkAll (elems.map (·.1)) := by
              have key : ∀ (k : Nat) (es : List (DataW H × List MemPlace)) (f : Nat → Nat), es.length = k → (∀ i, i < k → ∃ y, es[i]? = some y ∧ f i ≤ Rows.uptoBulk y.1) → ((List.range k).map f).sum ≤ Rows.uptoBulkAll (es.map (·.1)) := by
                intro k
                induction k with
                | zero => intro es f _ _; simp
                | succ k ihk =>
                  intro es f hl hf
                  cases es with
                  | nil => simp at hl
                  | cons y es =>
                    have h0 := hf 0 (by omega)
                    obtain ⟨y', hy, h0⟩ := h0
                    simp only [List.getElem?_cons_zero, Option.some.injEq] at hy
                    subst hy
                    have := ihk es (fun i => f (i + 1)) (by simpa using hl) (fun i hi => by
                      obtain ⟨y2, h1, h2⟩ := hf (i + 1) (by omega)
                      exact ⟨y2, by simpa using h1, h2⟩)
                    rw [List.range_succ_eq_map, List.map_cons, List.map_map, List.sum_cons, List.map_cons]
                    simp only [Rows.uptoBulkAll]
                    have e1 : (f ∘ Nat.succ) = fun i => f (i + 1) := rfl
                    rw [e1]
                    omega
              exact key len elems mm g1 (fun i hi => by obtain ⟨_, _, _, _, h⟩ := g5 i hi; exact h)
            refine ⟨[.sl fs.length ((List.range len).map row) none], ((List.range len).map mm).sum + 1 + 0, .cons (.sl _ _ _ ((List.range len).map mm) _ (by simp) (fun i r m hr hm => ?_) (Nat.le_refl _)) .nil, .one rfl (.sl _ _ fun i j x hx => ?_) ?_, ?_, rfl⟩
            · obtain ⟨hi, rfl⟩ := hrow i r hr
              rw [List.getElem?_map, List.getElem?_range hi] at hm
              simp only [Option.map_some, Option.some.injEq] at hm
              subst hm
              obtain ⟨_, _, h, _⟩ := g5 i hi
              exact h
            · obtain ⟨r, hr, hx⟩ := cellAt_some hx
              obtain ⟨hi, rfl⟩ := hrow i r hr
              obtain ⟨cs', _, _, hc, _⟩ := g5 i hi
              exact (hc.2 j x hx).2.1
            · have hk : ∀ r ∈ (List.range len).map row, r.length = fs.length := by
                intro r hr
                obtain ⟨i, hi⟩ := List.mem_iff_getElem?.1 hr
                obtain ⟨hil, rfl⟩ := hrow i r hi
                obtain ⟨_, _, h, _⟩ := g5 i hil
                exact h.len
              have hcell : ∀ i j x, cellAt ((List.range len).map row) i j = some x → a.spot = none ∧ ∃ v, w.cell? ⟨a.block, a.off + i * fs.length + j, none⟩ = some v ∧ x.one = true ∧ Rep (G0 w) w x v := by
                intro i j x hx
                obtain ⟨r, hr, hx⟩ := cellAt_some hx
                obtain ⟨hi, rfl⟩ := hrow i r hr
                obtain ⟨cs', q1, q2, hc, _⟩ := g5 i hi
                have hj := (List.getElem?_eq_some_iff.1 hx).1
                rw [q2.len] at hj
                obtain ⟨c1, _, c2⟩ := hc.2 j x hx
                have hcc := (cells?_get q1).2 j hj
                have hz0 := (cells?_get q1).2 0 hpos
                have hsp : a.spot = none := by
                  have h00 : 0 < len := by omega
                  obtain ⟨cs0, q0, _⟩ := g5 0 h00
                  have := (cells?_get q0).2 0 hpos
                  simp only [Nat.zero_mul, Addr.add, if_true] at this
                  unfold World.cell? at this
                  cases hs : a.spot with
                  | none => rfl
                  | some s =>
                    rw [hs] at this
                    simp at this
                    split at this <;> simp at this
                refine ⟨hsp, _, ?_, c1, c2⟩
                rw [← hcc]
                congr 1
                obtain ⟨ab, ao, sp⟩ := a
                simp only at hsp
                subst hsp
                rw [Addr.add_mid, Addr.add_mid]
              rcases Nat.eq_zero_or_pos len with h0 | h0
              · subst h0
                exact .sl _ [] none (some a) cap 0 0 (fun _ _ => Go.undef) hpos (by simp) hcm (by simp) (.inl ⟨rfl, .inl rfl⟩) (fun i j x hx => by simp [cellAt] at hx) (fun i j x hx => by simp [cellAt] at hx) (fun i j x hx => by simp [cellAt] at hx)
              · have hfull : ∀ i j, i < len → j < fs.length → ∃ x, cellAt ((List.range len).map row) i j = some x := fun i j hi hj => cellAt_full hk (by simpa using hi) hj
                obtain ⟨x0, hx0⟩ := hfull 0 0 h0 hpos
                have hsp := (hcell 0 0 x0 hx0).1
                obtain ⟨ab, ao, sp⟩ := a
                dsimp only at hsp hcell
                subst hsp
                let f : Nat → Nat → Value := fun i j => (w.cell? ⟨ab, ao + i * fs.length + j, none⟩).getD Go.undef
                have hf : ∀ i j x, cellAt ((List.range len).map row) i j = some x → w.cell? ⟨ab, ao + i * fs.length + j, none⟩ = some (f i j) ∧ x.one = true ∧ Rep (G0 w) w x (f i j) := by
                  intro i j x hx
                  obtain ⟨_, v, h1, h2, h3⟩ := hcell i j x hx
                  simp only [f, h1, Option.getD_some]
                  exact ⟨trivial, h2, h3⟩
                have himm : ao + len * fs.length ≤ (G0 w).imm ab := by
                  obtain ⟨x, hx⟩ := hfull (len - 1) (fs.length - 1) (by omega) (by omega)
                  have := cell_imm (hf _ _ x hx).1
                  have e1 : (len - 1) * fs.length + fs.length = len * fs.length := by
                    rw [← Nat.succ_mul]; congr 1; omega
                  omega
                conv => arg 4; rw [← hrl]
                refine .sl _ _ none (some ⟨ab, ao, none⟩) cap ab ao f hpos (by rw [hrl]; exact hlc) hcm hk (.inr ⟨rfl, by rw [hrl]; exact himm, fun t e => nomatch e⟩) (fun i j x hx => (hf i j x hx).1) (fun i j x hx => (hf i j x hx).2.1) (fun i j x hx => (hf i j x hx).2.2)
            · simp only [Rows.uptoBulk]; omega
          · cases h
      · cases hS
    · rename_i fs hu
      obtain ⟨⟨S', e⟩, h3, hS⟩ := Option.bind_eq_some_iff.1 hS
      split at hS
      · rename_i he
        simp only [Option.some.injEq] at hS; subst hS
        rw [hu] at h
        dsimp only at h
        split at h
        · rename_i hl
          obtain ⟨xs, h4, h5⟩ := Option.map_eq_some_iff.1 h
          simp only [Prod.mk.injEq] at h5
          obtain ⟨rfl, rfl⟩ := h5
          obtain ⟨row, m, k1, k2, k3, k4, k5, k6⟩ := reads_fields ih cs fs.toList 0 S' e xs h3 h4 (Nat.zero_le _)
          dsimp only at he
          have hle : cs.length ≤ e := by rw [he, hl]; exact Nat.le_refl _
          have e1 : (cs.drop 0).take (e - 0) = cs := by rw [List.drop_zero, Nat.sub_zero, List.take_of_length_le hle]
          rw [e1] at k2
          exact ⟨row, m, k1, k2, Nat.le_trans k3 (by simp [Rows.uptoBulk]), by omega⟩
        · cases h
      · cases hS
    · cases hS

/-! ### the arguments -/
/-- A whole argument. -/
def FitV (agg : Bool) (S : List Sch) (x : AV) (n : Nat) : Prop := match agg with
  | true => ∃ row, x = .agg row ∧ FitR S row n
  | false => ∃ S0, S = [S0] ∧ FitC S0 x n
def aggT (P : Program) (t : TypeId) : Bool := match P.underlying t with
  | some (.struct _) => true
  | _ => false
/-- The parameters' kinds. -/
def schs (P : Program) : List TypeId → Option (List (Bool × List Sch))
  | [] => some []
  | t :: ts => match schT P 20 t with
    | some S => (schs P ts).map ((aggT P t, S) :: ·)
    | none => none
inductive FitA : List (Bool × List Sch) → List AV → Nat → Prop where
  | nil : FitA [] [] 0
  | cons {a : Bool} {S : List Sch} {l : List (Bool × List Sch)} {x : AV} {xs : List AV} {m n : Nat} (h : FitV a S x m) (t : FitA l xs n) : FitA ((a, S) :: l) (x :: xs) (m + n)

theorem arg_ok {base : Nat} {t : TypeId} {v : Value} {d : DataW H} {ps : List MemPlace} {S : List Sch} (hS : schT P 20 t = some S) (hval : Value.okWide P w .any base t v) (h : DataW.Trod enc P w 0 (fun _ => true) true t v d ps) :
    ∃ x m, FitV (aggT P t) S x m ∧ Pur x ∧ Rep (G0 w) w x v ∧ m ≤ Rows.uptoBulk d := by
  obtain ⟨fuel, h⟩ := h
  obtain ⟨row, m, h1, h2, h3, h4⟩ := reads_all fuel 20 t _ d ps S hS h
  cases hag : P.underlying t with
  | none => rw [schT, hag] at hS; cases hS
  | some k =>
    by_cases hs : ∃ fs, k = .struct fs
    · obtain ⟨fs, rfl⟩ := hs
      rw [show aggT P t = true by unfold aggT; rw [hag]]
      unfold Value.okWide at hval
      rw [hag] at hval
      obtain ⟨cs, rfl, _, _⟩ := hval
      have hc : (Value.agg cs).cells.toList = cs.toList := rfl
      rw [hc] at h2 h4
      refine ⟨.agg row, m, ⟨row, rfl, h1⟩, .agg _ fun j x hx => (h2.2 j x hx).2.1, .agg row cs (by have := h2.1; simp at this; omega) (fun j x hx => (h2.2 j x hx).1) (fun j x hx => ?_), h3⟩
      have := (h2.2 j x hx).2.2
      rwa [List.getD_eq_getElem?_getD, Array.getElem?_toList, ← Array.getD_eq_getD_getElem?] at this
    · rw [show aggT P t = false by unfold aggT; rw [hag]; cases k <;> first | rfl | exact absurd ⟨_, rfl⟩ hs]
      have hone : ∃ S0, S = [S0] := by
        rw [schT, hag] at hS
        cases k <;> simp only [] at hS <;> first | (cases hS; done) | (simp only [Option.some.injEq] at hS; exact ⟨_, hS.symm⟩) | skip
        · obtain ⟨fs, _, h5⟩ := Option.bind_eq_some_iff.1 hS
          split at h5
          · simp only [Option.some.injEq] at h5; exact ⟨_, h5.symm⟩
          · cases h5
        · exact absurd ⟨_, rfl⟩ hs
      obtain ⟨S0, rfl⟩ := hone
      have hna : ∀ cs, v ≠ .agg cs := by
        rintro cs rfl
        unfold Value.okWide at hval
        rw [hag] at hval
        rw [schT, hag] at hS
        cases k <;> simp only [] at hS hval <;> first | (cases hS; done) | (simp [Cell.okWide, Cell.ok, hag] at hval; done) | exact hs ⟨_, rfl⟩
      have hv1 : v.cells.toList = [v] := by cases v <;> first | rfl | exact absurd rfl (hna _)
      rw [hv1] at h2
      cases h1 with
      | cons hc ht =>
        cases ht
        refine ⟨_, _, ⟨S0, rfl, hc⟩, (h2.2 0 _ rfl).2.1, (h2.2 0 _ rfl).2.2, by omega⟩
theorem args_ok {base : Nat} : ∀ {ts : List TypeId} {vs : List Value} {ds : List (DataW H)} {ps : List MemPlace} {l : List (Bool × List Sch)}, schs P ts = some l → (∀ (j : Nat) t v, ts[j]? = some t → vs[j]? = some v → Value.okWide P w .any base t v) → DataW.TrodAll enc P w 0 (fun _ => true) true ts vs ds ps →
    ∃ xs m, FitA l xs m ∧ (∀ x ∈ xs, Pur x) ∧ Reps (G0 w) w xs vs ∧ m ≤ Rows.uptoBulkAll ds
  | [], vs, ds, ps, l, hl, hv, h => by
    obtain ⟨rfl, rfl, rfl⟩ := trodAll_nil h
    simp only [schs, Option.some.injEq] at hl
    subst hl
    exact ⟨[], 0, .nil, by simp, ⟨rfl, fun i x hx => by simp at hx⟩, Nat.zero_le _⟩
  | t :: ts, vs, ds, ps, l, hl, hv, h => by
    obtain ⟨v, vs', d, ds', p, q, rfl, rfl, rfl, h1, h2⟩ := trodAll_cons h
    simp only [schs] at hl
    split at hl
    · rename_i S hS
      obtain ⟨l', hl', rfl⟩ := Option.map_eq_some_iff.1 hl
      obtain ⟨x, m, a1, a2, a3, a4⟩ := arg_ok hS (hv 0 t v rfl rfl) h1
      obtain ⟨xs, n, b1, b2, b3, b4⟩ := args_ok hl' (fun j t' v' h3 h4 => hv (j + 1) t' v' (by simpa using h3) (by simpa using h4)) h2
      refine ⟨x :: xs, m + n, .cons a1 b1, fun y hy => ?_, ⟨by simp [b3.1], fun i y hy => ?_⟩, by simp only [Rows.uptoBulkAll]; omega⟩
      · rcases List.mem_cons.1 hy with rfl | hy
        · exact a2
        · exact b2 y hy
      · cases i with
        | zero => simp only [List.getElem?_cons_zero, Option.some.injEq] at hy; subst hy; exact a3
        | succ i => simpa using b3.2 i y (by simpa using hy)
    · cases hl
theorem trodAll_stay (hl : laidOutB P = true) {W' : World} (hb : Below w.heap.size w W') : ∀ {ts : List TypeId} {vs : List Value} {ds : List (DataW H)} {ps : List MemPlace}, (ts.all fun t => P.readableRec t && decide (t < P.types.size)) = true → DataW.TrodAll enc P w 0 (fun _ => true) true ts vs ds ps →
    DataW.TrodAll enc P W' 0 (fun b => decide (b < w.heap.size)) true ts vs ds ps
  | [], vs, ds, ps, _, h => by
    obtain ⟨rfl, rfl, rfl⟩ := trodAll_nil h
    exact trodAll_mk0
  | t :: ts, vs, ds, ps, ht, h => by
    obtain ⟨v, vs', d, ds', p, q, rfl, rfl, rfl, h1, h2⟩ := trodAll_cons h
    simp only [List.all_cons, Bool.and_eq_true, decide_eq_true_eq] at ht
    refine trodAll_cons_mk (Below.trod hl ht.1.1 ht.1.2 h1 hb (fun x hx => ?_)) (trodAll_stay hl hb (by simpa using ht.2) h2)
    obtain ⟨m, hm⟩ := h1
    exact DataW.trod_lt m _ _ _ hm x hx

theorem bulk_append : ∀ (ds gs : List (DataW H)), Rows.uptoBulkAll ds ≤ Rows.uptoBulkAll (ds ++ gs)
  | [], _ => Nat.zero_le _
  | d :: ds, gs => by have := bulk_append ds gs; simp only [List.cons_append, Rows.uptoBulkAll]; omega
/-- What a pure law's truth gives. -/
theorem law_contract {f : FuncId} {fn : Func} {s : ChangeSpec} {l : List (Bool × List Sch)} {k : Nat} (hl : laidOutB P = true) (hr : (fn.params.toList.all fun t => P.readableRec t && decide (t < P.types.size)) = true) (hsch : schs P fn.params.toList = some l)
    (hres : ∃ tb, fn.resultTypes = #[tb] ∧ P.underlying tb = some .bool) (hvars : s.vars = []) (hspec : ∀ ds : List (DataW H), ds.length = fn.params.size → s.fn H ds = { results := [.lit (.bool true)], args := ds })
    {args : Array Value} {base : Nat} {ds gs : List (DataW H)} {before : List MemPlace}
    (hval : ∀ (j : Nat) t v, fn.params[j]? = some t → args[j]? = some v → Value.okWide P w .any base t v) (hW : DataW.Whole enc P fn.params.toList s.vars false w args.toList ds gs before)
    (hk : Rows.uptoBulkAll ds ≤ k) (hpc : ∀ xs m, FitA l xs m → m ≤ k → PC P f xs fun r => r = .bool true) :
    Calls P f args w fun e W' => ∃ v, e = .returned v ∧ s.post enc P fn false true false false w args v W' := by
  have hW' := hW
  obtain ⟨p, q, hA, hV, rfl, hfz, hnd⟩ := hW
  rw [hvars] at hV
  obtain ⟨rfl, rfl⟩ := trodVars_none hV
  obtain ⟨xs, m, a1, a2, a3, a4⟩ := args_ok hsch (base := base) (fun j t v h1 h2 => hval j t v (by simpa using h1) (by simpa using h2)) hA
  have hlen : ds.length = fn.params.size := by
    have key : ∀ {ts : List TypeId} {vs : List Value} {ds : List (DataW H)} {ps : List MemPlace}, DataW.TrodAll enc P w 0 (fun _ => true) true ts vs ds ps → ds.length = ts.length := by
      intro ts
      induction ts with
      | nil => intro vs ds ps h; obtain ⟨rfl, rfl, rfl⟩ := trodAll_nil h; rfl
      | cons t ts ih => intro vs ds ps h; obtain ⟨v, vs', d, ds', p, q, rfl, rfl, rfl, _, h2⟩ := trodAll_cons h; simp [ih h2]
    simpa using key hA
  obtain ⟨tb, hrt, htb⟩ := hres
  have hpc' := (hpc xs m a1 (by omega)).2.2 (G0 w) w args.toList (hsim0 w) a3
  rw [Array.toArray_toList] at hpc'
  refine hpc'.mono ?_
  rintro e W' ⟨r, cr, G', H', rfl, q1, q2, q3, q4, r', q5, q6, q7⟩
  subst q7
  have hcr : cr = .bool true := by
    have := q5.rep q1
    cases this; rfl
  subst hcr
  have hnm : ∀ b, ¬ Mut (G0 w) AH.none b := by
    rintro b (⟨id, z, _, hm⟩ | ⟨c, hm⟩) <;> cases hm
  have bel : Below w.heap.size w W' := ⟨q4.os, q4.tape, q4.output, q4.size, fun b hb => (q4.block b hb (hnm b)).1⟩
  refine ⟨_, rfl, ds, [], p ++ [], [], p, [], hW', ?_, ?_, ?_, bel.frame _, fun h => by cases h⟩
  · rw [List.append_nil, hspec ds hlen, hrt]
    exact trodAll_mk1 (shut_bool htb _)
  · rw [List.append_nil, hspec ds hlen]
    exact trodAll_stay hl bel hr hA
  · rw [List.append_nil, hspec ds hlen, hvars]
    rfl
end
end Go.Proofs.Ytecpiplfjmmccaa.AM

/-
  A search tree holds what it gives.
  No program in sight. Conditions: none.
-/
namespace Go.Proofs.Ytecpiplfjmmccaa.AM
open Go
def Tr.list : Tr → List (Nat × TI)
  | .leaf => []
  | .node l k v r => l.list ++ (k, v) :: r.list
theorem Tr.get_mem {t : Nat} {v : TI} : ∀ {T : Tr}, T.get t = some v → (t, v) ∈ T.list
  | .leaf, h => by cases h
  | .node l k x r, h => by
    simp only [Tr.get] at h
    unfold Tr.list
    split at h
    · rename_i hk
      have hk := Nat.eq_of_beq_eq_true hk
      simp only [Option.some.injEq] at h
      subst h; subst hk
      simp
    · split at h
      · exact List.mem_append_left _ (Tr.get_mem h)
      · exact List.mem_append_right _ (List.mem_cons_of_mem _ (Tr.get_mem h))
end Go.Proofs.Ytecpiplfjmmccaa.AM
