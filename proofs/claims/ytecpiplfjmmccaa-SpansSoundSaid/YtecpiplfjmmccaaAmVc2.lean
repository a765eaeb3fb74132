/-
  What a run of code asks (vc), and that it is enough (vc_ok, AC.of_vc).
  Conditions: the table of types tells of the program's.
-/
import Derived.Test.YtecpiplfjmmccaaAmVc
import Derived.Deep.LoopGhost
namespace Go.Proofs.Ytecpiplfjmmccaa.AM
open Go

def bsp (b : Bool) (x y : Prop) : Prop :=
  match b with
  | true => x
  | false => y
theorem bsp_intro {b : Bool} {x y : Prop} (h1 : b = true → x) (h2 : b = false → y) : bsp b x y := by
  cases b
  · exact h2 rfl
  · exact h1 rfl

/-- one operation, its guard ahead -/
def A1 (P : Program) (ty : Tr) (md : Nat → Nat) (qt : FuncId → Bool) (ops : List Oper) (o : Oper) (S : AS) (K : AS → Prop) : Prop :=
  match o.guard with
  | none => A P ty md qt o S K
  | some (g, want) => match (ops[g]?).bind (·.dst) with
    | some t => match S with
      | ⟨n, T, L, H⟩ => match look T t with
        | .bool b => bsp b (match want with | true => A P ty md qt o ⟨n, (t, .bool true) :: T, L, H⟩ K | false => putK o.dst .skip n ((t, .bool true) :: T) L H K)
            (match want with | true => putK o.dst .skip n ((t, .bool false) :: T) L H K | false => A P ty md qt o ⟨n, (t, .bool false) :: T, L, H⟩ K)
        | .skip => putK o.dst .skip n T L H K
        | _ => False
    | none => False
def reg (P : Program) (ty : Tr) (md : Nat → Nat) (qt : FuncId → Bool) (ops : List Oper) : List Oper → AS → (AS → Prop) → Prop
  | [], S, K => K S
  | o :: l, S, K => A1 P ty md qt ops o S fun S => reg P ty md qt ops l S K
def regO (P : Program) (ty : Tr) (md : Nat → Nat) (qt : FuncId → Bool) (ops : List Oper) : List Nat → AS → (AS → Prop) → Prop
  | [], S, K => K S
  | i :: l, S, K => match ops[i]? with
    | some o => A1 P ty md qt ops o S fun S => regO P ty md qt ops l S K
    | none => False

inductive AX where
  | normal | ret | exit (id : Nat)

/-- A value told of less. -/
inductive Wk : AV → AV → Prop where
  | refl (x : AV) : Wk x x
  | nil (z : Nat) (tok : Option Nat) (hz : 0 < z) : Wk .nils (.sl z [] tok)
  | drop (z : Nat) (rows : List (List AV)) (tok : Option Nat) : Wk (.sl z rows tok) (.sl z rows none)
  | nilms (z id : Nat) : Wk .nils (.ms z id 0 0)
theorem Wk.of {x y : AV} (h : x = y) : Wk x y := h ▸ .refl x
def leT (T : List (Nat × AV)) : List (Nat × AV) → Prop
  | [] => True
  | (j, x) :: l => Wk (look T j) x ∧ leT T l
def leC : List AV → List AV → Prop
  | [], [] => True
  | x :: l, y :: l' => (y = .undef ∨ Wk x y) ∧ leC l l'
  | _, _ => False
def leL (L : List (Nat × List AV)) : List (Nat × List AV) → Prop
  | [] => True
  | (i, cs) :: l => (∃ ds, lookL L i = some ds ∧ leC ds cs) ∧ leL L l
/-- Tracked memory told of less: chains begun, blocks forgotten, empty ones begun, rows told of less. -/
inductive LeH : AH → AH → Prop where
  | tips {H H' : AH} (zs : List Nat) (h : H' = ⟨H.blks, H.tips ++ zs.map fun z => (z, 0)⟩) : LeH H H'
  | dead {H : AH} (id : Nat) : LeH H (H.upd id .dead)
  | empty {H : AH} (z : Nat) (hz : 0 < z) : LeH H (H.push (.rows z []))
  | weak {H : AH} (id z : Nat) (l l' : List (List AV)) (hid : H.blks[id]? = some (.rows z l)) (hw : ∀ (i : Nat) r', l'[i]? = some r' → ∃ r, l[i]? = some r ∧ leC r r') : LeH H (H.upd id (.rows z l'))
  | trans {H H' H'' : AH} (h : LeH H H') (k : LeH H' H'') : LeH H H''
theorem LeH.refl (H : AH) : LeH H H := .tips [] (by simp)
theorem LeH.of {H H' : AH} (h : H = H') : LeH H H' := h ▸ .refl H
/-- A state told of less; chains may be begun. -/
structure LeS (S S' : AS) : Prop where
  n : S.n = S'.n
  t : leT S.T S'.T
  l : leL S.L S'.L
  h : LeH S.H S'.H

structure LoopVC (body : AS → (AX → AS → Prop) → Prop) (S : AS) (Q : AX → AS → Prop) : Prop where
  out : ∃ (α : Type) (I : α → AS) (inv : α → Prop) (μ : α → Nat), (∃ x, inv x ∧ LeS S (I x)) ∧
    ∀ x, inv x → body (I x) fun e S' => match e with
      | .normal => ∃ x', inv x' ∧ μ x' < μ x ∧ LeS S' (I x')
      | .ret => Q .ret S'
      | .exit i => Q (.exit i) S'
structure DrawVC (P : Program) (ty : Tr) (md : Nat → Nat) (qt : FuncId → Bool) (ops : List Oper) (S : AS) (K : AS → Prop) : Prop where
  out : ∃ order tab, drawB md qt ops order tab = true ∧ regO P ty md qt ops order S K

theorem DrawVC.go {P : Program} {ty : Tr} {md : Nat → Nat} {qt : FuncId → Bool} {ops : List Oper} {S : AS} {K : AS → Prop} (order : List Nat) (h : drawB md qt ops order (anc ops) = true) (k : regO P ty md qt ops order S K) : DrawVC P ty md qt ops S K := ⟨order, anc ops, h, k⟩

def vc (P : Program) (ty : Tr) (md : Nat → Nat) (qt : FuncId → Bool) : Code → AS → (AX → AS → Prop) → Prop
  | .skip, S, Q => Q .normal S
  | .region _ ops draw, S, Q => match draw with
    | false => reg P ty md qt ops.toList ops.toList S (Q .normal)
    | true => DrawVC P ty md qt ops.toList S (Q .normal)
  | .seq a b, S, Q => vc P ty md qt a S fun e S => match e with
    | .normal => vc P ty md qt b S Q
    | .ret => Q .ret S
    | .exit i => Q (.exit i) S
  | .cond c a b, S, Q => match S with
    | ⟨n, T, L, H⟩ => match evA T c with
      | .bool t => match c with
        | .tmp d => bsp t (vc P ty md qt a ⟨n, (d, .bool true) :: T, L, H⟩ Q) (vc P ty md qt b ⟨n, (d, .bool false) :: T, L, H⟩ Q)
        | _ => bsp t (vc P ty md qt a ⟨n, T, L, H⟩ Q) (vc P ty md qt b ⟨n, T, L, H⟩ Q)
      | _ => False
  | .block id c, S, Q => vc P ty md qt c S fun e S => match e with
    | .normal => Q .normal S
    | .ret => Q .ret S
    | .exit i => match Nat.beq i id with
      | true => Q .normal S
      | false => Q (.exit i) S
  | .loop c, S, Q => LoopVC (vc P ty md qt c) S Q
  | .exit id, S, Q => Q (.exit id) S
  | .ret, S, Q => Q .ret S
  | .label _, S, Q => Q .normal S
  | _, _, _ => False

section
variable {E : Env} {P : Program} {ty : Tr} {md : Nat → Nat} {qt : FuncId → Bool} {lo : Nat → Nat} {G : Gh} {S : AS} {a : Act} {w : World}

theorem shadow_eqv {n t : Nat} {T : List (Nat × AV)} {L : List (Nat × List AV)} {H : AH} {b : Bool} (h : look T t = .bool b) : Eqv ⟨n, (t, .bool b) :: T, L, H⟩ ⟨n, T, L, H⟩ := by
  refine ⟨rfl, fun i => ?_, fun p => ?_, fun _ => rfl, rfl⟩
  · rw [look_cons]
    split
    · rename_i e; subst e; exact h.symm
    · rfl
  · simp only [List.mem_cons]
    refine ⟨fun hp => ?_, .inr⟩
    rcases hp with rfl | hp
    · exact look_mem h (by simp)
    · exact hp
theorem KE.of {K : AS → Prop} {S : AS} (h : K S) : KE K S := ⟨S, Eqv.refl S, h⟩

theorem A1_ok {ops : List Oper} {o : Oper} {K : AS → Prop} (h : A1 P ty md qt ops o S K) : B1 P ty.get md qt ops o S (KE K) := by
  unfold A1 at h
  unfold B1
  cases hg : o.guard with
  | none => rw [hg] at h; exact B_mono (A_ok h) fun _ => KE.of
  | some gw =>
    obtain ⟨g, want⟩ := gw
    rw [hg] at h
    dsimp only at h ⊢
    split at h
    · rename_i t ht
      obtain ⟨n, T, L, H⟩ := S
      dsimp only at h
      refine ⟨t, ht, ?_⟩
      split at h
      · rename_i b hb
        refine .inl ⟨b, hb, ?_⟩
        have run : A P ty md qt o ⟨n, (t, .bool b) :: T, L, H⟩ K → B P ty.get md qt o ⟨n, T, L, H⟩ (KE K) := fun h => B_eqv (shadow_eqv hb) (A_ok h) fun S S' e h => ⟨S, e, h⟩
        have skp : putK o.dst .skip n ((t, .bool b) :: T) L H K → DstOK o ⟨n, T, L, H⟩ ∧ KE K ((⟨n, T, L, H⟩ : AS).put o.dst .skip) := fun h => by
          obtain ⟨h1, h2⟩ := putK_eq h
          exact ⟨h1, _, put_eqv (shadow_eqv hb) _ _, h2⟩
        cases b <;> cases want <;> dsimp only [bsp] at h
        · exact ⟨fun _ => run h, fun h' => absurd rfl h'⟩
        · exact ⟨fun h' => (nomatch h'), fun _ => skp h⟩
        · exact ⟨fun h' => (nomatch h'), fun _ => skp h⟩
        · exact ⟨fun _ => run h, fun h' => absurd rfl h'⟩
      · rename_i hb
        obtain ⟨h1, h2⟩ := putK_eq h
        exact .inr ⟨hb, h1, KE.of h2⟩
      · cases h
    · cases h

theorem Breg_eqv {ops : List Oper} {ty : TypeId → Option TI} {K : AS → Prop} : ∀ {l : List Oper} {S S' : AS}, Eqv S S' → Breg P ty md qt ops l S (KE K) → Breg P ty md qt ops l S' (KE K)
  | [], _, _, e, ⟨S0, e0, h⟩ => ⟨S0, e0.trans e, h⟩
  | _ :: _, _, _, e, h => B1_eqv e h fun _ _ e' h' => Breg_eqv e' h'
theorem reg_ok {ops : List Oper} {K : AS → Prop} : ∀ {l : List Oper} {S : AS}, reg P ty md qt ops l S K → Breg P ty.get md qt ops l S (KE K)
  | [], _, h => KE.of h
  | _ :: _, _, h => B1_mono (A1_ok h) fun _ ⟨_, e, h'⟩ => Breg_eqv e (reg_ok h')
theorem regO_ok {ops : List Oper} {K : AS → Prop} : ∀ {l : List Nat} {S : AS}, regO P ty md qt ops l S K → Bord P ty.get md qt ops l S (KE K)
  | [], _, h => KE.of h
  | i :: l, S, h => by
    unfold regO at h
    split at h
    · rename_i o ho
      exact ⟨o, ho, B1_mono (A1_ok h) fun _ ⟨_, e, h'⟩ => Bord_eqv e (regO_ok h')⟩
    · cases h

theorem Wk.rep {x y : AV} {v : Value} (h : Wk x y) (hr : Rep G w x v) : Rep G w y v := by
  cases h with
  | refl => exact hr
  | nil z tok hz =>
    cases hr
    exact .sl z [] tok none 0 0 0 (fun _ _ => Go.undef) hz (by simp) (by simp [maxLen]) (by simp) (.inl ⟨rfl, .inr rfl⟩) (fun i j x hx => by simp [cellAt] at hx) (fun i j x hx => by simp [cellAt] at hx) (fun i j x hx => by simp [cellAt] at hx)
  | nilms z id =>
    cases hr
    exact .ms _ _ _ _ _ _ (Nat.le_refl _) (by simp [maxLen]) (.inr rfl)
  | drop z rows tok =>
    cases hr with
    | sl _ _ _ A c b o f hz hlc hc hk hp hcell h1 hrr =>
      refine .sl z rows none A c b o f hz hlc hc hk ?_ hcell h1 hrr
      rcases hp with ⟨h0, _⟩ | ⟨hA, hi, _⟩
      · exact .inl ⟨h0, .inl rfl⟩
      · exact .inr ⟨hA, hi, fun t e => nomatch e⟩
theorem Wk.repT {x y : AV} {v : Value} (h : Wk x y) (hr : RepT lo G w x v) : RepT lo G w y v := by
  rcases hr with rfl | ⟨i, c, rfl, hv⟩ | hr
  · cases h; exact .inl rfl
  · cases h; exact .inr (.inl ⟨i, c, rfl, hv⟩)
  · exact .inr (.inr (h.rep hr))
theorem Wk.one {x y : AV} (h : Wk x y) (hx : x.one = true) : y.one = true := by cases h <;> first | exact hx | rfl

theorem leT_get {T : List (Nat × AV)} : ∀ {T' : List (Nat × AV)}, leT T T' → ∀ i, look T' i = .undef ∨ Wk (look T i) (look T' i)
  | [], _, i => .inl rfl
  | (j, x) :: l, h, i => by
    rw [look_cons]
    split
    · rename_i e; subst e; exact .inr h.1
    · exact leT_get h.2 i
theorem leC_get : ∀ {ds cs : List AV}, leC ds cs → ds.length = cs.length ∧ ∀ (j : Nat) x, cs[j]? = some x → x = .undef ∨ ∃ y, ds[j]? = some y ∧ Wk y x
  | [], [], _ => ⟨rfl, fun j x h => by simp at h⟩
  | [], _ :: _, h => h.elim
  | _ :: _, [], h => h.elim
  | y :: ds, x :: cs, h => by
    obtain ⟨h1, h2⟩ := h
    obtain ⟨g1, g2⟩ := leC_get h2
    refine ⟨by simp [g1], fun j z hz => ?_⟩
    cases j with
    | zero =>
      simp only [List.getElem?_cons_zero, Option.some.injEq] at hz
      subst hz
      exact h1.imp id fun h => ⟨y, rfl, h⟩
    | succ j => simpa using g2 j z (by simpa using hz)
theorem leL_get {L : List (Nat × List AV)} : ∀ {L' : List (Nat × List AV)}, leL L L' → ∀ i cs, lookL L' i = some cs → ∃ ds, lookL L i = some ds ∧ leC ds cs
  | [], _, i, cs, h => by simp [lookL] at h
  | (j, x) :: l, h, i, cs, hi => by
    rw [lookL_cons] at hi
    split at hi
    · rename_i e
      subst e
      simp only [Option.some.injEq] at hi
      subst hi
      exact h.1
    · exact leL_get h.2 i cs hi

theorem tips_sim (zs : List Nat) : ∀ (H : AH), HSim G w H → Ext G H w G ⟨H.blks, H.tips ++ zs.map fun z => (z, 0)⟩ w ∧ HSim G w ⟨H.blks, H.tips ++ zs.map fun z => (z, 0)⟩ := by
  induction zs with
  | nil => intro H hh; simp only [List.map_nil, List.append_nil]; exact ⟨Ext.refl _ _ _, hh⟩
  | cons z zs ih =>
    intro H hh
    obtain ⟨e1, e2⟩ := eff_tip hh z
    obtain ⟨e3, e4⟩ := ih _ e2
    simp only [List.map_cons]
    have : H.tips ++ (z, 0) :: zs.map (fun z => (z, 0)) = (H.tips ++ [(z, 0)]) ++ zs.map (fun z => (z, 0)) := by simp
    rw [this]
    exact ⟨e1.trans e3, e4⟩
theorem RepU.weak {x y : AV} {v : Value} (h : y = .undef ∨ Wk x y) (hr : RepU G w x v) : RepU G w y v := by
  rcases h with rfl | h
  · exact .inl rfl
  · rcases hr with rfl | ⟨g4, g5⟩
    · cases h; exact .inl rfl
    · exact .inr ⟨h.one g4, h.rep g5⟩
theorem LeH.sim {H H' : AH} (k : LeH H H') : HSim G w H → Ext G H w G H' w ∧ HSim G w H' := by
  induction k with
  | tips zs h => intro hh; subst h; exact tips_sim zs _ hh
  | dead id => intro hh; exact eff_dead hh id
  | empty z hz => intro hh; exact eff_empty hh z hz
  | trans _ _ ih1 ih2 =>
    intro hh
    obtain ⟨a1, a2⟩ := ih1 hh
    obtain ⟨b1, b2⟩ := ih2 a2
    exact ⟨a1.trans b1, b2⟩
  | @weak H id z l l' hid hw =>
    intro hh
    have hll : l'.length ≤ l.length := by
      rcases Nat.lt_or_ge l.length l'.length with h | h
      · obtain ⟨r, hr, _⟩ := hw l.length _ (List.getElem?_eq_getElem h)
        simp at hr
      · exact h
    rcases hh.at_ id _ hid rfl with ⟨b, z', h1, ⟨h2, h3, vs, e2, h4, h5, h6, h7⟩, _, _⟩ | ⟨h1, z', h2, h3⟩
    · obtain ⟨_, q2, q3⟩ := eff_blk (B' := .rows z l') hh hid rfl h1 (Kin.refl w) rfl (fun _ _ => rfl) (fun _ h => h) (fun hle => ⟨h2, h3, vs, e2, h4, fun r hr => by
        obtain ⟨i, hi⟩ := List.mem_iff_getElem?.1 hr
        obtain ⟨r0, g1, g2⟩ := hw i r hi
        rw [← (leC_get g2).1]; exact h5 r0 (List.mem_of_getElem? g1), by
        have : l'.length * z ≤ l.length * z := Nat.mul_le_mul_right z hll
        omega, fun i j x hx => by
        obtain ⟨r, g1, g2⟩ := cellAt_some hx
        obtain ⟨r0, g3, g4⟩ := hw i r g1
        rcases (leC_get g4).2 j x g2 with rfl | ⟨y, g5, g6⟩
        · exact .inl rfl
        · exact (h7 i j y (by unfold cellAt; rw [g3]; exact g5)).weak (.inr g6)⟩)
      exact ⟨q2, q3⟩
    · simp only [ABlk.rows.injEq] at h3
      obtain ⟨rfl, rfl⟩ := h3
      have hl' : l' = [] := List.eq_nil_of_length_eq_zero (by simpa using hll)
      subst hl'
      have hu : H.upd id (.rows z []) = H := by
        unfold AH.upd
        rw [set_self _ _ _ hid]
      rw [hu]; exact ⟨Ext.refl _ _ _, hh⟩

theorem Sim.less {S' : AS} (h : Sim E lo G S a w) (k : LeS S S') : Sim E lo G S' a w := by
  obtain ⟨t1, t2⟩ := k.h.sim h.h
  refine { t := fun i => ?_, size := by rw [← k.n]; exact h.size, d := h.d, l := ?_, h := t2, le := h.le, ext := h.ext.trans t1, own := fun i cs hi => ?_ }
  · rcases leT_get k.t i with e | e
    · exact .inl e
    · exact e.repT (h.t i)
  · refine { at_ := fun i cs hi => ?_, free := fun i cs hi => ?_, inj := fun i j cs ds hi hj e => ?_ }
    · obtain ⟨ds, h1, h2⟩ := leL_get k.l i cs hi
      obtain ⟨vs, e, g1, g2, g3⟩ := h.l.at_ i ds h1
      obtain ⟨c1, c2⟩ := leC_get h2
      refine ⟨vs, e, g1, by omega, fun j x hx => ?_⟩
      rcases c2 j x hx with e | ⟨y, hy, hw⟩
      · exact .inl e
      · rcases g3 j y hy with rfl | ⟨g4, g5⟩
        · cases hw; exact .inl rfl
        · exact .inr ⟨hw.one g4, hw.rep g5⟩
    · obtain ⟨ds, h1, _⟩ := leL_get k.l i cs hi
      exact h.l.free i ds h1
    · obtain ⟨cs', h1, _⟩ := leL_get k.l i cs hi
      obtain ⟨ds', h2, _⟩ := leL_get k.l j ds hj
      exact h.l.inj i j cs' ds' h1 h2 e
  · obtain ⟨ds, h1, _⟩ := leL_get k.l i cs hi
    exact h.own i ds h1

def post (E : Env) (Q : AX → AS → Prop) : Exit → Act → World → Prop
  | .normal, a, w => Aft E (Q .normal) a w
  | .ret, a, w => Aft E (Q .ret) a w
  | .exit i, a, w => Aft E (Q (.exit i)) a w
  | _, _, _ => False
theorem Aft.ke {K : AS → Prop} {a : Act} {w : World} : Aft E (KE K) a w → Aft E K a w := fun ⟨lo, G, _, hs, S', e, hk⟩ => ⟨lo, G, S', hs.eqv ⟨e.n.symm, fun i => (e.t i).symm, fun p => (e.m p).symm, fun i => (e.l i).symm, e.h.symm⟩, hk⟩

theorem vc_ok (hty : TyOK P ty.get) (hmix : P.follows .mixedOrders = true) : ∀ (c : Code) {Q : AX → AS → Prop} {lo : Nat → Nat} {G : Gh} {S : AS} {a : Act} {w : World}, Sim E lo G S a w → vc P ty md qt c S Q → c.wp P (post E Q) a w
  | .skip, Q, lo, G, S, a, w, hs, h => wp_skip ⟨lo, G, S, hs, h⟩
  | .region id ops draw, Q, lo, G, S, a, w, hs, h => by
    cases draw with
    | false => exact Breg_ok hty hs (reg_ok h) fun a' w' h => Aft.ke h
    | true =>
      obtain ⟨order, tab, h1, h2⟩ := h.out
      exact Bord_ok hty hmix (drawB_ok h1) hs (regO_ok h2) fun a' w' h => Aft.ke h
  | .seq x y, Q, lo, G, S, a, w, hs, h => by
    refine wp_seq (wp_mono (vc_ok hty hmix x hs h) fun e a' w' hq => ?_)
    cases e <;> first | exact hq | skip
    · obtain ⟨lo', G', S', hs', h'⟩ := hq
      exact vc_ok hty hmix y hs' h'
  | .cond c x y, Q, lo, G, S, a, w, hs, h => by
    obtain ⟨n, T, L, H⟩ := S
    unfold vc at h
    dsimp only at h
    split at h
    · rename_i t ht
      have hr := evA_ok hs c
      rw [show evA (AS.T ⟨n, T, L, H⟩) c = _ from ht] at hr
      have hr := hr.rep (.inl rfl)
      generalize hv : a.eval c = v at hr
      cases hr
      split at h
      · rename_i d
        have he := shadow_eqv (n := n) (L := L) (H := H) (show look T d = .bool t from ht)
        have hs' := hs.eqv (S' := ⟨n, (d, .bool t) :: T, L, H⟩) ⟨rfl, fun i => (he.t i).symm, fun p => (he.m p).symm, fun _ => rfl, rfl⟩
        refine wp_cond hv ?_
        cases t
        · exact vc_ok hty hmix y hs' h
        · exact vc_ok hty hmix x hs' h
      · refine wp_cond hv ?_
        cases t
        · exact vc_ok hty hmix y hs h
        · exact vc_ok hty hmix x hs h
    · cases h
  | .block id c, Q, lo, G, S, a, w, hs, h => by
    refine wp_block (wp_mono (vc_ok hty hmix c hs h) fun e a' w' hq => ?_)
    cases e <;> first | exact hq | skip
    · rename_i i
      obtain ⟨lo', G', S', hs', h'⟩ := hq
      show if i = id then _ else _
      dsimp only at h'
      split at h'
      · rename_i hb
        rw [if_pos (Nat.eq_of_beq_eq_true hb)]
        exact ⟨lo', G', S', hs', h'⟩
      · rename_i hb
        rw [if_neg (Nat.ne_of_beq_eq_false hb)]
        exact ⟨lo', G', S', hs', h'⟩
  | .loop c, Q, lo, G, S, a, w, hs, h => by
    obtain ⟨α, I, inv, μ, ⟨x0, h1, h2⟩, h3⟩ := h.out
    refine wp_loop_ghost (fun m a w => ∃ x, inv x ∧ μ x = m ∧ ∃ lo G, Sim E lo G (I x) a w) (μ x0) ⟨x0, h1, rfl, lo, G, hs.less h2⟩ ?_
    rintro m a' w' ⟨x, hx, rfl, lo', G', hs'⟩
    refine wp_mono (vc_ok hty hmix c hs' (h3 x hx)) fun e a'' w'' hq => ?_
    cases e <;> first | exact hq | skip
    · obtain ⟨lo'', G'', S'', hs'', x', g1, g2, g3⟩ := hq
      exact ⟨μ x', g2, x', g1, rfl, lo'', G'', hs''.less g3⟩
  | .exit id, Q, lo, G, S, a, w, hs, h => wp_exit ⟨lo, G, S, hs, h⟩
  | .ret, Q, lo, G, S, a, w, hs, h => wp_ret ⟨lo, G, S, hs, h⟩
  | .label l, Q, lo, G, S, a, w, hs, h => wp_label ⟨lo, G, S, hs, h⟩
  | .rangeFunc .., _, _, _, _, _, _, _, h => h.elim
  | .goto _, _, _, _, _, _, _, _, h => h.elim
  | .scope _, _, _, _, _, _, _, _, h => h.elim
  | .refuse _, _, _, _, _, _, _, _, h => h.elim

/-! ### a function -/
def number : Nat → List AV → List (Nat × AV)
  | _, [] => []
  | i, x :: l => (i, x) :: number (i + 1) l
theorem look_number : ∀ (l : List AV) (i j : Nat), look (number i l) j = if i ≤ j then (l[j - i]?).getD .undef else .undef
  | [], i, j => by simp [number, look]
  | x :: l, i, j => by
    simp only [number]
    rw [look_cons, look_number l (i + 1) j]
    by_cases h : i = j
    · subst h; simp
    · rw [if_neg h]
      by_cases h2 : i ≤ j
      · rw [if_pos h2, if_pos (by omega)]
        obtain ⟨m, hm⟩ : ∃ m, j - i = m + 1 := ⟨j - i - 1, by omega⟩
        rw [hm, show j - (i + 1) = m by omega]
        simp
      · rw [if_neg h2, if_neg (by omega)]

/-- What the results' places hold. -/
def resK (ty : Tr) (S : AS) : List ResultVar → (List AV → Prop) → Prop
  | [], k => k []
  | .tmp t :: l, k => force (look S.T t) fun x => match x.val with
    | true => resK ty S l fun l => k (x :: l)
    | false => False
  | .cell t e :: l, k => match look S.T t with
    | .lptr i c => match lookL S.L i with
      | some cs => match loadOf (ty.get e) cs c with
        | some x => force x fun x => match x.val with
          | true => resK ty S l fun l => k (x :: l)
          | false => False
        | none => False
      | none => False
    | _ => False
def one? (l : List AV) : AV :=
  match l with
  | [x] => x
  | l => .tup l
def retK (ty : Tr) (fn : Func) (Q : AV → AH → Prop) : AX → AS → Prop
  | .exit _, _ => False
  | _, S => resK ty S fn.results.toList fun l => Q (one? l) S.H

def resOf (tmps : Array Value) : ResultVar → Sem Value
  | .tmp t => pure (tmps.getD t Go.undef)
  | .cell x t => do loadVar t (← asAddr (tmps.getD x Go.undef))
theorem resK_ok (hty : TyOK P ty.get) (hs : Sim E lo G S a w) : ∀ {l : List ResultVar} {k : List AV → Prop}, resK ty S l k → ∃ (xs : List AV) (vs : List Value), k xs ∧ (l.mapM (resOf a.tmps)).run P w = .ok vs w ∧ vs.length = xs.length ∧ ∀ (i : Nat) x, xs[i]? = some x → Rep G w x (vs.getD i Go.undef)
  | [], k, h => ⟨[], [], h, rfl, rfl, fun i x h => by simp at h⟩
  | .tmp t :: l, k, h => by
    unfold resK at h
    rw [force_eq] at h
    split at h
    · rename_i hv
      obtain ⟨xs, vs, h1, h2, h3, h4⟩ := resK_ok hty hs h
      refine ⟨look S.T t :: xs, a.tmps.getD t Go.undef :: vs, h1, ?_, by simp [h3], fun i x hx => ?_⟩
      · simp only [List.mapM_cons, Sem.run_bind, resOf, Sem.run_pure, Result.andThen_ok, h2]
      · cases i with
        | zero =>
          simp only [List.getElem?_cons_zero, Option.some.injEq] at hx
          subst hx
          exact (hs.t t).rep (.inl hv)
        | succ i => simpa using h4 i x (by simpa using hx)
    · cases h
  | .cell t e :: l, k, h => by
    unfold resK at h
    split at h
    · rename_i i c hl
      split at h
      · rename_i cs hcs
        split at h
        · rename_i x hx
          rw [force_eq] at h
          split at h
          · rename_i hv
            have hp := hs.t t
            rw [hl] at hp
            have hpv : a.tmps.getD t Go.undef = .pointer (some ⟨lo i, c, none⟩) := by
              rcases hp with hp | ⟨_, _, hp, hv⟩ | hp
              · cases hp
              · simp only [AV.lptr.injEq] at hp; rw [hp.1, hp.2]; exact hv
              · cases hp
            obtain ⟨us, e', h2, h3, h4⟩ := hs.l.at_ i cs hcs
            obtain ⟨v, g1, g2⟩ := load_ok (P := P) (w := w) (G := G) (b := lo i) (o := 0) (f := fun j => us.getD j Go.undef) hty hx (fun j y hy => ⟨by
              rw [Nat.zero_add]
              exact cell_row h2 (by have := (List.getElem?_eq_some_iff.1 hy).1; omega), h4 j y hy⟩)
            obtain ⟨xs, vs, k1, k2, k3, k4⟩ := resK_ok hty hs h
            refine ⟨x :: xs, v :: vs, k1, ?_, by simp [k3], fun i y hy => ?_⟩
            · have g1' : (loadVar e ⟨lo i, c, none⟩).run P w = .ok v w := by
                simpa [Instr.loadAt, Instr.sureAddr] using g1
              simp only [List.mapM_cons, Sem.run_bind, resOf, hpv, asAddr, Sem.run_pure, Result.andThen_ok, g1', k2]
            · cases i with
              | zero =>
                simp only [List.getElem?_cons_zero, Option.some.injEq] at hy
                subst hy
                exact g2
              | succ i => simpa using k4 i y (by simpa using hy)
          · cases h
        · cases h
      · cases h
    · cases h

/-- A function does what its text, walked, asks. -/
theorem AC.of_vc (hty : TyOK P ty.get) (hmix : P.follows .mixedOrders = true) {f : FuncId} {fn : Func} {c : Code} (hf : P.funcs[f]? = some fn) (hname : (fn.name == "runtime.NumGoroutine") = false) (hb : fn.body = some c) {args : List AV} (hlen : Nat.ble args.length fn.ntmps = true)
    {H : AH} {Q : AV → AH → Prop} (h : vc P ty md qt c ⟨fn.ntmps, number 0 args, [], H⟩ (retK ty fn Q)) : AC P f args H Q := by
  refine ⟨⟨fn, c, hf, hname, hb⟩, fun G w vs hH hr => calls_of_wp hf hb ?_⟩
  have hlen := Nat.le_of_ble_eq_true hlen
  have hs : Sim ⟨G, H, w⟩ (fun _ => 0) G ⟨fn.ntmps, number 0 args, [], H⟩ { tmps := vs.toArray ++ Array.replicate (fn.ntmps - vs.toArray.size) Go.undef, defers := [] } w := by
    refine { t := fun i => ?_, size := ?_, d := rfl, l := ⟨fun i cs hi => by simp [lookL] at hi, fun i cs hi => by simp [lookL] at hi, fun i j cs ds hi => by simp [lookL] at hi⟩, h := hH, le := Le.refl _ _, ext := Ext.refl _ _ _, own := fun i cs hi => by simp [lookL] at hi }
    · show RepT _ _ _ (look (number 0 args) i) _
      rw [look_number]
      simp only [Nat.zero_le, if_true, Nat.sub_zero]
      cases hx : args[i]? with
      | none => exact .inl rfl
      | some x =>
        have h1 := hr.2 i x hx
        have hi := (List.getElem?_eq_some_iff.1 hx).1
        rw [List.getD_eq_getElem?_getD] at h1
        refine RepT.of ?_
        rw [Option.getD_some, Array.getD_eq_getD_getElem?, Array.getElem?_append_left (by simp [hr.1]; exact hi)]
        simpa using h1
    · show fn.ntmps = _
      simp [hr.1]; omega
  refine wp_mono (vc_ok hty hmix c hs h) fun e a' w' hq => ?_
  have fin : Aft ⟨G, H, w⟩ (retK ty fn Q .ret) a' w' → a'.defers = [] ∧ ∃ v, (results fn a'.tmps).run P w' = .ok v w' ∧ ∃ r cr G' H', Ending.returned v = .returned cr ∧ Rep G' w' r cr ∧ HSim G' w' H' ∧ Le G w G' w' ∧ Ext G H w G' H' w' ∧ Q r H' := by
    rintro ⟨lo', G', S', hs', h'⟩
    obtain ⟨xs, us, h1, h2, h3, h4⟩ := resK_ok hty hs' h'
    refine ⟨hs'.d, if h : us.toArray.size = 1 then us.toArray[0] else .tuple us.toArray, ?_, one? xs, _, G', S'.H, rfl, ?_, hs'.h, hs'.le, hs'.ext, h1⟩
    · have hr : (fn.results.mapM (resOf a'.tmps)).run P w' = .ok us.toArray w' := by
        rw [← Array.toArray_toList (xs := fn.results), List.mapM_toArray]
        simp only [Sem.run_map, h2]
        rfl
      unfold results
      show ((fn.results.mapM (resOf a'.tmps)).bind fun vs => _).run P w' = _
      erw [Sem.run_bind, hr]
      rfl
    · unfold one?
      split
      · rename_i x
        have hl : us.length = 1 := h3
        rw [dif_pos (by simpa using hl)]
        have := h4 0 x rfl
        rw [List.getD_eq_getElem?_getD, List.getElem?_eq_getElem (by omega), Option.getD_some] at this
        simpa using this
      · rename_i hne
        rw [dif_neg (fun h => ?_)]
        · exact .tup xs us.toArray (by simpa using h3) (fun i x hx => by
            have := h4 i x hx
            rw [List.getD_eq_getElem?_getD] at this
            rw [Array.getD_eq_getD_getElem?]
            simpa using this)
        · have hl : xs.length = 1 := by rw [← h3]; simpa using h
          match xs, hl with
          | [x], _ => exact hne x rfl
  cases e with
  | normal => exact fin hq
  | ret => exact fin hq
  | exit i => obtain ⟨_, _, _, _, h⟩ := hq; exact h.elim
  | panic c => exact hq.elim
  | goto l => exact hq.elim
  | outgrown => exact hq.elim
end
end Go.Proofs.Ytecpiplfjmmccaa.AM
