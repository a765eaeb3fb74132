/-
  What an operation that touches no memory gives, without addresses (pv), and that the machine's gives just that.
  Conditions: the table of types (ty) tells of the program's.
-/
import Derived.Test.YtecpiplfjmmccaaAmSim
import Derived.Laws.Entries
import Derived.Laws.Build
import Derived.Laws.Slices
import Derived.Laws.Small
import Derived.ChangeKeysEq
import Derived.Laws.StructEq
import Derived.Laws.Pointers
namespace Go.Proofs.Ytecpiplfjmmccaa.AM
open Go

inductive TK where
  | int (k : IntKind) | bool | str | slice (e : TypeId) | strct (fs : List (Nat × Nat × TypeId)) | map (k e : TypeId) | ptr (e : TypeId) | arr (n : Nat) (e : TypeId) | func | iface | other
  deriving Inhabited, Repr
structure TI where
  size : Nat
  bytes : Nat
  agg : Bool
  zero : Option AV
  kind : TK
  deriving Inhabited

def toAV0 : Value → Option AV
  | .int k n => some (.int k n)
  | .bool b => some (.bool b)
  | .string s => some (.str s)
  | .pointer none => some .nilptr
  | .slice none 0 0 => some .nils
  | .map none => some .nilmap
  | .nilFunc => some .nilfn
  | .nilIface => some .nilif
  | _ => none
def optAll {α β : Type} (f : α → Option β) : List α → Option (List β)
  | [] => some []
  | x :: l => match f x with
    | some y => match optAll f l with
      | some ys => some (y :: ys)
      | none => none
    | none => none
def toAV : Value → Option AV
  | .agg cs => (optAll toAV0 cs.toList).map .agg
  | v => toAV0 v

theorem optAll_get {α β : Type} {f : α → Option β} : ∀ {l : List α} {ys : List β}, optAll f l = some ys → ys.length = l.length ∧ ∀ (i : Nat) y, ys[i]? = some y → ∃ x, l[i]? = some x ∧ f x = some y
  | [], ys, h => by
    simp only [optAll, Option.some.injEq] at h
    subst h
    exact ⟨rfl, fun i y hy => by simp at hy⟩
  | x :: l, ys, h => by
    simp only [optAll] at h
    split at h
    · rename_i y hy
      split at h
      · rename_i zs hz
        simp only [Option.some.injEq] at h
        subst h
        obtain ⟨h1, h2⟩ := optAll_get hz
        refine ⟨by simp [h1], fun i y' hy' => ?_⟩
        cases i with
        | zero => exact ⟨x, rfl, by simpa [← hy'] using hy⟩
        | succ i => simpa using h2 i y' (by simpa using hy')
      · cases h
    · cases h
theorem toAV0_rep {v : Value} {x : AV} (h : toAV0 v = some x) (G : Gh) (w : World) : Rep G w x v ∧ x.one = true := by
  unfold toAV0 at h
  split at h <;> simp only [Option.some.injEq, reduceCtorEq] at h <;> subst h <;> exact ⟨by constructor, rfl⟩
theorem toAV_rep {v : Value} {x : AV} (h : toAV v = some x) (G : Gh) (w : World) : Rep G w x v := by
  unfold toAV at h
  split at h
  · rename_i cs
    cases ho : optAll toAV0 cs.toList with
    | none => simp [ho] at h
    | some ys =>
      simp only [ho, Option.map_some, Option.some.injEq] at h
      subst h
      obtain ⟨h1, h2⟩ := optAll_get ho
      refine .agg ys cs (by simpa using h1.symm) (fun i x hx => ?_) (fun i x hx => ?_)
      · obtain ⟨v, _, hv⟩ := h2 i x hx; exact (toAV0_rep hv G w).2
      · obtain ⟨v, hv, hx⟩ := h2 i x hx
        have : cs.getD i Go.undef = v := by rw [Array.getD_eq_getD_getElem?, ← Array.getElem?_toList, hv]; rfl
        rw [this]; exact (toAV0_rep hx G w).1
  · exact (toAV0_rep h G w).1

/-- A struct whose values may be compared field by field. -/
def eqSafe (P : Program) (t : TypeId) (fs : List Field) : Bool := !P.stoodInHeld t && !P.eqGuardType P.depth t && fs.all fun f => f.name != "_"
def kindOf (P : Program) (t : TypeId) : TypeDesc → TK
  | .bool => .bool
  | .int k => .int k
  | .string => .str
  | .slice e => .slice e
  | .struct fs => match eqSafe P t fs.toList with
    | true => match optAll (fun f : Field => (P.info? f.type).map fun i => (f.offset, i.size, f.type)) fs.toList with
      | some l => .strct l
      | none => .other
    | false => .other
  | .map k e => .map k e
  | .pointer e => .ptr e
  | .array n e => .arr n e
  | .func .. => .func
  | .interface _ => .iface
  | _ => .other
def aggOf : TypeDesc → Bool
  | .struct _ | .array _ _ => true
  | _ => false
def tiOf (P : Program) (t : TypeId) : Option TI :=
  match P.info? t, P.underlying t with
  | some i, some d => some ⟨i.size, i.bytes, aggOf d, i.zero.bind toAV, kindOf P t d⟩
  | _, _ => none
/-- The table tells of the program's types. -/
def TyOK (P : Program) (ty : TypeId → Option TI) : Prop := ∀ t ti, ty t = some ti → tiOf P t = some ti

theorem tiOf_some {P : Program} {t : TypeId} {ti : TI} (h : tiOf P t = some ti) : ∃ i d, P.info? t = some i ∧ P.underlying t = some d ∧ ti = ⟨i.size, i.bytes, aggOf d, i.zero.bind toAV, kindOf P t d⟩ := by
  unfold tiOf at h
  split at h
  · rename_i i d h1 h2
    exact ⟨i, d, h1, h2, by simpa using h.symm⟩
  · cases h

def evA (T : List (Nat × AV)) : Operand → AV
  | .tmp t => look T t
  | .const v => match toAV v with
    | some x => x
    | none => .undef
  | .func f => .fn f [] []
  | .global _ => .undef

theorem evA_ok {E : Env} {lo : Nat → Nat} {G : Gh} {S : AS} {a : Act} {w : World} (h : Sim E lo G S a w) (x : Operand) : RepT lo G w (evA S.T x) (a.eval x) := by
  cases x with
  | tmp t => exact h.t t
  | const v =>
    simp only [evA, Act.eval]
    split
    · rename_i y hy; exact .inr (.inr (toAV_rep hy G w))
    · exact .inl rfl
  | func f => exact .inr (.inr (.fn f [] [] #[] #[] rfl rfl (fun i x hx => by simp at hx) (fun i x hx => by simp at hx)))
  | global g => exact .inl rfl

/-- Of a value that is neither unknown nor a place. -/
theorem RepT.rep {lo : Nat → Nat} {G : Gh} {w : World} {x : AV} {v : Value} (h : RepT lo G w x v) (hx : x.val = true ∨ x = .skip) : Rep G w x v := by
  rcases h with rfl | ⟨i, c, rfl, _⟩ | h
  · rcases hx with hx | hx <;> simp [AV.val] at hx
  · rcases hx with hx | hx <;> simp [AV.val] at hx
  · exact h
theorem RepT.of {lo : Nat → Nat} {G : Gh} {w : World} {x : AV} {v : Value} (h : Rep G w x v) : RepT lo G w x v := .inr (.inr h)

def AV.cellsOf : AV → List AV
  | .agg cs => cs
  | x => [x]
theorem Rep.cells {G : Gh} {w : World} {x : AV} {v : Value} (h : Rep G w x v) (hx : x.val = true) (ht : ∀ vs, x ≠ .tup vs) : v.cells.size = x.cellsOf.length ∧ (∀ (j : Nat) y, x.cellsOf[j]? = some y → y.one = true ∧ Rep G w y (v.cells.getD j Go.undef)) := by
  have single : ∀ {x : AV} {v : Value}, Rep G w x v → x.one = true → x.cellsOf = [x] → v.cells = #[v] → v.cells.size = x.cellsOf.length ∧ (∀ (j : Nat) y, x.cellsOf[j]? = some y → y.one = true ∧ Rep G w y (v.cells.getD j Go.undef)) := by
    intro x v h h1 h2 h3
    rw [h2, h3]
    refine ⟨rfl, fun j y hy => ?_⟩
    cases j with
    | zero => simp only [List.getElem?_cons_zero, Option.some.injEq] at hy; subst hy; exact ⟨h1, h⟩
    | succ j => simp at hy
  cases h with
  | agg cs vs hl h1 hr => exact ⟨hl, fun j y hy => ⟨h1 j y hy, hr j y hy⟩⟩
  | tup cs vs => exact absurd rfl (ht cs)
  | skip => simp [AV.val] at hx
  | int k n => exact single (.int k n) rfl rfl rfl
  | bool b => exact single (.bool b) rfl rfl rfl
  | str s => exact single (.str s) rfl rfl rfl
  | nilptr => exact single .nilptr rfl rfl rfl
  | ptr id row col b z h => exact single (.ptr id row col b z h) rfl rfl rfl
  | ep row col b o f hi hc h1 hr => exact single (.ep row col b o f hi hc h1 hr) rfl rfl rfl
  | nils => exact single .nils rfl rfl rfl
  | sl z rows tok A c b o f hz hlc hc hk hp hcell h1 hr => exact single (.sl z rows tok A c b o f hz hlc hc hk hp hcell h1 hr) rfl rfl rfl
  | ms z id off len c A hlc hc hs => exact single (.ms z id off len c A hlc hc hs) rfl rfl rfl
  | nilmap => exact single .nilmap rfl rfl rfl
  | map id b h => exact single (.map id b h) rfl rfl rfl
  | fn f fi ca fv cv hf hc h1 h2 => exact single (.fn f fi ca fv cv hf hc h1 h2) rfl rfl rfl
  | nilfn => exact single .nilfn rfl rfl rfl
  | iface t x v h => exact single (.iface t x v h) rfl rfl rfl
  | nilif => exact single .nilif rfl rfl rfl

/-! ### numbers -/
def arith (op : BinOp) (k : IntKind) (a b : Int) : Option AV :=
  match op with
  | .add => some (.int k (k.wrap (a + b)))
  | .sub => some (.int k (k.wrap (a - b)))
  | .mul => some (.int k (k.wrap (a * b)))
  | .eql => some (.bool (a == b))
  | .neq => some (.bool (a != b))
  | .lss => some (.bool (decide (a < b)))
  | .leq => some (.bool (decide (a ≤ b)))
  | .gtr => some (.bool (decide (a > b)))
  | .geq => some (.bool (decide (a ≥ b)))
  | .quo => if b = 0 then none else some (.int k (k.wrap (a.tdiv b)))
  | .rem => if b = 0 then none else some (.int k (a.tmod b))
  | .and => some (.int k (k.wrap (BitVec.ofInt k.bits a &&& BitVec.ofInt k.bits b).toNat))
  | .or => some (.int k (k.wrap (BitVec.ofInt k.bits a ||| BitVec.ofInt k.bits b).toNat))
  | _ => none
theorem arith_ok {P : Program} {op : BinOp} {k : IntKind} {a b : Int} {x : AV} (h : arith op k a b = some x) (t : TypeId) (G : Gh) (w : World) :
    ∃ v, (Go.binOp op t (.int k a) (.int k b)).run P w = .ok v w ∧ Rep G w x v := by
  cases op <;> simp only [arith, Option.some.injEq, reduceCtorEq] at h
  all_goals first
    | (subst h; exact ⟨_, by simp [Go.binOp, Op.intArith, Op.intCmp, Op.intBits]; rfl, by constructor⟩)
    | (split at h
       · cases h
       · simp only [Option.some.injEq] at h; subst h; rename_i hb; exact ⟨_, by simp [Go.binOp, Op.intDiv, hb]; rfl, by constructor⟩)

def cellEq (kd : TK) (x y : AV) : Option Bool :=
  match kd, x, y with
  | .int _, .int k a, .int k' b => if k = k' then some (a == b) else none
  | .bool, .bool a, .bool b => some (a == b)
  | .str, .str a, .str b => some (a.toList == b.toList)
  | _, _, _ => none
def aggEq (ty : TypeId → Option TI) : List (Nat × Nat × TypeId) → List AV → List AV → Option Bool
  | [], _, _ => some true
  | (off, _, t) :: fs, cs, ds => match ty t with
    | some ti => match ti.agg with
      | true => none
      | false => match cs[off]? with
        | some x => match ds[off]? with
          | some y => match cellEq ti.kind x y with
            | some b => match aggEq ty fs cs ds with
              | some r => some (b && r)
              | none => none
            | none => none
          | none => none
        | none => none
    | none => none
def boolOp (op : BinOp) (b : Bool) : Option AV :=
  match op with
  | .eql => some (.bool b)
  | .neq => some (.bool (!b))
  | _ => none
def isPtr : Option TI → Bool
  | some ⟨_, _, _, _, .ptr _⟩ => true
  | _ => false
def shiftOf (op : BinOp) (k : IntKind) (a b : Int) : Option AV :=
  match op with
  | .shl => some (.int k (k.wrap (a * 2 ^ (min b.toNat k.bits))))
  | .shr => some (.int k (a.fdiv (2 ^ (min b.toNat k.bits))))
  | _ => none
def bin (ty : TypeId → Option TI) (k : Option TI) (op : BinOp) (x y : AV) : Option AV :=
  match x, y with
  | .int k a, .int k' b => match op with
    | .shl => if 0 ≤ b then shiftOf op k a b else none
    | .shr => if 0 ≤ b then shiftOf op k a b else none
    | op => if k = k' then arith op k a b else none
  | .bool a, .bool b => match k with
    | some ⟨_, _, _, _, .bool⟩ => boolOp op (a == b)
    | _ => none
  | .str a, .str b => boolOp op (a.toList == b.toList)
  | .agg cs, .agg ds => match k with
    | some ⟨_, _, _, _, .strct fs⟩ => match aggEq ty fs cs ds with
      | some b => boolOp op b
      | none => none
    | _ => none
  | .nilptr, .nilptr => match isPtr k with
    | true => boolOp op true
    | false => none
  | .ptr _ _ _, .nilptr => match isPtr k with
    | true => boolOp op false
    | false => none
  | .ep _ _, .nilptr => match isPtr k with
    | true => boolOp op false
    | false => none
  | _, _ => none
theorem kind_bool {P : Program} {t : TypeId} {ti : TI} (h : tiOf P t = some ti) (hk : ti.kind = .bool) : P.underlying t = some .bool := by
  obtain ⟨i, d, h1, h2, rfl⟩ := tiOf_some h
  rw [h2]
  cases d <;> simp [kindOf] at hk ⊢
  repeat' split at hk
  all_goals cases hk
theorem kind_int {P : Program} {t : TypeId} {ti : TI} {k : IntKind} (h : tiOf P t = some ti) (hk : ti.kind = .int k) : P.underlying t = some (.int k) := by
  obtain ⟨i, d, h1, h2, rfl⟩ := tiOf_some h
  rw [h2]
  cases d <;> simp [kindOf] at hk ⊢
  · exact hk
  · repeat' split at hk
    all_goals cases hk
theorem kind_str {P : Program} {t : TypeId} {ti : TI} (h : tiOf P t = some ti) (hk : ti.kind = .str) : P.underlying t = some .string := by
  obtain ⟨i, d, h1, h2, rfl⟩ := tiOf_some h
  rw [h2]
  cases d <;> simp [kindOf] at hk ⊢
  repeat' split at hk
  all_goals cases hk
theorem kind_slice {P : Program} {t e : TypeId} {ti : TI} (h : tiOf P t = some ti) (hk : ti.kind = .slice e) : P.underlying t = some (.slice e) := by
  obtain ⟨i, d, h1, h2, rfl⟩ := tiOf_some h
  rw [h2]
  cases d <;> simp [kindOf] at hk ⊢
  · exact hk
  · repeat' split at hk
    all_goals cases hk
theorem kind_map {P : Program} {t k e : TypeId} {ti : TI} (h : tiOf P t = some ti) (hk : ti.kind = .map k e) : P.underlying t = some (.map k e) := by
  obtain ⟨i, d, h1, h2, rfl⟩ := tiOf_some h
  rw [h2]
  cases d <;> simp [kindOf] at hk ⊢
  · exact hk
  · repeat' split at hk
    all_goals cases hk
theorem kind_strct' {P : Program} {t : TypeId} {l : List (Nat × Nat × TypeId)} {ti : TI} (h : tiOf P t = some ti) (hk : ti.kind = .strct l) :
    ∃ fs, P.underlying t = some (.struct fs) ∧ optAll (fun f : Field => (P.info? f.type).map fun i => (f.offset, i.size, f.type)) fs.toList = some l ∧ eqSafe P t fs.toList = true := by
  obtain ⟨i, d, h1, h2, rfl⟩ := tiOf_some h
  rw [h2]
  cases d <;> simp [kindOf] at hk ⊢
  split at hk
  · rename_i hs
    split at hk
    · rename_i l' hl
      cases hk
      exact ⟨hl, hs⟩
    · cases hk
  · cases hk
theorem kind_strct {P : Program} {t : TypeId} {l : List (Nat × Nat × TypeId)} {ti : TI} (h : tiOf P t = some ti) (hk : ti.kind = .strct l) :
    ∃ fs, P.underlying t = some (.struct fs) ∧ optAll (fun f : Field => (P.info? f.type).map fun i => (f.offset, i.size, f.type)) fs.toList = some l := by
  obtain ⟨fs, h1, h2, _⟩ := kind_strct' h hk
  exact ⟨fs, h1, h2⟩
theorem kind_ptr {P : Program} {t e : TypeId} {ti : TI} (h : tiOf P t = some ti) (hk : ti.kind = .ptr e) : P.underlying t = some (.pointer e) := by
  obtain ⟨i, d, h1, h2, rfl⟩ := tiOf_some h
  rw [h2]
  cases d <;> simp [kindOf] at hk ⊢
  · exact hk
  · repeat' split at hk
    all_goals cases hk
theorem ti_size {P : Program} {t : TypeId} {ti : TI} (h : tiOf P t = some ti) : ∃ i, P.info? t = some i ∧ i.size = ti.size ∧ i.bytes = ti.bytes ∧ i.zero.bind toAV = ti.zero := by
  obtain ⟨i, d, h1, h2, rfl⟩ := tiOf_some h
  exact ⟨i, h1, rfl, rfl, rfl⟩
theorem ti_sizeOf {P : Program} {t : TypeId} {ti : TI} (h : tiOf P t = some ti) (w : World) : (sizeOf t).run P w = .ok ti.size w := by
  obtain ⟨i, h1, h2, _⟩ := ti_size h
  rw [run_sizeOf w h1, ← h2]
  simp [Program.cellsOf, h1]
theorem ti_agg {P : Program} {t : TypeId} {ti : TI} (h : tiOf P t = some ti) (w : World) : (isAgg t).run P w = .ok ti.agg w := by
  obtain ⟨i, d, h1, h2, rfl⟩ := tiOf_some h
  unfold isAgg
  simp only [Sem.run_bind, run_underlying h2, Result.andThen_ok]
  cases d <;> rfl

theorem boolOp_some {op : BinOp} {b : Bool} {r : AV} (h : boolOp op b = some r) : (op = .eql ∧ r = .bool b) ∨ (op = .neq ∧ r = .bool (!b)) := by
  cases op <;> simp only [boolOp, Option.some.injEq, reduceCtorEq] at h <;> subst h
  · exact .inl ⟨rfl, rfl⟩
  · exact .inr ⟨rfl, rfl⟩
theorem cellEq_ok {P : Program} {ty : TypeId → Option TI} (hty : TyOK P ty) {t : TypeId} {ti : TI} (ht : ty t = some ti) {x y : AV} {v u : Value} {b : Bool} {G : Gh} {w : World} (h : cellEq ti.kind x y = some b) (hx : Rep G w x v) (hy : Rep G w y u) (d : Nat) :
    (Op.equalIn (d + 1) t v u).run P w = .ok b w := by
  unfold cellEq at h
  split at h
  · rename_i k0 k a k' b' hk
    split at h
    · rename_i e
      subst e
      simp only [Option.some.injEq] at h
      subst h
      cases hx; cases hy
      exact run_equalIn_int w d t _ _ _ _ (kind_int (hty _ _ ht) hk)
    · cases h
  · rename_i hk
    simp only [Option.some.injEq] at h
    subst h
    cases hx; cases hy
    exact run_equalIn_bool w d t _ _ (kind_bool (hty _ _ ht) hk)
  · rename_i hk
    simp only [Option.some.injEq] at h
    subst h
    cases hx; cases hy
    exact run_equalIn_string w d t _ _ (kind_str (hty _ _ ht) hk)
  · cases h
theorem aggEq_ok {P : Program} {ty : TypeId → Option TI} (hty : TyOK P ty) {cs ds : List AV} {xs ys : Array Value} {G : Gh} {w : World} (hx : Rep G w (.agg cs) (.agg xs)) (hy : Rep G w (.agg ds) (.agg ys)) (d : Nat) :
    ∀ {l : List Field} {fs : List (Nat × Nat × TypeId)} {b : Bool}, optAll (fun f : Field => (P.info? f.type).map fun i => (f.offset, i.size, f.type)) l = some fs → (∀ f ∈ l, f.name ≠ "_") → aggEq ty fs cs ds = some b → (Op.eqFields (d + 1) xs ys l).run P w = .ok b w
  | [], fs, b, hl, _, h => by
    simp only [optAll, Option.some.injEq] at hl
    subst hl
    simp only [aggEq, Option.some.injEq] at h
    subst h
    rfl
  | f :: l, fs, b, hl, hn, h => by
    simp only [optAll] at hl
    split at hl
    · rename_i p hp
      split at hl
      · rename_i ps hps
        simp only [Option.some.injEq] at hl
        subst hl
        obtain ⟨i, hi, rfl⟩ := Option.map_eq_some_iff.1 hp
        simp only [aggEq] at h
        split at h
        · rename_i ti hti
          split at h
          · cases h
          · rename_i hag
            split at h
            · rename_i x hcx
              split at h
              · rename_i y hdy
                split at h
                · rename_i b1 hb1
                  split at h
                  · rename_i r hr
                    simp only [Option.some.injEq] at h
                    subst h
                    have hag' := ti_agg (hty _ _ hti) w
                    have part_ok : ∀ {es : List AV} {vs : Array Value} {z : AV}, Rep G w (.agg es) (.agg vs) → es[f.offset]? = some z → (part f.type vs f.offset).run P w = .ok (vs.getD f.offset Go.undef) w ∧ Rep G w z (vs.getD f.offset Go.undef) := by
                      intro es vs z hr hz
                      cases hr with
                      | agg _ _ hlen h1 hrr =>
                        have hlt := (List.getElem?_eq_some_iff.1 hz).1
                        have hg : vs[f.offset]? = some (vs.getD f.offset Go.undef) := by rw [Array.getD_eq_getD_getElem?, Array.getElem?_eq_getElem (by omega)]; rfl
                        exact ⟨by unfold part; simp only [Sem.run_bind, hag', hag, hg, Result.andThen_ok, if_false, Sem.run_pure, Bool.false_eq_true], hrr _ _ hz⟩
                    obtain ⟨p1, p2⟩ := part_ok hx hcx
                    obtain ⟨q1, q2⟩ := part_ok hy hdy
                    have he := cellEq_ok hty hti hb1 p2 q2 d
                    have ih := aggEq_ok hty hx hy d hps (fun g hg => hn g (List.mem_cons_of_mem _ hg)) hr
                    have hnm := hn f (List.mem_cons_self ..)
                    simp only [Op.eqFields, ne_eq, hnm, not_false_eq_true, if_true, Sem.run_bind, p1, q1, he, Result.andThen_ok, Sem.run_ite]
                    cases b1
                    · simp
                    · simp [ih]
                  · cases h
                · cases h
              · cases h
            · cases h
        · cases h
      · cases hl
    · cases hl
theorem bin_ok {P : Program} {ty : TypeId → Option TI} (hty : TyOK P ty) {op : BinOp} {t : TypeId} {x y r : AV} {v u : Value} {G : Gh} {w : World} (h : bin ty (ty t) op x y = some r) (hx : Rep G w x v) (hy : Rep G w y u) :
    ∃ z, (Go.binOp op t v u).run P w = .ok z w ∧ Rep G w r z := by
  have ptr : ∀ {p : Option Addr} {b : Bool}, isPtr (ty t) = true → p.isNone = b → boolOp op b = some r → ∃ z, (Go.binOp op t (.pointer p) (.pointer none)).run P w = .ok z w ∧ Rep G w r z := by
    intro p b hk hp hb
    unfold isPtr at hk
    split at hk
    · rename_i e h0
      have hu := kind_ptr (hty _ _ h0) rfl
      have hu' : P.underlying t = some (.pointer (P.pointee t)) := by rw [hu]; unfold Program.pointee; rw [hu]
      rcases boolOp_some hb with ⟨rfl, rfl⟩ | ⟨rfl, rfl⟩
      · exact ⟨_, run_eql_pointer_nil w t p hu', by rw [hp]; exact .bool _⟩
      · exact ⟨_, run_neq_pointer_nil w t p hu', by rw [hp]; exact .bool _⟩
    · cases hk
  unfold bin at h
  split at h
  · rename_i k a k' b
    cases hx; cases hy
    split at h
    · split at h
      · rename_i hb
        simp only [shiftOf, Option.some.injEq] at h
        subst h
        exact ⟨_, by simp [Go.binOp, Op.shift, show ¬ b < 0 by omega]; rfl, by constructor⟩
      · cases h
    · split at h
      · rename_i hb
        simp only [shiftOf, Option.some.injEq] at h
        subst h
        exact ⟨_, by simp [Go.binOp, Op.shift, show ¬ b < 0 by omega]; rfl, by constructor⟩
      · cases h
    · split at h
      · rename_i hk
        subst hk
        exact arith_ok h t G w
      · cases h
  · split at h
    · rename_i h3
      have hb := kind_bool (hty _ _ h3) rfl
      cases hx; cases hy
      rcases boolOp_some h with ⟨rfl, rfl⟩ | ⟨rfl, rfl⟩
      · exact ⟨_, run_eql_bool w t _ _ hb, by constructor⟩
      · exact ⟨_, run_neq_bool w t _ _ hb, by constructor⟩
    · cases h
  · cases hx; cases hy
    rcases boolOp_some h with ⟨rfl, rfl⟩ | ⟨rfl, rfl⟩
    · exact ⟨_, by simp [Go.binOp, Op.stringOp]; rfl, by constructor⟩
    · exact ⟨_, by simp [Go.binOp, Op.stringOp]; rfl, by constructor⟩
  · split at h
    · rename_i fs h3
      split at h
      · rename_i b hb
        obtain ⟨fl, hu, hl, hsafe⟩ := kind_strct' (hty _ _ h3) rfl
        unfold eqSafe at hsafe
        simp only [Bool.and_eq_true, Bool.not_eq_true', List.all_eq_true, bne_iff_ne, ne_eq] at hsafe
        have hfo : P.fieldsOf t = fl := by unfold Program.fieldsOf; rw [hu]
        have hx' := hx
        have hy' := hy
        cases hx with
        | agg _ xs _ _ _ => cases hy with
          | agg _ ys _ _ _ =>
            have he := aggEq_ok hty hx' hy' 9998 hl (fun f hf => hsafe.2 f hf) hb
            have hq : (Op.equalIn 10000 t (.agg xs) (.agg ys)).run P w = .ok b w := by
              rw [run_equalIn_struct w 9999 t xs ys (by rw [hfo]; exact hu) hsafe.1.1, hfo]
              exact he
            rcases boolOp_some h with ⟨rfl, rfl⟩ | ⟨rfl, rfl⟩
            · exact ⟨_, by rw [run_eql_struct, hq]; rfl, by constructor⟩
            · exact ⟨_, by rw [run_neq_struct, hq]; rfl, by constructor⟩
      · cases h
    · cases h
  · split at h
    · rename_i hk; cases hx; cases hy; exact ptr hk rfl h
    · cases h
  · split at h
    · rename_i hk; cases hx; cases hy; exact ptr hk rfl h
    · cases h
  · split at h
    · rename_i hk; cases hx; cases hy; exact ptr hk rfl h
    · cases h
  · cases h
end Go.Proofs.Ytecpiplfjmmccaa.AM
