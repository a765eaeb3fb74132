/-
  Texts laid together by program (bundle.py): each part says in its own head what is proved. What is proved here serves the law's row.
  Conditions: as each part says.
-/
import Derived.Test.YtecpiplfjmmccaaCn1
import Derived.Great.BuildSlice
import Derived.Deep.AppendSrc
import Derived.Deep.Upon
import Derived.Laws.MakeOwn
/-
  The operations in five kinds (B): a value alone, a new variable, a change of what is held, a call, a call that leaves all as it was.
  No program in sight. Conditions: none.
-/
namespace Go.Proofs.Ytecpiplfjmmccaa.AM
open Go

inductive Tr where
  | leaf
  | node (l : Tr) (k : Nat) (v : TI) (r : Tr)
def Tr.get : Tr → Nat → Option TI
  | .leaf, _ => none
  | .node l k v r, t => match Nat.beq t k with
    | true => some v
    | false => match Nat.blt t k with
      | true => l.get t
      | false => r.get t

def ones : List AV → Bool
  | [] => true
  | x :: l => match x.one with
    | true => ones l
    | false => false
def loadOf (k : Option TI) (cells : List AV) (c : Nat) : Option AV :=
  match k with
  | some ti => match ti.agg with
    | true => match Nat.ble (c + ti.size) cells.length with
      | true => match ones ((cells.drop c).take ti.size) with
        | true => some (.agg ((cells.drop c).take ti.size))
        | false => none
      | false => none
    | false => match cells[c]? with
      | some x => match x.one with
        | true => some x
        | false => none
      | none => none
  | none => none
def cut (z : Nat) : Nat → List AV → List (List AV)
  | 0, _ => []
  | n + 1, cs => cs.take z :: cut z n (cs.drop z)
def repn (z : List AV) : Nat → List AV
  | 0 => []
  | n + 1 => z ++ repn z n
def placesFrom (z : Nat) : Nat → Nat → List (Nat × Nat × TypeId)
  | _, 0 => []
  | o, n + 1 => (o, z, 0) :: placesFrom z (o + z) n
/-- A slice laid out: the size of an element, and the rows. -/
def bsl (ty : TypeId → Option TI) (t : TypeId) (len : Nat) (parts : List (Nat × Operand)) (T : List (Nat × AV)) : Option (Nat × List (List AV)) :=
  match ty t with
  | some ⟨_, _, _, _, .slice e⟩ => match ty e with
    | some ⟨s, _, _, some z, _⟩ => match Nat.blt 0 s with
      | true => match Nat.ble (len * s) 16777216 with
        | true => match Nat.beq z.cellsOf.length s with
          | true => match z.val with
            | true => match z with
              | .tup _ => none
              | _ => match fillA (placesFrom s 0 len) T parts (repn z.cellsOf len) with
                | some cs => some (s, cut s len cs)
                | none => none
            | false => none
          | false => none
        | false => none
      | false => none
    | _ => none
  | _ => none

/-- The operations that give a value and change nothing else. -/
def vop (ty : TypeId → Option TI) (o : Op) (S : AS) : Option AV :=
  match o with
  | .load t p => match evA S.T p with
    | .lptr i c => match lookL S.L i with
      | some cs => loadOf (ty t) cs c
      | none => none
    | .ep row c => loadOf (ty t) row c
    | .ptr id r c => match S.H.blks[id]? with
      | some (.rows _ l) => match l[r]? with
        | some row => loadOf (ty t) row c
        | none => none
      | _ => none
    | _ => none
  | .buildSlice t len parts => match bsl ty t len parts.toList S.T with
    | some (s, rows) => some (.sl s rows none)
    | none => none
  | o => pv ty o S.T

def rowsOf (s : Nat) : AV → Option (List (List AV))
  | .sl z rows _ => match Nat.beq z s with
    | true => some rows
    | false => none
  | .nils => some []
  | _ => none
/-- A zero value of s cells. -/
def elemZ (z : AV) (s : Nat) : Bool :=
  match z with
  | .tup _ => false
  | z => match z.val with
    | true => Nat.beq z.cellsOf.length s
    | false => false
def elemTI (ty : TypeId → Option TI) (t : TypeId) : Option TI :=
  match ty t with
  | some ⟨_, _, _, _, .slice e⟩ => ty e
  | _ => none
/-- A slice with more rows behind it: what it is, what the chains are, and what must hold for it. md: 1: a new chain. -/
def app (ty : TypeId → Option TI) (md : Nat) (t : TypeId) (x y : AV) (H : AH) : Option (AV × AH × Prop) :=
  match elemTI ty t with
  | some ⟨s, by_, _, some z, _⟩ => match Nat.blt 0 s with
    | true => match Nat.blt 0 by_ with
      | true => match elemZ z s with
        | true => match rowsOf s y with
          | some news => match x with
            | .nils => match md with
              | 1 => some (.sl s news (some H.tips.length), { H with tips := H.tips ++ [(s, news.length)] }, news.length * by_ ≤ 140737488355328)
              | _ => some (.sl s news none, H, news.length * by_ ≤ 140737488355328)
            | .sl z' rows (some c) => match Nat.beq z' s with
              | true => some (.sl s (rows ++ news) (some c), { H with tips := H.tips.set c (s, (rows ++ news).length) }, H.tips[c]? = some (s, rows.length) ∧ (rows.length + news.length) * by_ ≤ 140737488355328)
              | false => none
            | _ => none
          | none => none
        | false => none
      | false => none
    | false => none
  | _ => none

def AS.put (S : AS) (d : Option Tmp) (x : AV) : AS := { S with T := match d with | some d => (d, x) :: S.T | none => S.T }
/-- The operations that change what is held. -/
def eopC (ty : TypeId → Option TI) (md : Nat → Nat) (o : Oper) (S : AS) : Option (List (Nat × List AV) × AH × AV × Prop) :=
  match o.op with
  | .store t p x => match ty t with
    | some ti => match (evA S.T x).val with
      | true => match evA S.T x with
        | .tup _ => none
        | _ => match Nat.beq (evA S.T x).cellsOf.length ti.size with
          | true => match evA S.T p with
            | .lptr i c => match lookL S.L i with
              | some cs => match Nat.ble (c + ti.size) cs.length with
                | true => some (updL S.L i (splice cs c (evA S.T x).cellsOf), S.H, .skip, True)
                | false => none
              | none => none
            | .ptr id r c => match S.H.blks[id]? with
              | some (.rows z l) => match l[r]? with
                | some row => match Nat.ble (c + ti.size) row.length with
                  | true => some (S.L, { S.H with blks := S.H.blks.set id (.rows z (l.set r (splice row c (evA S.T x).cellsOf))) }, .skip, True)
                  | false => none
                | none => none
              | _ => none
            | _ => none
          | false => none
      | false => none
    | none => none
  | .buildSlice t len parts => match bsl ty t len parts.toList S.T with
    | some (s, rows) => some (S.L, { S.H with tips := S.H.tips ++ [(s, rows.length)] }, .sl s rows (some S.H.tips.length), True)
    | none => none
  | .call ⟨.builtin .append, ⟨[x, y]⟩, ⟨[t, u]⟩⟩ => match elemTI ty u with
    | some _ => match app ty (md (o.dst.getD 0)) t (evA S.T x) (evA S.T y) S.H with
      | some (r, H', φ) => some (S.L, H', r, φ)
      | none => none
    | none => none
  | _ => none

/-- The cells of a new variable. -/
def newC (ty : TypeId → Option TI) (o : Op) (T : List (Nat × AV)) : Option (List AV) :=
  match o with
  | .alloc t => match ty t with
    | some ⟨_, _, _, some z, _⟩ => match z.val with
      | true => match z with
        | .tup _ => none
        | z => some z.cellsOf
      | false => none
    | _ => none
  | .box _ y => match (evA T y).val with
    | true => match evA T y with
      | .tup _ => none
      | y => some y.cellsOf
    | false => none
  | _ => none

inductive Cls where
  | val | rd | new | eff | call | quiet | nilq | mem | look
  deriving DecidableEq
def cls (md : Nat → Nat) (qt : FuncId → Bool) (o : Oper) : Cls :=
  match o.op with
  | .load .. => .rd
  | .alloc _ | .box .. => match md (o.dst.getD 0) with
    | 2 | 4 => .mem
    | _ => .new
  | .store .. => .eff
  | .buildSlice .. => match md (o.dst.getD 0) with
    | 0 => .val
    | 2 => .mem
    | _ => .eff
  | .makeMap .. | .mapUpdate .. | .mapEntry .. | .entryStore .. | .makeSlice .. => .mem
  | .lookup .. => .look
  | .call ⟨.value (.func g), _, _⟩ => match qt g with
    | true => .quiet
    | false => .call
  | .call ⟨.value _, _, _⟩ => .call
  | .call ⟨.builtin .append, _, _⟩ => match md (o.dst.getD 0) with
    | 2 => .mem
    | _ => .eff
  | .call ⟨.builtin .delete, _, _⟩ | .call ⟨.builtin .clear, _, _⟩ | .call ⟨.builtin .copy, _, _⟩ => .mem
  | .call ⟨.builtin .len, _, _⟩ => match md (o.dst.getD 0) with
    | 3 => .look
    | _ => .val
  | .binOp .eql _ _ (.const (.slice none 0 0)) _ => .nilq
  | .binOp .neq _ _ (.const (.slice none 0 0)) _ => .nilq
  | _ => .val

def isSlice : Option TI → Bool
  | some ⟨_, _, _, _, .slice _⟩ => true
  | _ => false
/-- Is a slice nil? Of one without rows it is not known. -/
def nilqK (x : AV) (k : Bool → Prop) : Prop :=
  match x with
  | .nils => k true
  | .sl _ rows _ => ∀ b, (b = true → rows = []) → k b
  | .ms _ _ _ n => ∀ b, (b = true → n = 0) → k b
  | _ => False
def nilqOf : Op → Option (Bool × TypeId × Operand)
  | .binOp .eql t x (.const (.slice none 0 0)) _ => some (false, t, x)
  | .binOp .neq t x (.const (.slice none 0 0)) _ => some (true, t, x)
  | _ => none

/-- Whom a call is made to, and with what. -/
def callOf (T : List (Nat × AV)) : Op → Option (FuncId × List AV)
  | .call ⟨.value f, args, _⟩ => match evA T f with
    | .fn g fi ca => some (g, fi ++ args.toList.map (evA T) ++ ca)
    | _ => none
  | _ => none

/-- What was there is there. -/
def Grow (H H' : AH) : Prop := ∀ (id : Nat) (B : ABlk), H.blks[id]? = some B → H'.blks[id]? = some B
theorem Grow.refl (H : AH) : Grow H H := fun _ _ h => h
theorem Grow.push {H : AH} {B : ABlk} : Grow H (H.push B) := fun _ _ h => by rw [AH.push_old (List.getElem?_eq_some_iff.1 h).1]; exact h
theorem Grow.trans {H H' H'' : AH} (h : Grow H H') (k : Grow H' H'') : Grow H H'' := fun i B e => k i B (h i B e)
/-- A call that leaves what was there (asked for by its function's number). -/
def gcall (md : Nat → Nat) (o : Oper) : Bool :=
  match o.op with
  | .call ⟨.value (.func g), _, _⟩ => match md (2000000 + g) with
    | 2 => true
    | _ => false
  | _ => false
/-- A call that looks at no tracked memory (asked for by its function's number). -/
def pureQ (md : Nat → Nat) (o : Oper) : Bool :=
  match o.op with
  | .call ⟨.value (.func g), _, _⟩ => match md (2000000 + g) with
    | 3 => true
    | _ => false
  | _ => false
/-- What lays a new block and does no more. -/
def pushy (o : Oper) : Bool :=
  match o.op with
  | .makeMap _ none => true
  | .alloc _ | .box .. => true
  | _ => false

/-! ### tracked memory -/
/-- What is asked where a tracked block is looked at. -/
structure MapVC (H : AH) (id : Nat) (q : IntKind) (K : List (Int × AV) → Prop) : Prop where
  out : ∃ es pd, H.blks[id]? = some (.map q es pd) ∧ K es
def Look (es : List (Int × AV)) (n : Int) : Option AV → Prop
  | some x => (n, x) ∈ es
  | none => ∀ p ∈ es, p.1 ≠ n
structure LookVC (H : AH) (id : Nat) (q : IntKind) (n : Int) (K : Option AV → Prop) : Prop where
  out : ∃ es pd r, H.blks[id]? = some (.map q es pd) ∧ Look es n r ∧ K r
structure EntVC (H : AH) (id : Nat) (q : IntKind) (n : Int) (z : AV) (K : List (Int × AV) → Nat → AV → Int → Prop) : Prop where
  out : ∃ es pd es' i x, H.blks[id]? = some (.map q es pd) ∧ ((es[i]? = some (n, x) ∧ es' = es) ∨ ((∀ p ∈ es, p.1 ≠ n) ∧ i = es.length ∧ x = z ∧ es' = es ++ [(n, z)])) ∧ ∀ s, K es' i x s
structure EstVC (H : AH) (id : Nat) (s : Int) (K : IntKind → List (Int × AV) → Nat → Int → Prop) : Prop where
  out : ∃ q es i n x, H.blks[id]? = some (.map q es (some (s, i))) ∧ es[i]? = some (n, x) ∧ K q es i n
structure RowsVC (H : AH) (id z : Nat) (K : List (List AV) → Prop) : Prop where
  out : ∃ l, H.blks[id]? = some (.rows z l) ∧ K l
structure SrcVC (H : AH) (id z off len : Nat) (K : List (List AV) → Prop) : Prop where
  out : ∃ l, H.blks[id]? = some (.rows z l) ∧ off + len ≤ l.length ∧ (∀ i j x, i < len → cellAt l (off + i) j = some x → x.one = true) ∧ K ((l.drop off).take len)
structure SideVC (φ K : Prop) : Prop where
  side : φ
  out : K
noncomputable def putE (es : List (Int × AV)) (n : Int) (x : AV) : List (Int × AV) := if ∃ p ∈ es, p.1 = n then es.map (fun p => if p.1 = n then (n, x) else p) else es ++ [(n, x)]
def delE (es : List (Int × AV)) (n : Int) : List (Int × AV) := es.filter fun p => decide (p.1 ≠ n)

inductive MAct where
  | mkMap (q : IntKind)
  | put (id : Nat) (q : IntKind) (n : Int) (x : AV)
  | del (id : Nat) (q : IntKind) (n : Int)
  | ent (id : Nat) (q : IntKind) (n : Int) (z : AV)
  | est (id : Nat) (s : Int) (x : AV)
  | obj (cells : List AV)
  | epb (cells : List AV)
  | mks (s : Nat) (rows : List (List AV))
  | mkz (s by_ : Nat) (n : Int) (z : List AV)
  | app (s by_ : Nat) (x y : AV)
  | clr (z id off len : Nat)
  | look (id : Nat) (q : IntKind) (n : Int) (z : AV) (ok : Bool)
  | mlen (id : Nat)

def lookR (z : AV) (ok : Bool) (r : Option AV) : AV :=
  match r with
  | some x => match ok with
    | true => .tup [x, .bool true]
    | false => x
  | none => match ok with
    | true => .tup [z, .bool false]
    | false => z
/-- The rows of what is appended. -/
def srcK (H : AH) (s : Nat) (y : AV) (K : List (List AV) → Prop) : Prop :=
  match y with
  | .sl z rows _ => match Nat.beq z s with
    | true => K rows
    | false => False
  | .nils => K []
  | .ms z id off len => match Nat.beq z s with
    | true => SrcVC H id s off len K
    | false => False
  | _ => False
def MAct.P (a : MAct) (H : AH) (K : AV → AH → Prop) : Prop :=
  match a with
  | .mkMap q => K (.map H.blks.length) (H.push (.map q [] none))
  | .put id q n x => MapVC H id q fun es => K .skip (H.upd id (.map q (putE es n x) none))
  | .del id q n => MapVC H id q fun es => K (.tup []) (H.upd id (.map q (delE es n) none))
  | .ent id q n z => EntVC H id q n z fun es i x s => K (.tup [x, .int .i64 s]) (H.upd id (.map q es (some (s, i))))
  | .est id s x => EstVC H id s fun q es i n => K .skip (H.upd id (.map q (es.set i (n, x)) none))
  | .obj cells => K (.ptr H.blks.length 0 0) (H.push (.rows cells.length [cells]))
  | .epb cells => K (.ep cells 0) H
  | .mks s rows => K (.ms s H.blks.length 0 rows.length) (H.push (.rows s rows))
  | .mkz s by_ n z => SideVC (0 ≤ n ∧ n * by_ ≤ 140737488355328 ∧ n ≤ 140737488355328) (K (.ms s H.blks.length 0 n.toNat) (H.push (.rows s (List.replicate n.toNat z))))
  | .app s by_ x y => srcK H s y fun news => match x with
    | .nils => SideVC (news.length * by_ ≤ 140737488355328) (K (.ms s H.blks.length 0 news.length) (H.push (.rows s news)))
    | .ms z id 0 len => match Nat.beq z s with
      | true => RowsVC H id s fun l => SideVC (len ≤ l.length ∧ (len + news.length) * by_ ≤ 140737488355328) (K (.ms s H.blks.length 0 (len + news.length)) ((H.upd id .dead).push (.rows s (l.take len ++ news))))
      | false => False
    | _ => False
  | .clr z id off _ => RowsVC H id z fun l => K (.tup []) (H.upd id (.rows z (l.take off)))
  | .look id q n z ok => LookVC H id q n fun r => K (lookR z ok r) H
  | .mlen id => ∃ q es pd, H.blks[id]? = some (.map q es pd) ∧ K (.int .i64 es.length) H

def okR : AV → Bool
  | .lptr _ _ | .undef => false
  | _ => true
/-- A map's kind of key, and what its elements are at first. -/
def mapK (ty : TypeId → Option TI) (t : TypeId) : Option (IntKind × Option AV) :=
  match ty t with
  | some ⟨_, _, _, _, .map k e⟩ => match ty k with
    | some ⟨_, _, _, _, .int q⟩ => match ty e with
      | some ⟨_, _, _, z, _⟩ => some (q, z)
      | none => none
    | _ => none
  | _ => none
def okV (x : AV) : Option AV :=
  match x.val with
  | true => match x with
    | .tup _ => none
    | x => some x
  | false => none
def mop (ty : TypeId → Option TI) (md : Nat → Nat) (o : Oper) (T : List (Nat × AV)) : Option MAct :=
  match o.op with
  | .makeMap t none => match mapK ty t with
    | some (q, _) => some (.mkMap q)
    | none => none
  | .mapUpdate t m k v => match mapK ty t with
    | some (q, _) => match evA T m with
      | .map id => match evA T k with
        | .int q' n => match decide (q' = q) with
          | true => match okV (evA T v) with
            | some x => some (.put id q n x)
            | none => none
          | false => none
        | _ => none
      | _ => none
    | none => none
  | .mapEntry t m k => match mapK ty t with
    | some (q, some z) => match z.val with
      | true => match evA T m with
        | .map id => match evA T k with
          | .int q' n => match decide (q' = q) with
            | true => some (.ent id q n z)
            | false => none
          | _ => none
        | _ => none
      | false => none
    | _ => none
  | .entryStore _ m s v => match evA T m with
    | .map id => match evA T s with
      | .int _ n => match okV (evA T v) with
        | some x => some (.est id n x)
        | none => none
      | _ => none
    | _ => none
  | .lookup t m k ok => match mapK ty t with
    | some (q, some z) => match z.val with
      | true => match evA T m with
        | .map id => match evA T k with
          | .int q' n => match decide (q' = q) with
            | true => some (.look id q n z ok)
            | false => none
          | _ => none
        | _ => none
      | false => none
    | _ => none
  | .alloc t => match newC ty (.alloc t) T with
    | some cs => match Nat.blt 0 cs.length with
      | true => match md (o.dst.getD 0) with
        | 4 => some (.epb cs)
        | _ => some (.obj cs)
      | false => none
    | none => none
  | .box t y => match newC ty (.box t y) T with
    | some cs => match Nat.blt 0 cs.length with
      | true => match md (o.dst.getD 0) with
        | 4 => some (.epb cs)
        | _ => some (.obj cs)
      | false => none
    | none => none
  | .buildSlice t len parts => match bsl ty t len parts.toList T with
    | some (s, rows) => some (.mks s rows)
    | none => none
  | .makeSlice t n c => match elemTI ty t with
    | some ⟨s, by_, _, some z, _⟩ => match Nat.blt 0 s with
      | true => match elemZ z s with
        | true => match evA T n with
          | .int .i64 a => match evA T c with
            | .int .i64 b => match decide (a = b) with
              | true => some (.mkz s by_ a z.cellsOf)
              | false => none
            | _ => none
          | _ => none
        | false => none
      | false => none
    | _ => none
  | .call ⟨.builtin .append, ⟨[x, y]⟩, ⟨[t, u]⟩⟩ => match elemTI ty u with
    | some _ => match elemTI ty t with
      | some ⟨s, by_, _, some z, _⟩ => match Nat.blt 0 s with
        | true => match Nat.blt 0 by_ with
          | true => match elemZ z s with
            | true => some (.app s by_ (evA T x) (evA T y))
            | false => none
          | false => none
        | false => none
      | _ => none
    | none => none
  | .call ⟨.builtin .clear, ⟨[x]⟩, ⟨[t]⟩⟩ => match elemTI ty t with
    | some ⟨s, _, _, some z, _⟩ => match elemZ z s with
      | true => match evA T x with
        | .ms z' id off len => match Nat.beq z' s with
          | true => some (.clr s id off len)
          | false => none
        | _ => none
      | false => none
    | _ => none
  | .call ⟨.builtin .delete, ⟨[m, k]⟩, ⟨[t, _]⟩⟩ => match mapK ty t with
    | some (q, _) => match evA T m with
      | .map id => match evA T k with
        | .int q' n => match decide (q' = q) with
          | true => some (.del id q n)
          | false => none
        | _ => none
      | _ => none
    | none => none
  | .call ⟨.builtin .len, ⟨[m]⟩, ⟨[t]⟩⟩ => match mapK ty t with
    | some _ => match evA T m with
      | .map id => some (.mlen id)
      | _ => none
    | none => none
  | _ => none

section
variable (P : Program) (ty : TypeId → Option TI) (md : Nat → Nat) (qt : FuncId → Bool)
def DstOK (o : Oper) (S : AS) : Prop := ∀ d, o.dst = some d → d < S.n
def B (o : Oper) (S : AS) (K : AS → Prop) : Prop :=
  DstOK o S ∧ match cls md qt o with
  | .val | .rd => ∃ x, vop ty o.op S = some x ∧ K (S.put o.dst x)
  | .new => ∃ d cs, o.dst = some d ∧ newC ty o.op S.T = some cs ∧ noL d S.T = true ∧ K { S with T := (d, .lptr d 0) :: S.T, L := (d, cs) :: S.L }
  | .eff => ∃ L H x φ, eopC ty md o S = some (L, H, x, φ) ∧ φ ∧ K (({ S with L := L, H := H } : AS).put o.dst x)
  | .call => ∃ g args, callOf S.T o.op = some (g, args) ∧ vals args = true ∧ AC P g args S.H fun r H' => r.val = true ∧ (gcall md o = true → Grow S.H H') ∧ K (({ S with H := H' } : AS).put o.dst r)
  | .quiet => ∃ g args, callOf S.T o.op = some (g, args) ∧ vals args = true ∧ ∀ H1, (pureQ md o = false → Grow S.H H1) → AC P g args H1 fun r H' => H' = H1 ∧ r.val = true ∧ K (S.put o.dst r)
  | .mem => ∃ m, mop ty md o S.T = some m ∧ m.P S.H fun x H' => okR x = true ∧ K (({ S with H := H' } : AS).put o.dst x)
  | .look => ∃ m, mop ty md o S.T = some m ∧ m.P S.H fun x H' => okR x = true ∧ H' = S.H ∧ K (S.put o.dst x)
  | .nilq => ∃ neg t x, nilqOf o.op = some (neg, t, x) ∧ isSlice (ty t) = true ∧ nilqK (evA S.T x) fun b => K (S.put o.dst (.bool (neg ^^ b)))

theorem nilqK_mono {x : AV} {k k' : Bool → Prop} (h : nilqK x k) (hk : ∀ b, k b → k' b) : nilqK x k' := by
  unfold nilqK at h ⊢
  split at h
  · exact hk _ h
  · exact fun b hb => hk b (h b hb)
  · exact fun b hb => hk b (h b hb)
  · exact h
/-- An operation with its guard. -/
def B1 (ops : List Oper) (o : Oper) (S : AS) (K : AS → Prop) : Prop :=
  match o.guard with
  | none => B P ty md qt o S K
  | some (g, want) => ∃ t, (ops[g]?).bind (·.dst) = some t ∧
    ((∃ b, look S.T t = .bool b ∧ ((b = want → B P ty md qt o S K) ∧ (b ≠ want → DstOK o S ∧ K (S.put o.dst .skip)))) ∨ (look S.T t = .skip ∧ DstOK o S ∧ K (S.put o.dst .skip)))
def Breg (ops : List Oper) : List Oper → AS → (AS → Prop) → Prop
  | [], S, K => K S
  | o :: l, S, K => B1 P ty md qt ops o S fun S => Breg ops l S K
end
end Go.Proofs.Ytecpiplfjmmccaa.AM

/-
  Each kind of operation comes to what B says (B_ok).
  Conditions: the table of types tells of the program's.
-/
namespace Go.Proofs.Ytecpiplfjmmccaa.AM
open Go

section
variable {E : Env} {P : Program} {ty : TypeId → Option TI} {lo : Nat → Nat} {G : Gh} {S : AS} {a : Act} {w : World} {o : Oper}

theorem ones_get : ∀ {l : List AV}, ones l = true → ∀ (i : Nat) (x : AV), l[i]? = some x → x.one = true
  | [], _, i, x, h => by simp at h
  | y :: l, hv, i, x, h => by
    simp only [ones] at hv
    split at hv
    · rename_i hy
      cases i with
      | zero => simp only [List.getElem?_cons_zero, Option.some.injEq] at h; subst h; exact hy
      | succ i => exact ones_get hv i x (by simpa using h)
    · cases hv

theorem load_ok (hty : TyOK P ty) {t : TypeId} {cells : List AV} {c b o : Nat} {f : Nat → Value} {r : AV} (h : loadOf (ty t) cells c = some r)
    (hc : ∀ (j : Nat) x, cells[j]? = some x → w.cell? ⟨b, o + j, none⟩ = some (f j) ∧ RepU G w x (f j)) :
    ∃ v, (Instr.loadAt t (.pointer (some ⟨b, o + c, none⟩))).run P w = .ok v w ∧ Rep G w r v := by
  unfold loadOf at h
  split at h
  · rename_i ti h0
    have ha := ti_agg (hty _ _ h0) w
    have hs := ti_sizeOf (hty _ _ h0) w
    split at h
    · rename_i hag
      split at h
      · rename_i hle
        have hle := Nat.le_of_ble_eq_true hle
        split at h
        · rename_i hones
          simp only [Option.some.injEq] at h
          subst h
          have hone := ones_get hones
          have hlen : ((cells.drop c).take ti.size).length = ti.size := by simp; omega
          have hget : ∀ (j : Nat) x, ((cells.drop c).take ti.size)[j]? = some x → j < ti.size ∧ cells[c + j]? = some x := by
            intro j x hx
            have := (List.getElem?_eq_some_iff.1 hx).1
            rw [List.getElem?_take, if_pos (by omega), List.getElem?_drop] at hx
            exact ⟨by omega, hx⟩
          have hcell : ∀ j, j < ti.size → w.cell? ((⟨b, o + c, none⟩ : Addr).add j) = some (f (c + j)) := by
            intro j hj
            have hlt : c + j < cells.length := by omega
            have := (hc (c + j) cells[c + j] (List.getElem?_eq_getElem hlt)).1
            rw [Addr.add_mid, Nat.add_assoc]; exact this
          have hl := run_loadCells (P := P) w ⟨b, o + c, none⟩ ti.size (fun j => f (c + j)) hcell
          refine ⟨.agg ((List.range ti.size).map fun j => f (c + j)).toArray, ?_, .agg _ _ (by simp; omega) hone (fun i x hx => ?_)⟩
          · simp only [Instr.loadAt, Instr.sureAddr, loadVar, Sem.run_bind, Sem.run_pure, Result.andThen_ok, ha, hag, if_true, hs, hl]
          · obtain ⟨hi, hx'⟩ := hget i x hx
            have := (hc _ x hx').2
            rcases this with rfl | ⟨_, this⟩
            · have := hone i _ hx; simp [AV.one] at this
            · simpa [Array.getD_eq_getD_getElem?, hi] using this
        · cases h
      · cases h
    · rename_i hag
      split at h
      · rename_i x hx
        split at h
        · rename_i h1
          simp only [Option.some.injEq] at h
          subst h
          obtain ⟨g1, g2⟩ := hc c x hx
          refine ⟨f c, ?_, ?_⟩
          · simp [Instr.loadAt, Instr.sureAddr, loadVar, ha, hag, g1]
          · rcases g2 with rfl | ⟨_, g2⟩
            · simp [AV.one] at h1
            · exact g2
        · cases h
      · cases h
  · cases h

theorem cell_row {b : Nat} {vs : Array Value} {e : TypeId} (h : w.heap[b]? = some (.cells vs e (0, 0))) {j : Nat} (hj : j < vs.size) : w.cell? ⟨b, j, none⟩ = some (vs.getD j Go.undef) := by
  simp [World.cell?, h, hj]

theorem cut_length (z : Nat) : ∀ (n : Nat) (cs : List AV), (cut z n cs).length = n
  | 0, _ => rfl
  | n + 1, cs => by simp [cut, cut_length z n]
theorem cut_row (z : Nat) : ∀ (n : Nat) (cs : List AV), n * z ≤ cs.length → ∀ r ∈ cut z n cs, r.length = z
  | 0, _, _, _, h => by cases h
  | n + 1, cs, hl, r, h => by
    rw [Nat.add_mul] at hl
    rcases List.mem_cons.1 h with rfl | h
    · simp; omega
    · exact cut_row z n _ (by simp; omega) r h
theorem cut_get (z : Nat) : ∀ (n : Nat) (cs : List AV) (i j : Nat) (x : AV), cellAt (cut z n cs) i j = some x → cs[i * z + j]? = some x
  | 0, _, i, j, x, h => by simp [cut, cellAt] at h
  | n + 1, cs, i, j, x, h => by
    cases i with
    | zero =>
      simp only [cut, cellAt, List.getElem?_cons_zero, Option.bind_some] at h
      rw [List.getElem?_take] at h
      split at h
      · simpa using h
      · cases h
    | succ i =>
      have h' : cellAt (cut z n (cs.drop z)) i j = some x := by simpa [cut, cellAt] using h
      have := cut_get z n _ i j x h'
      rw [List.getElem?_drop] at this
      rw [← this, Nat.add_mul]
      congr 1
      omega

theorem repn_length (z : List AV) : ∀ n, (repn z n).length = n * z.length
  | 0 => by simp [repn]
  | n + 1 => by simp [repn, repn_length z n, Nat.add_mul, Nat.add_comm]
theorem repn_get (z : List AV) : ∀ (n j : Nat) (x : AV), (repn z n)[j]? = some x → z[j % z.length]? = some x
  | 0, j, x, h => by simp [repn] at h
  | n + 1, j, x, h => by
    simp only [repn] at h
    rcases Nat.lt_or_ge j z.length with hj | hj
    · rw [List.getElem?_append_left hj] at h
      rwa [Nat.mod_eq_of_lt hj]
    · rw [List.getElem?_append_right hj] at h
      have := repn_get z n _ x h
      rwa [← Nat.mod_eq_sub_mod hj] at this

theorem placesFrom_get (z : Nat) : ∀ (n o i : Nat) (p : Nat × Nat × TypeId), (placesFrom z o n)[i]? = some p → p = (o + i * z, z, 0) ∧ i < n
  | 0, o, i, p, h => by simp [placesFrom] at h
  | n + 1, o, i, p, h => by
    cases i with
    | zero => simp only [placesFrom, List.getElem?_cons_zero, Option.some.injEq] at h; subst h; simp
    | succ i =>
      obtain ⟨h1, h2⟩ := placesFrom_get z n (o + z) i p (by simpa [placesFrom] using h)
      refine ⟨?_, by omega⟩
      rw [h1, Nat.add_mul]
      simp [Nat.add_assoc, Nat.add_comm z]

theorem fill_mono {p q : Nat → Option (Nat × Nat)} (hpq : ∀ i x, p i = some x → q i = some x) : ∀ (l : List (Nat × Value)) (cs us : Array Value), Instr.fill p cs l = some us → Instr.fill q cs l = some us
  | [], _, _, h => h
  | (i, v) :: l, cs, us, h => by
    simp only [Instr.fill] at h ⊢
    cases hp : p i with
    | none => simp [hp] at h
    | some x =>
      rw [hpq i x hp]
      simp only [hp] at h ⊢
      split at h
      · cases h
      · rename_i hc; rw [if_neg hc]; exact fill_mono hpq l _ us h

/-- A slice laid out: its cells. -/
theorem bsl_ok (hty : TyOK P ty) (hs : Sim E lo G S a w) {t : TypeId} {len : Nat} {parts : Array (Nat × Operand)} {s : Nat} {rows : List (List AV)} (h : bsl ty t len parts.toList S.T = some (s, rows)) :
    ∃ (us : Array Value) (e : TypeId), (Instr.buildSlice t len (parts.map fun (i, x) => (i, a.eval x))).run P w = .ok (.slice (some ⟨w.heap.size, 0, none⟩) len len) (w.alloc (.cells us e)) ∧ 0 < s ∧ rows.length = len ∧ len * s ≤ maxLen ∧ len ≤ maxLen ∧ us.size = len * s ∧
      (∀ r ∈ rows, r.length = s) ∧ ∀ i j x, cellAt rows i j = some x → x.one = true ∧ Rep G w x (us.getD (i * s + j) Go.undef) := by
  unfold bsl at h
  split at h
  · rename_i e h0
    have hu := kind_slice (hty _ _ h0) rfl
    split at h
    · rename_i s' by_ ag z kd h1
      split at h
      · rename_i hs0
        have hs0 : 0 < s' := by simpa [Nat.blt_eq] using hs0
        split at h
        · rename_i hsm
          have hsm := Nat.le_of_ble_eq_true hsm
          split at h
          · rename_i hzl
            have hzl := Nat.eq_of_beq_eq_true hzl
            split at h
            · rename_i hzv
              obtain ⟨i, hi, hisz, _, hz⟩ := ti_size (hty _ _ h1)
              obtain ⟨zv, hzv', hza⟩ := Option.bind_eq_some_iff.1 hz
              have hzr := toAV_rep hza G w
              have hcases : (∀ vs, z ≠ .tup vs) ∧ ∃ cs, fillA (placesFrom s' 0 len) S.T parts.toList (repn z.cellsOf len) = some cs ∧ s = s' ∧ rows = cut s' len cs := by
                split at h
                · cases h
                · rename_i hnt
                  split at h
                  · rename_i cs hcs
                    simp only [Option.some.injEq, Prod.mk.injEq] at h
                    exact ⟨hnt, cs, hcs, h.1.symm, h.2.symm⟩
                  · cases h
              obtain ⟨hnt, cs, hcs, rfl, rfl⟩ := hcases
              have hisz : i.size = s := hisz
              obtain ⟨c1, c2⟩ := hzr.cells hzv hnt
              have hzs : zv.cells.size = s := by omega
              -- the zero cells
              have hzero : CellsRep G w (repn z.cellsOf len) ((Array.range (len * s)).map (zv.cells[· % zv.cells.size]!)) := by
                refine ⟨by rw [repn_length]; simp [hzl], fun j x hx => ?_⟩
                have hj := (List.getElem?_eq_some_iff.1 hx).1
                rw [repn_length, hzl] at hj
                have hx' := repn_get _ _ _ _ hx
                obtain ⟨d1, d2⟩ := c2 _ x hx'
                refine ⟨d1, ?_⟩
                have hm : j % zv.cells.size < zv.cells.size := Nat.mod_lt _ (by omega)
                have : ((Array.range (len * s)).map (zv.cells[· % zv.cells.size]!)).getD j Go.undef = zv.cells.getD (j % z.cellsOf.length) Go.undef := by
                  rw [Array.getD_eq_getD_getElem?, Array.getElem?_map]
                  simp only [Array.getElem?_range, hj, if_true, Option.map_some, Option.getD_some]
                  rw [← c1, getElem!_pos zv.cells _ hm, Array.getD_eq_getD_getElem?, Array.getElem?_eq_getElem hm]
                  rfl
                rw [this]; exact d2
              obtain ⟨us, f1, f2⟩ := fillA_ok hs hcs hzero
              have f1' : Instr.fill (fun i => some (i * s, s)) ((Array.range (len * s)).map (zv.cells[· % zv.cells.size]!)) (parts.toList.map fun p => (p.1, a.eval p.2)) = some us := by
                refine fill_mono (fun i x hx => ?_) _ _ _ f1
                obtain ⟨p, hp, rfl⟩ := Option.map_eq_some_iff.1 hx
                obtain ⟨rfl, _⟩ := placesFrom_get _ _ _ _ _ hp
                simp
              have hcl : cs.length = len * s := by
                have h1 := f2.1
                have h2 : us.size = len * s := by
                  have : ∀ (l : List (Nat × Value)) (p : Nat → Option (Nat × Nat)) (c u : Array Value), Instr.fill p c l = some u → u.size = c.size := by
                    intro l
                    induction l with
                    | nil => intro p c u hf; simp only [Instr.fill, Option.some.injEq] at hf; rw [hf]
                    | cons q l ih =>
                      obtain ⟨i, v⟩ := q
                      intro p c u hf
                      simp only [Instr.fill] at hf
                      split at hf
                      · cases hf
                      · split at hf
                        · cases hf
                        · rename_i hcnd
                          rw [ih _ _ _ hf, ← Array.foldl_toList, Array.toList_zipIdx, setAll_size]
                  rw [this _ _ _ _ f1']; simp
                omega
              refine ⟨us, e, ?_, hs0, cut_length _ _ _, ?_, ?_, by rw [f2.1, hcl], cut_row _ _ _ (by omega), fun i j x hx => f2.2 _ x (cut_get _ _ _ _ _ _ hx)⟩
              · have e1 : (parts.map fun (i, x) => (i, a.eval x)).toList = parts.toList.map fun p => (p.1, a.eval p.2) := by rw [Array.toList_map]
                rcases Nat.eq_zero_or_pos len with rfl | hlen
                · have hus : us.size = 0 := by rw [f2.1, hcl]; simp
                  have hus : us = #[] := Array.eq_empty_of_size_eq_zero hus
                  rw [← e1, ← hisz] at f1'
                  have e2 : ∀ (g : Nat → Value), (Array.range (0 * i.size)).map g = #[] := by intro g; simp
                  rw [e2] at f1'
                  have f3 : Instr.fill (fun k => some (k * i.size, i.size)) #[] (Array.map (fun x => (x.fst, a.eval x.snd)) parts).toList = some us := f1'
                  have e3 : Array.map (fun _ => (default : Value)) (Array.range 0) = #[] := by simp
                  simp only [Array.toList_map] at f3
                  simp [Instr.buildSlice, run_underlying hu, sizeOf, typeInfo, hi, newRow, e3, f3]
                · refine run_buildSlice w t e len _ us i zv hu hi hzv' (by rw [hisz]; omega) ?_ ?_
                  · rw [hisz]
                    have := Nat.mul_pos hlen hs0
                    omega
                  · rw [hisz, e1]; exact f1'
              · have : maxLen = 9223372036854775807 := rfl
                omega
              · have h1 : len * 1 ≤ len * s := Nat.mul_le_mul_left len hs0
                have : maxLen = 9223372036854775807 := rfl
                omega
            · cases h
          · cases h
        · cases h
      · cases h
    · cases h
  · cases h
end
end Go.Proofs.Ytecpiplfjmmccaa.AM

/-
  Values, new variables, stores: as B says.
  Conditions: the table of types tells of the program's.
-/
namespace Go.Proofs.Ytecpiplfjmmccaa.AM
open Go

section
variable {E : Env} {P : Program} {ty : TypeId → Option TI} {lo : Nat → Nat} {G : Gh} {S : AS} {a : Act} {w : World} {o : Oper}

/-- The rows of a new slice, as a value: never to turn, or the head of a new chain. -/
theorem rep_new {z len : Nat} {rows : List (List AV)} {us : Array Value} {e : TypeId} {oc : Option Nat} (hz : 0 < z) (hl : rows.length = len) (hmx : len ≤ maxLen) (cap : Nat) (hlc : len ≤ cap) (hcm : cap ≤ maxLen) (hsz : us.size = cap * z)
    (hrow : ∀ r ∈ rows, r.length = z) (hcell : ∀ i j x, cellAt rows i j = some x → x.one = true ∧ Rep G w x (us.getD (i * z + j) Go.undef)) (hH : HSim G w S.H) (hlen : len = 0 → oc = none ∨ cap = 0) :
    Rep (G.new w.heap.size (len * z) oc) (w.alloc (.cells us e)) (.sl z rows oc) (.slice (some ⟨w.heap.size, 0, none⟩) len cap) := by
  have hle := Le.new hH (.cells us e) (len * z) oc
  subst hl
  refine .sl z rows oc _ cap w.heap.size 0 (fun i j => us.getD (i * z + j) Go.undef) hz hlc hcm hrow ?_ (fun i j x hx => ?_) (fun i j x hx => (hcell i j x hx).1) (fun i j x hx => (hcell i j x hx).2.mono hle)
  · rcases Nat.eq_zero_or_pos rows.length with h0 | h0
    · exact .inl ⟨h0, hlen h0⟩
    · refine .inr ⟨rfl, by simp [Gh.new], fun t ht => ⟨rfl, by simp [Gh.new, ht], e, ?_⟩⟩
      unfold World.shape?
      rw [heap_new]
      simp only [hsz]
  · have hlt := cellAt_lt hrow hx
    have := row_lt hlt.1 hlt.2
    have h2 : rows.length * z ≤ cap * z := Nat.mul_le_mul_right z hlc
    rw [Nat.zero_add]
    exact cell_row (heap_new w _) (by omega)

theorem vop_ok (hty : TyOK P ty) (hs : Sim E lo G S a w) {x : AV} (h : vop ty o.op S = some x) : ∃ v G' w', (execOp a.eval o).run P w = .ok (.value v) w' ∧ Sim E lo G' S a w' ∧ RepT lo G' w' x v := by
  obtain ⟨dst, op, type, pos, after, guard⟩ := o
  simp only at h
  unfold vop at h
  split at h
  · rename_i t p
    have hp := evA_ok hs p
    have hval : ∀ {v : Value}, (∃ u, (Instr.loadAt t v).run P w = .ok u w ∧ Rep G w x u) → a.eval p = v → ∃ v G' w', (execOp a.eval ⟨dst, .load t p, type, pos, after, guard⟩).run P w = .ok (.value v) w' ∧ Sim E lo G' S a w' ∧ RepT lo G' w' x v := by
      rintro v ⟨u, h1, h2⟩ he
      exact ⟨u, G, w, by simp [execOp, he, h1], hs, RepT.of h2⟩
    split at h
    · rename_i i c e
      rw [e] at hp
      have hv : a.eval p = .pointer (some ⟨lo i, c, none⟩) := by
        rcases hp with hp | ⟨_, _, hp, hv⟩ | hp
        · cases hp
        · simp only [AV.lptr.injEq] at hp; rw [hp.1, hp.2]; exact hv
        · cases hp
      split at h
      · rename_i cs hcs
        obtain ⟨vs, e, h2, h3, h4⟩ := hs.l.at_ i cs hcs
        refine hval (load_ok hty (c := c) (b := lo i) (o := 0) (f := fun j => vs.getD j Go.undef) h (fun j y hy => ⟨?_, h4 j y hy⟩)) (by rw [Nat.zero_add]; exact hv)
        rw [Nat.zero_add]
        exact cell_row h2 (by have := (List.getElem?_eq_some_iff.1 hy).1; omega)
      · cases h
    · rename_i row c e
      rw [e] at hp
      have hp := hp.rep (.inl rfl)
      generalize hv : a.eval p = pv at hp
      cases hp with
      | ep _ _ b o f hi hc h1 hr => exact hval (load_ok hty h fun j y hy => ⟨hc j y hy, .inr ⟨h1 j y hy, hr j y hy⟩⟩) hv
    · rename_i id r c e
      rw [e] at hp
      have hp := hp.rep (.inl rfl)
      generalize hv : a.eval p = pv at hp
      cases hp with
      | ptr _ _ _ b z hb =>
      split at h
      · rename_i z' l hl
        rcases hs.h.at_ id _ hl rfl with ⟨b', zz, g1, ⟨g2, g3, vs, e, g4, g5, g6, g7⟩, _, _⟩ | ⟨g1, _⟩
        rotate_left
        · rw [hb] at g1; cases g1
        rw [hb] at g1
        simp only [Option.some.injEq, Prod.mk.injEq] at g1
        obtain ⟨rfl, rfl⟩ := g1
        subst g2
        split at h
        · rename_i row hrow
          have hlen : row.length = z := g5 row (List.mem_of_getElem? hrow)
          have hrl := (List.getElem?_eq_some_iff.1 hrow).1
          refine hval (load_ok hty (c := c) (b := b) (o := r * z) (f := fun j => vs.getD (r * z + j) Go.undef) h (fun j y hy => ⟨?_, g7 r j y (by unfold cellAt; rw [hrow]; exact hy)⟩)) hv
          have hj := (List.getElem?_eq_some_iff.1 hy).1
          have := row_lt hrl (j := j) (z := z) (by omega)
          exact cell_row g4 (by omega)
        · cases h
      · cases h
    · cases h
  · rename_i t len parts
    split at h
    · rename_i s rows hb
      simp only [Option.some.injEq] at h
      subst h
      obtain ⟨us, e, f1, f2, f3, f4, f5, f6, f7, f8⟩ := bsl_ok hty hs hb
      have hx := eff_new hs.h us e (len * s) none rfl (.inl ⟨rfl, rfl⟩)
      refine ⟨_, _, _, by simp only [execOp, Sem.run_bind]; erw [f1]; rfl, hs.turn (Le.new hs.h _ _ _) hx.1 hx.2, RepT.of ?_⟩
      exact rep_new (S := S) f2 f3 f5 len (Nat.le_refl _) f5 f6 f7 f8 hs.h (fun _ => .inl rfl)
    · cases h
  · obtain ⟨v, h1, h2⟩ := pv_ok (o := ⟨dst, op, type, pos, after, guard⟩) hty hs h
    exact ⟨v, G, w, h1, hs, h2⟩

theorem newC_ok (hty : TyOK P ty) (hs : Sim E lo G S a w) {cs : List AV} (h : newC ty o.op S.T = some cs) : ∃ (vs : Array Value) (e : TypeId), (execOp a.eval o).run P w = .ok (.value (.pointer (some ⟨w.heap.size, 0, none⟩))) (w.alloc (.cells vs e)) ∧
    vs.size = cs.length ∧ ∀ (j : Nat) x, cs[j]? = some x → x.one = true ∧ Rep G w x (vs.getD j Go.undef) := by
  obtain ⟨dst, op, type, pos, after, guard⟩ := o
  simp only at h
  unfold newC at h
  split at h
  · rename_i t
    split at h
    · rename_i sz by_ ag z kd h0
      split at h
      · rename_i hv
        obtain ⟨i, hi, _, _, hz⟩ := ti_size (hty _ _ h0)
        obtain ⟨zv, hzv, hza⟩ := Option.bind_eq_some_iff.1 hz
        have hzr := toAV_rep hza G w
        split at h
        · cases h
        · rename_i hnt
          simp only [Option.some.injEq] at h
          subst h
          obtain ⟨c1, c2⟩ := hzr.cells hv hnt
          exact ⟨zv.cells, t, by simp [execOp, Instr.alloc, zeroValue, typeInfo, hi, hzv, newVar, newRow], c1, c2⟩
      · cases h
    · cases h
  · rename_i t y
    split at h
    · rename_i hv
      have hr := (evA_ok hs y).rep (.inl hv)
      split at h
      · cases h
      · rename_i hnt
        simp only [Option.some.injEq] at h
        subst h
        obtain ⟨c1, c2⟩ := hr.cells hv hnt
        exact ⟨(a.eval y).cells, t, by simp [execOp, Instr.box, newVar, newRow], c1, c2⟩
    · cases h
  · cases h

theorem storeAt_ok (hty : TyOK P ty) {t : TypeId} {ti : TI} (ht : ty t = some ti) {b o : Nat} {vs : Array Value} {e : TypeId} {v : Value} (hb : w.heap[b]? = some (.cells vs e (0, 0))) (hsz : v.cells.size = ti.size) (hfit : o + v.cells.size ≤ vs.size)
    (h1 : ∀ u ∈ v.cells.toList, u.oneCell' = true) : (Instr.storeAt t (.pointer (some ⟨b, o, none⟩)) v).run P w = .ok () (w.setRow b (vs.toList.take o ++ v.cells.toList ++ vs.toList.drop (o + v.cells.toList.length)).toArray) := by
  have hs := ti_sizeOf (hty _ _ ht) w
  have hst := run_storeCells_at P b o e v.cells.toList 0 vs w hb (by simpa using hfit) h1
  simp only [Nat.add_zero] at hst
  simp [Instr.storeAt, Instr.sureAddr, storeVar, hs, hsz, hst]
theorem ones_cells {x : AV} {v : Value} (hr : Rep G w x v) (hv : x.val = true) (hnt : ∀ vs, x ≠ .tup vs) : v.cells.toList.length = x.cellsOf.length ∧ (∀ u ∈ v.cells.toList, u.oneCell' = true) ∧ ∀ (j : Nat) y, x.cellsOf[j]? = some y → RepU G w y (v.cells.toList.getD j Go.undef) := by
  obtain ⟨c1, c2⟩ := hr.cells hv hnt
  refine ⟨by simpa using c1, fun u hu => ?_, fun j y hy => ?_⟩
  · obtain ⟨j, hj⟩ := List.mem_iff_getElem?.1 hu
    have hlt := (List.getElem?_eq_some_iff.1 hj).1
    simp only [Array.length_toList] at hlt
    obtain ⟨d1, d2⟩ := c2 j (x.cellsOf[j]'(by omega)) (List.getElem?_eq_getElem _)
    have := d2.oneCell d1
    rwa [Array.getD_eq_getD_getElem?, ← Array.getElem?_toList, hj] at this
  · obtain ⟨d1, d2⟩ := c2 j y hy
    refine .inr ⟨d1, ?_⟩
    rwa [List.getD_eq_getElem?_getD, Array.getElem?_toList, ← Array.getD_eq_getD_getElem?]
end
end Go.Proofs.Ytecpiplfjmmccaa.AM

/-
  append, as 'app' says.
  Conditions: the table of types tells of the program's.
-/
namespace Go.Proofs.Ytecpiplfjmmccaa.AM
open Go

section
variable {E : Env} {P : Program} {ty : TypeId → Option TI} {lo : Nat → Nat} {G : Gh} {S : AS} {a : Act} {w : World}

def flat (n z : Nat) (f : Nat → Nat → Value) : List Value := (List.range (n * z)).map fun k => f (k / z) (k % z)
theorem flat_length (n z : Nat) (f : Nat → Nat → Value) : (flat n z f).length = n * z := by simp [flat]
theorem flat_get {n z : Nat} {f : Nat → Nat → Value} {j : Nat} {u : Value} (h : (flat n z f)[j]? = some u) : j < n * z ∧ u = f (j / z) (j % z) := by
  have hj := (List.getElem?_eq_some_iff.1 h).1
  rw [flat_length] at hj
  unfold flat at h
  rw [List.getElem?_map, List.getElem?_range hj] at h
  simp only [Option.map_some, Option.some.injEq] at h
  exact ⟨hj, h.symm⟩
theorem flat_at {n z i j : Nat} {f : Nat → Nat → Value} (hi : i < n) (hj : j < z) : (flat n z f).getD (i * z + j) Go.undef = f i j := by
  have h := row_lt hi hj
  unfold flat
  rw [List.getD_eq_getElem?_getD, List.getElem?_map, List.getElem?_range h]
  simp only [Option.map_some, Option.getD_some]
  rw [Nat.mul_comm i z, Nat.mul_add_div (by omega), Nat.mul_add_mod, Nat.div_eq_of_lt hj, Nat.mod_eq_of_lt hj, Nat.add_zero]

theorem cellAt_full {rows : List (List AV)} {z i j : Nat} (hk : ∀ r ∈ rows, r.length = z) (hi : i < rows.length) (hj : j < z) : ∃ x, cellAt rows i j = some x := by
  have : (rows[i]).length = z := hk _ (List.getElem_mem hi)
  exact ⟨rows[i][j], by unfold cellAt; rw [List.getElem?_eq_getElem hi]; simp⟩

/-- What stands in memory for a slice's rows. -/
theorem rep_flat {z : Nat} {rows : List (List AV)} {tok : Option Nat} {A : Option Addr} {c : Nat} (h : Rep G w (.sl z rows tok) (.slice A rows.length c)) :
    ∃ f : Nat → Nat → Value, (∀ r ∈ rows, r.length = z) ∧ (∀ i j x, cellAt rows i j = some x → x.one = true ∧ Rep G w x ((flat rows.length z f).getD (i * z + j) Go.undef)) ∧ (∀ u ∈ flat rows.length z f, u.oneCell' = true) ∧
      (rows.length = 0 ∨ ∃ a, A = some a ∧ ∀ j u, (flat rows.length z f)[j]? = some u → w.cell? (a.add j) = some u) := by
  cases h with
  | sl _ _ _ _ _ b o f hz hlc hc hk hp hcell h1 hr =>
  refine ⟨f, hk, fun i j x hx => ⟨h1 i j x hx, ?_⟩, fun u hu => ?_, ?_⟩
  · have := cellAt_lt hk hx
    rw [flat_at this.1 this.2]; exact hr i j x hx
  · obtain ⟨j, hj⟩ := List.mem_iff_getElem?.1 hu
    obtain ⟨hlt, rfl⟩ := flat_get hj
    obtain ⟨x, hx⟩ := cellAt_full hk (i := j / z) (j := j % z) (by rw [Nat.div_lt_iff_lt_mul hz]; exact hlt) (Nat.mod_lt _ hz)
    exact (hr _ _ x hx).oneCell (h1 _ _ x hx)
  · rcases hp with ⟨h0, _⟩ | ⟨rfl, _, _⟩
    · exact .inl h0
    · refine .inr ⟨_, rfl, fun j u hu => ?_⟩
      obtain ⟨hlt, rfl⟩ := flat_get hu
      obtain ⟨x, hx⟩ := cellAt_full hk (i := j / z) (j := j % z) (by rw [Nat.div_lt_iff_lt_mul hz]; exact hlt) (Nat.mod_lt _ hz)
      rw [Addr.add_mid, ← hcell _ _ x hx, Nat.add_assoc]
      congr 3
      rw [Nat.mul_comm]; exact (Nat.div_add_mod j z).symm

theorem src_ok (hty : TyOK P ty) {s : Nat} {y : AV} {vy : Value} {u : TypeId} {tu : TI} {news : List (List AV)} (hu : elemTI ty u = some tu) (hs : 0 < s) (hn : rowsOf s y = some news) (hy : Rep G w y vy) :
    ∃ nc : List Value, Src P s u vy news.length nc w ∧ nc.length = news.length * s ∧ (∀ r ∈ news, r.length = s) ∧ ∀ i j x, cellAt news i j = some x → x.one = true ∧ Rep G w x (nc.getD (i * s + j) Go.undef) := by
  have hk : ∃ e', P.underlying u = some (.slice e') := by
    unfold elemTI at hu
    split at hu
    · rename_i e h0; exact ⟨e, kind_slice (hty _ _ h0) rfl⟩
    · cases hu
  obtain ⟨e', hk⟩ := hk
  unfold rowsOf at hn
  split at hn
  · rename_i z rows tok
    split at hn
    · rename_i hz
      have hz := Nat.eq_of_beq_eq_true hz
      subst hz
      simp only [Option.some.injEq] at hn
      subst hn
      have hy' := hy
      cases hy with
      | sl _ _ _ A c b o f hz hlc hc hk' hp hcell h1 hr =>
      obtain ⟨f, g1, g2, g3, g4⟩ := rep_flat hy'
      refine ⟨flat rows.length z f, ?_, flat_length _ _ _, g1, g2⟩
      rcases g4 with h0 | ⟨a', rfl, g4⟩
      · rw [h0]
        have : flat 0 z f = [] := by simp [flat]
        rw [this]
        cases A with
        | none => exact Src.ofNil w hk c
        | some a' => exact Src.ofSlice w hk a' 0 c [] (by simp) (fun j u h => by simp at h) (fun u h => by cases h)
      · exact Src.ofSlice w hk a' _ c _ (flat_length _ _ _) g4 g3
    · cases hn
  · simp only [Option.some.injEq] at hn
    subst hn
    cases hy
    exact ⟨[], Src.ofNil w hk 0, by simp, (fun r h => by cases h), (fun i j x h => by simp [cellAt] at h)⟩
  · cases hn

theorem run_append_room_row (t tx ty' e : TypeId) (i : TypeInfo) (ht : P.underlying t = some (.slice e)) (hi : P.info? e = some i) (b sLen sCap : Nat) (x : Value) (n : Nat) (news : List Value) (hs : Src P i.size tx x n news w)
    (cur : Array Value) (e' : TypeId) (hb : w.heap[b]? = some (.cells cur e' (0, 0))) (hroom : sLen + n ≤ sCap) (hfit : sLen * i.size + news.length ≤ cur.size) :
    (Builtin.append_ #[t, tx] ty' #[.slice (some ⟨b, 0, none⟩) sLen sCap, x]).run P w = .ok (.slice (some ⟨b, 0, none⟩) (sLen + n) sCap) (w.setRow b (cur.toList.take (sLen * i.size) ++ news ++ cur.toList.drop (sLen * i.size + news.length)).toArray) := by
  have hst := run_storeCells_at P b (sLen * i.size) e' news 0 cur w hb (by simpa using hfit) hs.one
  simp only [Nat.add_zero] at hst
  rcases hs.kind with ⟨e', hk⟩ | hk <;> simp [Builtin.append_, run_underlying ht, run_underlying hk, sizeOf, typeInfo, hi, hs.len, hroom, hs.cells, Addr.add_lit, hst]

/-- rows behind rows -/
theorem cellAt_append {l l' : List (List AV)} {i j : Nat} : cellAt (l ++ l') i j = if i < l.length then cellAt l i j else cellAt l' (i - l.length) j := by
  unfold cellAt
  split
  · rename_i h; rw [List.getElem?_append_left h]
  · rename_i h; rw [List.getElem?_append_right (by omega)]

/-- A new row: olds, news, zeros. -/
theorem grow_cells {s n m cap : Nat} {z : Value} {oc nc : List Value} {rows news : List (List AV)} (hz : z.cells.size = s) (ho : oc.length = n * s) (hn : nc.length = m * s) (hr : rows.length = n) (hm : news.length = m) (hcap : n + m ≤ cap)
    (h1 : ∀ r ∈ rows, r.length = s) (h2 : ∀ r ∈ news, r.length = s) (g1 : ∀ i j x, cellAt rows i j = some x → x.one = true ∧ Rep G w x (oc.getD (i * s + j) Go.undef)) (g2 : ∀ i j x, cellAt news i j = some x → x.one = true ∧ Rep G w x (nc.getD (i * s + j) Go.undef)) :
    ((oc ++ nc).toArray ++ Builtin.zeroCells z.cells (cap - (n + m))).size = cap * s ∧ (∀ r ∈ rows ++ news, r.length = s) ∧
    ∀ i j x, cellAt (rows ++ news) i j = some x → x.one = true ∧ Rep G w x (((oc ++ nc).toArray ++ Builtin.zeroCells z.cells (cap - (n + m))).getD (i * s + j) Go.undef) := by
  have hk : ∀ r ∈ rows ++ news, r.length = s := fun r hr => by
    rcases List.mem_append.1 hr with h | h
    · exact h1 r h
    · exact h2 r h
  refine ⟨?_, hk, fun i j x hx => ?_⟩
  · rw [Array.size_append, size_zeroCells, hz]
    simp only [List.size_toArray, List.length_append, ho, hn]
    rw [← Nat.add_mul, ← Nat.add_mul]
    congr 1
    omega
  · have hlt := cellAt_lt hk hx
    simp only [List.length_append, hr, hm] at hlt
    have hlt' := row_lt hlt.1 hlt.2
    rw [Nat.add_mul] at hlt'
    rw [Array.getD_eq_getD_getElem?, Array.getElem?_append_left (by simp [ho, hn]; omega), List.getElem?_toArray]
    rw [cellAt_append] at hx
    split at hx
    · rename_i hi
      have := row_lt (z := s) (i := i) (j := j) (n := n) (by omega) hlt.2
      rw [List.getElem?_append_left (by omega), ← List.getD_eq_getElem?_getD]
      exact g1 i j x hx
    · rename_i hi
      have h3 : n * s ≤ i * s := Nat.mul_le_mul_right s (by omega)
      rw [List.getElem?_append_right (by omega), ho, ← List.getD_eq_getElem?_getD]
      have := g2 _ j x hx
      rw [hr, Nat.sub_mul] at this
      rwa [show i * s + j - n * s = i * s - n * s + j by omega]

theorem Rep.drew {x : AV} {v : Value} (h : Rep G w x v) : Rep G w.drew x v := h.mono (Le.drew G w)

theorem elemTI_ok (hty : TyOK P ty) {t : TypeId} {ti : TI} (h : elemTI ty t = some ti) : ∃ e i, P.underlying t = some (.slice e) ∧ P.info? e = some i ∧ i.size = ti.size ∧ i.bytes = ti.bytes ∧ i.zero.bind toAV = ti.zero := by
  unfold elemTI at h
  split at h
  · rename_i e h0
    obtain ⟨i, h1, h2, h3, h4⟩ := ti_size (hty _ _ h)
    exact ⟨e, i, kind_slice (hty _ _ h0) rfl, h1, h2, h3, h4⟩
  · cases h
theorem elemZ_ok (w : World) {z : AV} {s : Nat} {zv : Value} (h : elemZ z s = true) (hz : toAV zv = some z) : zv.cells.size = s := by
  unfold elemZ at h
  split at h
  · cases h
  · rename_i hnt
    split at h
    · rename_i hv
      have h := Nat.eq_of_beq_eq_true h
      obtain ⟨c1, _⟩ := (toAV_rep hz ⟨fun _ => none, fun _ => 0, fun _ => none⟩ w).cells hv hnt
      omega
    · cases h

theorem set_self {α : Type} : ∀ (l : List α) (i : Nat) (x : α), l[i]? = some x → l.set i x = l
  | [], _, _, h => by simp at h
  | y :: l, 0, x, h => by simp at h; simp [h]
  | y :: l, i + 1, x, h => by simp at h; simp [set_self l i x h]

theorem app_ok (hty : TyOK P ty) (hs : Sim E lo G S a w) {md : Nat} {t u rt : TypeId} {tu : TI} {x y r : AV} {vx vy : Value} {H' : AH} {φ : Prop} (hu : elemTI ty u = some tu) (h : app ty md t x y S.H = some (r, H', φ)) (hφ : φ)
    (hx : Rep G w x vx) (hy : Rep G w y vy) :
    ∃ v G' w', (Builtin.append_ #[t, u] rt #[vx, vy]).run P w = .ok v w' ∧ Sim E lo G' { S with H := H' } a w' ∧ Rep G' w' r v := by
  unfold app at h
  split at h
  · rename_i s by_ ag z kd h0
    obtain ⟨e, i, ht, hi, hisz, hiby, hiz⟩ := elemTI_ok hty h0
    have hisz : i.size = s := hisz
    have hiby : i.bytes = by_ := hiby
    obtain ⟨zv, hzv, hza⟩ := Option.bind_eq_some_iff.1 (show i.zero.bind toAV = some z from hiz)
    split at h
    · rename_i hs0
      have hs0 : 0 < s := by simpa [Nat.blt_eq] using hs0
      split at h
      · rename_i hb0
        have hb0 : 0 < by_ := by simpa [Nat.blt_eq] using hb0
        split at h
        · rename_i hez
          have hzs : zv.cells.size = s := elemZ_ok w hez hza
          split at h
          · rename_i news hnews
            obtain ⟨nc, src, ncl, nrow, ncell⟩ := src_ok hty hu hs0 hnews hy
            rw [← hisz] at src
            have hsD := hs.draws 1
            -- a new row
            have grow : ∀ (base : Option Addr) (rows : List (List AV)) (cap : Nat) (oc : List Value) (ow : Option Nat) (H' : AH), vx = .slice base rows.length cap → 0 < news.length → cap < rows.length + news.length → (rows.length + news.length) * by_ ≤ 140737488355328 →
                oc.length = rows.length * s → (∀ q ∈ rows, q.length = s) → (∀ i j x, cellAt rows i j = some x → x.one = true ∧ Rep G w x (oc.getD (i * s + j) Go.undef)) →
                (Builtin.firstCells i.size rows.length (.slice base rows.length cap)).run P w.drew = .ok oc.toArray w.drew →
                H'.blks = S.H.blks → ((ow = none ∧ H' = S.H) ∨ ∃ c z n, ow = some c ∧ H'.tips[c]? = some (z, n) ∧ 0 < n ∧ (rows.length + news.length) * s = n * z ∧ (∀ b', G.own b' = some c → G.imm b' < n * z) ∧ (∀ c', c' ≠ c → H'.tips[c']? = S.H.tips[c']?)) →
                ∃ v G' w', (Builtin.append_ #[t, u] rt #[vx, vy]).run P w = .ok v w' ∧ Sim E lo G' { S with H := H' } a w' ∧ Rep G' w' (.sl s (rows ++ news) ow) v := by
              intro base rows cap oc ow H' hv hm hcap hbd hol hrow hcell hfst hbl hown
              subst hv
              have hnb : rows.length + news.length ≤ 140737488355328 := by
                have : (rows.length + news.length) * 1 ≤ (rows.length + news.length) * by_ := Nat.mul_le_mul_left _ hb0
                omega
              have hrun := run_append_grow_src (P := P) w t u rt e i zv ht hi hzv base rows.length cap oc hfst vy news.length nc src hcap (by omega) (by rw [hiby]; exact growslice_fits hcap hbd)
              have hge := grownCap_ge w (rows.length + news.length) cap e
              have hmax := grownCap_le_maxLen w (rows.length + news.length) cap e (by have : maxLen = 9223372036854775807 := rfl; omega)
              obtain ⟨k1, k2, k3⟩ := grow_cells (G := G) (w := w) (s := s) (cap := grownCap w (rows.length + news.length) cap e) hzs hol ncl rfl rfl hge hrow nrow hcell ncell
              generalize (oc ++ nc).toArray ++ Builtin.zeroCells zv.cells (grownCap w (rows.length + news.length) cap e - (rows.length + news.length)) = us at hrun k1 k3
              have hx := eff_new hsD.h us e ((rows.length + news.length) * s) ow hbl hown
              refine ⟨_, _, _, hrun, hsD.turn (Le.new hsD.h _ _ _) hx.1 hx.2, ?_⟩
              exact rep_new (S := S) (w := w.drew) hs0 (by simp) (by omega) _ hge hmax k1 k2 (fun i j x hx => ⟨(k3 i j x hx).1, (k3 i j x hx).2.drew⟩) hsD.h (fun h0 => by omega)
            split at h
            · -- onto nil
              cases hx
              have hnil : ∀ (ow : Option Nat) (H' : AH), news.length * by_ ≤ 140737488355328 → ((ow = none ∧ H' = S.H) ∨ (ow = some S.H.tips.length ∧ H' = { S.H with tips := S.H.tips ++ [(s, news.length)] })) →
                  ∃ v G' w', (Builtin.append_ #[t, u] rt #[.slice none 0 0, vy]).run P w = .ok v w' ∧ Sim E lo G' { S with H := H' } a w' ∧ Rep G' w' (.sl s news ow) v := by
                intro ow H' hbd hown
                rcases Nat.eq_zero_or_pos news.length with h0 | h0
                · have hnc : nc = [] := List.eq_nil_of_length_eq_zero (by rw [ncl, h0]; simp)
                  have hnw : news = [] := List.eq_nil_of_length_eq_zero h0
                  rw [h0, hnc] at src
                  have hrun := run_append_nothing (P := P) w t u rt e i ht hi none 0 0 (Nat.le_refl _) vy src
                  have hrep : ∀ G' w', Rep G' w' (.sl s news ow) (.slice none 0 0) := fun G' w' => by
                    rw [hnw]
                    exact .sl s [] ow none 0 0 0 (fun _ _ => Go.undef) hs0 (by simp) (by simp [maxLen]) (by simp) (.inl ⟨rfl, .inr rfl⟩) (fun i j x hx => by simp [cellAt] at hx) (fun i j x hx => by simp [cellAt] at hx) (fun i j x hx => by simp [cellAt] at hx)
                  rcases hown with ⟨_, rfl⟩ | ⟨_, rfl⟩
                  · exact ⟨_, G, w, hrun, hs, hrep _ _⟩
                  · obtain ⟨q1, q2⟩ := eff_tip hs.h s
                    rw [h0]
                    exact ⟨_, G, w, hrun, hs.turn (Le.refl _ _) q1 q2, hrep _ _⟩
                · refine grow none [] 0 [] ow H' rfl h0 (by simpa using h0) (by simpa using hbd) (by simp) (by simp) (fun i j x hx => by simp [cellAt] at hx) (run_firstCells_none w.drew i.size 0 0 0) ?_ ?_
                  · rcases hown with ⟨_, rfl⟩ | ⟨_, rfl⟩ <;> rfl
                  · rcases hown with ⟨h1, h2⟩ | ⟨rfl, rfl⟩
                    · exact .inl ⟨h1, h2⟩
                    · refine .inr ⟨_, s, news.length, rfl, by simp, h0, by simp, fun b' hb' => absurd hb' (hs.h.chains _ b' (Nat.le_refl _)), fun c' hc' => ?_⟩
                      dsimp only
                      rcases Nat.lt_or_ge c' S.H.tips.length with hl | hl
                      · rw [List.getElem?_append_left hl]
                      · rw [List.getElem?_append_right hl, List.getElem?_eq_none hl, List.getElem?_eq_none (by simp; omega)]
              split at h
              · simp only [Option.some.injEq, Prod.mk.injEq] at h
                obtain ⟨rfl, rfl, rfl⟩ := h
                exact hnil _ _ hφ (.inr ⟨rfl, rfl⟩)
              · simp only [Option.some.injEq, Prod.mk.injEq] at h
                obtain ⟨rfl, rfl, rfl⟩ := h
                exact hnil _ _ hφ (.inl ⟨rfl, rfl⟩)
            · -- onto the head of a chain
              rename_i z' rows c
              split at h
              · rename_i hz'
                have hz' := (Nat.eq_of_beq_eq_true hz').symm
                subst hz'
                simp only [Option.some.injEq, Prod.mk.injEq] at h
                obtain ⟨rfl, rfl, rfl⟩ := h
                obtain ⟨htip, hbd⟩ := hφ
                have hx' := hx
                cases hx with
                | sl _ _ _ A cap b o f hz hlc hc hk hp hcell h1 hr =>
                obtain ⟨ff, g1, g2, g3, g4⟩ := rep_flat hx'
                have hclt : c < S.H.tips.length := (List.getElem?_eq_some_iff.1 htip).1
                rcases Nat.eq_zero_or_pos news.length with h0 | h0
                · have hnc : nc = [] := List.eq_nil_of_length_eq_zero (by rw [ncl, h0]; simp)
                  have hnw : news = [] := List.eq_nil_of_length_eq_zero h0
                  rw [h0, hnc] at src
                  have hrun := run_append_nothing (P := P) w t u rt e i ht hi A rows.length cap hlc vy src
                  have e1 : rows ++ news = rows := by rw [hnw]; simp
                  rw [e1, set_self _ _ _ htip]
                  exact ⟨_, G, w, hrun, hs, hx'⟩
                · rcases Nat.lt_or_ge cap (rows.length + news.length) with hcap | hroom
                  · refine grow A rows cap (flat rows.length s ff) (some c) _ rfl h0 hcap hbd (flat_length _ _ _) g1 g2 ?_ rfl (.inr ⟨c, s, (rows ++ news).length, rfl, ?_, ?_, ?_, ?_, ?_⟩)
                    · rw [hisz]
                      rcases g4 with e0 | ⟨a', rfl, g4⟩
                      · have : flat rows.length s ff = [] := by simp [flat, e0]
                        rw [this, e0]
                        cases A with
                        | none => exact run_firstCells_none w.drew s 0 0 cap
                        | some a' => exact run_firstCells_some w.drew s 0 a' 0 cap [] (by simp) (fun j u h => by simp at h)
                      · exact run_firstCells_some w.drew s rows.length a' rows.length cap _ (flat_length _ _ _) (by simpa using g4)
                    · dsimp only; rw [List.getElem?_set_self hclt]
                    · simp; omega
                    · simp
                    · intro b' hb'
                      obtain ⟨q1, q2⟩ := hs.h.chain c s _ htip
                      have hlt : rows.length * s < (rows ++ news).length * s := Nat.mul_lt_mul_of_pos_right (by simp; omega) hz
                      rcases Nat.eq_zero_or_pos rows.length with e0 | e0
                      · exact absurd hb' (q1 e0 b')
                      · obtain ⟨bb, us, e', q3, q4, q5, q6⟩ := q2 e0
                        by_cases hbb : b' = bb
                        · subst hbb; omega
                        · have := q6 b' hb' hbb; omega
                    · intro c' hc'
                      dsimp only; rw [List.getElem?_set_ne (fun e => hc' e.symm)]
                  · rcases hp with ⟨e0, hcc | hcc⟩ | ⟨rfl, him, htk⟩
                    · cases hcc
                    · omega
                    · obtain ⟨rfl, hown, e'', hsh⟩ := htk c rfl
                      obtain ⟨q1, q2⟩ := hs.h.chain c s _ htip
                      rcases Nat.eq_zero_or_pos rows.length with e0 | e0
                      · exact absurd hown (q1 e0 b)
                      · obtain ⟨bb, us, e', q3, q4, q5, q6⟩ := q2 e0
                        have hbb : b = bb := by
                          apply Decidable.byContradiction
                          intro hne
                          have := q6 b hown hne
                          omega
                        subst hbb
                        have hus : us.size = cap * s := by
                          simp only [World.shape?, q5, Option.some.injEq, Prod.mk.injEq] at hsh
                          exact hsh.2
                        have hfit : rows.length * s + nc.length ≤ us.size := by
                          rw [hus, ncl, ← Nat.add_mul]; exact Nat.mul_le_mul_right s hroom
                        have hrun := run_append_room_row (P := P) (w := w) t u rt e i ht hi b rows.length cap vy news.length nc src us e' q5 hroom (by rw [hisz]; exact hfit)
                        rw [hisz] at hrun
                        obtain ⟨r1, r2, r3⟩ := eff_room hs.h hz e0 h0 htip hown q4 q5 nc ncl hfit
                        have hlen : (rows ++ news).length = rows.length + news.length := by simp
                        have hnew := setRow_heap w b us (us.toList.take (rows.length * s) ++ nc ++ us.toList.drop (rows.length * s + nc.length)).toArray e' (0, 0) q5
                        have hget := row_get us nc (rows.length * s) hfit
                        have hsz := row_size us nc (rows.length * s) hfit
                        rw [hlen]
                        generalize w.setRow b (us.toList.take (rows.length * s) ++ nc ++ us.toList.drop (rows.length * s + nc.length)).toArray = w' at hrun r1 r2 r3 hnew
                        generalize (us.toList.take (rows.length * s) ++ nc ++ us.toList.drop (rows.length * s + nc.length)).toArray = us' at hnew hget hsz
                        refine ⟨_, _, _, hrun, hs.turn r1 r2 r3, ?_⟩
                        rw [← hlen]
                        have hk' : ∀ q ∈ rows ++ news, q.length = s := fun q hq => by
                          rcases List.mem_append.1 hq with hq | hq
                          · exact g1 q hq
                          · exact nrow q hq
                        have hall : ∀ i j x, cellAt (rows ++ news) i j = some x → x.one = true ∧ Rep G w x (us'.getD (i * s + j) Go.undef) := by
                          intro i j x hx
                          have hlt := cellAt_lt hk' hx
                          rw [hget]
                          rw [cellAt_append] at hx
                          split at hx
                          · rename_i hi'
                            have := row_lt hi' hlt.2
                            rw [if_pos this]
                            refine ⟨h1 i j x hx, ?_⟩
                            have hc1 := hcell i j x hx
                            have hc2 := cell_row q5 (w := w) (j := i * s + j) (by omega)
                            rw [Nat.zero_add, hc2] at hc1
                            simp only [Option.some.injEq] at hc1
                            rw [hc1]
                            exact hr i j x hx
                          · rename_i hi'
                            have h3 : rows.length * s ≤ i * s := Nat.mul_le_mul_right s (by omega)
                            have h4 := row_lt (z := s) (i := i) (j := j) (n := (rows ++ news).length) hlt.1 hlt.2
                            rw [hlen, Nat.add_mul, ← ncl] at h4
                            rw [if_neg (by omega), if_pos h4]
                            have := ncell _ j x hx
                            rw [Nat.sub_mul] at this
                            rwa [show i * s + j - rows.length * s = i * s - rows.length * s + j by omega]
                        refine .sl s (rows ++ news) (some c) _ cap b 0 (fun i j => us'.getD (i * s + j) Go.undef) hz (by rw [hlen]; exact hroom) hc hk' (.inr ⟨rfl, ?_, fun t ht => ?_⟩) (fun i j x hx => ?_) (fun i j x hx => (hall i j x hx).1) (fun i j x hx => (hall i j x hx).2.mono (by rw [hlen]; exact r1))
                        · simp [Gh.grow]
                        · simp only [Option.some.injEq] at ht
                          subst ht
                          refine ⟨rfl, hown, e', ?_⟩
                          unfold World.shape?
                          rw [hnew]
                          simp only [hsz, hus]
                        · have hlt := cellAt_lt hk' hx
                          have h4 := row_lt (z := s) (i := i) (j := j) (n := (rows ++ news).length) hlt.1 hlt.2
                          have h5 : (rows ++ news).length * s ≤ cap * s := Nat.mul_le_mul_right s (by rw [hlen]; exact hroom)
                          rw [Nat.zero_add]
                          exact cell_row hnew (by omega)
              · cases h
            · cases h
          · cases h
        · cases h
      · cases h
    · cases h
  · cases h
end
end Go.Proofs.Ytecpiplfjmmccaa.AM

/-
  Tracked memory: an operation does what its action says (mem_ok). Maps.
  Conditions: the table of types tells of the program's.
-/
namespace Go.Proofs.Ytecpiplfjmmccaa.AM
open Go

theorem Look.uniq {es : List (Int × AV)} {n : Int} (hd : es.Pairwise fun p q => p.1 ≠ q.1) {i j : Nat} {x y : AV} (hi : es[i]? = some (n, x)) (hj : es[j]? = some (n, y)) : i = j := by
  apply Decidable.byContradiction
  intro hne
  obtain ⟨h1, e1⟩ := List.getElem?_eq_some_iff.1 hi
  obtain ⟨h2, e2⟩ := List.getElem?_eq_some_iff.1 hj
  rcases Nat.lt_or_gt_of_ne hne with h | h
  · exact List.pairwise_iff_getElem.1 hd i j h1 h2 h (by rw [e1, e2])
  · exact List.pairwise_iff_getElem.1 hd j i h2 h1 h (by rw [e1, e2])
theorem filter_erase : ∀ {es : List (Int × AV)} {n : Int} {j : Nat} {x : AV}, es.Pairwise (fun p q => p.1 ≠ q.1) → es[j]? = some (n, x) → delE es n = es.eraseIdx j
  | [], _, _, _, _, h => by simp at h
  | p :: es, n, 0, x, hd, h => by
    simp only [List.getElem?_cons_zero, Option.some.injEq] at h
    subst h
    simp only [delE, List.eraseIdx_zero, List.tail_cons]
    rw [List.filter_cons_of_neg (by simp)]
    refine List.filter_eq_self.2 fun q hq => ?_
    have := (List.pairwise_cons.1 hd).1 q hq
    simpa using fun e => this e.symm
  | p :: es, n, j + 1, x, hd, h => by
    obtain ⟨h1, h2⟩ := List.pairwise_cons.1 hd
    have h3 : es[j]? = some (n, x) := by simpa using h
    have hp : p.1 ≠ n := h1 _ (List.mem_of_getElem? h3)
    have ih := filter_erase h2 h3
    simp only [delE, List.eraseIdx_cons_succ] at ih ⊢
    rw [List.filter_cons_of_pos (by simpa using hp), ih]
theorem delE_none {es : List (Int × AV)} {n : Int} (h : ∀ p ∈ es, p.1 ≠ n) : delE es n = es := List.filter_eq_self.2 fun q hq => by simpa using h q hq
theorem putE_none {es : List (Int × AV)} {n : Int} {x : AV} (h : ∀ p ∈ es, p.1 ≠ n) : putE es n x = es ++ [(n, x)] := by
  unfold putE; rw [if_neg]; rintro ⟨p, hp, e⟩; exact h p hp e
theorem putE_some {es : List (Int × AV)} {n : Int} {j : Nat} {x y : AV} (hd : es.Pairwise (fun p q => p.1 ≠ q.1)) (h : es[j]? = some (n, y)) : putE es n x = es.set j (n, x) := by
  unfold putE
  rw [if_pos ⟨_, List.mem_of_getElem? h, rfl⟩]
  apply List.ext_getElem?
  intro i
  rw [List.getElem?_map, List.getElem?_set]
  by_cases hij : j = i
  · subst hij
    rw [if_pos rfl, if_pos (List.getElem?_eq_some_iff.1 h).1, h]
    simp
  · rw [if_neg hij]
    cases hi : es[i]? with
    | none => rfl
    | some p =>
      simp only [Option.map_some, Option.some.injEq]
      rw [if_neg]
      intro e
      obtain ⟨m, z⟩ := p
      subst e
      exact hij (Look.uniq hd h hi)

section
variable {E : Env} {P : Program} {ty : TypeId → Option TI} {md : Nat → Nat} {lo : Nat → Nat} {G : Gh} {S : AS} {a : Act} {w : World} {o : Oper}

/-- What stands in a map's block. -/
def MapAt (G : Gh) (w : World) (b : Nat) (k : IntKind) (es : List (Int × AV)) (pd : Option (Int × Nat)) (en : Array MapEntry) (clock : Nat) : Prop :=
  w.heap[b]? = some (.map en clock) ∧ MapKept.Stamped en clock ∧ en.size = es.length ∧
      (∀ (i : Nat) n x, es[i]? = some (n, x) → x.val = true ∧ ∃ e : MapEntry, en[i]? = some e ∧ e.key = .int k n ∧ Rep G w x e.val) ∧
      ∀ n i, pd = some (n, i) → ∃ e : MapEntry, en[i]? = some e ∧ (e.born : Int) = n
theorem MapAt.get {b : Nat} {k : IntKind} {es : List (Int × AV)} {pd : Option (Int × Nat)} {en : Array MapEntry} {clock : Nat} (h : MapAt G w b k es pd en clock) {i : Nat} {e : MapEntry} (he : en[i]? = some e) : ∃ n x, es[i]? = some (n, x) ∧ x.val = true ∧ e.key = .int k n ∧ Rep G w x e.val := by
  have hi := (Array.getElem?_eq_some_iff.1 he).1
  have hlt : i < es.length := by rw [← h.2.2.1]; exact hi
  obtain ⟨h1, e', h2, h3, h4⟩ := h.2.2.2.1 i es[i].1 es[i].2 (List.getElem?_eq_getElem hlt)
  rw [he] at h2
  simp only [Option.some.injEq] at h2
  subst h2
  exact ⟨_, _, List.getElem?_eq_getElem hlt, h1, h3, h4⟩
theorem MapAt.isKey {b : Nat} {k : IntKind} {es : List (Int × AV)} {pd : Option (Int × Nat)} {en : Array MapEntry} {clock : Nat} (h : MapAt G w b k es pd en clock) : ∀ x ∈ en.toList, MapKept.IsKey (.int k) x.key := by
  intro e he
  obtain ⟨i, hi⟩ := Array.mem_iff_getElem?.1 (Array.mem_toList_iff.1 he)
  obtain ⟨n, x, _, _, h3, _⟩ := h.get hi
  rw [h3]; rfl
theorem MapAt.keys {b : Nat} {k : IntKind} {es : List (Int × AV)} {pd : Option (Int × Nat)} {en : Array MapEntry} {clock : Nat} (h : MapAt G w b k es pd en clock) : es.Pairwise fun p q => p.1 ≠ q.1 := by
  have hp := ((MapKept.stamped_iff en clock).1 h.2.1).2.2
  rw [List.pairwise_iff_getElem] at hp ⊢
  intro i j hi hj hij
  have hs := h.2.2.1
  have hi' : i < en.toList.length := by simpa [hs] using hi
  have hj' : j < en.toList.length := by simpa [hs] using hj
  have := hp i j hi' hj' hij
  intro e
  obtain ⟨_, e1, g1, g2, _⟩ := h.2.2.2.1 i es[i].1 es[i].2 (List.getElem?_eq_getElem hi)
  obtain ⟨_, e2, g3, g4, _⟩ := h.2.2.2.1 j es[j].1 es[j].2 (List.getElem?_eq_getElem hj)
  have q1 : en.toList[i] = e1 := by
    have := Array.getElem?_eq_some_iff.1 g1
    obtain ⟨_, q⟩ := this
    simpa using q
  have q2 : en.toList[j] = e2 := by
    have := Array.getElem?_eq_some_iff.1 g3
    obtain ⟨_, q⟩ := this
    simpa using q
  exact this (by rw [q1, q2, g2, g4, e])
/-- Where a key stands, if it stands. -/
theorem MapAt.find {b : Nat} {k : IntKind} {es : List (Int × AV)} {pd : Option (Int × Nat)} {en : Array MapEntry} {clock : Nat} (h : MapAt G w b k es pd en clock) (n : Int) :
    (Instr.findNow (.int k) (.int k n) en.toList 0 = some none ∧ (∀ p ∈ es, p.1 ≠ n) ∧ ∀ x ∈ en.toList, x.key ≠ .int k n) ∨
    ∃ j e x, Instr.findNow (.int k) (.int k n) en.toList 0 = some (some (j, e.val)) ∧ en[j]? = some e ∧ e.key = .int k n ∧ es[j]? = some (n, x) ∧ x.val = true ∧ Rep G w x e.val := by
  rcases MapKept.findNow_spec (d := .int k) (k := .int k n) rfl en.toList 0 h.isKey with ⟨h1, h2⟩ | ⟨j, e, h1, h2, h3⟩
  · refine .inl ⟨h1, fun p hp e => ?_, h2⟩
    obtain ⟨i, hi⟩ := List.mem_iff_getElem?.1 hp
    obtain ⟨_, e', g1, g2, _⟩ := h.2.2.2.1 i p.1 p.2 hi
    exact h2 e' (Array.mem_toList_iff.2 (Array.mem_of_getElem? g1)) (by rw [g2, e])
  · have he : en[j]? = some e := by rwa [Array.getElem?_toList] at h2
    obtain ⟨n', x, g1, g2, g3, g4⟩ := h.get he
    rw [h3] at g3
    simp only [Value.int.injEq, true_and] at g3
    subst g3
    exact .inr ⟨j, e, x, by simpa using h1, he, h3, g1, g2, g4⟩

theorem map_at (hH : HSim G w S.H) {id b : Nat} {k : IntKind} {es : List (Int × AV)} {pd : Option (Int × Nat)} (hb : S.H.blks[id]? = some (.map k es pd)) (hm : G.mb id = some (b, 0)) : ∃ en clock, MapAt G w b k es pd en clock := by
  rcases hH.at_ id _ hb rfl with ⟨b', z, g1, ⟨g2, en, clock, g3⟩, _, _⟩ | ⟨g1, _⟩
  · rw [hm] at g1
    simp only [Option.some.injEq, Prod.mk.injEq] at g1
    rw [g1.1]
    exact ⟨en, clock, g3⟩
  · rw [hm] at g1; cases g1

/-- A map's block turned. -/
theorem map_turn (hs : Sim E lo G S a w) {id b : Nat} {k : IntKind} {es : List (Int × AV)} {pd : Option (Int × Nat)} {en : Array MapEntry} {clock : Nat} (hb : S.H.blks[id]? = some (.map k es pd)) (hm : G.mb id = some (b, 0)) (h : w.heap[b]? = some (.map en clock))
    {en' : Array MapEntry} {clock' : Nat} {es' : List (Int × AV)} {pd' : Option (Int × Nat)} (hn : ∀ w', w' = { w with heap := w.heap.setIfInBounds b (.map en' clock') } → Le G w G w' → w'.heap[b]? = some (.map en' clock') → MapAt G w' b k es' pd' en' clock') :
    Sim E lo G { S with H := S.H.upd id (.map k es' pd') } a { w with heap := w.heap.setIfInBounds b (.map en' clock') } := by
  obtain ⟨g1, g2⟩ := MapKept.heap_set (o' := .map en' clock') h
  have h1 : ∀ k', k' ≠ b → ({ w with heap := w.heap.setIfInBounds b (.map en' clock') } : World).heap[k']? = w.heap[k']? := g2
  have h2 : ({ w with heap := w.heap.setIfInBounds b (.map en' clock') } : World).heap[b]? = some (.map en' clock') := g1
  have h3 : ({ w with heap := w.heap.setIfInBounds b (.map en' clock') } : World).heap.size = w.heap.size := by simp
  have h4 := hn _ rfl
  have h5 : Kin w { w with heap := w.heap.setIfInBounds b (.map en' clock') } := ⟨rfl, rfl, rfl⟩
  generalize ({ w with heap := w.heap.setIfInBounds b (.map en' clock') } : World) = w' at h1 h2 h3 h4 h5 ⊢
  obtain ⟨q1, q2, q3⟩ := eff_blk hs.h hb rfl hm h5 h3 h1 (fun s hsh => by simp [World.shape?, h] at hsh) (B' := .map k es' pd') (fun hle => ⟨rfl, en', clock', h4 hle h2⟩)
  exact hs.turn q1 q2 q3

theorem mapK_ok (hty : TyOK P ty) {t : TypeId} {q : IntKind} {z : Option AV} (h : mapK ty t = some (q, z)) : ∃ k e ti, P.underlying t = some (.map k e) ∧ P.underlying k = some (.int q) ∧ ty e = some ti ∧ ti.zero = z := by
  unfold mapK at h
  split at h
  · rename_i k e h0
    have hu := kind_map (hty _ _ h0) rfl
    split at h
    · rename_i q' h1
      have hk := kind_int (hty _ _ h1) rfl
      split at h
      · rename_i sz by_ ag z' kd h2
        simp only [Option.some.injEq, Prod.mk.injEq] at h
        obtain ⟨rfl, rfl⟩ := h
        exact ⟨k, e, _, hu, hk, h2, rfl⟩
      · cases h
    · cases h
  · cases h
theorem zero_ok (hty : TyOK P ty) {e : TypeId} {ti : TI} {z : AV} (h : ty e = some ti) (hz : ti.zero = some z) : ∃ v, (∀ w, (zeroValue e).run P w = .ok v w) ∧ ∀ (G : Gh) (w : World), Rep G w z v := by
  obtain ⟨i, hi, _, _, h3⟩ := ti_size (hty _ _ h)
  rw [hz] at h3
  obtain ⟨zv, hzv, hza⟩ := Option.bind_eq_some_iff.1 h3
  exact ⟨zv, fun w => by simp [zeroValue, typeInfo, hi, hzv], fun G w => toAV_rep hza G w⟩
theorem ev_map (hs : Sim E lo G S a w) {m : Operand} {id : Nat} (h : evA S.T m = .map id) : ∃ b, a.eval m = .map (some b) ∧ G.mb id = some (b, 0) := by
  have hr := evA_ok hs m
  rw [h] at hr
  have hr := hr.rep (.inl rfl)
  generalize a.eval m = v at hr
  cases hr with
  | map _ b hb => exact ⟨b, rfl, hb⟩
theorem ev_int (hs : Sim E lo G S a w) {m : Operand} {k : IntKind} {n : Int} (h : evA S.T m = .int k n) : a.eval m = .int k n := by
  have hr := evA_ok hs m
  rw [h] at hr
  have hr := hr.rep (.inl rfl)
  generalize a.eval m = v at hr
  cases hr
  rfl
theorem okV_ok {x y : AV} (h : okV x = some y) : x = y ∧ x.val = true := by
  unfold okV at h
  split at h
  · rename_i hv
    split at h
    · cases h
    · simp only [Option.some.injEq] at h; exact ⟨h, hv⟩
  · cases h

/-! ### the actions -/
def Does (P : Program) (E : Env) (lo : Nat → Nat) (_ : Gh) (S : AS) (a : Act) (w : World) (o : Oper) (K : AV → AH → Prop) : Prop :=
  ∃ x H' G' w', K x H' ∧ Sim E lo G' { S with H := H' } a w' ∧ ((∃ v, (execOp a.eval o).run P w = .ok (.value v) w' ∧ Rep G' w' x v) ∨ ((execOp a.eval o).run P w = .ok .skip w' ∧ x = .skip))

theorem does_mkMap (hs : Sim E lo G S a w) {t : TypeId} {q : IntKind} {K : AV → AH → Prop} (ho : o.op = .makeMap t none) (hk : (MAct.mkMap q).P S.H K) : Does P E lo G S a w o K := by
  obtain ⟨dst, op, type, pos, after, guard⟩ := o
  simp only at ho
  subst ho
  obtain ⟨q1, q2, q3⟩ := eff_push hs.h (.map #[] 0) 0 (.map q [] none) (fun hle => ⟨rfl, #[], 0, heap_new w _, MapKept.stamped_empty 0, rfl, fun i n x h => by simp at h, fun n i h => by cases h⟩)
  refine ⟨_, _, _, _, hk, hs.turn q1 q2 q3, .inl ⟨.map (some w.heap.size), by simp [execOp, Instr.makeMap], .map _ _ (Gh.obj_self _ _ _ _)⟩⟩

theorem MapAt.push {b : Nat} {k : IntKind} {es : List (Int × AV)} {pd : Option (Int × Nat)} {en : Array MapEntry} {clock : Nat} (h : MapAt G w b k es pd en clock) {n : Int} {x : AV} {v : Value} (hx : x.val = true) (hr : Rep G w x v) (hne : ∀ e ∈ en.toList, e.key ≠ .int k n)
    {w' : World} (hle : Le G w G w') (hb : w'.heap[b]? = some (.map (en.push ⟨.int k n, v, clock⟩) (clock + 1))) (pd' : Option (Int × Nat)) (hp : ∀ s i, pd' = some (s, i) → s = clock ∧ i = es.length) : MapAt G w' b k (es ++ [(n, x)]) pd' (en.push ⟨.int k n, v, clock⟩) (clock + 1) := by
  obtain ⟨h1, h2, h3, h4, h5⟩ := h
  refine ⟨hb, MapKept.stamped_push h2 hne, by simp [h3], fun i m y hy => ?_, fun s i hpd => ?_⟩
  · rcases Nat.lt_or_ge i es.length with hi | hi
    · rw [List.getElem?_append_left hi] at hy
      obtain ⟨g1, e, g2, g3, g4⟩ := h4 i m y hy
      exact ⟨g1, e, by rw [Array.getElem?_push, if_neg (by omega)]; exact g2, g3, g4.mono hle⟩
    · rw [List.getElem?_append_right hi] at hy
      have hi0 : i = es.length := by
        have := (List.getElem?_eq_some_iff.1 hy).1
        simp at this; omega
      subst hi0
      simp only [Nat.sub_self, List.getElem?_cons_zero, Option.some.injEq, Prod.mk.injEq] at hy
      obtain ⟨rfl, rfl⟩ := hy
      exact ⟨hx, _, by rw [Array.getElem?_push, if_pos h3.symm], rfl, hr.mono hle⟩
  · obtain ⟨rfl, rfl⟩ := hp s i hpd
    exact ⟨_, by rw [Array.getElem?_push, if_pos h3.symm], rfl⟩
theorem MapAt.modify {b : Nat} {k : IntKind} {es : List (Int × AV)} {pd : Option (Int × Nat)} {en : Array MapEntry} {clock : Nat} (h : MapAt G w b k es pd en clock) {j : Nat} {e : MapEntry} {n : Int} {y : AV} (he : en[j]? = some e) (hj : es[j]? = some (n, y)) {x : AV} {v : Value} (hx : x.val = true) (hr : Rep G w x v)
    {f : MapEntry → MapEntry} (hf : f e = { e with val := v }) (hf2 : ∀ e' ∈ en.toList, (f e').born = e'.born) {w' : World} (hle : Le G w G w') (hb : w'.heap[b]? = some (.map (en.modify j f) clock)) (pd' : Option (Int × Nat)) (hp : ∀ s i, pd' = some (s, i) → s = e.born ∧ i = j) : MapAt G w' b k (es.set j (n, x)) pd' (en.modify j f) clock := by
  obtain ⟨h1, h2, h3, h4, h5⟩ := h
  have hjl := (List.getElem?_eq_some_iff.1 hj).1
  have hkey : e.key = .int k n := by
    obtain ⟨_, e', g1, g2, _⟩ := h4 j n y hj
    rw [he] at g1
    simp only [Option.some.injEq] at g1
    rw [g1]; exact g2
  refine ⟨hb, MapKept.stamped_modify h2 j f hf2 (fun e' _ he' => by rw [he] at he'; simp only [Option.some.injEq] at he'; subst he'; rw [hf]), by simp [h3], fun i m z hz => ?_, fun s i hpd => ?_⟩
  · rw [List.getElem?_set] at hz
    rw [Array.getElem?_modify]
    by_cases hij : j = i
    · subst hij
      rw [if_pos rfl, if_pos hjl] at hz
      simp only [Option.some.injEq, Prod.mk.injEq] at hz
      obtain ⟨rfl, rfl⟩ := hz
      refine ⟨hx, f e, by rw [if_pos rfl, he]; rfl, by rw [hf]; exact hkey, by rw [hf]; exact hr.mono hle⟩
    · rw [if_neg hij] at hz
      obtain ⟨g1, e', g2, g3, g4⟩ := h4 i m z hz
      exact ⟨g1, e', by rw [if_neg hij]; exact g2, g3, g4.mono hle⟩
  · obtain ⟨rfl, rfl⟩ := hp s i hpd
    exact ⟨f e, by rw [Array.getElem?_modify, if_pos rfl, he]; rfl, by rw [hf]⟩

theorem does_put (hty : TyOK P ty) (hs : Sim E lo G S a w) {t : TypeId} {m k v : Operand} {q : IntKind} {z : Option AV} {id : Nat} {n : Int} {x : AV} {K : AV → AH → Prop} (ho : o.op = .mapUpdate t m k v) (ht : mapK ty t = some (q, z)) (hm : evA S.T m = .map id) (hk : evA S.T k = .int q n)
    (hx : okV (evA S.T v) = some x) (hp : (MAct.put id q n x).P S.H K) : Does P E lo G S a w o K := by
  obtain ⟨dst, op, type, pos, after, guard⟩ := o
  simp only at ho
  subst ho
  obtain ⟨rfl, hxv⟩ := okV_ok hx
  obtain ⟨kt, et, ti, t1, t2, _, _⟩ := mapK_ok hty ht
  obtain ⟨es, pd, hb, hK⟩ := hp.out
  obtain ⟨b, hev, hmb⟩ := ev_map hs hm
  have hke := ev_int hs hk
  have hr := (evA_ok hs v).rep (.inl hxv)
  obtain ⟨en, clock, hat⟩ := map_at hs.h hb hmb
  have hob := MapKept.run_getObj_map (P := P) hat.1
  have hso := fun o => MapKept.run_setObj_map (P := P) (w := w) o hat.1
  have hck := MapKept.run_checkKey (P := P) (w := w) (k := .int q n) t2 rfl false 9999
  rcases hat.find n with ⟨f1, f2, f3⟩ | ⟨j, e, y, f1, f2, f3, f4, f5, f6⟩
  · rw [putE_none f2] at hK
    refine ⟨_, _, _, _, hK, map_turn hs hb hmb hat.1 (fun w' _ hle hb' => hat.push hxv hr f3 hle hb' none (fun s i h => by cases h)), .inr ⟨?_, rfl⟩⟩
    simp [execOp, Instr.mapUpdate, hev, hke, run_underlying t1, hob, hck, MapKept.run_findKey t2 f1, hso, Result.andThen]
  · rw [putE_some hat.keys f4] at hK
    refine ⟨_, _, _, _, hK, map_turn hs hb hmb hat.1 (fun w' _ hle hb' => hat.modify (f := fun e => { e with key := .int q n, val := a.eval v }) f2 f4 hxv hr (by rw [← f3]) (fun _ _ => rfl) hle hb' none (fun s i h => by cases h)), .inr ⟨?_, rfl⟩⟩
    simp [execOp, Instr.mapUpdate, hev, hke, run_underlying t1, hob, hck, MapKept.run_findKey t2 f1, f2, f3, MapKept.run_keyThatStays (d := .int q) (k := .int q n) rfl, hso, Result.andThen]

theorem does_ent (hty : TyOK P ty) (hs : Sim E lo G S a w) {t : TypeId} {m k : Operand} {q : IntKind} {z : AV} {id : Nat} {n : Int} {K : AV → AH → Prop} (ho : o.op = .mapEntry t m k) (ht : mapK ty t = some (q, some z)) (hzv : z.val = true) (hm : evA S.T m = .map id) (hk : evA S.T k = .int q n)
    (hp : (MAct.ent id q n z).P S.H K) : Does P E lo G S a w o K := by
  obtain ⟨dst, op, type, pos, after, guard⟩ := o
  simp only at ho
  subst ho
  obtain ⟨kt, et, ti, t1, t2, t3, t4⟩ := mapK_ok hty ht
  obtain ⟨es, pd, es', i, x, hb, hc, hK⟩ := hp.out
  obtain ⟨b, hev, hmb⟩ := ev_map hs hm
  have hke := ev_int hs hk
  obtain ⟨zv, hz1, hz2⟩ := zero_ok hty t3 t4
  obtain ⟨en, clock, hat⟩ := map_at hs.h hb hmb
  have hob := MapKept.run_getObj_map (P := P) hat.1
  have hso := fun o => MapKept.run_setObj_map (P := P) (w := w) o hat.1
  have hck := MapKept.run_checkKey (P := P) (w := w) (k := .int q n) t2 rfl false 9999
  have tup : ∀ {G' : Gh} {w' : World} {y : AV} {v : Value} {s : Int}, Rep G' w' y v → Rep G' w' (.tup [y, .int .i64 s]) (.tuple #[v, .int .i64 s]) := fun hy => .tup _ _ rfl fun i x hx => by
    match i, hx with
    | 0, hx => simp only [List.getElem?_cons_zero, Option.some.injEq] at hx; subst hx; exact hy
    | 1, hx => simp only [List.getElem?_cons_succ, List.getElem?_cons_zero, Option.some.injEq] at hx; subst hx; exact .int _ _
  rcases hat.find n with ⟨f1, f2, f3⟩ | ⟨j, e, y, f1, f2, f3, f4, f5, f6⟩
  · rcases hc with ⟨hc, _⟩ | ⟨_, rfl, rfl, rfl⟩
    · exact absurd rfl (f2 _ (List.mem_of_getElem? hc))
    refine ⟨_, _, _, _, hK clock, map_turn hs hb hmb hat.1 (fun w' _ hle hb' => hat.push hzv (hz2 _ _) f3 hle hb' _ (fun s i h => by simpa using ⟨(congrArg Prod.fst (Option.some.inj h)).symm, (congrArg Prod.snd (Option.some.inj h)).symm⟩)), .inl ⟨.tuple #[zv, .int .i64 clock], ?_, tup ?_⟩⟩
    · simp [execOp, Instr.mapEntry, hev, hke, run_underlying t1, hob, hck, MapKept.run_findKey t2 f1, hz1, hso, Result.andThen, goInt]
    · exact hz2 _ _
  · have hij : es' = es ∧ i = j ∧ x = y := by
      rcases hc with ⟨hc, rfl⟩ | ⟨hc, _⟩
      · have := Look.uniq hat.keys hc f4
        subst this
        rw [hc] at f4
        simp only [Option.some.injEq, Prod.mk.injEq, true_and] at f4
        exact ⟨rfl, rfl, f4⟩
      · exact absurd rfl (hc _ (List.mem_of_getElem? f4))
    obtain ⟨rfl, rfl, rfl⟩ := hij
    have hset : es'.set i (n, x) = es' := by
      apply List.ext_getElem?
      intro k'
      rw [List.getElem?_set]
      split
      · rename_i hk'; subst hk'
        rw [if_pos (List.getElem?_eq_some_iff.1 f4).1, f4]
      · rfl
    have hturn := map_turn (es' := es') (pd' := some ((e.born : Int), i)) (clock' := clock) (en' := en.modify i fun e => { e with key := .int q n }) hs hb hmb hat.1 (fun w' _ hle hb' => by
      have := hat.modify (f := fun e => { e with key := .int q n }) (x := x) (v := e.val) f2 f4 f5 f6 (by rw [← f3]) (fun _ _ => rfl) hle hb' (some ((e.born : Int), i)) (fun s i h => by simpa using ⟨(congrArg Prod.fst (Option.some.inj h)).symm, (congrArg Prod.snd (Option.some.inj h)).symm⟩)
      rwa [hset] at this)
    have hle : Le G w G { w with heap := w.heap.setIfInBounds b (.map (en.modify i fun e => { e with key := .int q n }) clock) } := by
      obtain ⟨g1, g2⟩ := MapKept.heap_set (o' := .map (en.modify i fun e => { e with key := .int q n }) clock) hat.1
      refine Le.of_agree (fun k' hk' => g2 k' (fun e' => ?_)) (fun k' s hsh => ?_)
      · subst e'
        rcases hs.h.at_ id _ hb rfl with ⟨b', z', r1, _, r2, _⟩ | ⟨r1, _⟩
        · rw [hmb] at r1
          simp only [Option.some.injEq, Prod.mk.injEq] at r1
          rw [← r1.1] at r2; omega
        · rw [hmb] at r1; cases r1
      · have hne : k' ≠ b := by rintro rfl; simp [World.shape?, hat.1] at hsh
        rw [← hsh]; exact shape_of_heap (g2 k' hne)
    refine ⟨_, _, _, _, hK e.born, hturn, .inl ⟨.tuple #[e.val, .int .i64 e.born], ?_, tup (f6.mono hle)⟩⟩
    simp [execOp, Instr.mapEntry, hev, hke, run_underlying t1, hob, hck, MapKept.run_findKey t2 f1, f2, f3, MapKept.run_keyThatStays (d := .int q) (k := .int q n) rfl, hso, Result.andThen, goInt]
end
end Go.Proofs.Ytecpiplfjmmccaa.AM

/-
  Tracked memory: an operation does what its action says (mem_ok). The rest of maps; objects; slices that turn.
  Conditions: the table of types tells of the program's.
-/
namespace Go.Proofs.Ytecpiplfjmmccaa.AM
open Go

section
variable {E : Env} {P : Program} {ty : TypeId → Option TI} {md : Nat → Nat} {lo : Nat → Nat} {G : Gh} {S : AS} {a : Act} {w : World} {o : Oper}

theorem does_est (hs : Sim E lo G S a w) {t : TypeId} {m s v : Operand} {id : Nat} {sk : IntKind} {sn : Int} {x : AV} {K : AV → AH → Prop} (ho : o.op = .entryStore t m s v) (hm : evA S.T m = .map id) (hsv : evA S.T s = .int sk sn)
    (hx : okV (evA S.T v) = some x) (hp : (MAct.est id sn x).P S.H K) : Does P E lo G S a w o K := by
  obtain ⟨dst, op, type, pos, after, guard⟩ := o
  simp only at ho
  subst ho
  obtain ⟨rfl, hxv⟩ := okV_ok hx
  obtain ⟨q, es, i, n, y, hb, hi, hK⟩ := hp.out
  obtain ⟨b, hev, hmb⟩ := ev_map hs hm
  have hse := ev_int hs hsv
  have hr := (evA_ok hs v).rep (.inl hxv)
  obtain ⟨en, clock, hat⟩ := map_at hs.h hb hmb
  have hob := MapKept.run_getObj_map (P := P) hat.1
  have hso := fun o => MapKept.run_setObj_map (P := P) (w := w) o hat.1
  obtain ⟨e, he, hborn⟩ := hat.2.2.2.2 sn i rfl
  have hfi : en.findIdx? (fun e => (e.born : Int) == sn) = some i := by
    have hlt := (Array.getElem?_eq_some_iff.1 he).1
    have hei := (Array.getElem?_eq_some_iff.1 he).2
    rw [Array.findIdx?_eq_some_iff_getElem]
    refine ⟨hlt, by simp [hei, hborn], fun j hj => ?_⟩
    intro hc
    have hd := ((MapKept.stamped_iff en clock).1 hat.2.1).2.1
    have hb1 : (en[j]'(by omega)).born = e.born := by
      have : ((en[j]'(by omega)).born : Int) = e.born := by rw [hborn]; simpa using hc
      omega
    rw [List.Nodup, List.pairwise_iff_getElem] at hd
    exact hd j i (by simp; omega) (by simpa using hlt) hj (by simp [hb1, hei])
  refine ⟨_, _, _, _, hK, map_turn hs hb hmb hat.1 (fun w' _ hle hb' => hat.modify (f := fun e => { e with val := a.eval v }) he hi hxv hr rfl (fun _ _ => rfl) hle hb' none (fun s i h => by cases h)), .inr ⟨?_, rfl⟩⟩
  simp [execOp, Instr.entryStore, hev, hse, asInt, asIntOf, hob, hfi, hso, Result.andThen]

theorem does_look (hty : TyOK P ty) (hs : Sim E lo G S a w) {t : TypeId} {m k : Operand} {ok : Bool} {q : IntKind} {z : AV} {id : Nat} {n : Int} {K : AV → AH → Prop} (ho : o.op = .lookup t m k ok) (ht : mapK ty t = some (q, some z)) (_ : z.val = true) (hm : evA S.T m = .map id) (hk : evA S.T k = .int q n)
    (hp : (MAct.look id q n z ok).P S.H K) : Does P E lo G S a w o K := by
  obtain ⟨dst, op, type, pos, after, guard⟩ := o
  simp only at ho
  subst ho
  obtain ⟨kt, et, ti, t1, t2, t3, t4⟩ := mapK_ok hty ht
  obtain ⟨es, pd, r, hb, hl, hK⟩ := hp.out
  obtain ⟨b, hev, hmb⟩ := ev_map hs hm
  have hke := ev_int hs hk
  obtain ⟨zv, hz1, hz2⟩ := zero_ok hty t3 t4
  obtain ⟨en, clock, hat⟩ := map_at hs.h hb hmb
  have hob := MapKept.run_getObj_map (P := P) hat.1
  have hck := MapKept.run_checkKey (P := P) (w := w) (k := .int q n) t2 rfl en.isEmpty 9999
  have tup : ∀ {y : AV} {v : Value} {c : Bool}, Rep G w y v → Rep G w (.tup [y, .bool c]) (.tuple #[v, .bool c]) := fun hy => .tup _ _ rfl fun i x hx => by
    match i, hx with
    | 0, hx => simp only [List.getElem?_cons_zero, Option.some.injEq] at hx; subst hx; exact hy
    | 1, hx => simp only [List.getElem?_cons_succ, List.getElem?_cons_zero, Option.some.injEq] at hx; subst hx; exact .bool _
  rcases hat.find n with ⟨f1, f2, f3⟩ | ⟨j, e, y, f1, f2, f3, f4, f5, f6⟩
  · have hr : r = none := by
      cases r with
      | none => rfl
      | some x => exact absurd rfl (f2 _ hl)
    subst hr
    refine ⟨_, _, G, w, hK, hs, .inl ⟨if ok then .tuple #[zv, .bool false] else zv, ?_, ?_⟩⟩
    · simp [execOp, Instr.lookup, hev, hke, run_underlying t1, hob, hck, MapKept.run_findKey t2 f1, hz1, Result.andThen]
    · cases ok
      · exact hz2 _ _
      · exact tup (hz2 _ _)
  · have hr : r = some y := by
      cases r with
      | none => exact absurd rfl (hl _ (List.mem_of_getElem? f4))
      | some x =>
        obtain ⟨i, hi⟩ := List.mem_iff_getElem?.1 hl
        have := Look.uniq hat.keys hi f4
        subst this
        rw [hi] at f4
        simp only [Option.some.injEq, Prod.mk.injEq, true_and] at f4
        rw [f4]
    subst hr
    refine ⟨_, _, G, w, hK, hs, .inl ⟨if ok then .tuple #[e.val, .bool true] else e.val, ?_, ?_⟩⟩
    · simp [execOp, Instr.lookup, hev, hke, run_underlying t1, hob, hck, MapKept.run_findKey t2 f1, Result.andThen]
    · cases ok
      · exact f6
      · exact tup f6

theorem does_del (hty : TyOK P ty) (hs : Sim E lo G S a w) {t t' : TypeId} {m k : Operand} {q : IntKind} {z : Option AV} {id : Nat} {n : Int} {K : AV → AH → Prop} (ho : o.op = .call ⟨.builtin .delete, ⟨[m, k]⟩, ⟨[t, t']⟩⟩) (ht : mapK ty t = some (q, z)) (hm : evA S.T m = .map id) (hk : evA S.T k = .int q n)
    (hp : (MAct.del id q n).P S.H K) : Does P E lo G S a w o K := by
  obtain ⟨dst, op, type, pos, after, guard⟩ := o
  simp only at ho
  subst ho
  obtain ⟨kt, et, ti, t1, t2, _, _⟩ := mapK_ok hty ht
  obtain ⟨es, pd, hb, hK⟩ := hp.out
  obtain ⟨b, hev, hmb⟩ := ev_map hs hm
  have hke := ev_int hs hk
  obtain ⟨en, clock, hat⟩ := map_at hs.h hb hmb
  have hob := MapKept.run_getObj_map (P := P) hat.1
  have hso := fun o => MapKept.run_setObj_map (P := P) (w := w) o hat.1
  have hck := MapKept.run_checkKey (P := P) (w := w) (k := .int q n) t2 rfl en.isEmpty 9999
  have htup : ∀ (G' : Gh) (w' : World), Rep G' w' (.tup []) (.tuple #[]) := fun G' w' => .tup _ _ rfl fun i x hx => by simp at hx
  rcases hat.find n with ⟨f1, f2, f3⟩ | ⟨j, e, y, f1, f2, f3, f4, f5, f6⟩
  · rw [delE_none f2] at hK
    refine ⟨_, _, _, _, hK, map_turn hs hb hmb hat.1 (en' := en) (clock' := clock) (fun w' _ hle hb' => ⟨hb', hat.2.1, hat.2.2.1, fun i m x hx => by obtain ⟨g1, e, g2, g3, g4⟩ := hat.2.2.2.1 i m x hx; exact ⟨g1, e, g2, g3, g4.mono hle⟩, fun s i h => by cases h⟩), .inl ⟨_, ?_, htup _ _⟩⟩
    simp [execOp, resolve, invoke, builtin, Builtin.delete_, hev, hke, run_underlying t1, hob, hck, MapKept.run_findKey t2 f1, hso, Result.andThen]
  · rw [filter_erase hat.keys f4] at hK
    refine ⟨_, _, _, _, hK, map_turn hs hb hmb hat.1 (en' := en.eraseIdxIfInBounds j) (clock' := clock) (fun w' _ hle hb' => ?_), .inl ⟨_, ?_, htup _ _⟩⟩
    · have hjl := (Array.getElem?_eq_some_iff.1 f2).1
      have hel : (en.eraseIdxIfInBounds j).toList = en.toList.eraseIdx j := by
        unfold Array.eraseIdxIfInBounds
        rw [dif_pos hjl, Array.toList_eraseIdx]
      have hget : ∀ i : Nat, (en.eraseIdxIfInBounds j)[i]? = if i < j then en[i]? else en[i + 1]? := fun i => by
        rw [← Array.getElem?_toList, hel, List.getElem?_eraseIdx, Array.getElem?_toList, Array.getElem?_toList]
      refine ⟨hb', MapKept.stamped_erase hat.2.1 j, ?_, fun i m x hx => ?_, fun s i h => by cases h⟩
      · have : (en.eraseIdxIfInBounds j).toList.length = es.length - 1 := by
          rw [hel, List.length_eraseIdx, if_pos (by simpa using hjl)]
          simp [hat.2.2.1]
        have hjl' := (List.getElem?_eq_some_iff.1 f4).1
        rw [List.length_eraseIdx, if_pos hjl', ← Array.length_toList]
        exact this
      · rw [List.getElem?_eraseIdx] at hx
        rw [hget]
        split at hx
        · rename_i hij
          obtain ⟨g1, e, g2, g3, g4⟩ := hat.2.2.2.1 i m x hx
          exact ⟨g1, e, by rw [if_pos hij]; exact g2, g3, g4.mono hle⟩
        · rename_i hij
          obtain ⟨g1, e, g2, g3, g4⟩ := hat.2.2.2.1 _ m x hx
          exact ⟨g1, e, by rw [if_neg hij]; exact g2, g3, g4.mono hle⟩
    · simp [execOp, resolve, invoke, builtin, Builtin.delete_, hev, hke, run_underlying t1, hob, hck, MapKept.run_findKey t2 f1, hso, Result.andThen]

theorem does_mlen (hty : TyOK P ty) (hs : Sim E lo G S a w) {t : TypeId} {m : Operand} {q : IntKind} {z : Option AV} {id : Nat} {K : AV → AH → Prop} (ho : o.op = .call ⟨.builtin .len, ⟨[m]⟩, ⟨[t]⟩⟩) (ht : mapK ty t = some (q, z)) (hm : evA S.T m = .map id)
    (hp : (MAct.mlen id).P S.H K) : Does P E lo G S a w o K := by
  obtain ⟨dst, op, type, pos, after, guard⟩ := o
  simp only at ho
  subst ho
  obtain ⟨kt, et, ti, t1, t2, _, _⟩ := mapK_ok hty ht
  obtain ⟨q', es, pd, hb, hK⟩ := hp
  obtain ⟨b, hev, hmb⟩ := ev_map hs hm
  obtain ⟨en, clock, hat⟩ := map_at hs.h hb hmb
  have hob := MapKept.run_getObj_map (P := P) hat.1
  refine ⟨_, _, G, w, hK, hs, .inl ⟨.int .i64 en.size, ?_, by rw [hat.2.2.1]; exact .int _ _⟩⟩
  simp [execOp, resolve, invoke, builtin, Builtin.len_, hev, run_underlying t1, hob, Result.andThen, goInt]

theorem newC_new {d : Option Tmp} {x : Op} {T : List (Nat × AV)} {cs : List AV} (h : newC ty x T = some cs) (_ : o.op = x) (_ : S.T = T) (_ : d = d) : newC ty x T = some cs := h

theorem does_obj (hty : TyOK P ty) (hs : Sim E lo G S a w) {cs : List AV} {K : AV → AH → Prop} (h : newC ty o.op S.T = some cs) (hpos : 0 < cs.length) (hp : (MAct.obj cs).P S.H K) : Does P E lo G S a w o K := by
  obtain ⟨vs, e, h1, h2, h3⟩ := newC_ok (P := P) hty hs h
  obtain ⟨q1, q2, q3⟩ := eff_push hs.h (.cells vs e) cs.length (.rows cs.length [cs]) (fun hle => ⟨rfl, hpos, vs, e, heap_new w _, by simp, by simp [h2], fun i j x hx => by
    obtain ⟨r, hr, hx⟩ := cellAt_some hx
    have hi : i = 0 := by
      have := (List.getElem?_eq_some_iff.1 hr).1
      simp at this; omega
    subst hi
    simp only [List.getElem?_cons_zero, Option.some.injEq] at hr
    subst hr
    obtain ⟨g1, g2⟩ := h3 j x hx
    rw [Nat.zero_mul, Nat.zero_add]
    exact .inr ⟨g1, g2.mono hle⟩⟩)
  refine ⟨_, _, _, _, hp, hs.turn q1 q2 q3, .inl ⟨_, h1, ?_⟩⟩
  have := Rep.ptr (G := G.obj S.H.blks.length w.heap.size cs.length) (w := w.alloc (.cells vs e)) S.H.blks.length 0 0 w.heap.size cs.length (Gh.obj_self _ _ _ _)
  simpa using this

theorem does_epb (hty : TyOK P ty) (hs : Sim E lo G S a w) {cs : List AV} {K : AV → AH → Prop} (h : newC ty o.op S.T = some cs) (hp : (MAct.epb cs).P S.H K) : Does P E lo G S a w o K := by
  obtain ⟨vs, e, h1, h2, h3⟩ := newC_ok (P := P) hty hs h
  obtain ⟨q2, q3⟩ := eff_new hs.h vs e cs.length none rfl (.inl ⟨rfl, rfl⟩)
  have hle := Le.new hs.h (.cells vs e) cs.length none
  refine ⟨_, _, _, _, hp, hs.turn hle q2 q3, .inl ⟨_, h1, ?_⟩⟩
  have := Rep.ep (G := G.new w.heap.size cs.length none) (w := w.alloc (.cells vs e)) cs 0 w.heap.size 0 (fun j => vs.getD j Go.undef) (by simp [Gh.new]) (fun j x hx => by
    rw [Nat.zero_add]
    exact cell_row (heap_new w _) (by have := (List.getElem?_eq_some_iff.1 hx).1; omega)) (fun j x hx => (h3 j x hx).1) (fun j x hx => (h3 j x hx).2.mono hle)
  simpa using this

/-- New rows, tracked. -/
theorem push_rows (hH : HSim G w S.H) {s : Nat} {rows : List (List AV)} {us : Array Value} {e : TypeId} (hs : 0 < s) (hsz : rows.length * s ≤ us.size) (hrow : ∀ r ∈ rows, r.length = s) (hcell : ∀ i j x, cellAt rows i j = some x → RepU G w x (us.getD (i * s + j) Go.undef)) :
    Le G w (G.obj S.H.blks.length w.heap.size s) (w.alloc (.cells us e)) ∧ Ext G S.H w (G.obj S.H.blks.length w.heap.size s) (S.H.push (.rows s rows)) (w.alloc (.cells us e)) ∧ HSim (G.obj S.H.blks.length w.heap.size s) (w.alloc (.cells us e)) (S.H.push (.rows s rows)) :=
  eff_push hH (.cells us e) s (.rows s rows) (fun hle => ⟨rfl, hs, us, e, heap_new w _, hrow, hsz, fun i j x hx => (hcell i j x hx).mono hle⟩)
theorem rep_ms_new (H : AH) (s : Nat) (us : Array Value) (e : TypeId) (len cap : Nat) (h1 : len ≤ cap) (h2 : cap ≤ maxLen) (hsz : us.size = cap * s) : Rep (G.obj H.blks.length w.heap.size s) (w.alloc (.cells us e)) (.ms s H.blks.length 0 len) (.slice (some ⟨w.heap.size, 0, none⟩) len cap) := by
  refine .ms _ _ _ _ _ _ h1 h2 (.inl ⟨w.heap.size, by simp, Gh.obj_self _ _ _ _, e, ?_⟩)
  unfold World.shape?
  rw [heap_new]
  simp [hsz]

theorem does_mks (hty : TyOK P ty) (hs : Sim E lo G S a w) {t : TypeId} {len : Nat} {parts : Array (Nat × Operand)} {s : Nat} {rows : List (List AV)} {K : AV → AH → Prop} (ho : o.op = .buildSlice t len parts) (h : bsl ty t len parts.toList S.T = some (s, rows)) (hp : (MAct.mks s rows).P S.H K) : Does P E lo G S a w o K := by
  obtain ⟨dst, op, type, pos, after, guard⟩ := o
  simp only at ho
  subst ho
  obtain ⟨us, e, f1, f2, f3, f4, f5, f6, f7, f8⟩ := bsl_ok hty hs h
  obtain ⟨q1, q2, q3⟩ := push_rows (S := S) (e := e) hs.h f2 (by rw [f3, f6]; exact Nat.le_refl _) f7 (fun i j x hx => .inr (f8 i j x hx))
  refine ⟨_, _, _, _, hp, hs.turn q1 q2 q3, .inl ⟨.slice (some ⟨w.heap.size, 0, none⟩) len len, by simp only [execOp, Sem.run_bind]; erw [f1]; rfl, ?_⟩⟩
  rw [f3]
  exact rep_ms_new _ _ _ _ _ _ (Nat.le_refl _) f5 f6

theorem does_mkz (hty : TyOK P ty) (hs : Sim E lo G S a w) {t : TypeId} {l c : Operand} {s by_ : Nat} {ag : Bool} {z : AV} {kd : TK} {n : Int} {K : AV → AH → Prop} (ho : o.op = .makeSlice t l c) (ht : elemTI ty t = some ⟨s, by_, ag, some z, kd⟩) (hs0 : 0 < s) (hz : elemZ z s = true)
    (hl : evA S.T l = .int .i64 n) (hc : evA S.T c = .int .i64 n) (hp : (MAct.mkz s by_ n z.cellsOf).P S.H K) : Does P E lo G S a w o K := by
  obtain ⟨dst, op, type, pos, after, guard⟩ := o
  simp only at ho
  subst ho
  obtain ⟨⟨hn, hby, hmx⟩, hK⟩ : (0 ≤ n ∧ n * by_ ≤ 140737488355328 ∧ n ≤ 140737488355328) ∧ _ := ⟨hp.side, hp.out⟩
  obtain ⟨e, i, hu, hi, hisz, hiby, hiz⟩ := elemTI_ok hty ht
  have hisz : i.size = s := hisz
  have hiby : i.bytes = by_ := hiby
  obtain ⟨zv, hzv, hza⟩ := Option.bind_eq_some_iff.1 (show i.zero.bind toAV = some z from hiz)
  have hzs : zv.cells.size = s := elemZ_ok w hz hza
  have hrun := run_make (P := P) w t e i zv hu hi hzv .i64 .i64 n n hn (Int.le_refl _) (by rw [hiby, Int.mul_comm]; omega) (by omega)
  have hzrep := toAV_rep hza G w
  have hzval : z.val = true ∧ ∀ vs, z ≠ .tup vs := by
    unfold elemZ at hz
    split at hz
    · cases hz
    · rename_i hnt
      split at hz
      · rename_i hv; exact ⟨hv, hnt⟩
      · cases hz
  obtain ⟨z1, z2⟩ := hzrep.cells hzval.1 hzval.2
  have hzl : z.cellsOf.length = s := by omega
  obtain ⟨m, rfl⟩ := Int.eq_ofNat_of_zero_le hn
  simp only [Int.toNat_natCast] at hrun hK
  rw [hisz] at hrun
  have hus : (madeCells zv.cells (m * s)).size = m * s := size_madeCells _ _
  obtain ⟨q1, q2, q3⟩ := push_rows (S := S) (e := e) (us := madeCells zv.cells (m * s)) (rows := List.replicate m z.cellsOf) hs.h hs0 (by rw [hus, List.length_replicate]; exact Nat.le_refl _)
    (fun r hr => by rw [(List.mem_replicate.1 hr).2]; exact hzl) (fun i' j x hx => by
      obtain ⟨r, hr, hx⟩ := cellAt_some hx
      obtain ⟨hr1, hr2⟩ := List.getElem?_eq_some_iff.1 hr
      simp only [List.getElem_replicate] at hr2
      subst hr2
      simp only [List.length_replicate] at hr1
      have hj := (List.getElem?_eq_some_iff.1 hx).1
      have hlt := row_lt (z := s) (n := m) hr1 (j := j) (by omega)
      obtain ⟨g1, g2⟩ := z2 j x hx
      have hget : (madeCells zv.cells (m * s)).getD (i' * s + j) Go.undef = zv.cells.getD j Go.undef := by
        unfold madeCells
        rw [Array.getD_eq_getD_getElem?, Array.getElem?_map, Array.getElem?_range, if_pos hlt]
        have : (i' * s + j) % zv.cells.size = j := by rw [hzs, Nat.mul_comm, Nat.mul_add_mod, Nat.mod_eq_of_lt (by omega)]
        simp only [Option.map_some, Option.getD_some, this]
        rw [Array.getD_eq_getD_getElem?, getElem!_def]
        have hjz : j < zv.cells.size := by omega
        simp [hjz]
      rw [hget]
      exact .inr ⟨g1, g2⟩)
  refine ⟨_, _, _, _, hK, hs.turn q1 q2 q3, .inl ⟨.slice (some ⟨w.heap.size, 0, none⟩) m m, ?_, ?_⟩⟩
  · simp [execOp, ev_int hs hl, ev_int hs hc, hrun]
  · exact rep_ms_new _ _ _ _ _ _ (Nat.le_refl _) (by have : maxLen = 9223372036854775807 := rfl; omega) hus
end
end Go.Proofs.Ytecpiplfjmmccaa.AM

/-
  Tracked memory: a slice that turns grows, or is cleared; every operation does what its action says (mem_ok).
  Conditions: the table of types tells of the program's.
-/
namespace Go.Proofs.Ytecpiplfjmmccaa.AM
open Go

section
variable {E : Env} {P : Program} {ty : TypeId → Option TI} {md : Nat → Nat} {lo : Nat → Nat} {G : Gh} {S : AS} {a : Act} {w : World} {o : Oper}

theorem rows_at (hH : HSim G w S.H) {id b z z' : Nat} {l : List (List AV)} (hb : S.H.blks[id]? = some (.rows z l)) (hm : G.mb id = some (b, z')) : z' = z ∧ 0 < z ∧ ∃ vs e, w.heap[b]? = some (.cells vs e (0, 0)) ∧ (∀ r ∈ l, r.length = z) ∧ l.length * z ≤ vs.size ∧ ∀ i j x, cellAt l i j = some x → RepU G w x (vs.getD (i * z + j) Go.undef) := by
  rcases hH.at_ id _ hb rfl with ⟨b', z1, g1, g2, _, _⟩ | ⟨g1, _⟩
  · rw [hm] at g1
    simp only [Option.some.injEq, Prod.mk.injEq] at g1
    obtain ⟨rfl, rfl⟩ := g1
    exact g2
  · rw [hm] at g1; cases g1
theorem cellAt_take {l : List (List AV)} {n i j : Nat} {x : AV} (h : cellAt (l.take n) i j = some x) : i < n ∧ cellAt l i j = some x := by
  obtain ⟨r, h1, h2⟩ := cellAt_some h
  rw [List.getElem?_take] at h1
  split at h1
  · rename_i hi; exact ⟨hi, by unfold cellAt; rw [h1]; exact h2⟩
  · cases h1

/-- What is appended. -/
theorem srcK_ok (hty : TyOK P ty) (hH : HSim G w S.H) {s : Nat} {y : AV} {vy : Value} {u : TypeId} {tu : TI} {K : List (List AV) → Prop} (hu : elemTI ty u = some tu) (hs : 0 < s) (hy : Rep G w y vy) (h : srcK S.H s y K) :
    ∃ (news : List (List AV)) (nc : List Value), K news ∧ Src P s u vy news.length nc w ∧ nc.length = news.length * s ∧ (∀ r ∈ news, r.length = s) ∧ ∀ i j x, cellAt news i j = some x → x.one = true ∧ Rep G w x (nc.getD (i * s + j) Go.undef) := by
  unfold srcK at h
  split at h
  · rename_i z rows tok
    split at h
    · rename_i hz
      obtain ⟨nc, h1, h2, h3, h4⟩ := src_ok (P := P) (news := rows) hty hu hs (by simp [rowsOf, hz]) hy
      exact ⟨rows, nc, h, h1, h2, h3, h4⟩
    · cases h
  · obtain ⟨nc, h1, h2, h3, h4⟩ := src_ok (P := P) (news := []) hty hu hs rfl hy
    exact ⟨[], nc, h, h1, h2, h3, h4⟩
  · rename_i z id off len
    split at h
    · rename_i hz
      have hz := Nat.eq_of_beq_eq_true hz
      subst hz
      obtain ⟨l, hl, hlen, hone, hK⟩ := h.out
      have hk : ∃ e', P.underlying u = some (.slice e') := by
        unfold elemTI at hu
        split at hu
        · rename_i e h0; exact ⟨e, kind_slice (hty _ _ h0) rfl⟩
        · cases hu
      obtain ⟨e', hk⟩ := hk
      have hnl : ((l.drop off).take len).length = len := by simp; omega
      cases hy with
      | ms _ _ _ _ c A hlc hc hsh =>
      rcases Nat.eq_zero_or_pos len with h0 | h0
      · subst h0
        have hn : (l.drop off).take 0 = [] := by simp
        rw [hn] at hK
        refine ⟨[], [], hK, ?_, by simp, (fun r h => by cases h), fun i j x h => by simp [cellAt] at h⟩
        cases A with
        | none => exact Src.ofNil w hk c
        | some a' => exact Src.ofSlice w hk a' 0 c [] (by simp) (fun j u h => by simp at h) (fun u h => by cases h)
      · rcases hsh with ⟨b, rfl, hmb, e, hshp⟩ | hc0
        rotate_left
        · omega
        obtain ⟨_, _, vs, e2, g1, g2, g3, g4⟩ := rows_at hH hl hmb
        have hmul : off * z + len * z ≤ vs.size := by
          have := Nat.mul_le_mul_right z hlen
          rw [Nat.add_mul] at this; omega
        have hncl : ((vs.toList.drop (off * z)).take (len * z)).length = len * z := by simp; omega
        have hget : ∀ j, j < len * z → ((vs.toList.drop (off * z)).take (len * z))[j]? = some (vs.getD (off * z + j) Go.undef) := fun j hj => by
          rw [List.getElem?_take, if_pos hj, List.getElem?_drop, Array.getElem?_toList, Array.getD_eq_getD_getElem?, Array.getElem?_eq_getElem (by omega)]
          simp
        have hcells : ∀ i j x, i < len → cellAt l (off + i) j = some x → x.one = true ∧ Rep G w x (vs.getD (off * z + (i * z + j)) Go.undef) := fun i j x hi hx => by
          have h1 := hone i j x hi hx
          rcases g4 _ _ x hx with rfl | ⟨_, h2⟩
          · cases h1
          · refine ⟨h1, ?_⟩
            rw [Nat.add_mul, Nat.add_assoc] at h2
            exact h2
        refine ⟨_, (vs.toList.drop (off * z)).take (len * z), hK, ?_, by rw [hnl]; exact hncl, fun r hr => g2 r (List.mem_of_mem_drop (List.mem_of_mem_take hr)), fun i j x hx => ?_⟩
        · rw [hnl]
          refine Src.ofSlice w hk ⟨b, off * z, none⟩ len c _ hncl (fun j u hu' => ?_) (fun u hu' => ?_)
          · have hj := (List.getElem?_eq_some_iff.1 hu').1
            rw [hncl] at hj
            rw [hget j hj] at hu'
            simp only [Option.some.injEq] at hu'
            rw [Addr.add_mid, ← hu']
            exact cell_row g1 (by omega)
          · obtain ⟨j, hj⟩ := List.mem_iff_getElem?.1 hu'
            have hjl := (List.getElem?_eq_some_iff.1 hj).1
            rw [hncl] at hjl
            rw [hget j hjl] at hj
            simp only [Option.some.injEq] at hj
            have hz : 0 < z := hs
            have hi : j / z < len := by rw [Nat.div_lt_iff_lt_mul hz]; exact hjl
            obtain ⟨x, hx⟩ := cellAt_full (rows := l) g2 (i := off + j / z) (j := j % z) (by omega) (Nat.mod_lt _ hz)
            obtain ⟨q1, q2⟩ := hcells (j / z) (j % z) x hi hx
            have e3 : j / z * z + j % z = j := by rw [Nat.mul_comm]; exact Nat.div_add_mod j z
            rw [e3, hj] at q2
            exact q2.oneCell q1
        · have hsub := cellAt_sub hx
          have hi : i < len := by
            obtain ⟨r, hr, _⟩ := cellAt_some hx
            have := (List.getElem?_eq_some_iff.1 hr).1
            omega
          obtain ⟨q1, q2⟩ := hcells i j x hi hsub
          refine ⟨q1, ?_⟩
          have hj : j < z := by
            obtain ⟨r, hr, hx'⟩ := cellAt_some hsub
            have := (List.getElem?_eq_some_iff.1 hx').1
            rw [g2 r (List.mem_of_getElem? hr)] at this
            exact this
          have := row_lt hi hj
          rw [List.getD_eq_getElem?_getD, hget _ this]
          exact q2
    · cases h
  · cases h

/-- A new row: olds, news, zeros. -/
theorem grow_cellsU {s n m cap : Nat} {z : Value} {oc nc : List Value} {rows news : List (List AV)} (hz : z.cells.size = s) (ho : oc.length = n * s) (hn : nc.length = m * s) (hr : rows.length = n) (hm : news.length = m) (hcap : n + m ≤ cap)
    (h1 : ∀ r ∈ rows, r.length = s) (h2 : ∀ r ∈ news, r.length = s) (g1 : ∀ i j x, cellAt rows i j = some x → RepU G w x (oc.getD (i * s + j) Go.undef)) (g2 : ∀ i j x, cellAt news i j = some x → x.one = true ∧ Rep G w x (nc.getD (i * s + j) Go.undef)) :
    ((oc ++ nc).toArray ++ Builtin.zeroCells z.cells (cap - (n + m))).size = cap * s ∧ (∀ r ∈ rows ++ news, r.length = s) ∧
    ∀ i j x, cellAt (rows ++ news) i j = some x → RepU G w x (((oc ++ nc).toArray ++ Builtin.zeroCells z.cells (cap - (n + m))).getD (i * s + j) Go.undef) := by
  have hk : ∀ r ∈ rows ++ news, r.length = s := fun r hr => by
    rcases List.mem_append.1 hr with h | h
    · exact h1 r h
    · exact h2 r h
  refine ⟨?_, hk, fun i j x hx => ?_⟩
  · rw [Array.size_append, size_zeroCells, hz]
    simp only [List.size_toArray, List.length_append, ho, hn]
    rw [← Nat.add_mul, ← Nat.add_mul]
    congr 1
    omega
  · have hlt := cellAt_lt hk hx
    simp only [List.length_append, hr, hm] at hlt
    have hlt' := row_lt hlt.1 hlt.2
    rw [Nat.add_mul] at hlt'
    rw [Array.getD_eq_getD_getElem?, Array.getElem?_append_left (by simp [ho, hn]; omega), List.getElem?_toArray]
    rw [cellAt_append] at hx
    split at hx
    · rename_i hi
      have := row_lt (z := s) (i := i) (j := j) (n := n) (by omega) hlt.2
      rw [List.getElem?_append_left (by omega), ← List.getD_eq_getElem?_getD]
      exact g1 i j x hx
    · rename_i hi
      have h3 : n * s ≤ i * s := Nat.mul_le_mul_right s (by omega)
      rw [List.getElem?_append_right (by omega), ho, ← List.getD_eq_getElem?_getD]
      have := g2 _ j x hx
      rw [hr, Nat.sub_mul] at this
      rw [show i * s + j - n * s = i * s - n * s + j by omega]
      exact .inr this

theorem does_app (hty : TyOK P ty) (hs : Sim E lo G S a w) {t u : TypeId} {x y : Operand} {s by_ : Nat} {ag : Bool} {z : AV} {kd : TK} {tu : TI} {K : AV → AH → Prop} (ho : o.op = .call ⟨.builtin .append, ⟨[x, y]⟩, ⟨[t, u]⟩⟩) (hu : elemTI ty u = some tu) (ht : elemTI ty t = some ⟨s, by_, ag, some z, kd⟩)
    (hs0 : 0 < s) (hb0 : 0 < by_) (hez : elemZ z s = true) (hp : (MAct.app s by_ (evA S.T x) (evA S.T y)).P S.H K) : Does P E lo G S a w o K := by
  obtain ⟨dst, op, type, pos, after, guard⟩ := o
  simp only at ho
  subst ho
  have hp : srcK S.H s (evA S.T y) fun news => match evA S.T x with
    | .nils => SideVC (news.length * by_ ≤ 140737488355328) (K (.ms s S.H.blks.length 0 news.length) (S.H.push (.rows s news)))
    | .ms z id 0 len => match Nat.beq z s with
      | true => RowsVC S.H id s fun l => SideVC (len ≤ l.length ∧ (len + news.length) * by_ ≤ 140737488355328) (K (.ms s S.H.blks.length 0 (len + news.length)) ((S.H.upd id .dead).push (.rows s (l.take len ++ news))))
      | false => False
    | _ => False := hp
  have hyv : (evA S.T y).val = true := by
    unfold srcK at hp
    cases hye : evA S.T y <;> rw [hye] at hp <;> first | rfl | (exact hp.elim)
  obtain ⟨news, nc, hK, src, ncl, nrow, ncell⟩ := srcK_ok hty hs.h hu hs0 ((evA_ok hs y).rep (.inl hyv)) hp
  obtain ⟨e, i, hte, hi, hisz, hiby, hiz⟩ := elemTI_ok hty ht
  have hisz : i.size = s := hisz
  have hiby : i.bytes = by_ := hiby
  obtain ⟨zv, hzv, hza⟩ := Option.bind_eq_some_iff.1 (show i.zero.bind toAV = some z from hiz)
  have hzs : zv.cells.size = s := elemZ_ok w hez hza
  have hexec : ∀ {v : Value} {w' : World}, (Builtin.append_ #[t, u] type #[a.eval x, a.eval y]).run P w = .ok v w' → (execOp a.eval ⟨dst, .call ⟨.builtin .append, ⟨[x, y]⟩, ⟨[t, u]⟩⟩, type, pos, after, guard⟩).run P w = .ok (.value v) w' := fun h => by
    simp [execOp, resolve, invoke, builtin, h]
  rw [← hisz] at src
  -- a new row, in the place of the block that there was
  have grow : ∀ (S' : AS) (rows : List (List AV)) (cap : Nat) (base : Option Addr) (oc : List Value), Sim E lo G S' a w → a.eval x = .slice base rows.length cap → 0 < news.length → cap < rows.length + news.length → (rows.length + news.length) * by_ ≤ 140737488355328 →
      oc.length = rows.length * s → (∀ q ∈ rows, q.length = s) → (∀ i j x, cellAt rows i j = some x → RepU G w x (oc.getD (i * s + j) Go.undef)) →
      (Builtin.firstCells i.size rows.length (.slice base rows.length cap)).run P w.drew = .ok oc.toArray w.drew →
      ∃ v G' w', (Builtin.append_ #[t, u] type #[a.eval x, a.eval y]).run P w = .ok v w' ∧ Sim E lo G' { S' with H := S'.H.push (.rows s (rows ++ news)) } a w' ∧ Rep G' w' (.ms s S'.H.blks.length 0 (rows.length + news.length)) v := by
    intro S' rows cap base oc hs' hv hm hcap hbd hol hrow hcell hfst
    have hnb : rows.length + news.length ≤ 140737488355328 := by
      have : (rows.length + news.length) * 1 ≤ (rows.length + news.length) * by_ := Nat.mul_le_mul_left _ hb0
      omega
    have hrun := run_append_grow_src (P := P) w t u type e i zv hte hi hzv base rows.length cap oc hfst (a.eval y) news.length nc src hcap (by omega) (by rw [hiby]; exact growslice_fits hcap hbd)
    have hge := grownCap_ge w (rows.length + news.length) cap e
    have hmax := grownCap_le_maxLen w (rows.length + news.length) cap e (by have : maxLen = 9223372036854775807 := rfl; omega)
    obtain ⟨k1, k2, k3⟩ := grow_cellsU (G := G) (w := w) (s := s) (cap := grownCap w (rows.length + news.length) cap e) hzs hol ncl rfl rfl hge hrow nrow hcell ncell
    generalize (oc ++ nc).toArray ++ Builtin.zeroCells zv.cells (grownCap w (rows.length + news.length) cap e - (rows.length + news.length)) = us at hrun k1 k3
    have hsD := hs'.draws 1
    obtain ⟨q1, q2, q3⟩ := push_rows (S := S') (w := w.drew) (e := e) (us := us) (rows := rows ++ news) hsD.h hs0 (by rw [k1]; exact Nat.mul_le_mul_right s (by simpa using hge)) k2 (fun i j x hx => (k3 i j x hx).mono (Le.drew G w))
    refine ⟨_, _, _, by rw [hv]; exact hrun, hsD.turn q1 q2 q3, ?_⟩
    exact rep_ms_new (w := w.drew) S'.H s us e _ _ hge hmax k1
  split at hK
  · -- onto nil
    rename_i hx
    have hxv : a.eval x = .slice none 0 0 := by
      have hr := evA_ok hs x
      rw [hx] at hr
      have hr := hr.rep (.inl rfl)
      generalize a.eval x = v at hr
      cases hr; rfl
    obtain ⟨hbd, hK⟩ := hK
    rcases Nat.eq_zero_or_pos news.length with h0 | h0
    · have hnw : news = [] := List.eq_nil_of_length_eq_zero h0
      subst hnw
      have hnc : nc = [] := List.eq_nil_of_length_eq_zero (by rw [ncl]; simp)
      subst hnc
      have hrun := run_append_nothing (P := P) w t u type e i hte hi none 0 0 (Nat.le_refl _) (a.eval y) src
      obtain ⟨q1, q2⟩ := eff_empty hs.h s hs0
      exact ⟨_, _, G, w, hK, hs.turn (Le.refl _ _) q1 q2, .inl ⟨_, hexec (by rw [hxv]; exact hrun), .ms _ _ _ _ _ _ (Nat.le_refl _) (by simp [maxLen]) (.inr rfl)⟩⟩
    · obtain ⟨v, G', w', g1, g2, g3⟩ := grow S [] 0 none [] hs hxv h0 (by simpa using h0) (by simpa using hbd) (by simp) (by simp) (fun i j x hx => by simp [cellAt] at hx) (run_firstCells_none w.drew i.size 0 0 0)
      exact ⟨_, _, G', w', hK, by simpa using g2, .inl ⟨v, hexec g1, by simpa using g3⟩⟩
  · rename_i z' id len hx
    split at hK
    rotate_left
    · cases hK
    rename_i hzz
    have hzz := Nat.eq_of_beq_eq_true hzz
    subst hzz
    obtain ⟨l, hl, hK⟩ := hK.out
    obtain ⟨⟨hll, hbd⟩, hK⟩ := hK
    have hr := evA_ok hs x
    rw [hx] at hr
    have hr := hr.rep (.inl rfl)
    generalize hxv : a.eval x = xv at hr
    cases hr with
    | ms _ _ _ _ c A hlc hc hsh =>
    have htl : (l.take len).length = len := by simp; omega
    have hdl : (S.H.upd id .dead).blks.length = S.H.blks.length := AH.upd_len
    obtain ⟨d1, d2⟩ := eff_dead hs.h id
    have hsd := hs.turn (Le.refl _ _) d1 d2
    rcases hsh with ⟨b, rfl, hmb, e1, hshp⟩ | hc0
    · obtain ⟨_, _, vs, e2, g1, g2, g3, g4⟩ := rows_at hs.h hl hmb
      have hvs : vs.size = c * z' := by
        simp only [World.shape?, g1, Option.some.injEq, Prod.mk.injEq] at hshp
        rw [hshp.2]; simp
      have hlz : len * z' ≤ vs.size := by rw [hvs]; exact Nat.mul_le_mul_right z' hlc
      simp only [Nat.zero_mul] at hxv
      have hrowt : ∀ q ∈ l.take len, q.length = z' := fun q hq => g2 q (List.mem_of_mem_take hq)
      rcases Nat.lt_or_ge c (len + news.length) with hcap | hroom
      · have hm : 0 < news.length := by omega
        have hocl : (vs.toList.take (len * z')).length = (l.take len).length * z' := by rw [htl]; simp; omega
        have hget : ∀ j, j < len * z' → (vs.toList.take (len * z'))[j]? = some (vs.getD j Go.undef) := fun j hj => by
          rw [List.getElem?_take, if_pos hj, Array.getElem?_toList, Array.getD_eq_getD_getElem?, Array.getElem?_eq_getElem (by omega)]
          simp
        obtain ⟨v, G', w', f1, f2, f3⟩ := grow _ (l.take len) c (some ⟨b, 0, none⟩) (vs.toList.take (len * z')) hsd (by rw [htl]; exact hxv) hm (by rw [htl]; exact hcap) (by rw [htl]; exact hbd) hocl hrowt
          (fun i j x hx => by
            obtain ⟨h1, h2⟩ := cellAt_take hx
            have hj : j < z' := (cellAt_lt g2 h2).2
            rw [List.getD_eq_getElem?_getD, hget _ (row_lt h1 hj)]
            exact g4 i j x h2)
          (by
            rw [htl, hisz]
            refine run_firstCells_some w.drew z' len ⟨b, 0, none⟩ len c _ (by simpa [htl] using hocl) (fun j u hu' => ?_)
            have hj := (List.getElem?_eq_some_iff.1 hu').1
            rw [hocl, htl] at hj
            rw [hget j hj] at hu'
            simp only [Option.some.injEq] at hu'
            rw [Addr.add_mid, ← hu', Nat.zero_add]
            exact cell_row (w := w.drew) g1 (by omega))
        rw [htl] at f3
        simp only [hdl] at f3
        exact ⟨_, _, G', w', hK, f2, .inl ⟨v, hexec f1, f3⟩⟩
      · -- there is room: in its place
        rcases Nat.eq_zero_or_pos news.length with h0 | h0
        · have hnw : news = [] := List.eq_nil_of_length_eq_zero h0
          subst hnw
          have hnc : nc = [] := List.eq_nil_of_length_eq_zero (by rw [ncl]; simp)
          subst hnc
          have hrun := run_append_nothing (P := P) w t u type e i hte hi (some ⟨b, 0, none⟩) len c hlc (a.eval y) src
          obtain ⟨q1, q2, q3⟩ := eff_blk (B' := .rows z' (l.take len)) hs.h hl rfl hmb (Kin.refl w) rfl (fun _ _ => rfl) (fun _ h => h) (fun hle => ⟨rfl, hs0, vs, e2, g1, hrowt, by rw [htl]; exact hlz, fun i j x hx => g4 i j x (cellAt_take hx).2⟩)
          have hs1 := hs.turn q1 q2 q3
          obtain ⟨r1, r2, r3⟩ := eff_move hs1.h (AH.upd_same hl) rfl hmb
          have hs2 := hs1.turn r1 r2 r3
          have hH : ((S.H.upd id (.rows z' (l.take len))).upd id .dead).push (.rows z' (l.take len)) = (S.H.upd id .dead).push (.rows z' (l.take len ++ [])) := by simp [AH.upd, AH.push]
          refine ⟨_, _, _, w, hK, by rw [← hH]; exact hs2, .inl ⟨_, hexec (by rw [hxv]; exact hrun), ?_⟩⟩
          have hnl : (S.H.upd id (.rows z' (l.take len))).blks.length = S.H.blks.length := AH.upd_len
          refine .ms _ _ _ _ _ _ (by simpa using hlc) hc (.inl ⟨b, by simp, ?_, e1, hshp⟩)
          show (G.obj (S.H.upd id (.rows z' (l.take len))).blks.length b z').mb _ = _
          rw [hnl]; exact Gh.obj_self _ _ _ _
        · have hfit : len * z' + nc.length ≤ vs.size := by
            rw [hvs, ncl, ← Nat.add_mul]; exact Nat.mul_le_mul_right z' hroom
          have hrun := run_append_room_row (P := P) (w := w) t u type e i hte hi b len c (a.eval y) news.length nc src vs e2 g1 hroom (by rw [hisz]; exact hfit)
          rw [hisz] at hrun
          have hget := row_get vs nc (len * z') hfit
          have hsz := row_size vs nc (len * z') hfit
          have hnew := setRow_heap w b vs (vs.toList.take (len * z') ++ nc ++ vs.toList.drop (len * z' + nc.length)).toArray e2 (0, 0) g1
          have hoth : ∀ k, k ≠ b → (w.setRow b (vs.toList.take (len * z') ++ nc ++ vs.toList.drop (len * z' + nc.length)).toArray).heap[k]? = w.heap[k]? := fun k hk => setRow_other w b k _ hk
          have hkin : Kin w (w.setRow b (vs.toList.take (len * z') ++ nc ++ vs.toList.drop (len * z' + nc.length)).toArray) := ⟨by simp, by simp, by simp⟩
          have hhs : (w.setRow b (vs.toList.take (len * z') ++ nc ++ vs.toList.drop (len * z' + nc.length)).toArray).heap.size = w.heap.size := by simp
          generalize hw : w.setRow b (vs.toList.take (len * z') ++ nc ++ vs.toList.drop (len * z' + nc.length)).toArray = w' at hrun hnew hoth hkin hhs
          generalize (vs.toList.take (len * z') ++ nc ++ vs.toList.drop (len * z' + nc.length)).toArray = us' at hget hsz hnew
          have hsh' : ∀ s', w.shape? b = some s' → w'.shape? b = some s' := fun s' hs' => by
            simp only [World.shape?, g1, hnew, Option.some.injEq] at hs' ⊢
            rw [← hs', hsz]
          have hk' : ∀ q ∈ l.take len ++ news, q.length = z' := fun q hq => by
            rcases List.mem_append.1 hq with hq | hq
            · exact hrowt q hq
            · exact nrow q hq
          have hlen' : (l.take len ++ news).length = len + news.length := by simp; omega
          obtain ⟨q1, q2, q3⟩ := eff_blk (B' := .rows z' (l.take len ++ news)) hs.h hl rfl hmb hkin hhs hoth hsh' (fun hle => ⟨rfl, hs0, us', e2, hnew, hk', by rw [hlen', hsz, hvs]; exact Nat.mul_le_mul_right z' hroom, fun i j x hx => by
            have hlt := cellAt_lt hk' hx
            rw [hget]
            rw [cellAt_append] at hx
            split at hx
            · rename_i hi'
              rw [htl] at hi'
              have := row_lt hi' hlt.2
              rw [if_pos this]
              exact (g4 i j x (cellAt_take hx).2).mono hle
            · rename_i hi'
              rw [htl] at hi' hx
              have h3 : len * z' ≤ i * z' := Nat.mul_le_mul_right z' (by omega)
              have h4 := row_lt (z := z') (i := i) (j := j) (n := (l.take len ++ news).length) hlt.1 hlt.2
              rw [hlen', Nat.add_mul, ← ncl] at h4
              rw [if_neg (by omega), if_pos h4]
              have := ncell _ j x hx
              rw [Nat.sub_mul] at this
              rw [show i * z' + j - len * z' = i * z' - len * z' + j by omega]
              exact .inr ⟨this.1, this.2.mono hle⟩⟩)
          have hs1 := hs.turn q1 q2 q3
          obtain ⟨r1, r2, r3⟩ := eff_move hs1.h (AH.upd_same hl) rfl hmb
          have hs2 := hs1.turn r1 r2 r3
          have hH : ((S.H.upd id (.rows z' (l.take len ++ news))).upd id .dead).push (.rows z' (l.take len ++ news)) = (S.H.upd id .dead).push (.rows z' (l.take len ++ news)) := by simp [AH.upd, AH.push]
          refine ⟨_, _, _, w', hK, by rw [← hH]; exact hs2, .inl ⟨_, hexec (by rw [hxv]; exact hrun), ?_⟩⟩
          have hnl : (S.H.upd id (.rows z' (l.take len ++ news))).blks.length = S.H.blks.length := AH.upd_len
          refine .ms _ _ _ _ _ _ hroom hc (.inl ⟨b, by simp, ?_, e1, hsh' _ hshp⟩)
          show (G.obj (S.H.upd id (.rows z' (l.take len ++ news))).blks.length b z').mb _ = _
          rw [hnl]; exact Gh.obj_self _ _ _ _
    · subst hc0
      have hlen0 : len = 0 := by omega
      subst hlen0
      rcases Nat.eq_zero_or_pos news.length with h0 | h0
      · have hnw : news = [] := List.eq_nil_of_length_eq_zero h0
        subst hnw
        have hnc : nc = [] := List.eq_nil_of_length_eq_zero (by rw [ncl]; simp)
        subst hnc
        have hrun := run_append_nothing (P := P) w t u type e i hte hi A 0 0 hlc (a.eval y) src
        obtain ⟨q1, q2⟩ := eff_empty hsd.h z' hs0
        refine ⟨_, _, G, w, hK, ?_, .inl ⟨_, hexec (by rw [hxv]; exact hrun), .ms _ _ _ _ _ _ (by simp) hc (.inr rfl)⟩⟩
        simpa using hsd.turn (Le.refl _ _) q1 q2
      · obtain ⟨v, G', w', f1, f2, f3⟩ := grow _ [] 0 A [] hsd hxv h0 (by simpa using h0) (by simpa using hbd) (by simp) (by simp) (fun i j x hx => by simp [cellAt] at hx) (by
          cases A with
          | none => exact run_firstCells_none w.drew i.size 0 0 0
          | some a' => exact run_firstCells_some w.drew i.size 0 a' 0 0 [] (by simp) (fun j u h => by simp at h))
        simp only [hdl] at f3
        refine ⟨_, _, G', w', hK, by simpa using f2, .inl ⟨v, hexec f1, by simpa using f3⟩⟩
  · cases hK
end
end Go.Proofs.Ytecpiplfjmmccaa.AM

/-
  Tracked memory: a slice is cleared; every operation does what its action says (mem_ok).
  Conditions: the table of types tells of the program's.
-/
namespace Go.Proofs.Ytecpiplfjmmccaa.AM
open Go

section
variable {E : Env} {P : Program} {ty : TypeId → Option TI} {md : Nat → Nat} {lo : Nat → Nat} {G : Gh} {S : AS} {a : Act} {w : World} {o : Oper}

theorem does_clr (hty : TyOK P ty) (hs : Sim E lo G S a w) {t : TypeId} {x : Operand} {s by_ : Nat} {ag : Bool} {z : AV} {kd : TK} {id off len : Nat} {K : AV → AH → Prop} (ho : o.op = .call ⟨.builtin .clear, ⟨[x]⟩, ⟨[t]⟩⟩) (ht : elemTI ty t = some ⟨s, by_, ag, some z, kd⟩) (hz : elemZ z s = true)
    (hx : evA S.T x = .ms s id off len) (hp : (MAct.clr s id off len).P S.H K) : Does P E lo G S a w o K := by
  obtain ⟨dst, op, type, pos, after, guard⟩ := o
  simp only at ho
  subst ho
  obtain ⟨l, hl, hK⟩ := hp.out
  obtain ⟨e, i, hte, hi, hisz, hiby, hiz⟩ := elemTI_ok hty ht
  obtain ⟨zv, hzv, hza⟩ := Option.bind_eq_some_iff.1 (show i.zero.bind toAV = some z from hiz)
  have hzs : zv.cells.size = s := elemZ_ok w hz hza
  have hzval : z.val = true ∧ ∀ vs, z ≠ .tup vs := by
    unfold elemZ at hz
    split at hz
    · cases hz
    · rename_i hnt
      split at hz
      · rename_i hv; exact ⟨hv, hnt⟩
      · cases hz
  have hone := (ones_cells (toAV_rep hza G w) hzval.1 hzval.2).2.1
  have hr := evA_ok hs x
  rw [hx] at hr
  have hr := hr.rep (.inl rfl)
  generalize hxv : a.eval x = xv at hr
  have htup : ∀ (G' : Gh) (w' : World), Rep G' w' (.tup []) (.tuple #[]) := fun G' w' => .tup _ _ rfl fun i x hx => by simp at hx
  have hexec : ∀ {v : Value} {w' : World}, (Builtin.clear_ #[t] type #[a.eval x]).run P w = .ok v w' → (execOp a.eval ⟨dst, .call ⟨.builtin .clear, ⟨[x]⟩, ⟨[t]⟩⟩, type, pos, after, guard⟩).run P w = .ok (.value v) w' := fun h => by
    simp [execOp, resolve, invoke, builtin, h]
  cases hr with
  | ms _ _ _ _ c A hlc hc hsh =>
  have same : (Builtin.clear_ #[t] type #[a.eval x]).run P w = .ok (.tuple #[]) w → Does P E lo G S a w ⟨dst, .call ⟨.builtin .clear, ⟨[x]⟩, ⟨[t]⟩⟩, type, pos, after, guard⟩ K := fun hrun => by
    rcases hs.h.at_ id _ hl rfl with ⟨b, z', h1, ⟨h2, h3, vs, e2, h4, h5, h6, h7⟩, _, _⟩ | ⟨h1, z', h2, h3⟩
    · obtain ⟨q1, q2, q3⟩ := eff_blk (B' := .rows s (l.take off)) hs.h hl rfl h1 (Kin.refl w) rfl (fun _ _ => rfl) (fun _ h => h) (fun hle => ⟨h2, h3, vs, e2, h4, fun r hr => h5 r (List.mem_of_mem_take hr), by
        have : (l.take off).length * s ≤ l.length * s := Nat.mul_le_mul_right s (by simp; omega)
        omega, fun i j x hx => h7 i j x (cellAt_take hx).2⟩)
      exact ⟨_, _, _, _, hK, hs.turn q1 q2 q3, .inl ⟨_, hexec hrun, htup _ _⟩⟩
    · simp only [ABlk.rows.injEq] at h3
      obtain ⟨rfl, rfl⟩ := h3
      simp only [List.take_nil] at hK
      refine ⟨_, _, G, w, hK, ?_, .inl ⟨_, hexec hrun, htup _ _⟩⟩
      have hu : S.H.upd id (.rows s []) = S.H := by
        unfold AH.upd
        rw [set_self _ _ _ hl]
      rw [hu]; exact hs
  cases A with
  | none => exact same (by rw [hxv]; simp [Builtin.clear_, run_underlying hte])
  | some a' =>
    cases len with
    | zero => exact same (by rw [hxv]; simp [Builtin.clear_, run_underlying hte])
    | succ m =>
      rcases hsh with ⟨b, hA, hmb, e1, hshp⟩ | hc0
      rotate_left
      · omega
      simp only [Option.some.injEq] at hA
      subst hA
      obtain ⟨_, h3, vs, e2, g1, g2, g3, g4⟩ := rows_at hs.h hl hmb
      have hvs : vs.size = (off + c) * s := by
        simp only [World.shape?, g1, Option.some.injEq, Prod.mk.injEq] at hshp
        exact hshp.2
      have hzc : (Builtin.zeroCells zv.cells (m + 1)).toList.length = (m + 1) * s := by
        rw [Array.length_toList, size_zeroCells, hzs]
      have hfit : off * s + (m + 1) * s ≤ vs.size := by rw [hvs, ← Nat.add_mul]; exact Nat.mul_le_mul_right s (by omega)
      have h1 : ∀ u ∈ (Builtin.zeroCells zv.cells (m + 1)).toList, u.oneCell' = true := by
        intro u hu
        simp only [Builtin.zeroCells, Array.toList_map, List.mem_map, Array.toList_range, List.mem_range] at hu
        obtain ⟨k, hk, rfl⟩ := hu
        have hkz : k % zv.cells.size < zv.cells.size := Nat.mod_lt _ (by omega)
        refine hone _ ?_
        simp [hkz]
      have hst := run_storeCells_at P b (off * s) e2 (Builtin.zeroCells zv.cells (m + 1)).toList 0 vs w g1 (by rw [hzc]; omega) h1
      simp only [Nat.add_zero] at hst
      have hrun : (Builtin.clear_ #[t] type #[a.eval x]).run P w = .ok (.tuple #[]) (w.setRow b (vs.toList.take (off * s) ++ (Builtin.zeroCells zv.cells (m + 1)).toList ++ vs.toList.drop (off * s + (Builtin.zeroCells zv.cells (m + 1)).toList.length)).toArray) := by
        rw [hxv]
        simp only [Builtin.clear_, List.getElem?_toArray, List.getElem?_cons_zero, Sem.run_bind, run_underlying hte, Result.andThen_ok, zeroValue, typeInfo, run_program, hi, hzv, Sem.run_pure, hst]
      have hget := row_get vs (Builtin.zeroCells zv.cells (m + 1)).toList (off * s) (by rw [hzc]; exact hfit)
      have hsz := row_size vs (Builtin.zeroCells zv.cells (m + 1)).toList (off * s) (by rw [hzc]; exact hfit)
      have hnew := setRow_heap w b vs (vs.toList.take (off * s) ++ (Builtin.zeroCells zv.cells (m + 1)).toList ++ vs.toList.drop (off * s + (Builtin.zeroCells zv.cells (m + 1)).toList.length)).toArray e2 (0, 0) g1
      have hoth : ∀ k, k ≠ b → (w.setRow b (vs.toList.take (off * s) ++ (Builtin.zeroCells zv.cells (m + 1)).toList ++ vs.toList.drop (off * s + (Builtin.zeroCells zv.cells (m + 1)).toList.length)).toArray).heap[k]? = w.heap[k]? := fun k hk => setRow_other w b k _ hk
      have hkin : Kin w (w.setRow b (vs.toList.take (off * s) ++ (Builtin.zeroCells zv.cells (m + 1)).toList ++ vs.toList.drop (off * s + (Builtin.zeroCells zv.cells (m + 1)).toList.length)).toArray) := ⟨by simp, by simp, by simp⟩
      have hhs : (w.setRow b (vs.toList.take (off * s) ++ (Builtin.zeroCells zv.cells (m + 1)).toList ++ vs.toList.drop (off * s + (Builtin.zeroCells zv.cells (m + 1)).toList.length)).toArray).heap.size = w.heap.size := by simp
      generalize w.setRow b (vs.toList.take (off * s) ++ (Builtin.zeroCells zv.cells (m + 1)).toList ++ vs.toList.drop (off * s + (Builtin.zeroCells zv.cells (m + 1)).toList.length)).toArray = w' at hrun hnew hoth hkin hhs
      generalize (vs.toList.take (off * s) ++ (Builtin.zeroCells zv.cells (m + 1)).toList ++ vs.toList.drop (off * s + (Builtin.zeroCells zv.cells (m + 1)).toList.length)).toArray = us' at hget hsz hnew
      have hsh' : ∀ s', w.shape? b = some s' → w'.shape? b = some s' := fun s' hs' => by
        simp only [World.shape?, g1, hnew, Option.some.injEq] at hs' ⊢
        rw [← hs', hsz]
      obtain ⟨q1, q2, q3⟩ := eff_blk (B' := .rows s (l.take off)) hs.h hl rfl hmb hkin hhs hoth hsh' (fun hle => ⟨rfl, h3, us', e2, hnew, fun r hr => g2 r (List.mem_of_mem_take hr), by
        have : (l.take off).length * s ≤ l.length * s := Nat.mul_le_mul_right s (by simp; omega)
        omega, fun i j x hx => by
          obtain ⟨c1, c2⟩ := cellAt_take hx
          have := row_lt c1 (cellAt_lt g2 c2).2
          rw [hget, if_pos this]
          exact (g4 i j x c2).mono hle⟩)
      exact ⟨_, _, _, _, hK, hs.turn q1 q2 q3, .inl ⟨_, hexec hrun, htup _ _⟩⟩

/-- Every operation on tracked memory does what its action says. -/
theorem mem_ok (hty : TyOK P ty) (hs : Sim E lo G S a w) {m : MAct} {K : AV → AH → Prop} (h : mop ty md o S.T = some m) (hp : m.P S.H K) : Does P E lo G S a w o K := by
  unfold mop at h
  split at h
  · rename_i t ho
    split at h
    · simp only [Option.some.injEq] at h; subst h
      exact does_mkMap hs ho hp
    · cases h
  · rename_i t m' k v ho
    split at h
    · rename_i q z ht
      split at h
      · rename_i id hm
        split at h
        · rename_i q' n hk
          split at h
          · rename_i hq
            have hq := of_decide_eq_true hq
            subst hq
            split at h
            · rename_i x hx
              simp only [Option.some.injEq] at h; subst h
              exact does_put hty hs ho ht hm hk hx hp
            · cases h
          · cases h
        · cases h
      · cases h
    · cases h
  · rename_i t m' k ho
    split at h
    · rename_i q z ht
      split at h
      · rename_i hz
        split at h
        · rename_i id hm
          split at h
          · rename_i q' n hk
            split at h
            · rename_i hq
              have hq := of_decide_eq_true hq
              subst hq
              simp only [Option.some.injEq] at h; subst h
              exact does_ent hty hs ho ht hz hm hk hp
            · cases h
          · cases h
        · cases h
      · cases h
    · cases h
  · rename_i t m' s v ho
    split at h
    · rename_i id hm
      split at h
      · rename_i sk n hk
        split at h
        · rename_i x hx
          simp only [Option.some.injEq] at h; subst h
          exact does_est hs ho hm hk hx hp
        · cases h
      · cases h
    · cases h
  · rename_i t m' k ok ho
    split at h
    · rename_i q z ht
      split at h
      · rename_i hz
        split at h
        · rename_i id hm
          split at h
          · rename_i q' n hk
            split at h
            · rename_i hq
              have hq := of_decide_eq_true hq
              subst hq
              simp only [Option.some.injEq] at h; subst h
              exact does_look hty hs ho ht hz hm hk hp
            · cases h
          · cases h
        · cases h
      · cases h
    · cases h
  · rename_i t ho
    split at h
    · rename_i cs hc
      split at h
      · rename_i hl
        have hl : 0 < cs.length := by simpa [Nat.blt_eq] using hl
        rw [← ho] at hc
        split at h
        · simp only [Option.some.injEq] at h; subst h
          exact does_epb hty hs hc hp
        · simp only [Option.some.injEq] at h; subst h
          exact does_obj hty hs hc hl hp
      · cases h
    · cases h
  · rename_i t y ho
    split at h
    · rename_i cs hc
      split at h
      · rename_i hl
        have hl : 0 < cs.length := by simpa [Nat.blt_eq] using hl
        rw [← ho] at hc
        split at h
        · simp only [Option.some.injEq] at h; subst h
          exact does_epb hty hs hc hp
        · simp only [Option.some.injEq] at h; subst h
          exact does_obj hty hs hc hl hp
      · cases h
    · cases h
  · rename_i t len parts ho
    split at h
    · rename_i s rows hb
      simp only [Option.some.injEq] at h; subst h
      exact does_mks hty hs ho hb hp
    · cases h
  · rename_i t n c ho
    split at h
    · rename_i s by_ ag z kd ht
      split at h
      · rename_i hs0
        split at h
        · rename_i hz
          split at h
          · rename_i x hn
            split at h
            · rename_i y hc
              split at h
              · rename_i he
                have he := of_decide_eq_true he
                subst he
                simp only [Option.some.injEq] at h; subst h
                exact does_mkz hty hs ho ht (by simpa [Nat.blt_eq] using hs0) hz hn hc hp
              · cases h
            · cases h
          · cases h
        · cases h
      · cases h
    · cases h
  · rename_i x y t u ho
    split at h
    · rename_i tu hu
      split at h
      · rename_i s by_ ag z kd ht
        split at h
        · rename_i hs0
          split at h
          · rename_i hb0
            split at h
            · rename_i hz
              simp only [Option.some.injEq] at h; subst h
              exact does_app hty hs ho hu ht (by simpa [Nat.blt_eq] using hs0) (by simpa [Nat.blt_eq] using hb0) hz hp
            · cases h
          · cases h
        · cases h
      · cases h
    · cases h
  · rename_i x t ho
    split at h
    · rename_i s by_ ag z kd ht
      split at h
      · rename_i hz
        split at h
        · rename_i z' id off len hx
          split at h
          · rename_i hzz
            have hzz := Nat.eq_of_beq_eq_true hzz
            subst hzz
            simp only [Option.some.injEq] at h; subst h
            exact does_clr hty hs ho ht hz hx hp
          · cases h
        · cases h
      · cases h
    · cases h
  · rename_i m' k t t' ho
    split at h
    · rename_i q z ht
      split at h
      · rename_i id hm
        split at h
        · rename_i q' n hk
          split at h
          · rename_i hq
            have hq := of_decide_eq_true hq
            subst hq
            simp only [Option.some.injEq] at h; subst h
            exact does_del hty hs ho ht hm hk hp
          · cases h
        · cases h
      · cases h
    · cases h
  · rename_i m' t ho
    split at h
    · rename_i q ht
      split at h
      · rename_i id hm
        simp only [Option.some.injEq] at h; subst h
        obtain ⟨q1, q2⟩ := q
        exact does_mlen hty hs ho ht hm hp
      · cases h
    · cases h
  · cases h

/-! ### actions: what they ask, of whom -/
theorem srcK_mono {H : AH} {s : Nat} {y : AV} {K K' : List (List AV) → Prop} (h : srcK H s y K) (hk : ∀ r, K r → K' r) : srcK H s y K' := by
  unfold srcK at h ⊢
  split at h <;> (try split at h) <;> first | exact hk _ h | exact h.elim | skip
  obtain ⟨l, h1, h2, h3, h4⟩ := h.out
  exact ⟨⟨l, h1, h2, h3, hk _ h4⟩⟩
theorem MAct.mono {m : MAct} {H : AH} {K K' : AV → AH → Prop} (h : m.P H K) (hk : ∀ x H', K x H' → K' x H') : m.P H K' := by
  cases m with
  | mkMap q => exact hk _ _ h
  | put id q n x => obtain ⟨es, pd, h1, h2⟩ := h.out; exact ⟨⟨es, pd, h1, hk _ _ h2⟩⟩
  | del id q n => obtain ⟨es, pd, h1, h2⟩ := h.out; exact ⟨⟨es, pd, h1, hk _ _ h2⟩⟩
  | ent id q n z => obtain ⟨es, pd, es', i, x, h1, h2, h3⟩ := h.out; exact ⟨⟨es, pd, es', i, x, h1, h2, fun s => hk _ _ (h3 s)⟩⟩
  | est id s x => obtain ⟨q, es, i, n, y, h1, h2, h3⟩ := h.out; exact ⟨⟨q, es, i, n, y, h1, h2, hk _ _ h3⟩⟩
  | obj cells => exact hk _ _ h
  | epb cells => exact hk _ _ h
  | mks s rows => exact hk _ _ h
  | mkz s by_ n z => exact ⟨h.side, hk _ _ h.out⟩
  | app s by_ x y =>
    refine srcK_mono (show srcK H s y _ from h) fun r h => ?_
    split at h
    · exact ⟨h.side, hk _ _ h.out⟩
    · split at h
      · obtain ⟨l, h1, h2⟩ := h.out
        exact ⟨⟨l, h1, h2.side, hk _ _ h2.out⟩⟩
      · exact h.elim
    · exact h.elim
  | clr z id off len => obtain ⟨l, h1, h2⟩ := h.out; exact ⟨⟨l, h1, hk _ _ h2⟩⟩
  | look id q n z ok => obtain ⟨es, pd, r, h1, h2, h3⟩ := h.out; exact ⟨⟨es, pd, r, h1, h2, hk _ _ h3⟩⟩
  | mlen id => obtain ⟨q, es, pd, h1, h2⟩ := h; exact ⟨q, es, pd, h1, hk _ _ h2⟩
end
end Go.Proofs.Ytecpiplfjmmccaa.AM
