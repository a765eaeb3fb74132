/-
  The operations in five kinds (B): a value alone, a new variable, a change of what is held, a call, a call that leaves all as it was.
  No program in sight. Conditions: none.
-/
import Derived.Test.YtecpiplfjmmccaaAmObj
namespace Go.Proofs.Ytecpiplfjmmccaa.AM
open Go

inductive Tr where
  | leaf
  | node (l : Tr) (k : Nat) (v : TI) (r : Tr)
def Tr.get : Tr → Nat → Option TI
  | .leaf, _ => none
  | .node l k v r, t => match Nat.beq t k with
    | true => some v
    | false => match Nat.blt t k with
      | true => l.get t
      | false => r.get t

def ones : List AV → Bool
  | [] => true
  | x :: l => match x.one with
    | true => ones l
    | false => false
def loadOf (k : Option TI) (cells : List AV) (c : Nat) : Option AV :=
  match k with
  | some ti => match ti.agg with
    | true => match Nat.ble (c + ti.size) cells.length with
      | true => match ones ((cells.drop c).take ti.size) with
        | true => some (.agg ((cells.drop c).take ti.size))
        | false => none
      | false => none
    | false => match cells[c]? with
      | some x => match x.one with
        | true => some x
        | false => none
      | none => none
  | none => none
def cut (z : Nat) : Nat → List AV → List (List AV)
  | 0, _ => []
  | n + 1, cs => cs.take z :: cut z n (cs.drop z)
def repn (z : List AV) : Nat → List AV
  | 0 => []
  | n + 1 => z ++ repn z n
def placesFrom (z : Nat) : Nat → Nat → List (Nat × Nat × TypeId)
  | _, 0 => []
  | o, n + 1 => (o, z, 0) :: placesFrom z (o + z) n
/-- A slice laid out: the size of an element, and the rows. -/
def bsl (ty : TypeId → Option TI) (t : TypeId) (len : Nat) (parts : List (Nat × Operand)) (T : List (Nat × AV)) : Option (Nat × List (List AV)) :=
  match ty t with
  | some ⟨_, _, _, _, .slice e⟩ => match ty e with
    | some ⟨s, _, _, some z, _⟩ => match Nat.blt 0 s with
      | true => match Nat.ble (len * s) 16777216 with
        | true => match Nat.beq z.cellsOf.length s with
          | true => match z.val with
            | true => match z with
              | .tup _ => none
              | _ => match fillA (placesFrom s 0 len) T parts (repn z.cellsOf len) with
                | some cs => some (s, cut s len cs)
                | none => none
            | false => none
          | false => none
        | false => none
      | false => none
    | _ => none
  | _ => none

/-- The operations that give a value and change nothing else. -/
def vop (ty : TypeId → Option TI) (o : Op) (S : AS) : Option AV :=
  match o with
  | .load t p => match evA S.T p with
    | .lptr i c => match lookL S.L i with
      | some cs => loadOf (ty t) cs c
      | none => none
    | .ep row c => loadOf (ty t) row c
    | .ptr id r c => match S.H.blks[id]? with
      | some (.rows _ l) => match l[r]? with
        | some row => loadOf (ty t) row c
        | none => none
      | _ => none
    | _ => none
  | .buildSlice t len parts => match bsl ty t len parts.toList S.T with
    | some (s, rows) => some (.sl s rows none)
    | none => none
  | o => pv ty o S.T

def rowsOf (s : Nat) : AV → Option (List (List AV))
  | .sl z rows _ => match Nat.beq z s with
    | true => some rows
    | false => none
  | .nils => some []
  | _ => none
/-- A zero value of s cells. -/
def elemZ (z : AV) (s : Nat) : Bool :=
  match z with
  | .tup _ => false
  | z => match z.val with
    | true => Nat.beq z.cellsOf.length s
    | false => false
def elemTI (ty : TypeId → Option TI) (t : TypeId) : Option TI :=
  match ty t with
  | some ⟨_, _, _, _, .slice e⟩ => ty e
  | _ => none
/-- A slice with more rows behind it: what it is, what the chains are, and what must hold for it. md: 1: a new chain. -/
def app (ty : TypeId → Option TI) (md : Nat) (t : TypeId) (x y : AV) (H : AH) : Option (AV × AH × Prop) :=
  match elemTI ty t with
  | some ⟨s, by_, _, some z, _⟩ => match Nat.blt 0 s with
    | true => match Nat.blt 0 by_ with
      | true => match elemZ z s with
        | true => match rowsOf s y with
          | some news => match x with
            | .nils => match md with
              | 1 => some (.sl s news (some H.tips.length), { H with tips := H.tips ++ [(s, news.length)] }, news.length * by_ ≤ 140737488355328)
              | _ => some (.sl s news none, H, news.length * by_ ≤ 140737488355328)
            | .sl z' rows (some c) => match Nat.beq z' s with
              | true => some (.sl s (rows ++ news) (some c), { H with tips := H.tips.set c (s, (rows ++ news).length) }, H.tips[c]? = some (s, rows.length) ∧ (rows.length + news.length) * by_ ≤ 140737488355328)
              | false => none
            | _ => none
          | none => none
        | false => none
      | false => none
    | false => none
  | _ => none

def AS.put (S : AS) (d : Option Tmp) (x : AV) : AS := { S with T := match d with | some d => (d, x) :: S.T | none => S.T }
/-- The operations that change what is held. -/
def eopC (ty : TypeId → Option TI) (md : Nat → Nat) (o : Oper) (S : AS) : Option (List (Nat × List AV) × AH × AV × Prop) :=
  match o.op with
  | .store t p x => match ty t with
    | some ti => match (evA S.T x).val with
      | true => match evA S.T x with
        | .tup _ => none
        | _ => match Nat.beq (evA S.T x).cellsOf.length ti.size with
          | true => match evA S.T p with
            | .lptr i c => match lookL S.L i with
              | some cs => match Nat.ble (c + ti.size) cs.length with
                | true => some (updL S.L i (splice cs c (evA S.T x).cellsOf), S.H, .skip, True)
                | false => none
              | none => none
            | .ptr id r c => match S.H.blks[id]? with
              | some (.rows z l) => match l[r]? with
                | some row => match Nat.ble (c + ti.size) row.length with
                  | true => some (S.L, { S.H with blks := S.H.blks.set id (.rows z (l.set r (splice row c (evA S.T x).cellsOf))) }, .skip, True)
                  | false => none
                | none => none
              | _ => none
            | _ => none
          | false => none
      | false => none
    | none => none
  | .buildSlice t len parts => match bsl ty t len parts.toList S.T with
    | some (s, rows) => some (S.L, { S.H with tips := S.H.tips ++ [(s, rows.length)] }, .sl s rows (some S.H.tips.length), True)
    | none => none
  | .call ⟨.builtin .append, ⟨[x, y]⟩, ⟨[t, u]⟩⟩ => match elemTI ty u with
    | some _ => match app ty (md (o.dst.getD 0)) t (evA S.T x) (evA S.T y) S.H with
      | some (r, H', φ) => some (S.L, H', r, φ)
      | none => none
    | none => none
  | _ => none

/-- The cells of a new variable. -/
def newC (ty : TypeId → Option TI) (o : Op) (T : List (Nat × AV)) : Option (List AV) :=
  match o with
  | .alloc t => match ty t with
    | some ⟨_, _, _, some z, _⟩ => match z.val with
      | true => match z with
        | .tup _ => none
        | z => some z.cellsOf
      | false => none
    | _ => none
  | .box _ y => match (evA T y).val with
    | true => match evA T y with
      | .tup _ => none
      | y => some y.cellsOf
    | false => none
  | _ => none

inductive Cls where
  | val | rd | new | eff | call | quiet | nilq | mem | look
  deriving DecidableEq
def cls (md : Nat → Nat) (qt : FuncId → Bool) (o : Oper) : Cls :=
  match o.op with
  | .load .. => .rd
  | .alloc _ | .box .. => match md (o.dst.getD 0) with
    | 2 | 4 => .mem
    | _ => .new
  | .store .. => .eff
  | .buildSlice .. => match md (o.dst.getD 0) with
    | 0 => .val
    | 2 => .mem
    | _ => .eff
  | .makeMap .. | .mapUpdate .. | .mapEntry .. | .entryStore .. | .makeSlice .. => .mem
  | .lookup .. => .look
  | .call ⟨.value (.func g), _, _⟩ => match qt g with
    | true => .quiet
    | false => .call
  | .call ⟨.value _, _, _⟩ => .call
  | .call ⟨.builtin .append, _, _⟩ => match md (o.dst.getD 0) with
    | 2 => .mem
    | _ => .eff
  | .call ⟨.builtin .delete, _, _⟩ | .call ⟨.builtin .clear, _, _⟩ | .call ⟨.builtin .copy, _, _⟩ => .mem
  | .call ⟨.builtin .len, _, _⟩ => match md (o.dst.getD 0) with
    | 3 => .look
    | _ => .val
  | .binOp .eql _ _ (.const (.slice none 0 0)) _ => .nilq
  | .binOp .neq _ _ (.const (.slice none 0 0)) _ => .nilq
  | _ => .val

def isSlice : Option TI → Bool
  | some ⟨_, _, _, _, .slice _⟩ => true
  | _ => false
/-- Is a slice nil? Of one without rows it is not known. -/
def nilqK (x : AV) (k : Bool → Prop) : Prop :=
  match x with
  | .nils => k true
  | .sl _ rows _ => ∀ b, (b = true → rows = []) → k b
  | .ms _ _ _ n => ∀ b, (b = true → n = 0) → k b
  | _ => False
def nilqOf : Op → Option (Bool × TypeId × Operand)
  | .binOp .eql t x (.const (.slice none 0 0)) _ => some (false, t, x)
  | .binOp .neq t x (.const (.slice none 0 0)) _ => some (true, t, x)
  | _ => none

/-- Whom a call is made to, and with what. -/
def callOf (T : List (Nat × AV)) : Op → Option (FuncId × List AV)
  | .call ⟨.value f, args, _⟩ => match evA T f with
    | .fn g fi ca => some (g, fi ++ args.toList.map (evA T) ++ ca)
    | _ => none
  | _ => none

/-! ### tracked memory -/
/-- What is asked where a tracked block is looked at. -/
structure MapVC (H : AH) (id : Nat) (q : IntKind) (K : List (Int × AV) → Prop) : Prop where
  out : ∃ es pd, H.blks[id]? = some (.map q es pd) ∧ K es
def Look (es : List (Int × AV)) (n : Int) : Option AV → Prop
  | some x => (n, x) ∈ es
  | none => ∀ p ∈ es, p.1 ≠ n
structure LookVC (H : AH) (id : Nat) (q : IntKind) (n : Int) (K : Option AV → Prop) : Prop where
  out : ∃ es pd r, H.blks[id]? = some (.map q es pd) ∧ Look es n r ∧ K r
structure EntVC (H : AH) (id : Nat) (q : IntKind) (n : Int) (z : AV) (K : List (Int × AV) → Nat → AV → Int → Prop) : Prop where
  out : ∃ es pd es' i x, H.blks[id]? = some (.map q es pd) ∧ ((es[i]? = some (n, x) ∧ es' = es) ∨ ((∀ p ∈ es, p.1 ≠ n) ∧ i = es.length ∧ x = z ∧ es' = es ++ [(n, z)])) ∧ ∀ s, K es' i x s
structure EstVC (H : AH) (id : Nat) (s : Int) (K : IntKind → List (Int × AV) → Nat → Int → Prop) : Prop where
  out : ∃ q es i n x, H.blks[id]? = some (.map q es (some (s, i))) ∧ es[i]? = some (n, x) ∧ K q es i n
structure RowsVC (H : AH) (id z : Nat) (K : List (List AV) → Prop) : Prop where
  out : ∃ l, H.blks[id]? = some (.rows z l) ∧ K l
structure SrcVC (H : AH) (id z off len : Nat) (K : List (List AV) → Prop) : Prop where
  out : ∃ l, H.blks[id]? = some (.rows z l) ∧ off + len ≤ l.length ∧ (∀ i j x, i < len → cellAt l (off + i) j = some x → x.one = true) ∧ K ((l.drop off).take len)
structure SideVC (φ K : Prop) : Prop where
  side : φ
  out : K
noncomputable def putE (es : List (Int × AV)) (n : Int) (x : AV) : List (Int × AV) := if ∃ p ∈ es, p.1 = n then es.map (fun p => if p.1 = n then (n, x) else p) else es ++ [(n, x)]
def delE (es : List (Int × AV)) (n : Int) : List (Int × AV) := es.filter fun p => decide (p.1 ≠ n)

inductive MAct where
  | mkMap (q : IntKind)
  | put (id : Nat) (q : IntKind) (n : Int) (x : AV)
  | del (id : Nat) (q : IntKind) (n : Int)
  | ent (id : Nat) (q : IntKind) (n : Int) (z : AV)
  | est (id : Nat) (s : Int) (x : AV)
  | obj (cells : List AV)
  | epb (cells : List AV)
  | mks (s : Nat) (rows : List (List AV))
  | mkz (s by_ : Nat) (n : Int) (z : List AV)
  | app (s by_ : Nat) (x y : AV)
  | clr (z id off len : Nat)
  | look (id : Nat) (q : IntKind) (n : Int) (z : AV) (ok : Bool)
  | mlen (id : Nat)

def lookR (z : AV) (ok : Bool) (r : Option AV) : AV :=
  match r with
  | some x => match ok with
    | true => .tup [x, .bool true]
    | false => x
  | none => match ok with
    | true => .tup [z, .bool false]
    | false => z
/-- The rows of what is appended. -/
def srcK (H : AH) (s : Nat) (y : AV) (K : List (List AV) → Prop) : Prop :=
  match y with
  | .sl z rows _ => match Nat.beq z s with
    | true => K rows
    | false => False
  | .nils => K []
  | .ms z id off len => match Nat.beq z s with
    | true => SrcVC H id s off len K
    | false => False
  | _ => False
def MAct.P (a : MAct) (H : AH) (K : AV → AH → Prop) : Prop :=
  match a with
  | .mkMap q => K (.map H.blks.length) (H.push (.map q [] none))
  | .put id q n x => MapVC H id q fun es => K .skip (H.upd id (.map q (putE es n x) none))
  | .del id q n => MapVC H id q fun es => K (.tup []) (H.upd id (.map q (delE es n) none))
  | .ent id q n z => EntVC H id q n z fun es i x s => K (.tup [x, .int .i64 s]) (H.upd id (.map q es (some (s, i))))
  | .est id s x => EstVC H id s fun q es i n => K .skip (H.upd id (.map q (es.set i (n, x)) none))
  | .obj cells => K (.ptr H.blks.length 0 0) (H.push (.rows cells.length [cells]))
  | .epb cells => K (.ep cells 0) H
  | .mks s rows => K (.ms s H.blks.length 0 rows.length) (H.push (.rows s rows))
  | .mkz s by_ n z => SideVC (0 ≤ n ∧ n * by_ ≤ 140737488355328 ∧ n ≤ 140737488355328) (K (.ms s H.blks.length 0 n.toNat) (H.push (.rows s (List.replicate n.toNat z))))
  | .app s by_ x y => srcK H s y fun news => match x with
    | .nils => SideVC (news.length * by_ ≤ 140737488355328) (K (.ms s H.blks.length 0 news.length) (H.push (.rows s news)))
    | .ms z id 0 len => match Nat.beq z s with
      | true => RowsVC H id s fun l => SideVC (len ≤ l.length ∧ (len + news.length) * by_ ≤ 140737488355328) (K (.ms s H.blks.length 0 (len + news.length)) ((H.upd id .dead).push (.rows s (l.take len ++ news))))
      | false => False
    | _ => False
  | .clr z id off len => RowsVC H id z fun l => K (.tup []) (H.upd id (.rows z (l.take off)))
  | .look id q n z ok => LookVC H id q n fun r => K (lookR z ok r) H
  | .mlen id => ∃ q es pd, H.blks[id]? = some (.map q es pd) ∧ K (.int .i64 es.length) H

def okR : AV → Bool
  | .lptr _ _ | .undef => false
  | _ => true
/-- A map's kind of key, and what its elements are at first. -/
def mapK (ty : TypeId → Option TI) (t : TypeId) : Option (IntKind × Option AV) :=
  match ty t with
  | some ⟨_, _, _, _, .map k e⟩ => match ty k with
    | some ⟨_, _, _, _, .int q⟩ => match ty e with
      | some ⟨_, _, _, z, _⟩ => some (q, z)
      | none => none
    | _ => none
  | _ => none
def okV (x : AV) : Option AV :=
  match x.val with
  | true => match x with
    | .tup _ => none
    | x => some x
  | false => none
def mop (ty : TypeId → Option TI) (md : Nat → Nat) (o : Oper) (T : List (Nat × AV)) : Option MAct :=
  match o.op with
  | .makeMap t none => match mapK ty t with
    | some (q, _) => some (.mkMap q)
    | none => none
  | .mapUpdate t m k v => match mapK ty t with
    | some (q, _) => match evA T m with
      | .map id => match evA T k with
        | .int q' n => match decide (q' = q) with
          | true => match okV (evA T v) with
            | some x => some (.put id q n x)
            | none => none
          | false => none
        | _ => none
      | _ => none
    | none => none
  | .mapEntry t m k => match mapK ty t with
    | some (q, some z) => match z.val with
      | true => match evA T m with
        | .map id => match evA T k with
          | .int q' n => match decide (q' = q) with
            | true => some (.ent id q n z)
            | false => none
          | _ => none
        | _ => none
      | false => none
    | _ => none
  | .entryStore _ m s v => match evA T m with
    | .map id => match evA T s with
      | .int _ n => match okV (evA T v) with
        | some x => some (.est id n x)
        | none => none
      | _ => none
    | _ => none
  | .lookup t m k ok => match mapK ty t with
    | some (q, some z) => match z.val with
      | true => match evA T m with
        | .map id => match evA T k with
          | .int q' n => match decide (q' = q) with
            | true => some (.look id q n z ok)
            | false => none
          | _ => none
        | _ => none
      | false => none
    | _ => none
  | .alloc t => match newC ty (.alloc t) T with
    | some cs => match Nat.blt 0 cs.length with
      | true => match md (o.dst.getD 0) with
        | 4 => some (.epb cs)
        | _ => some (.obj cs)
      | false => none
    | none => none
  | .box t y => match newC ty (.box t y) T with
    | some cs => match Nat.blt 0 cs.length with
      | true => match md (o.dst.getD 0) with
        | 4 => some (.epb cs)
        | _ => some (.obj cs)
      | false => none
    | none => none
  | .buildSlice t len parts => match bsl ty t len parts.toList T with
    | some (s, rows) => some (.mks s rows)
    | none => none
  | .makeSlice t n c => match elemTI ty t with
    | some ⟨s, by_, _, some z, _⟩ => match Nat.blt 0 s with
      | true => match elemZ z s with
        | true => match evA T n with
          | .int .i64 a => match evA T c with
            | .int .i64 b => match decide (a = b) with
              | true => some (.mkz s by_ a z.cellsOf)
              | false => none
            | _ => none
          | _ => none
        | false => none
      | false => none
    | _ => none
  | .call ⟨.builtin .append, ⟨[x, y]⟩, ⟨[t, u]⟩⟩ => match elemTI ty u with
    | some _ => match elemTI ty t with
      | some ⟨s, by_, _, some z, _⟩ => match Nat.blt 0 s with
        | true => match Nat.blt 0 by_ with
          | true => match elemZ z s with
            | true => some (.app s by_ (evA T x) (evA T y))
            | false => none
          | false => none
        | false => none
      | _ => none
    | none => none
  | .call ⟨.builtin .clear, ⟨[x]⟩, ⟨[t]⟩⟩ => match elemTI ty t with
    | some ⟨s, _, _, some z, _⟩ => match elemZ z s with
      | true => match evA T x with
        | .ms z' id off len => match Nat.beq z' s with
          | true => some (.clr s id off len)
          | false => none
        | _ => none
      | false => none
    | _ => none
  | .call ⟨.builtin .delete, ⟨[m, k]⟩, ⟨[t, _]⟩⟩ => match mapK ty t with
    | some (q, _) => match evA T m with
      | .map id => match evA T k with
        | .int q' n => match decide (q' = q) with
          | true => some (.del id q n)
          | false => none
        | _ => none
      | _ => none
    | none => none
  | .call ⟨.builtin .len, ⟨[m]⟩, ⟨[t]⟩⟩ => match mapK ty t with
    | some _ => match evA T m with
      | .map id => some (.mlen id)
      | _ => none
    | none => none
  | _ => none

section
variable (P : Program) (ty : TypeId → Option TI) (md : Nat → Nat) (qt : FuncId → Bool)
def DstOK (o : Oper) (S : AS) : Prop := ∀ d, o.dst = some d → d < S.n
def B (o : Oper) (S : AS) (K : AS → Prop) : Prop :=
  DstOK o S ∧ match cls md qt o with
  | .val | .rd => ∃ x, vop ty o.op S = some x ∧ K (S.put o.dst x)
  | .new => ∃ d cs, o.dst = some d ∧ newC ty o.op S.T = some cs ∧ noL d S.T = true ∧ K { S with T := (d, .lptr d 0) :: S.T, L := (d, cs) :: S.L }
  | .eff => ∃ L H x φ, eopC ty md o S = some (L, H, x, φ) ∧ φ ∧ K (({ S with L := L, H := H } : AS).put o.dst x)
  | .call => ∃ g args, callOf S.T o.op = some (g, args) ∧ vals args = true ∧ AC P g args S.H fun r H' => r.val = true ∧ K (({ S with H := H' } : AS).put o.dst r)
  | .quiet => ∃ g args, callOf S.T o.op = some (g, args) ∧ vals args = true ∧ AC P g args S.H fun r H' => H' = S.H ∧ r.val = true ∧ K (S.put o.dst r)
  | .mem => ∃ m, mop ty md o S.T = some m ∧ m.P S.H fun x H' => okR x = true ∧ K (({ S with H := H' } : AS).put o.dst x)
  | .look => ∃ m, mop ty md o S.T = some m ∧ m.P S.H fun x H' => okR x = true ∧ H' = S.H ∧ K (S.put o.dst x)
  | .nilq => ∃ neg t x, nilqOf o.op = some (neg, t, x) ∧ isSlice (ty t) = true ∧ nilqK (evA S.T x) fun b => K (S.put o.dst (.bool (neg ^^ b)))

theorem nilqK_mono {x : AV} {k k' : Bool → Prop} (h : nilqK x k) (hk : ∀ b, k b → k' b) : nilqK x k' := by
  unfold nilqK at h ⊢
  split at h
  · exact hk _ h
  · exact fun b hb => hk b (h b hb)
  · exact fun b hb => hk b (h b hb)
  · exact h
/-- An operation with its guard. -/
def B1 (ops : List Oper) (o : Oper) (S : AS) (K : AS → Prop) : Prop :=
  match o.guard with
  | none => B P ty md qt o S K
  | some (g, want) => ∃ t, (ops[g]?).bind (·.dst) = some t ∧
    ((∃ b, look S.T t = .bool b ∧ ((b = want → B P ty md qt o S K) ∧ (b ≠ want → DstOK o S ∧ K (S.put o.dst .skip)))) ∨ (look S.T t = .skip ∧ DstOK o S ∧ K (S.put o.dst .skip)))
def Breg (ops : List Oper) : List Oper → AS → (AS → Prop) → Prop
  | [], S, K => K S
  | o :: l, S, K => B1 P ty md qt ops o S fun S => Breg ops l S K
end
end Go.Proofs.Ytecpiplfjmmccaa.AM
