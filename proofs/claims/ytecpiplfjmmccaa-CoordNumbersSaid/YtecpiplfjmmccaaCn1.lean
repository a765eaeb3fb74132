/-
  Texts laid together by program (bundle.py): each part says in its own head what is proved. What is proved here serves the law's row.
  Conditions: as each part says.
-/
import Derived.Calls
import Derived.Below
import Derived.Laws.World
import Derived.Laws.Sem
import Derived.Laws.Cells
import Derived.Laws.Rows
import Derived.Laws.AppendOwn
import Derived.MapKept
import Derived.Laws.Tables
import Derived.Laws.CopyRow
import Derived.Deep.Draws
import Derived.Deep.MidRow
import Derived.Laws.Entries
import Derived.Laws.Build
import Derived.Laws.Slices
import Derived.Laws.Small
import Derived.ChangeKeysEq
import Derived.Laws.StructEq
import Derived.Laws.Pointers
import Derived.Laws.BytesString
/-
  Values without addresses: what a Go value reads as (AV), when a value of the machine reads so (Rep), what stays so (Le), and the memory that a call works on (HSim).
  No program in sight. Conditions: none.
-/
namespace Go.Proofs.Ytecpiplfjmmccaa.AM
open Go

inductive AV where
  | undef | skip
  | int (k : IntKind) (n : Int)
  | bool (b : Bool)
  | str (s : ByteArray)
  | nilptr
  | lptr (i col : Nat)
  | ptr (id row col : Nat)
  | ep (row : List AV) (col : Nat)
  | nils
  | sl (z : Nat) (rows : List (List AV)) (tok : Option Nat)
  | ms (z id off len : Nat)
  | nilmap
  | map (id : Nat)
  | fn (f : FuncId) (first captured : List AV)
  | nilfn
  | iface (t : TypeId) (v : AV)
  | nilif
  | agg (cells : List AV)
  | tup (vs : List AV)
  deriving Inhabited

/-- It may stand in one cell. -/
def AV.one : AV → Bool
  | .undef | .skip | .lptr .. | .agg _ | .tup _ => false
  | _ => true
/-- It may be handed on. -/
def AV.val : AV → Bool
  | .undef | .skip | .lptr .. => false
  | _ => true

/-- What is told of memory: which block a number stands for (and how many cells a row has), how many cells of a block never turn, whose chain a block is. -/
structure Gh where
  mb : Nat → Option (Nat × Nat)
  imm : Nat → Nat
  own : Nat → Option Nat

/-- Where the n rows of a slice lie. -/
def SlPlace (G : Gh) (w : World) (z n : Nat) (tok : Option Nat) (A : Option Addr) (c b o : Nat) : Prop :=
  (n = 0 ∧ (tok = none ∨ c = 0)) ∨
  (A = some ⟨b, o, none⟩ ∧ o + n * z ≤ G.imm b ∧ ∀ t, tok = some t → o = 0 ∧ G.own b = some t ∧ ∃ e, w.shape? b = some (e, c * z))

def cellAt (rows : List (List AV)) (i j : Nat) : Option AV := (rows[i]?).bind (·[j]?)

inductive Rep (G : Gh) (w : World) : AV → Value → Prop
  | skip : Rep G w .skip Go.undef
  | int (k : IntKind) (n : Int) : Rep G w (.int k n) (.int k n)
  | bool (b : Bool) : Rep G w (.bool b) (.bool b)
  | str (s : ByteArray) : Rep G w (.str s) (.string s)
  | nilptr : Rep G w .nilptr (.pointer none)
  | ptr (id row col b z : Nat) (h : G.mb id = some (b, z)) : Rep G w (.ptr id row col) (.pointer (some ⟨b, row * z + col, none⟩))
  | ep (row : List AV) (col b o : Nat) (f : Nat → Value) (hi : o + row.length ≤ G.imm b) (hc : ∀ j x, row[j]? = some x → w.cell? ⟨b, o + j, none⟩ = some (f j))
      (h1 : ∀ (j : Nat) x, row[j]? = some x → x.one = true) (hr : ∀ j x, row[j]? = some x → Rep G w x (f j)) : Rep G w (.ep row col) (.pointer (some ⟨b, o + col, none⟩))
  | nils : Rep G w .nils (.slice none 0 0)
  | sl (z : Nat) (rows : List (List AV)) (tok : Option Nat) (A : Option Addr) (c b o : Nat) (f : Nat → Nat → Value) (hz : 0 < z) (hlc : rows.length ≤ c) (hc : c ≤ maxLen)
      (hk : ∀ r ∈ rows, r.length = z) (hp : SlPlace G w z rows.length tok A c b o)
      (hcell : ∀ i j x, cellAt rows i j = some x → w.cell? ⟨b, o + i * z + j, none⟩ = some (f i j))
      (h1 : ∀ i j x, cellAt rows i j = some x → x.one = true) (hr : ∀ i j x, cellAt rows i j = some x → Rep G w x (f i j)) : Rep G w (.sl z rows tok) (.slice A rows.length c)
  | ms (z id off len c : Nat) (A : Option Addr) (hlc : len ≤ c) (hc : c ≤ maxLen) (hs : (∃ b, A = some ⟨b, off * z, none⟩ ∧ G.mb id = some (b, z) ∧ ∃ e, w.shape? b = some (e, (off + c) * z)) ∨ c = 0) : Rep G w (.ms z id off len) (.slice A len c)
  | nilmap : Rep G w .nilmap (.map none)
  | map (id b : Nat) (h : G.mb id = some (b, 0)) : Rep G w (.map id) (.map (some b))
  | fn (f : FuncId) (fi ca : List AV) (fv cv : Array Value) (hf : fv.size = fi.length) (hc : cv.size = ca.length)
      (hfr : ∀ i x, fi[i]? = some x → Rep G w x (fv.getD i Go.undef)) (hcr : ∀ i x, ca[i]? = some x → Rep G w x (cv.getD i Go.undef)) : Rep G w (.fn f fi ca) (.func (.func f) fv cv)
  | nilfn : Rep G w .nilfn .nilFunc
  | iface (t : TypeId) (x : AV) (v : Value) (h : Rep G w x v) : Rep G w (.iface t x) (.iface t v)
  | nilif : Rep G w .nilif .nilIface
  | agg (cs : List AV) (vs : Array Value) (hl : vs.size = cs.length) (h1 : ∀ (i : Nat) x, cs[i]? = some x → x.one = true) (hr : ∀ i x, cs[i]? = some x → Rep G w x (vs.getD i Go.undef)) : Rep G w (.agg cs) (.agg vs)
  | tup (cs : List AV) (vs : Array Value) (hl : vs.size = cs.length) (hr : ∀ i x, cs[i]? = some x → Rep G w x (vs.getD i Go.undef)) : Rep G w (.tup cs) (.tuple vs)

theorem Rep.oneCell {G : Gh} {w : World} {x : AV} {v : Value} (h : Rep G w x v) (h1 : x.one = true) : v.oneCell' = true := by
  cases h <;> first | rfl | (simp [AV.one] at h1)

/-- What was told stays so. -/
structure Le (G : Gh) (w : World) (G' : Gh) (w' : World) : Prop where
  mb : ∀ i x, G.mb i = some x → G'.mb i = some x
  imm : ∀ b, G.imm b ≤ G'.imm b
  own : ∀ b c, G.own b = some c → G'.own b = some c
  cell : ∀ b o, o < G.imm b → w'.cell? ⟨b, o, none⟩ = w.cell? ⟨b, o, none⟩
  shape : ∀ b s, w.shape? b = some s → w'.shape? b = some s

theorem Le.refl (G : Gh) (w : World) : Le G w G w := ⟨fun _ _ h => h, fun _ => Nat.le_refl _, fun _ _ h => h, fun _ _ _ => rfl, fun _ _ h => h⟩
theorem Le.trans {G G' G'' : Gh} {w w' w'' : World} (h : Le G w G' w') (k : Le G' w' G'' w'') : Le G w G'' w'' :=
  ⟨fun i x e => k.mb i x (h.mb i x e), fun b => Nat.le_trans (h.imm b) (k.imm b), fun b c e => k.own b c (h.own b c e),
   fun b o ho => (k.cell b o (Nat.lt_of_lt_of_le ho (h.imm b))).trans (h.cell b o ho), fun b s e => k.shape b s (h.shape b s e)⟩

theorem cellAt_some {rows : List (List AV)} {i j : Nat} {x : AV} (h : cellAt rows i j = some x) : ∃ r, rows[i]? = some r ∧ r[j]? = some x := by
  unfold cellAt at h
  cases hr : rows[i]? with
  | none => simp [hr] at h
  | some r => exact ⟨r, rfl, by simpa [hr] using h⟩
theorem cellAt_lt {rows : List (List AV)} {z i j : Nat} {x : AV} (hk : ∀ r ∈ rows, r.length = z) (h : cellAt rows i j = some x) : i < rows.length ∧ j < z := by
  obtain ⟨r, h1, h2⟩ := cellAt_some h
  have hi := (List.getElem?_eq_some_iff.1 h1)
  have hj := (List.getElem?_eq_some_iff.1 h2)
  obtain ⟨hi, e⟩ := hi
  obtain ⟨hj, _⟩ := hj
  have := hk r (by rw [← e]; exact List.getElem_mem hi)
  exact ⟨hi, by omega⟩
theorem row_lt {n z i j : Nat} (hi : i < n) (hj : j < z) : i * z + j < n * z := by
  have : (i + 1) * z ≤ n * z := Nat.mul_le_mul_right z hi
  rw [Nat.add_mul] at this
  omega
theorem SlPlace.mono {G G' : Gh} {w w' : World} {z n : Nat} {tok : Option Nat} {A : Option Addr} {c b o : Nat} (h : SlPlace G w z n tok A c b o) (hle : Le G w G' w') : SlPlace G' w' z n tok A c b o := by
  rcases h with h | ⟨hA, hi, ht⟩
  · exact .inl h
  · refine .inr ⟨hA, Nat.le_trans hi (hle.imm b), fun t e => ?_⟩
    obtain ⟨h1, h2, e', h3⟩ := ht t e
    exact ⟨h1, hle.own _ _ h2, e', hle.shape _ _ h3⟩

theorem Rep.mono {G G' : Gh} {w w' : World} (hle : Le G w G' w') {x : AV} {v : Value} (h : Rep G w x v) : Rep G' w' x v := by
  induction h with
  | skip => exact .skip
  | int k n => exact .int k n
  | bool b => exact .bool b
  | str s => exact .str s
  | nilptr => exact .nilptr
  | ptr id row col b z h => exact .ptr id row col b z (hle.mb _ _ h)
  | ep row col b o f hi hc h1 _ ih =>
    exact .ep row col b o f (Nat.le_trans hi (hle.imm b)) (fun j x hx => by
      rw [hle.cell b (o + j) (by have := (List.getElem?_eq_some_iff.1 hx).1; omega)]; exact hc j x hx) h1 (fun j x hx => ih j x hx)
  | nils => exact .nils
  | sl z rows tok A c b o f hz hlc hc hk hp hcell h1 _ ih =>
    refine .sl z rows tok A c b o f hz hlc hc hk (hp.mono hle) (fun i j x hx => ?_) h1 (fun i j x hx => ih i j x hx)
    have hlt := cellAt_lt hk hx
    rcases hp with ⟨h0, _⟩ | ⟨_, hi, _⟩
    · omega
    · rw [hle.cell b (o + i * z + j) (by have := row_lt hlt.1 hlt.2; omega)]; exact hcell i j x hx
  | ms z id off len c A hlc hc hs => exact .ms z id off len c A hlc hc (hs.imp (fun ⟨b, h1, h2, e, h3⟩ => ⟨b, h1, hle.mb _ _ h2, e, hle.shape _ _ h3⟩) fun h => h)
  | nilmap => exact .nilmap
  | map id b h => exact .map id b (hle.mb _ _ h)
  | fn f fi ca fv cv hf hc _ _ ih1 ih2 => exact .fn f fi ca fv cv hf hc (fun i x hx => ih1 i x hx) (fun i x hx => ih2 i x hx)
  | nilfn => exact .nilfn
  | iface t x v _ ih => exact .iface t x v ih
  | nilif => exact .nilif
  | agg cs vs hl h1 _ ih => exact .agg cs vs hl h1 (fun i x hx => ih i x hx)
  | tup cs vs hl _ ih => exact .tup cs vs hl (fun i x hx => ih i x hx)

/-! ### What a call works on -/
inductive ABlk where
  | rows (z : Nat) (l : List (List AV))
  | map (k : IntKind) (es : List (Int × AV)) (pend : Option (Int × Nat))
  | dead
  deriving Inhabited
def ABlk.live : ABlk → Bool
  | .dead => false
  | _ => true
structure AH where
  blks : List ABlk
  tips : List (Nat × Nat)
  deriving Inhabited
/-- A block's content turned; a new block. -/
def AH.upd (H : AH) (i : Nat) (B : ABlk) : AH := { H with blks := H.blks.set i B }
def AH.push (H : AH) (B : ABlk) : AH := { H with blks := H.blks ++ [B] }
theorem AH.upd_same {H : AH} {i : Nat} {B B' : ABlk} (h : H.blks[i]? = some B') : (H.upd i B).blks[i]? = some B := by
  have := (List.getElem?_eq_some_iff.1 h).1
  simp [AH.upd, this]
theorem AH.upd_other {H : AH} {i j : Nat} {B : ABlk} (h : i ≠ j) : (H.upd i B).blks[j]? = H.blks[j]? := by simp [AH.upd, List.getElem?_set_ne h]
theorem AH.push_old {H : AH} {j : Nat} {B : ABlk} (h : j < H.blks.length) : (H.push B).blks[j]? = H.blks[j]? := by simp [AH.push, List.getElem?_append_left h]
theorem AH.push_new {H : AH} {B : ABlk} : (H.push B).blks[H.blks.length]? = some B := by simp [AH.push]
theorem AH.upd_len {H : AH} {i : Nat} {B : ABlk} : (H.upd i B).blks.length = H.blks.length := by simp [AH.upd]
theorem AH.push_len {H : AH} {B : ABlk} : (H.push B).blks.length = H.blks.length + 1 := by simp [AH.push]
theorem AH.upd_at {H : AH} {i j : Nat} {B : ABlk} : (H.upd i B).blks[j]? = if i = j then (if j < H.blks.length then some B else none) else H.blks[j]? := by
  simp only [AH.upd, List.getElem?_set]
  split
  · rename_i h; subst h; rfl
  · rfl
theorem AH.push_at {H : AH} {j : Nat} {B : ABlk} : (H.push B).blks[j]? = if j = H.blks.length then some B else H.blks[j]? := by
  simp only [AH.push, List.getElem?_append]
  split
  · rename_i h; rw [if_neg (by omega)]
  · rename_i h
    split
    · rename_i h2; subst h2; simp
    · have h3 : [B].length ≤ j - H.blks.length := by simp only [List.length_cons, List.length_nil]; omega
      rw [List.getElem?_eq_none h3, List.getElem?_eq_none (by omega)]
def AH.none : AH := ⟨[], []⟩

def Live (H : AH) (id : Nat) : Prop := ∃ B, H.blks[id]? = some B ∧ B.live = true

/-- A cell's value may be unknown. -/
def RepU (G : Gh) (w : World) (x : AV) (v : Value) : Prop := x = .undef ∨ (x.one = true ∧ Rep G w x v)
theorem RepU.mono {G G' : Gh} {w w' : World} (hle : Le G w G' w') {x : AV} {v : Value} (h : RepU G w x v) : RepU G' w' x v := h.imp id fun ⟨a, b⟩ => ⟨a, b.mono hle⟩

def BlkAt (G : Gh) (w : World) (b zz : Nat) : ABlk → Prop
  | .rows z l => zz = z ∧ 0 < z ∧ ∃ vs e, w.heap[b]? = some (.cells vs e (0, 0)) ∧ (∀ r ∈ l, r.length = z) ∧ l.length * z ≤ vs.size ∧ ∀ i j x, cellAt l i j = some x → RepU G w x (vs.getD (i * z + j) Go.undef)
  | .map k es pd => zz = 0 ∧ ∃ (en : Array MapEntry) (clock : Nat), w.heap[b]? = some (.map en clock) ∧ MapKept.Stamped en clock ∧ en.size = es.length ∧
      (∀ (i : Nat) n x, es[i]? = some (n, x) → x.val = true ∧ ∃ e : MapEntry, en[i]? = some e ∧ e.key = .int k n ∧ Rep G w x e.val) ∧
      ∀ n i, pd = some (n, i) → ∃ e : MapEntry, en[i]? = some e ∧ (e.born : Int) = n
  | .dead => True

structure HSim (G : Gh) (w : World) (H : AH) : Prop where
  at_ : ∀ id B, H.blks[id]? = some B → B.live = true → (∃ b z, G.mb id = some (b, z) ∧ BlkAt G w b z B ∧ G.imm b = 0 ∧ G.own b = Option.none) ∨ (G.mb id = Option.none ∧ ∃ z, 0 < z ∧ B = .rows z [])
  inj : ∀ id id' b z z', Live H id → Live H id' → G.mb id = some (b, z) → G.mb id' = some (b, z') → id = id'
  ids : ∀ id, H.blks.length ≤ id → G.mb id = Option.none
  chain : ∀ c z n, H.tips[c]? = some (z, n) → (n = 0 → ∀ b, G.own b ≠ some c) ∧ (0 < n → ∃ b vs e, G.own b = some c ∧ G.imm b = n * z ∧ w.heap[b]? = some (.cells vs e (0, 0)) ∧
      ∀ b', G.own b' = some c → b' ≠ b → G.imm b' < n * z)
  chains : ∀ c b, H.tips.length ≤ c → G.own b ≠ some c
  new : ∀ b, w.heap.size ≤ b → G.imm b = 0 ∧ G.own b = Option.none ∧ ∀ id z, G.mb id ≠ some (b, z)

def Mut (G : Gh) (H : AH) (b : Nat) : Prop := (∃ id z, Live H id ∧ G.mb id = some (b, z)) ∨ ∃ c, G.own b = some c

/-- What a call leaves as it was. -/
structure Ext (G : Gh) (H : AH) (w : World) (G' : Gh) (H' : AH) (w' : World) : Prop where
  os : w'.os = w.os
  tape : w'.tape = w.tape
  output : w'.output = w.output
  size : w.heap.size ≤ w'.heap.size
  block : ∀ b, b < w.heap.size → ¬ Mut G H b → w'.heap[b]? = w.heap[b]? ∧ G'.imm b = G.imm b ∧ G'.own b = G.own b
  mb : ∀ id b z, G'.mb id = some (b, z) → (∃ id', G.mb id' = some (b, z)) ∨ w.heap.size ≤ b
  muts : ∀ b, b < w.heap.size → Mut G' H' b → Mut G H b

theorem Ext.refl (G : Gh) (H : AH) (w : World) : Ext G H w G H w := ⟨rfl, rfl, rfl, Nat.le_refl _, fun _ _ _ => ⟨rfl, rfl, rfl⟩, fun _ _ _ h => .inl ⟨_, h⟩, fun _ _ h => h⟩
theorem Ext.trans {G G' G'' : Gh} {H H' H'' : AH} {w w' w'' : World} (h : Ext G H w G' H' w') (k : Ext G' H' w' G'' H'' w'') : Ext G H w G'' H'' w'' :=
  ⟨k.os.trans h.os, k.tape.trans h.tape, k.output.trans h.output, Nat.le_trans h.size k.size,
   fun b hb hm => by
     obtain ⟨a1, a2, a3⟩ := h.block b hb hm
     obtain ⟨b1, b2, b3⟩ := k.block b (Nat.lt_of_lt_of_le hb h.size) (fun hm' => hm (h.muts b hb hm'))
     exact ⟨b1.trans a1, b2.trans a2, b3.trans a3⟩,
   fun id b z e => by
     rcases k.mb id b z e with ⟨id', e⟩ | e
     · exact h.mb id' b z e
     · exact .inr (Nat.le_trans h.size e),
   fun b hb hm => h.muts b hb (k.muts b (Nat.lt_of_lt_of_le hb h.size) hm)⟩

def Reps (G : Gh) (w : World) (xs : List AV) (vs : List Value) : Prop := vs.length = xs.length ∧ ∀ i x, xs[i]? = some x → Rep G w x (vs.getD i Go.undef)

/-- A function with a text of its own. -/
def Ent (P : Program) (f : FuncId) : Prop := ∃ fn c, P.funcs[f]? = some fn ∧ (fn.name == "runtime.NumGoroutine") = false ∧ fn.body = some c
/-- A call of f over the memory H comes to an answer of which Q holds. -/
def AC (P : Program) (f : FuncId) (args : List AV) (H : AH) (Q : AV → AH → Prop) : Prop :=
  Ent P f ∧ ∀ G w (vs : List Value), HSim G w H → Reps G w args vs →
    Calls P f vs.toArray w fun e w' => ∃ r cr G' H', e = .returned cr ∧ Rep G' w' r cr ∧ HSim G' w' H' ∧ Le G w G' w' ∧ Ext G H w G' H' w' ∧ Q r H'

theorem AC.mono {P : Program} {f : FuncId} {args : List AV} {H : AH} {Q Q' : AV → AH → Prop} (h : AC P f args H Q) (hq : ∀ r H', Q r H' → Q' r H') : AC P f args H Q' :=
  ⟨h.1, fun G w vs hH hr => (h.2 G w vs hH hr).mono fun _ _ ⟨r, cr, G', H', h1, h2, h3, h4, h5, h6⟩ => ⟨r, cr, G', H', h1, h2, h3, h4, h5, hq _ _ h6⟩⟩
end Go.Proofs.Ytecpiplfjmmccaa.AM

/-
  A state without addresses (AS) beside an activation of the machine (Sim), and what becomes of it where memory is laid or written.
  No program in sight. Conditions: none.
-/
namespace Go.Proofs.Ytecpiplfjmmccaa.AM
open Go

structure AS where
  n : Nat
  T : List (Nat × AV)
  L : List (Nat × List AV)
  H : AH
  deriving Inhabited

/-- What a temporary holds: the first entry of its number. -/
def look : List (Nat × AV) → Nat → AV
  | [], _ => .undef
  | (j, x) :: T, i => match Nat.beq j i with
    | true => x
    | false => look T i
def lookL : List (Nat × List AV) → Nat → Option (List AV)
  | [], _ => none
  | (j, x) :: L, i => match Nat.beq j i with
    | true => some x
    | false => lookL L i
theorem look_cons (j : Nat) (x : AV) (T : List (Nat × AV)) (i : Nat) : look ((j, x) :: T) i = if j = i then x else look T i := by
  conv => lhs; unfold look
  split
  · rename_i h; rw [if_pos (Nat.eq_of_beq_eq_true h)]
  · rename_i h; rw [if_neg (Nat.ne_of_beq_eq_false h)]
theorem lookL_cons (j : Nat) (x : List AV) (L : List (Nat × List AV)) (i : Nat) : lookL ((j, x) :: L) i = if j = i then some x else lookL L i := by
  conv => lhs; unfold lookL
  split
  · rename_i h; rw [if_pos (Nat.eq_of_beq_eq_true h)]
  · rename_i h; rw [if_neg (Nat.ne_of_beq_eq_false h)]
/-- A variable's cells turned, in their place. -/
def updL : List (Nat × List AV) → Nat → List AV → List (Nat × List AV)
  | [], i, cs => [(i, cs)]
  | (j, x) :: L, i, cs => match Nat.beq j i with
    | true => (j, cs) :: L
    | false => (j, x) :: updL L i cs
theorem lookL_updL : ∀ (L : List (Nat × List AV)) (i : Nat) (cs : List AV) (k : Nat), lookL (updL L i cs) k = if i = k then some cs else lookL L k
  | [], i, cs, k => by simp only [updL]; rw [lookL_cons]
  | (j, x) :: L, i, cs, k => by
    unfold updL
    split
    · rename_i h
      have h := Nat.eq_of_beq_eq_true h
      subst h
      rw [lookL_cons, lookL_cons]
      split <;> rfl
    · rename_i h
      have h := Nat.ne_of_beq_eq_false h
      rw [lookL_cons, lookL_cons, lookL_updL L i cs k]
      by_cases h1 : j = k
      · rw [if_pos h1, if_pos h1, if_neg (by omega)]
      · rw [if_neg h1, if_neg h1]
theorem look_mem {T : List (Nat × AV)} {i : Nat} {x : AV} (h : look T i = x) (hx : x ≠ .undef) : (i, x) ∈ T := by
  induction T with
  | nil => simp [look] at h; exact absurd h.symm hx
  | cons p T ih =>
    obtain ⟨j, y⟩ := p
    rw [look_cons] at h
    split at h
    · rename_i e; subst e; subst h; exact List.mem_cons_self ..
    · exact List.mem_cons_of_mem _ (ih h)

/-- A value of a temporary: unknown, a place in a variable of this activation (named by the temporary that its address was first laid in), or a value. -/
def RepT (lo : Nat → Nat) (G : Gh) (w : World) (x : AV) (v : Value) : Prop :=
  x = .undef ∨ (∃ i c, x = .lptr i c ∧ v = .pointer (some ⟨lo i, c, none⟩)) ∨ Rep G w x v

structure LSim (G : Gh) (w : World) (lo : Nat → Nat) (L : List (Nat × List AV)) : Prop where
  at_ : ∀ (i : Nat) cs, lookL L i = some cs → ∃ (vs : Array Value) (e : TypeId), w.heap[lo i]? = some (.cells vs e (0, 0)) ∧ vs.size = cs.length ∧ ∀ j x, cs[j]? = some x → RepU G w x (vs.getD j Go.undef)
  free : ∀ (i : Nat) cs, lookL L i = some cs → G.imm (lo i) = 0 ∧ G.own (lo i) = Option.none ∧ ∀ id z, G.mb id ≠ some (lo i, z)
  inj : ∀ (i j : Nat) cs ds, lookL L i = some cs → lookL L j = some ds → lo i = lo j → i = j

/-- Where the call began. -/
structure Env where
  G : Gh
  H : AH
  w : World

structure Sim (E : Env) (lo : Nat → Nat) (G : Gh) (S : AS) (a : Act) (w : World) : Prop where
  t : ∀ i, RepT lo G w (look S.T i) (a.tmps.getD i Go.undef)
  size : S.n = a.tmps.size
  d : a.defers = []
  l : LSim G w lo S.L
  h : HSim G w S.H
  le : Le E.G E.w G w
  ext : Ext E.G E.H E.w G S.H w
  own : ∀ (i : Nat) cs, lookL S.L i = some cs → E.w.heap.size ≤ lo i

theorem RepT.mono {lo : Nat → Nat} {G G' : Gh} {w w' : World} (hle : Le G w G' w') {x : AV} {v : Value} (h : RepT lo G w x v) : RepT lo G' w' x v :=
  h.imp id (fun h => h.imp id (fun h => h.mono hle))

theorem shape_of_heap {w w' : World} {b : Nat} (h : w'.heap[b]? = w.heap[b]?) : w'.shape? b = w.shape? b := by simp [World.shape?, h]
theorem cell_of_heap {w w' : World} {b o : Nat} (h : w'.heap[b]? = w.heap[b]?) : w'.cell? ⟨b, o, none⟩ = w.cell? ⟨b, o, none⟩ := by simp [World.cell?, h]

/-- Only blocks that nothing leans on have turned, and those keep their sizes. -/
theorem Le.of_agree {G : Gh} {w w' : World} (h1 : ∀ b, 0 < G.imm b → w'.heap[b]? = w.heap[b]?) (h2 : ∀ b s, w.shape? b = some s → w'.shape? b = some s) : Le G w G w' :=
  ⟨fun _ _ h => h, fun _ => Nat.le_refl _, fun _ _ h => h, fun b o ho => cell_of_heap (h1 b (by omega)), h2⟩

/-! ### draws -/
theorem Le.drew (G : Gh) (w : World) : Le G w G w.drew := ⟨fun _ _ h => h, fun _ => Nat.le_refl _, fun _ _ h => h, fun _ _ _ => rfl, fun _ _ h => h⟩
theorem BlkAt.heap {G G' : Gh} {w w' : World} {b z : Nat} {B : ABlk} (hle : Le G w G' w') (hh : w'.heap[b]? = w.heap[b]?) (h : BlkAt G w b z B) : BlkAt G' w' b z B := by
  cases B with
  | rows z l =>
    obtain ⟨a, a0, vs, e, h1, h2, h3, h4⟩ := h
    exact ⟨a, a0, vs, e, hh.trans h1, h2, h3, fun i j x hx => (h4 i j x hx).mono hle⟩
  | map kd es pd =>
    obtain ⟨a, en, k, h1, h2, h3, h4, h5⟩ := h
    exact ⟨a, en, k, hh.trans h1, h2, h3, fun i n x hx => by obtain ⟨g, e, h5, h6, h7⟩ := h4 i n x hx; exact ⟨g, e, h5, h6, h7.mono hle⟩, h5⟩
  | dead => trivial

/-- The tracked memory stands: same ghosts; the blocks that they name lie as they lay. -/
theorem HSim.same {G : Gh} {w w' : World} {H : AH} (h : HSim G w H) (hle : Le G w G w') (hsz : w.heap.size ≤ w'.heap.size)
    (hb : ∀ b, (∃ id z, Live H id ∧ G.mb id = some (b, z)) ∨ (∃ c, G.own b = some c) → w'.heap[b]? = w.heap[b]?) : HSim G w' H where
  at_ id B h1 h2 := by
    rcases h.at_ id B h1 h2 with ⟨b, z, h3, h4, h5, h6⟩ | h3
    · exact .inl ⟨b, z, h3, h4.heap hle (hb b (.inl ⟨id, z, ⟨B, h1, h2⟩, h3⟩)), h5, h6⟩
    · exact .inr h3
  inj := h.inj
  ids := h.ids
  chain c z n h1 := by
    obtain ⟨h2, h3⟩ := h.chain c z n h1
    refine ⟨h2, fun hn => ?_⟩
    obtain ⟨b, vs, e, h4, h5, h6, h7⟩ := h3 hn
    exact ⟨b, vs, e, h4, h5, (hb b (.inr ⟨c, h4⟩)).trans h6, h7⟩
  chains := h.chains
  new b hbs := h.new b (by omega)

theorem LSim.same {G : Gh} {w w' : World} {lo : Nat → Nat} {L : List (Nat × List AV)} (h : LSim G w lo L) (hle : Le G w G w') (hb : ∀ (i : Nat) cs, lookL L i = some cs → w'.heap[lo i]? = w.heap[lo i]?) : LSim G w' lo L where
  at_ i cs hi := by
    obtain ⟨vs, e, h2, h3, h4⟩ := h.at_ i cs hi
    exact ⟨vs, e, (hb i cs hi).trans h2, h3, fun j x hx => (h4 j x hx).mono hle⟩
  free := h.free
  inj := h.inj

theorem Ext.same {G0 G : Gh} {H0 H : AH} {w0 w w' : World} (h : Ext G0 H0 w0 G H w) (hos : w'.os = w.os) (ht : w'.tape = w.tape) (ho : w'.output = w.output) (hsz : w.heap.size ≤ w'.heap.size)
    (hb : ∀ b, b < w0.heap.size → ¬ Mut G0 H0 b → w'.heap[b]? = w.heap[b]?) : Ext G0 H0 w0 G H w' where
  os := hos.trans h.os
  tape := ht.trans h.tape
  output := ho.trans h.output
  size := Nat.le_trans h.size hsz
  block b h1 h2 := by
    obtain ⟨a1, a2, a3⟩ := h.block b h1 h2
    exact ⟨(hb b h1 h2).trans a1, a2, a3⟩
  mb := h.mb
  muts := h.muts

/-- Draws alone. -/
theorem Sim.draws {E : Env} {lo : Nat → Nat} {G : Gh} {S : AS} {a : Act} {w : World} (h : Sim E lo G S a w) (n : Nat) : Sim E lo G S a (w.drewN n) := by
  have hle : Le G w G (w.drewN n) := ⟨fun _ _ h => h, fun _ => Nat.le_refl _, fun _ _ h => h, fun _ _ _ => rfl, fun _ _ h => h⟩
  exact { t := fun i => (h.t i).mono hle, size := h.size, d := h.d, l := h.l.same hle (fun _ _ _ => rfl), h := h.h.same hle (Nat.le_refl _) (fun _ _ => rfl)
          le := h.le.trans hle, ext := h.ext.same rfl rfl rfl (Nat.le_refl _) (fun _ _ _ => rfl), own := h.own }

/-- What a temporary holds may be told otherwise. -/
theorem Sim.put {E : Env} {lo : Nat → Nat} {G : Gh} {S : AS} {a : Act} {w : World} (h : Sim E lo G S a w) (d : Option Tmp) {x : AV} {v : Value} (hx : RepT lo G w x v) (hd : ∀ k, d = some k → k < S.n) :
    Sim E lo G { S with T := match d with | some d => (d, x) :: S.T | none => S.T } (a.put d v) w := by
  cases d with
  | none => exact h
  | some d =>
    have hd := hd d rfl
    refine { t := fun i => ?_, size := by simp [Act.put, h.size], d := by simpa [Act.put] using h.d, l := h.l, h := h.h, le := h.le, ext := h.ext, own := h.own }
    simp only [Act.put, look_cons, Array.getD_eq_getD_getElem?, Array.getElem?_setIfInBounds]
    by_cases hdi : d = i
    · subst hdi
      rw [if_pos rfl, if_pos rfl, if_pos (by rw [← h.size]; exact hd)]; exact hx
    · rw [if_neg hdi, if_neg hdi]
      have := h.t i
      rwa [Array.getD_eq_getD_getElem?] at this

/-! ### new blocks -/
theorem heap_new (w : World) (o : Obj) : (w.alloc o).heap[w.heap.size]? = some o := by
  show (w.heap.push o)[w.heap.size]? = some o
  simp
theorem heap_old (w : World) (o : Obj) {b : Nat} (h : b < w.heap.size) : (w.alloc o).heap[b]? = w.heap[b]? := by
  show (w.heap.push o)[b]? = w.heap[b]?
  simp [Array.getElem?_push, Nat.ne_of_lt h]
theorem lt_of_heap {w : World} {b : Nat} {o : Obj} (h : w.heap[b]? = some o) : b < w.heap.size := (Array.getElem?_eq_some_iff.1 h).1
theorem lt_of_shape {w : World} {b : Nat} {s : TypeId × Nat} (h : w.shape? b = some s) : b < w.heap.size := by
  unfold World.shape? at h
  cases hb : w.heap[b]? with
  | none => simp [hb] at h
  | some o => exact lt_of_heap hb
theorem HSim.imm_lt {G : Gh} {w : World} {H : AH} (h : HSim G w H) {b : Nat} (hb : 0 < G.imm b) : b < w.heap.size := by
  rcases Nat.lt_or_ge b w.heap.size with h1 | h1
  · exact h1
  · have := (h.new b h1).1; omega
theorem HSim.own_lt {G : Gh} {w : World} {H : AH} (h : HSim G w H) {b c : Nat} (hb : G.own b = some c) : b < w.heap.size := by
  rcases Nat.lt_or_ge b w.heap.size with h1 | h1
  · exact h1
  · have := (h.new b h1).2.1; rw [hb] at this; cases this
theorem HSim.mb_lt {G : Gh} {w : World} {H : AH} (h : HSim G w H) {id b z : Nat} (hb : G.mb id = some (b, z)) : b < w.heap.size := by
  rcases Nat.lt_or_ge b w.heap.size with h1 | h1
  · exact h1
  · exact absurd hb ((h.new b h1).2.2 id z)
theorem LSim.lt {G : Gh} {w : World} {lo : Nat → Nat} {L : List (Nat × List AV)} (h : LSim G w lo L) {i : Nat} {cs : List AV} (hi : lookL L i = some cs) : lo i < w.heap.size := by
  obtain ⟨vs, e, h2, _⟩ := h.at_ i cs hi
  exact lt_of_heap h2
theorem Le.alloc {G : Gh} {w : World} {H : AH} (h : HSim G w H) (o : Obj) : Le G w G (w.alloc o) :=
  Le.of_agree (fun b hb => heap_old w o (h.imm_lt hb)) (fun b s hs => by rw [← hs]; exact shape_of_heap (heap_old w o (lt_of_shape hs)))

/-- A new block that nothing tells of. -/
theorem Sim.alloc_any {E : Env} {lo : Nat → Nat} {G : Gh} {S : AS} {a : Act} {w : World} (h : Sim E lo G S a w) (o : Obj) : Sim E lo G S a (w.alloc o) := by
  have hle := Le.alloc h.h o
  refine { t := fun i => (h.t i).mono hle, size := h.size, d := h.d, l := h.l.same hle (fun i cs hi => heap_old w o (h.l.lt hi)),
           h := h.h.same hle (by simp) (fun b hb => heap_old w o ?_),
           le := h.le.trans hle, ext := h.ext.same rfl rfl rfl (by simp) (fun b hb _ => heap_old w o (Nat.lt_of_lt_of_le hb h.ext.size)), own := h.own }
  rcases hb with ⟨id, z, _, hb⟩ | ⟨c, hb⟩
  · exact h.h.mb_lt hb
  · exact h.h.own_lt hb

/-- No temporary leads to the variable d. -/
def noL (d : Nat) : List (Nat × AV) → Bool
  | [] => true
  | (_, .lptr j _) :: T => match Nat.beq j d with
    | true => false
    | false => noL d T
  | _ :: T => noL d T
theorem noL_ne {d : Nat} : ∀ {T : List (Nat × AV)} {i j c : Nat}, noL d T = true → (i, AV.lptr j c) ∈ T → j ≠ d
  | [], _, _, _, _, h => by cases h
  | (k, x) :: T, i, j, c, h, hm => by
    rcases List.mem_cons.1 hm with e | hm
    · simp only [Prod.mk.injEq] at e
      obtain ⟨rfl, rfl⟩ := e
      simp only [noL] at h
      split at h
      · cases h
      · rename_i hb; exact Nat.ne_of_beq_eq_false hb
    · have : noL d T = true := by
        cases x <;> simp only [noL] at h <;> first | exact h | skip
        split at h
        · cases h
        · exact h
      exact noL_ne this hm
/-- A new variable of this activation; no temporary leads to an elder one of its name. -/
theorem Sim.alloc_local {E : Env} {lo : Nat → Nat} {G : Gh} {S : AS} {a : Act} {w : World} (h : Sim E lo G S a w) (d : Nat) (hno : noL d S.T = true)
    (vs : Array Value) (e : TypeId) (cs : List AV) (hl : vs.size = cs.length)
    (hr : ∀ (j : Nat) x, cs[j]? = some x → RepU G w x (vs.getD j Go.undef)) : Sim E (fun i => if i = d then w.heap.size else lo i) G { S with L := (d, cs) :: S.L } a (w.alloc (.cells vs e)) := by
  have h' := h.alloc_any (.cells vs e)
  have hle := Le.alloc h.h (.cells vs e)
  have hset : ∀ (i : Nat) c, lookL ((d, cs) :: S.L) i = some c → (i = d ∧ c = cs) ∨ (i ≠ d ∧ lookL S.L i = some c) := by
    intro i c hi
    rw [lookL_cons] at hi
    by_cases e1 : d = i
    · subst e1
      rw [if_pos rfl] at hi
      exact .inl ⟨rfl, by simpa using hi.symm⟩
    · rw [if_neg e1] at hi
      exact .inr ⟨fun e2 => e1 e2.symm, hi⟩
  refine { t := fun i => ?_, size := h.size, d := h.d, l := ?_, h := h'.h, le := h'.le, ext := h'.ext, own := ?_ }
  · rcases h.t i with h1 | ⟨j, c, h1, h2⟩ | h1
    · exact .inl h1
    · refine .inr (.inl ⟨j, c, h1, ?_⟩)
      have : j ≠ d := by
        rintro rfl
        exact noL_ne hno (look_mem h1 (by simp)) rfl
      show a.tmps.getD i Go.undef = .pointer (some ⟨if j = d then w.heap.size else lo j, c, none⟩)
      rw [if_neg this]; exact h2
    · exact .inr (.inr (h1.mono hle))
  · refine { at_ := ?_, free := ?_, inj := ?_ }
    · intro i c hi
      rcases hset i c hi with ⟨rfl, rfl⟩ | ⟨hne, hi⟩
      · rw [if_pos rfl]
        exact ⟨vs, e, heap_new w _, hl, fun j x hx => (hr j x hx).mono hle⟩
      · rw [if_neg hne]
        exact h'.l.at_ i c hi
    · intro i c hi
      rcases hset i c hi with ⟨rfl, rfl⟩ | ⟨hne, hi⟩
      · rw [if_pos rfl]
        exact h.h.new _ (Nat.le_refl _)
      · rw [if_neg hne]
        exact h.l.free i c hi
    · intro i j c c' hi hj he
      rcases hset i c hi with ⟨e1, _⟩ | ⟨hne, hi1⟩ <;> rcases hset j c' hj with ⟨e2, _⟩ | ⟨hne', hj1⟩
      · rw [e1, e2]
      · have he' : w.heap.size = lo j := by simpa [e1, hne'] using he
        have := h.l.lt hj1
        omega
      · have he' : lo i = w.heap.size := by simpa [e2, hne] using he
        have := h.l.lt hi1
        omega
      · exact h.l.inj i j c c' hi1 hj1 (by simpa [hne, hne'] using he)
  · intro i c hi
    rcases hset i c hi with ⟨rfl, rfl⟩ | ⟨hne, hi⟩
    · rw [if_pos rfl]; exact h.ext.size
    · rw [if_neg hne]; exact h.own i c hi

/-- cells from o on replaced -/
def splice (cs : List AV) (o : Nat) (new : List AV) : List AV := cs.take o ++ new ++ cs.drop (o + new.length)
theorem splice_get {α : Type} (cs new : List α) (o j : Nat) (h : o + new.length ≤ cs.length) : (cs.take o ++ new ++ cs.drop (o + new.length))[j]? = if j < o then cs[j]? else if j < o + new.length then new[j - o]? else cs[j]? := by
  have ho : (cs.take o).length = o := by simp; omega
  by_cases h1 : j < o
  · rw [if_pos h1, List.append_assoc, List.getElem?_append_left (by omega), List.getElem?_take_of_lt h1]
  · rw [if_neg h1, List.append_assoc, List.getElem?_append_right (by omega), ho]
    by_cases h2 : j < o + new.length
    · rw [if_pos h2, List.getElem?_append_left (by omega)]
    · rw [if_neg h2, List.getElem?_append_right (by omega), List.getElem?_drop]
      congr 1
      omega

/-- A store into a variable of this activation. -/
theorem Sim.store_local {E : Env} {lo : Nat → Nat} {G : Gh} {S : AS} {a : Act} {w : World} (h : Sim E lo G S a w) {i c : Nat} {cs : List AV} (hi : lookL S.L i = some cs)
    (new : List AV) (nv : List Value) (hl : nv.length = new.length) (hc : c + new.length ≤ cs.length) (hr : ∀ (j : Nat) x, new[j]? = some x → RepU G w x (nv.getD j Go.undef)) :
    ∃ (vs : Array Value) (e : TypeId), w.heap[lo i]? = some (.cells vs e (0, 0)) ∧ c + nv.length ≤ vs.size ∧
      Sim E lo G { S with L := updL S.L i (splice cs c new) } a (w.setRow (lo i) (vs.toList.take c ++ nv ++ vs.toList.drop (c + nv.length)).toArray) := by
  obtain ⟨vs, e, h2, h3, h4⟩ := h.l.at_ i cs hi
  refine ⟨vs, e, h2, by omega, ?_⟩
  obtain ⟨f1, f2, f3⟩ := h.l.free i cs hi
  have hoth : ∀ k, k ≠ lo i → (w.setRow (lo i) (vs.toList.take c ++ nv ++ vs.toList.drop (c + nv.length)).toArray).heap[k]? = w.heap[k]? := fun k hk => setRow_other w (lo i) k _ hk
  have hnew := setRow_heap w (lo i) vs (vs.toList.take c ++ nv ++ vs.toList.drop (c + nv.length)).toArray e (0, 0) h2
  have hsz : (vs.toList.take c ++ nv ++ vs.toList.drop (c + nv.length)).length = vs.size := by simp; omega
  generalize hw : w.setRow (lo i) (vs.toList.take c ++ nv ++ vs.toList.drop (c + nv.length)).toArray = w' at hoth hnew
  have hos : w'.os = w.os ∧ w'.tape = w.tape ∧ w'.output = w.output ∧ w'.heap.size = w.heap.size := by rw [← hw]; simp
  have hle : Le G w G w' := by
    refine Le.of_agree (fun k hk => hoth k (fun e => by subst e; omega)) (fun k s hs => ?_)
    by_cases hk : k = lo i
    · subst hk
      simp only [World.shape?, h2, hnew, Option.some.injEq] at hs ⊢
      rw [← hs]
      simp
      omega
    · rw [← hs]; exact shape_of_heap (hoth k hk)
  have hset : ∀ (k : Nat) d, lookL (updL S.L i (splice cs c new)) k = some d → (k = i ∧ d = splice cs c new) ∨ (k ≠ i ∧ lookL S.L k = some d) := by
    intro k d hk
    rw [lookL_updL] at hk
    by_cases e1 : i = k
    · subst e1
      rw [if_pos rfl] at hk
      exact .inl ⟨rfl, by simpa using hk.symm⟩
    · rw [if_neg e1] at hk
      exact .inr ⟨fun e2 => e1 e2.symm, hk⟩
  refine { t := fun j => (h.t j).mono hle, size := h.size, d := h.d, l := ?_, h := h.h.same hle (by omega) (fun k hk => hoth k ?_), le := h.le.trans hle,
           ext := h.ext.same hos.1 hos.2.1 hos.2.2.1 (by omega) (fun k hk _ => hoth k (fun e => ?_)), own := ?_ }
  · refine { at_ := ?_, free := ?_, inj := ?_ }
    · intro k ck hk
      rcases hset k ck hk with ⟨rfl, rfl⟩ | ⟨hne, hk⟩
      · refine ⟨_, e, hnew, by simp [splice]; omega, fun j x hx => ?_⟩
        unfold splice at hx
        rw [splice_get cs new c j hc] at hx
        have hg : (vs.toList.take c ++ nv ++ vs.toList.drop (c + nv.length)).toArray.getD j Go.undef = ((vs.toList.take c ++ nv ++ vs.toList.drop (c + nv.length))[j]?).getD Go.undef := by
          rw [Array.getD_eq_getD_getElem?]; simp
        rw [hg, splice_get vs.toList nv c j (by simpa using (by omega : c + nv.length ≤ vs.size)), hl]
        by_cases j1 : j < c
        · rw [if_pos j1] at hx ⊢
          have := (h4 j x hx).mono hle
          rwa [Array.getD_eq_getD_getElem?, ← Array.getElem?_toList] at this
        · rw [if_neg j1] at hx ⊢
          by_cases j2 : j < c + new.length
          · rw [if_pos j2] at hx ⊢
            have := (hr _ x hx).mono hle
            rwa [List.getD_eq_getElem?_getD] at this
          · rw [if_neg j2] at hx ⊢
            have := (h4 j x hx).mono hle
            rwa [Array.getD_eq_getD_getElem?, ← Array.getElem?_toList] at this
      · obtain ⟨vs', e', g2, g3, g4⟩ := h.l.at_ k ck hk
        exact ⟨vs', e', (hoth (lo k) (fun eb => hne (h.l.inj k i _ _ hk hi eb))).trans g2, g3, fun j x hx => (g4 j x hx).mono hle⟩
    · intro k d hk
      rcases hset k d hk with ⟨rfl, _⟩ | ⟨_, hk⟩
      · exact ⟨f1, f2, f3⟩
      · exact h.l.free k d hk
    · intro j k c1 c2 hj hk he
      rcases hset j c1 hj with ⟨e1, _⟩ | ⟨_, hj1⟩ <;> rcases hset k c2 hk with ⟨e2, _⟩ | ⟨_, hk1⟩
      · rw [e1, e2]
      · subst e1; exact h.l.inj _ _ _ _ hi hk1 he
      · subst e2; exact h.l.inj _ _ _ _ hj1 hi he
      · exact h.l.inj _ _ _ _ hj1 hk1 he
  · rintro rfl
    rcases hk with ⟨id, z, _, hk⟩ | ⟨cc, hk⟩
    · exact f3 id z hk
    · rw [f2] at hk; cases hk
  · subst e
    have := h.own i cs hi
    omega
  · intro k d hk
    rcases hset k d hk with ⟨rfl, _⟩ | ⟨_, hk⟩
    · exact h.own _ cs hi
    · exact h.own k d hk
end Go.Proofs.Ytecpiplfjmmccaa.AM

/-
  What an operation that touches no memory gives, without addresses (pv), and that the machine's gives just that.
  Conditions: the table of types (ty) tells of the program's.
-/
namespace Go.Proofs.Ytecpiplfjmmccaa.AM
open Go

inductive TK where
  | int (k : IntKind) | bool | str | slice (e : TypeId) | strct (fs : List (Nat × Nat × TypeId)) | map (k e : TypeId) | ptr (e : TypeId) | arr (n : Nat) (e : TypeId) | func | iface | other
  deriving Inhabited, Repr
structure TI where
  size : Nat
  bytes : Nat
  agg : Bool
  zero : Option AV
  kind : TK
  deriving Inhabited

def toAV0 : Value → Option AV
  | .int k n => some (.int k n)
  | .bool b => some (.bool b)
  | .string s => some (.str s)
  | .pointer none => some .nilptr
  | .slice none 0 0 => some .nils
  | .map none => some .nilmap
  | .nilFunc => some .nilfn
  | .nilIface => some .nilif
  | _ => none
def optAll {α β : Type} (f : α → Option β) : List α → Option (List β)
  | [] => some []
  | x :: l => match f x with
    | some y => match optAll f l with
      | some ys => some (y :: ys)
      | none => none
    | none => none
def toAV : Value → Option AV
  | .agg cs => (optAll toAV0 cs.toList).map .agg
  | v => toAV0 v

theorem optAll_get {α β : Type} {f : α → Option β} : ∀ {l : List α} {ys : List β}, optAll f l = some ys → ys.length = l.length ∧ ∀ (i : Nat) y, ys[i]? = some y → ∃ x, l[i]? = some x ∧ f x = some y
  | [], ys, h => by
    simp only [optAll, Option.some.injEq] at h
    subst h
    exact ⟨rfl, fun i y hy => by simp at hy⟩
  | x :: l, ys, h => by
    simp only [optAll] at h
    split at h
    · rename_i y hy
      split at h
      · rename_i zs hz
        simp only [Option.some.injEq] at h
        subst h
        obtain ⟨h1, h2⟩ := optAll_get hz
        refine ⟨by simp [h1], fun i y' hy' => ?_⟩
        cases i with
        | zero => exact ⟨x, rfl, by simpa [← hy'] using hy⟩
        | succ i => simpa using h2 i y' (by simpa using hy')
      · cases h
    · cases h
theorem toAV0_rep {v : Value} {x : AV} (h : toAV0 v = some x) (G : Gh) (w : World) : Rep G w x v ∧ x.one = true := by
  unfold toAV0 at h
  split at h <;> simp only [Option.some.injEq, reduceCtorEq] at h <;> subst h <;> exact ⟨by constructor, rfl⟩
theorem toAV_rep {v : Value} {x : AV} (h : toAV v = some x) (G : Gh) (w : World) : Rep G w x v := by
  unfold toAV at h
  split at h
  · rename_i cs
    cases ho : optAll toAV0 cs.toList with
    | none => simp [ho] at h
    | some ys =>
      simp only [ho, Option.map_some, Option.some.injEq] at h
      subst h
      obtain ⟨h1, h2⟩ := optAll_get ho
      refine .agg ys cs (by simpa using h1.symm) (fun i x hx => ?_) (fun i x hx => ?_)
      · obtain ⟨v, _, hv⟩ := h2 i x hx; exact (toAV0_rep hv G w).2
      · obtain ⟨v, hv, hx⟩ := h2 i x hx
        have : cs.getD i Go.undef = v := by rw [Array.getD_eq_getD_getElem?, ← Array.getElem?_toList, hv]; rfl
        rw [this]; exact (toAV0_rep hx G w).1
  · exact (toAV0_rep h G w).1

/-- A struct whose values may be compared field by field. -/
def eqSafe (P : Program) (t : TypeId) (fs : List Field) : Bool := !P.stoodInHeld t && !P.eqGuardType P.depth t && fs.all fun f => f.name != "_"
def kindOf (P : Program) (t : TypeId) : TypeDesc → TK
  | .bool => .bool
  | .int k => .int k
  | .string => .str
  | .slice e => .slice e
  | .struct fs => match eqSafe P t fs.toList with
    | true => match optAll (fun f : Field => (P.info? f.type).map fun i => (f.offset, i.size, f.type)) fs.toList with
      | some l => .strct l
      | none => .other
    | false => .other
  | .map k e => .map k e
  | .pointer e => .ptr e
  | .array n e => .arr n e
  | .func .. => .func
  | .interface _ => .iface
  | _ => .other
def aggOf : TypeDesc → Bool
  | .struct _ | .array _ _ => true
  | _ => false
def tiOf (P : Program) (t : TypeId) : Option TI :=
  match P.info? t, P.underlying t with
  | some i, some d => some ⟨i.size, i.bytes, aggOf d, i.zero.bind toAV, kindOf P t d⟩
  | _, _ => none
/-- The table tells of the program's types. -/
def TyOK (P : Program) (ty : TypeId → Option TI) : Prop := ∀ t ti, ty t = some ti → tiOf P t = some ti

theorem tiOf_some {P : Program} {t : TypeId} {ti : TI} (h : tiOf P t = some ti) : ∃ i d, P.info? t = some i ∧ P.underlying t = some d ∧ ti = ⟨i.size, i.bytes, aggOf d, i.zero.bind toAV, kindOf P t d⟩ := by
  unfold tiOf at h
  split at h
  · rename_i i d h1 h2
    exact ⟨i, d, h1, h2, by simpa using h.symm⟩
  · cases h

def evA (T : List (Nat × AV)) : Operand → AV
  | .tmp t => look T t
  | .const v => match toAV v with
    | some x => x
    | none => .undef
  | .func f => .fn f [] []
  | .global _ => .undef

theorem evA_ok {E : Env} {lo : Nat → Nat} {G : Gh} {S : AS} {a : Act} {w : World} (h : Sim E lo G S a w) (x : Operand) : RepT lo G w (evA S.T x) (a.eval x) := by
  cases x with
  | tmp t => exact h.t t
  | const v =>
    simp only [evA, Act.eval]
    split
    · rename_i y hy; exact .inr (.inr (toAV_rep hy G w))
    · exact .inl rfl
  | func f => exact .inr (.inr (.fn f [] [] #[] #[] rfl rfl (fun i x hx => by simp at hx) (fun i x hx => by simp at hx)))
  | global g => exact .inl rfl

/-- Of a value that is neither unknown nor a place. -/
theorem RepT.rep {lo : Nat → Nat} {G : Gh} {w : World} {x : AV} {v : Value} (h : RepT lo G w x v) (hx : x.val = true ∨ x = .skip) : Rep G w x v := by
  rcases h with rfl | ⟨i, c, rfl, _⟩ | h
  · rcases hx with hx | hx <;> simp [AV.val] at hx
  · rcases hx with hx | hx <;> simp [AV.val] at hx
  · exact h
theorem RepT.of {lo : Nat → Nat} {G : Gh} {w : World} {x : AV} {v : Value} (h : Rep G w x v) : RepT lo G w x v := .inr (.inr h)

def AV.cellsOf : AV → List AV
  | .agg cs => cs
  | x => [x]
theorem Rep.cells {G : Gh} {w : World} {x : AV} {v : Value} (h : Rep G w x v) (hx : x.val = true) (ht : ∀ vs, x ≠ .tup vs) : v.cells.size = x.cellsOf.length ∧ (∀ (j : Nat) y, x.cellsOf[j]? = some y → y.one = true ∧ Rep G w y (v.cells.getD j Go.undef)) := by
  have single : ∀ {x : AV} {v : Value}, Rep G w x v → x.one = true → x.cellsOf = [x] → v.cells = #[v] → v.cells.size = x.cellsOf.length ∧ (∀ (j : Nat) y, x.cellsOf[j]? = some y → y.one = true ∧ Rep G w y (v.cells.getD j Go.undef)) := by
    intro x v h h1 h2 h3
    rw [h2, h3]
    refine ⟨rfl, fun j y hy => ?_⟩
    cases j with
    | zero => simp only [List.getElem?_cons_zero, Option.some.injEq] at hy; subst hy; exact ⟨h1, h⟩
    | succ j => simp at hy
  cases h with
  | agg cs vs hl h1 hr => exact ⟨hl, fun j y hy => ⟨h1 j y hy, hr j y hy⟩⟩
  | tup cs vs => exact absurd rfl (ht cs)
  | skip => simp [AV.val] at hx
  | int k n => exact single (.int k n) rfl rfl rfl
  | bool b => exact single (.bool b) rfl rfl rfl
  | str s => exact single (.str s) rfl rfl rfl
  | nilptr => exact single .nilptr rfl rfl rfl
  | ptr id row col b z h => exact single (.ptr id row col b z h) rfl rfl rfl
  | ep row col b o f hi hc h1 hr => exact single (.ep row col b o f hi hc h1 hr) rfl rfl rfl
  | nils => exact single .nils rfl rfl rfl
  | sl z rows tok A c b o f hz hlc hc hk hp hcell h1 hr => exact single (.sl z rows tok A c b o f hz hlc hc hk hp hcell h1 hr) rfl rfl rfl
  | ms z id off len c A hlc hc hs => exact single (.ms z id off len c A hlc hc hs) rfl rfl rfl
  | nilmap => exact single .nilmap rfl rfl rfl
  | map id b h => exact single (.map id b h) rfl rfl rfl
  | fn f fi ca fv cv hf hc h1 h2 => exact single (.fn f fi ca fv cv hf hc h1 h2) rfl rfl rfl
  | nilfn => exact single .nilfn rfl rfl rfl
  | iface t x v h => exact single (.iface t x v h) rfl rfl rfl
  | nilif => exact single .nilif rfl rfl rfl

/-! ### numbers -/
def arith (op : BinOp) (k : IntKind) (a b : Int) : Option AV :=
  match op with
  | .add => some (.int k (k.wrap (a + b)))
  | .sub => some (.int k (k.wrap (a - b)))
  | .mul => some (.int k (k.wrap (a * b)))
  | .eql => some (.bool (a == b))
  | .neq => some (.bool (a != b))
  | .lss => some (.bool (decide (a < b)))
  | .leq => some (.bool (decide (a ≤ b)))
  | .gtr => some (.bool (decide (a > b)))
  | .geq => some (.bool (decide (a ≥ b)))
  | .quo => if b = 0 then none else some (.int k (k.wrap (a.tdiv b)))
  | .rem => if b = 0 then none else some (.int k (a.tmod b))
  | .and => some (.int k (k.wrap (BitVec.ofInt k.bits a &&& BitVec.ofInt k.bits b).toNat))
  | .or => some (.int k (k.wrap (BitVec.ofInt k.bits a ||| BitVec.ofInt k.bits b).toNat))
  | _ => none
theorem arith_ok {P : Program} {op : BinOp} {k : IntKind} {a b : Int} {x : AV} (h : arith op k a b = some x) (t : TypeId) (G : Gh) (w : World) :
    ∃ v, (Go.binOp op t (.int k a) (.int k b)).run P w = .ok v w ∧ Rep G w x v := by
  cases op <;> simp only [arith, Option.some.injEq, reduceCtorEq] at h
  all_goals first
    | (subst h; exact ⟨_, by simp [Go.binOp, Op.intArith, Op.intCmp, Op.intBits]; rfl, by constructor⟩)
    | (split at h
       · cases h
       · simp only [Option.some.injEq] at h; subst h; rename_i hb; exact ⟨_, by simp [Go.binOp, Op.intDiv, hb]; rfl, by constructor⟩)

def cellEq (kd : TK) (x y : AV) : Option Bool :=
  match kd, x, y with
  | .int _, .int k a, .int k' b => if k = k' then some (a == b) else none
  | .bool, .bool a, .bool b => some (a == b)
  | .str, .str a, .str b => some (a.toList == b.toList)
  | _, _, _ => none
def aggEq (ty : TypeId → Option TI) : List (Nat × Nat × TypeId) → List AV → List AV → Option Bool
  | [], _, _ => some true
  | (off, _, t) :: fs, cs, ds => match ty t with
    | some ti => match ti.agg with
      | true => none
      | false => match cs[off]? with
        | some x => match ds[off]? with
          | some y => match cellEq ti.kind x y with
            | some b => match aggEq ty fs cs ds with
              | some r => some (b && r)
              | none => none
            | none => none
          | none => none
        | none => none
    | none => none
def boolOp (op : BinOp) (b : Bool) : Option AV :=
  match op with
  | .eql => some (.bool b)
  | .neq => some (.bool (!b))
  | _ => none
def isPtr : Option TI → Bool
  | some ⟨_, _, _, _, .ptr _⟩ => true
  | _ => false
def shiftOf (op : BinOp) (k : IntKind) (a b : Int) : Option AV :=
  match op with
  | .shl => some (.int k (k.wrap (a * 2 ^ (min b.toNat k.bits))))
  | .shr => some (.int k (a.fdiv (2 ^ (min b.toNat k.bits))))
  | _ => none
def bin (ty : TypeId → Option TI) (k : Option TI) (op : BinOp) (x y : AV) : Option AV :=
  match x, y with
  | .int k a, .int k' b => match op with
    | .shl => if 0 ≤ b then shiftOf op k a b else none
    | .shr => if 0 ≤ b then shiftOf op k a b else none
    | op => if k = k' then arith op k a b else none
  | .bool a, .bool b => match k with
    | some ⟨_, _, _, _, .bool⟩ => boolOp op (a == b)
    | _ => none
  | .str a, .str b => boolOp op (a.toList == b.toList)
  | .agg cs, .agg ds => match k with
    | some ⟨_, _, _, _, .strct fs⟩ => match aggEq ty fs cs ds with
      | some b => boolOp op b
      | none => none
    | _ => none
  | .nilptr, .nilptr => match isPtr k with
    | true => boolOp op true
    | false => none
  | .ptr _ _ _, .nilptr => match isPtr k with
    | true => boolOp op false
    | false => none
  | .ep _ _, .nilptr => match isPtr k with
    | true => boolOp op false
    | false => none
  | _, _ => none
theorem kind_bool {P : Program} {t : TypeId} {ti : TI} (h : tiOf P t = some ti) (hk : ti.kind = .bool) : P.underlying t = some .bool := by
  obtain ⟨i, d, h1, h2, rfl⟩ := tiOf_some h
  rw [h2]
  cases d <;> simp [kindOf] at hk ⊢
  repeat' split at hk
  all_goals cases hk
theorem kind_int {P : Program} {t : TypeId} {ti : TI} {k : IntKind} (h : tiOf P t = some ti) (hk : ti.kind = .int k) : P.underlying t = some (.int k) := by
  obtain ⟨i, d, h1, h2, rfl⟩ := tiOf_some h
  rw [h2]
  cases d <;> simp [kindOf] at hk ⊢
  · exact hk
  · repeat' split at hk
    all_goals cases hk
theorem kind_str {P : Program} {t : TypeId} {ti : TI} (h : tiOf P t = some ti) (hk : ti.kind = .str) : P.underlying t = some .string := by
  obtain ⟨i, d, h1, h2, rfl⟩ := tiOf_some h
  rw [h2]
  cases d <;> simp [kindOf] at hk ⊢
  repeat' split at hk
  all_goals cases hk
theorem kind_slice {P : Program} {t e : TypeId} {ti : TI} (h : tiOf P t = some ti) (hk : ti.kind = .slice e) : P.underlying t = some (.slice e) := by
  obtain ⟨i, d, h1, h2, rfl⟩ := tiOf_some h
  rw [h2]
  cases d <;> simp [kindOf] at hk ⊢
  · exact hk
  · repeat' split at hk
    all_goals cases hk
theorem kind_map {P : Program} {t k e : TypeId} {ti : TI} (h : tiOf P t = some ti) (hk : ti.kind = .map k e) : P.underlying t = some (.map k e) := by
  obtain ⟨i, d, h1, h2, rfl⟩ := tiOf_some h
  rw [h2]
  cases d <;> simp [kindOf] at hk ⊢
  · exact hk
  · repeat' split at hk
    all_goals cases hk
theorem kind_strct' {P : Program} {t : TypeId} {l : List (Nat × Nat × TypeId)} {ti : TI} (h : tiOf P t = some ti) (hk : ti.kind = .strct l) :
    ∃ fs, P.underlying t = some (.struct fs) ∧ optAll (fun f : Field => (P.info? f.type).map fun i => (f.offset, i.size, f.type)) fs.toList = some l ∧ eqSafe P t fs.toList = true := by
  obtain ⟨i, d, h1, h2, rfl⟩ := tiOf_some h
  rw [h2]
  cases d <;> simp [kindOf] at hk ⊢
  split at hk
  · rename_i hs
    split at hk
    · rename_i l' hl
      cases hk
      exact ⟨hl, hs⟩
    · cases hk
  · cases hk
theorem kind_strct {P : Program} {t : TypeId} {l : List (Nat × Nat × TypeId)} {ti : TI} (h : tiOf P t = some ti) (hk : ti.kind = .strct l) :
    ∃ fs, P.underlying t = some (.struct fs) ∧ optAll (fun f : Field => (P.info? f.type).map fun i => (f.offset, i.size, f.type)) fs.toList = some l := by
  obtain ⟨fs, h1, h2, _⟩ := kind_strct' h hk
  exact ⟨fs, h1, h2⟩
theorem kind_ptr {P : Program} {t e : TypeId} {ti : TI} (h : tiOf P t = some ti) (hk : ti.kind = .ptr e) : P.underlying t = some (.pointer e) := by
  obtain ⟨i, d, h1, h2, rfl⟩ := tiOf_some h
  rw [h2]
  cases d <;> simp [kindOf] at hk ⊢
  · exact hk
  · repeat' split at hk
    all_goals cases hk
theorem ti_size {P : Program} {t : TypeId} {ti : TI} (h : tiOf P t = some ti) : ∃ i, P.info? t = some i ∧ i.size = ti.size ∧ i.bytes = ti.bytes ∧ i.zero.bind toAV = ti.zero := by
  obtain ⟨i, d, h1, h2, rfl⟩ := tiOf_some h
  exact ⟨i, h1, rfl, rfl, rfl⟩
theorem ti_sizeOf {P : Program} {t : TypeId} {ti : TI} (h : tiOf P t = some ti) (w : World) : (sizeOf t).run P w = .ok ti.size w := by
  obtain ⟨i, h1, h2, _⟩ := ti_size h
  rw [run_sizeOf w h1, ← h2]
  simp [Program.cellsOf, h1]
theorem ti_agg {P : Program} {t : TypeId} {ti : TI} (h : tiOf P t = some ti) (w : World) : (isAgg t).run P w = .ok ti.agg w := by
  obtain ⟨i, d, h1, h2, rfl⟩ := tiOf_some h
  unfold isAgg
  simp only [Sem.run_bind, run_underlying h2, Result.andThen_ok]
  cases d <;> rfl

theorem boolOp_some {op : BinOp} {b : Bool} {r : AV} (h : boolOp op b = some r) : (op = .eql ∧ r = .bool b) ∨ (op = .neq ∧ r = .bool (!b)) := by
  cases op <;> simp only [boolOp, Option.some.injEq, reduceCtorEq] at h <;> subst h
  · exact .inl ⟨rfl, rfl⟩
  · exact .inr ⟨rfl, rfl⟩
theorem cellEq_ok {P : Program} {ty : TypeId → Option TI} (hty : TyOK P ty) {t : TypeId} {ti : TI} (ht : ty t = some ti) {x y : AV} {v u : Value} {b : Bool} {G : Gh} {w : World} (h : cellEq ti.kind x y = some b) (hx : Rep G w x v) (hy : Rep G w y u) (d : Nat) :
    (Op.equalIn (d + 1) t v u).run P w = .ok b w := by
  unfold cellEq at h
  split at h
  · rename_i k0 k a k' b' hk
    split at h
    · rename_i e
      subst e
      simp only [Option.some.injEq] at h
      subst h
      cases hx; cases hy
      exact run_equalIn_int w d t _ _ _ _ (kind_int (hty _ _ ht) hk)
    · cases h
  · rename_i hk
    simp only [Option.some.injEq] at h
    subst h
    cases hx; cases hy
    exact run_equalIn_bool w d t _ _ (kind_bool (hty _ _ ht) hk)
  · rename_i hk
    simp only [Option.some.injEq] at h
    subst h
    cases hx; cases hy
    exact run_equalIn_string w d t _ _ (kind_str (hty _ _ ht) hk)
  · cases h
theorem aggEq_ok {P : Program} {ty : TypeId → Option TI} (hty : TyOK P ty) {cs ds : List AV} {xs ys : Array Value} {G : Gh} {w : World} (hx : Rep G w (.agg cs) (.agg xs)) (hy : Rep G w (.agg ds) (.agg ys)) (d : Nat) :
    ∀ {l : List Field} {fs : List (Nat × Nat × TypeId)} {b : Bool}, optAll (fun f : Field => (P.info? f.type).map fun i => (f.offset, i.size, f.type)) l = some fs → (∀ f ∈ l, f.name ≠ "_") → aggEq ty fs cs ds = some b → (Op.eqFields (d + 1) xs ys l).run P w = .ok b w
  | [], fs, b, hl, _, h => by
    simp only [optAll, Option.some.injEq] at hl
    subst hl
    simp only [aggEq, Option.some.injEq] at h
    subst h
    rfl
  | f :: l, fs, b, hl, hn, h => by
    simp only [optAll] at hl
    split at hl
    · rename_i p hp
      split at hl
      · rename_i ps hps
        simp only [Option.some.injEq] at hl
        subst hl
        obtain ⟨i, hi, rfl⟩ := Option.map_eq_some_iff.1 hp
        simp only [aggEq] at h
        split at h
        · rename_i ti hti
          split at h
          · cases h
          · rename_i hag
            split at h
            · rename_i x hcx
              split at h
              · rename_i y hdy
                split at h
                · rename_i b1 hb1
                  split at h
                  · rename_i r hr
                    simp only [Option.some.injEq] at h
                    subst h
                    have hag' := ti_agg (hty _ _ hti) w
                    have part_ok : ∀ {es : List AV} {vs : Array Value} {z : AV}, Rep G w (.agg es) (.agg vs) → es[f.offset]? = some z → (part f.type vs f.offset).run P w = .ok (vs.getD f.offset Go.undef) w ∧ Rep G w z (vs.getD f.offset Go.undef) := by
                      intro es vs z hr hz
                      cases hr with
                      | agg _ _ hlen h1 hrr =>
                        have hlt := (List.getElem?_eq_some_iff.1 hz).1
                        have hg : vs[f.offset]? = some (vs.getD f.offset Go.undef) := by rw [Array.getD_eq_getD_getElem?, Array.getElem?_eq_getElem (by omega)]; rfl
                        exact ⟨by unfold part; simp only [Sem.run_bind, hag', hag, hg, Result.andThen_ok, if_false, Sem.run_pure, Bool.false_eq_true], hrr _ _ hz⟩
                    obtain ⟨p1, p2⟩ := part_ok hx hcx
                    obtain ⟨q1, q2⟩ := part_ok hy hdy
                    have he := cellEq_ok hty hti hb1 p2 q2 d
                    have ih := aggEq_ok hty hx hy d hps (fun g hg => hn g (List.mem_cons_of_mem _ hg)) hr
                    have hnm := hn f (List.mem_cons_self ..)
                    simp only [Op.eqFields, ne_eq, hnm, not_false_eq_true, if_true, Sem.run_bind, p1, q1, he, Result.andThen_ok, Sem.run_ite]
                    cases b1
                    · simp
                    · simp [ih]
                  · cases h
                · cases h
              · cases h
            · cases h
        · cases h
      · cases hl
    · cases hl
theorem bin_ok {P : Program} {ty : TypeId → Option TI} (hty : TyOK P ty) {op : BinOp} {t : TypeId} {x y r : AV} {v u : Value} {G : Gh} {w : World} (h : bin ty (ty t) op x y = some r) (hx : Rep G w x v) (hy : Rep G w y u) :
    ∃ z, (Go.binOp op t v u).run P w = .ok z w ∧ Rep G w r z := by
  have ptr : ∀ {p : Option Addr} {b : Bool}, isPtr (ty t) = true → p.isNone = b → boolOp op b = some r → ∃ z, (Go.binOp op t (.pointer p) (.pointer none)).run P w = .ok z w ∧ Rep G w r z := by
    intro p b hk hp hb
    unfold isPtr at hk
    split at hk
    · rename_i e h0
      have hu := kind_ptr (hty _ _ h0) rfl
      have hu' : P.underlying t = some (.pointer (P.pointee t)) := by rw [hu]; unfold Program.pointee; rw [hu]
      rcases boolOp_some hb with ⟨rfl, rfl⟩ | ⟨rfl, rfl⟩
      · exact ⟨_, run_eql_pointer_nil w t p hu', by rw [hp]; exact .bool _⟩
      · exact ⟨_, run_neq_pointer_nil w t p hu', by rw [hp]; exact .bool _⟩
    · cases hk
  unfold bin at h
  split at h
  · rename_i k a k' b
    cases hx; cases hy
    split at h
    · split at h
      · rename_i hb
        simp only [shiftOf, Option.some.injEq] at h
        subst h
        exact ⟨_, by simp [Go.binOp, Op.shift, show ¬ b < 0 by omega]; rfl, by constructor⟩
      · cases h
    · split at h
      · rename_i hb
        simp only [shiftOf, Option.some.injEq] at h
        subst h
        exact ⟨_, by simp [Go.binOp, Op.shift, show ¬ b < 0 by omega]; rfl, by constructor⟩
      · cases h
    · split at h
      · rename_i hk
        subst hk
        exact arith_ok h t G w
      · cases h
  · split at h
    · rename_i h3
      have hb := kind_bool (hty _ _ h3) rfl
      cases hx; cases hy
      rcases boolOp_some h with ⟨rfl, rfl⟩ | ⟨rfl, rfl⟩
      · exact ⟨_, run_eql_bool w t _ _ hb, by constructor⟩
      · exact ⟨_, run_neq_bool w t _ _ hb, by constructor⟩
    · cases h
  · cases hx; cases hy
    rcases boolOp_some h with ⟨rfl, rfl⟩ | ⟨rfl, rfl⟩
    · exact ⟨_, by simp [Go.binOp, Op.stringOp]; rfl, by constructor⟩
    · exact ⟨_, by simp [Go.binOp, Op.stringOp]; rfl, by constructor⟩
  · split at h
    · rename_i fs h3
      split at h
      · rename_i b hb
        obtain ⟨fl, hu, hl, hsafe⟩ := kind_strct' (hty _ _ h3) rfl
        unfold eqSafe at hsafe
        simp only [Bool.and_eq_true, Bool.not_eq_true', List.all_eq_true, bne_iff_ne, ne_eq] at hsafe
        have hfo : P.fieldsOf t = fl := by unfold Program.fieldsOf; rw [hu]
        have hx' := hx
        have hy' := hy
        cases hx with
        | agg _ xs _ _ _ => cases hy with
          | agg _ ys _ _ _ =>
            have he := aggEq_ok hty hx' hy' 9998 hl (fun f hf => hsafe.2 f hf) hb
            have hq : (Op.equalIn 10000 t (.agg xs) (.agg ys)).run P w = .ok b w := by
              rw [run_equalIn_struct w 9999 t xs ys (by rw [hfo]; exact hu) hsafe.1.1, hfo]
              exact he
            rcases boolOp_some h with ⟨rfl, rfl⟩ | ⟨rfl, rfl⟩
            · exact ⟨_, by rw [run_eql_struct, hq]; rfl, by constructor⟩
            · exact ⟨_, by rw [run_neq_struct, hq]; rfl, by constructor⟩
      · cases h
    · cases h
  · split at h
    · rename_i hk; cases hx; cases hy; exact ptr hk rfl h
    · cases h
  · split at h
    · rename_i hk; cases hx; cases hy; exact ptr hk rfl h
    · cases h
  · split at h
    · rename_i hk; cases hx; cases hy; exact ptr hk rfl h
    · cases h
  · cases h
end Go.Proofs.Ytecpiplfjmmccaa.AM

/-
  What an operation that touches no memory gives (pv), and that the machine's gives just that.
  Conditions: the table of types (ty) tells of the program's.
-/
namespace Go.Proofs.Ytecpiplfjmmccaa.AM
open Go

def fldAddr (k : Option TI) (f : Nat) (x : AV) : Option AV :=
  match k with
  | some ⟨_, _, _, _, .strct fs⟩ => match fs[f]? with
    | some (off, size, _) => match size with
      | 0 => none
      | _ + 1 => match x with
        | .lptr i c => some (.lptr i (c + off))
        | .ptr i r c => some (.ptr i r (c + off))
        | .ep row c => some (.ep row (c + off))
        | _ => none
    | none => none
  | _ => none

def partOf (k : Option TI) (cs : List AV) (c : Nat) : Option AV :=
  match k with
  | some ti => match ti.agg with
    | true => match Nat.ble (c + ti.size) cs.length with
      | true => some (.agg ((cs.drop c).take ti.size))
      | false => none
    | false => match cs[c]? with
      | some x => match x.one with
        | true => some x
        | false => none
      | none => none
  | none => none

/-- A row of a slice. -/
def rowAt (rows : List (List AV)) (n : Int) : Option (List AV) := if 0 ≤ n then rows[n.toNat]? else none
def elemSz (ty : TypeId → Option TI) (t : TypeId) : Option Nat :=
  match ty t with
  | some ⟨_, _, _, _, .slice e⟩ => match ty e with
    | some te => some te.size
    | none => none
  | _ => none
def idxAddr (ty : TypeId → Option TI) (t : TypeId) (x i : AV) : Option AV :=
  match x, i with
  | .sl z rows _, .int _ n => match elemSz ty t with
    | some s => match s == z with
      | true => (rowAt rows n).map (.ep · 0)
      | false => none
    | none => none
  | .ms z id off len, .int _ n => match elemSz ty t with
    | some s => match s == z with
      | true => if 0 ≤ n ∧ n < (len : Int) then some (.ptr id (off + n.toNat) 0) else none
      | false => none
    | none => none
  | _, _ => none

def bnd (len : Nat) (T : List (Nat × AV)) : Option Operand → Nat → Option Nat
  | none, d => some d
  | some x, _ => match evA T x with
    | .int _ n => if 0 ≤ n ∧ n ≤ (len : Int) then some n.toNat else none
    | _ => none
def slc (ty : TypeId → Option TI) (t : TypeId) (T : List (Nat × AV)) (x : AV) (lo hi : Option Operand) : Option AV :=
  match x with
  | .sl z rows _ => match elemSz ty t with
    | some s => match s == z with
      | true => match bnd rows.length T hi rows.length with
        | some h => match bnd h T lo 0 with
          | some l => some (.sl z ((rows.drop l).take (h - l)) none)
          | none => none
        | none => none
      | false => none
    | none => none
  | .ms z id off len => match elemSz ty t with
    | some s => match s == z with
      | true => match bnd len T hi len with
        | some h => match bnd h T lo 0 with
          | some l => some (.ms z id (off + l) (h - l))
          | none => none
        | none => none
      | false => none
    | none => none
  | .str s => match ty t with
    | some ⟨_, _, _, _, .str⟩ => match bnd s.size T hi s.size with
      | some h => match bnd h T lo 0 with
        | some l => some (.str (s.extract l h))
        | none => none
      | none => none
    | _ => none
  | _ => none

def isSome : Option TI → Bool
  | some _ => true
  | none => false
/-- The numbers of a slice of bytes. -/
def bytesOf : List (List AV) → Option (List Int)
  | [] => some []
  | [.int .u8 n] :: l => match bytesOf l with
    | some ns => some (n :: ns)
    | none => none
  | _ :: _ => none
def bstr (ns : List Int) : ByteArray := ns.foldl (fun r n => r.push (UInt8.ofNat n.toNat)) ByteArray.empty
def isByte : Option TI → Bool
  | some ⟨_, _, _, _, .int .u8⟩ => true
  | _ => false
def cnv (ty : TypeId → Option TI) (ks kd : Option TI) (x : AV) : Option AV :=
  match x with
  | .int _ n => match kd with
    | some ⟨_, _, _, _, .int k⟩ => match isSome ks with
      | true => some (.int k (k.wrap n))
      | false => none
    | _ => none
  | .sl z rows _ => match kd with
    | some ⟨_, _, _, _, .str⟩ => match ks with
      | some ⟨_, _, _, _, .slice e⟩ => match isByte (ty e) with
        | true => match Nat.beq z 1 with
          | true => match bytesOf rows with
            | some ns => some (.str (bstr ns))
            | none => none
          | false => none
        | false => none
      | _ => none
    | _ => none
  | _ => none

def lenOf (k : Option TI) (x : AV) : Option AV :=
  match k with
  | some ⟨_, _, _, _, .slice _⟩ => match x with
    | .sl _ rows _ => some (.int .i64 rows.length)
    | .nils => some (.int .i64 0)
    | .ms _ _ _ n => some (.int .i64 n)
    | _ => none
  | some ⟨_, _, _, _, .str⟩ => match x with
    | .str s => some (.int .i64 s.size)
    | _ => none
  | _ => none

def ints2 (f : Int → Int → Int) : List AV → Option AV
  | [.int k a, .int _ b] => some (.int k (f a b))
  | _ => none

/-- cells of a struct with parts laid in -/
def fillA (places : List (Nat × Nat × TypeId)) (T : List (Nat × AV)) : List (Nat × Operand) → List AV → Option (List AV)
  | [], cs => some cs
  | (i, x) :: r, cs => match places[i]? with
    | none => none
    | some (off, size, _) => match evA T x with
      | .tup _ => none
      | y => match y.val with
        | true => match y.cellsOf.length == size with
          | true => match Nat.ble (off + size) cs.length with
            | true => fillA places T r (splice cs off y.cellsOf)
            | false => none
          | false => none
        | false => none
def bld (k : Option TI) (T : List (Nat × AV)) (parts : List (Nat × Operand)) : Option AV :=
  match k with
  | some ⟨_, _, _, some (.agg z), .strct fs⟩ => (fillA fs T parts z).map .agg
  | _ => none

def vals : List AV → Bool
  | [] => true
  | x :: l => match x.val with
    | true => vals l
    | false => false

def pv (ty : TypeId → Option TI) (op : Op) (T : List (Nat × AV)) : Option AV :=
  match op with
  | .move x => some (evA T x)
  | .assign x => some (evA T x)
  | .pick c a b => match evA T c with
    | .bool true => some (evA T a)
    | .bool false => some (evA T b)
    | _ => none
  | .nilCheck x => match evA T x with
    | .ptr i r c => some (.ptr i r c)
    | .ep r c => some (.ep r c)
    | _ => none
  | .fieldAddr s x f => fldAddr (ty s) f (evA T x)
  | .field s x f => match evA T x with
    | .agg cs => match ty s with
      | some ⟨_, _, _, _, .strct fs⟩ => match fs[f]? with
        | some (off, _, t) => partOf (ty t) cs off
        | none => none
      | _ => none
    | _ => none
  | .indexAddr t x i => idxAddr ty t (evA T x) (evA T i)
  | .binOp op t x y _ => bin ty (ty t) op (evA T x) (evA T y)
  | .unOp .not _ x => match evA T x with
    | .bool b => some (.bool (!b))
    | _ => none
  | .convert s d x => cnv ty (ty s) (ty d) (evA T x)
  | .extract x i => match evA T x with
    | .tup vs => match vs[i]? with
      | some x => match x.val with
        | true => some x
        | false => none
      | none => none
    | _ => none
  | .makeFunc (.func f) fi ca => match vals (fi.toList.map (evA T)) with
    | true => match vals (ca.toList.map (evA T)) with
      | true => some (.fn f (fi.toList.map (evA T)) (ca.toList.map (evA T)))
      | false => none
    | false => none
  | .build t parts => bld (ty t) T parts.toList
  | .slice t x lo hi none => slc ty t T (evA T x) lo hi
  | .call ⟨.builtin .len, ⟨[x]⟩, ⟨[t]⟩⟩ => lenOf (ty t) (evA T x)
  | .call ⟨.builtin .max, ⟨[x, y]⟩, _⟩ => ints2 (fun a b => if b > a then b else a) [evA T x, evA T y]
  | .call ⟨.builtin .min, ⟨[x, y]⟩, _⟩ => ints2 (fun a b => if b < a then b else a) [evA T x, evA T y]
  | _ => none

section
variable {E : Env} {P : Program} {ty : TypeId → Option TI} {lo : Nat → Nat} {G : Gh} {S : AS} {a : Act} {w : World} {o : Oper}

theorem fldAddr_ok (hty : TyOK P ty) {s : TypeId} {f : Nat} {x r : AV} {v : Value} (h : fldAddr (ty s) f x = some r) (hx : RepT lo G w x v) :
    ∃ u, (Instr.fieldAt s v f).run P w = .ok u w ∧ RepT lo G w r u := by
  unfold fldAddr at h
  split at h
  · rename_i h0
    obtain ⟨fs, hu, hl⟩ := kind_strct (hty _ _ h0) rfl
    split at h
    · rename_i off size t h1
      obtain ⟨_, hg⟩ := optAll_get hl
      obtain ⟨fd, hf, hi⟩ := hg _ _ h1
      obtain ⟨i, hif, he⟩ := Option.map_eq_some_iff.1 hi
      simp only [Prod.mk.injEq] at he
      obtain ⟨e1, e2, e3⟩ := he
      split at h
      · cases h
      · rename_i n
        have hf' : fs[f]? = some fd := by rw [← Array.getElem?_toList]; exact hf
        have hsz : ∀ w, (sizeOf fd.type).run P w = .ok (n + 1) w := fun w => by rw [run_sizeOf w hif]; simp [Program.cellsOf, hif, e2]
        have hrun : ∀ b c, (Instr.fieldAt s (.pointer (some ⟨b, c, none⟩)) f).run P w = .ok (.pointer (some ⟨b, c + off, none⟩)) w := by
          intro b c
          simp only [Instr.fieldAt, Sem.run_bind, run_underlying hu, Result.andThen_ok]
          simp only [hf', Instr.sureAddr, fieldPlace, Sem.run_bind, Sem.run_pure, Result.andThen_ok, hsz]
          simp [Addr.add_mid, e1]
        rcases hx with rfl | ⟨i, c, rfl, rfl⟩ | hx
        · cases h
        · simp only [Option.some.injEq] at h
          subst h
          exact ⟨_, hrun _ _, .inr (.inl ⟨i, c + off, rfl, rfl⟩)⟩
        · split at h
          · cases hx
          · cases hx with
            | ptr id row col b z hb => 
              simp only [Option.some.injEq] at h
              subst h
              exact ⟨_, hrun _ _, RepT.of (by rw [Nat.add_assoc]; exact .ptr _ _ _ b z hb)⟩
          · cases hx with
            | ep row col b o f hi hc h1 hr =>
              simp only [Option.some.injEq] at h
              subst h
              exact ⟨_, hrun _ _, RepT.of (by rw [Nat.add_assoc]; exact .ep _ _ b o f hi hc h1 hr)⟩
          · cases h
    · cases h
  · cases h

theorem partOf_ok (hty : TyOK P ty) {t : TypeId} {cs : List AV} {c : Nat} {r : AV} {vs : Array Value} (h : partOf (ty t) cs c = some r) (hx : Rep G w (.agg cs) (.agg vs)) :
    ∃ u, (part t vs c).run P w = .ok u w ∧ Rep G w r u := by
  unfold partOf at h
  split at h
  · rename_i ti h0
    have ha := ti_agg (hty _ _ h0) w
    have hs := ti_sizeOf (hty _ _ h0) w
    cases hx with
    | agg _ _ hl h1 hr =>
    split at h
    · rename_i hag
      split at h
      · rename_i hle
        simp only [Option.some.injEq] at h
        subst h
        have hle := Nat.le_of_ble_eq_true hle
        refine ⟨.agg (vs.extract c (c + ti.size)), by unfold part; simp only [Sem.run_bind, ha, hag, hs, Result.andThen_ok, if_true, Sem.run_pure], .agg _ _ (by simp; omega) (fun i x hx => ?_) (fun i x hx => ?_)⟩
        · rw [List.getElem?_take] at hx
          split at hx
          · rw [List.getElem?_drop] at hx; exact h1 _ x hx
          · cases hx
        · rw [List.getElem?_take] at hx
          split at hx
          · rename_i hlt
            rw [List.getElem?_drop] at hx
            have := hr _ x hx
            rw [Array.getD_eq_getD_getElem?] at this ⊢
            rw [Array.getElem?_extract]
            rw [if_pos (by omega)]
            exact this
          · cases hx
      · cases h
    · rename_i hag
      have h : cs[c]? = some r := by
        split at h
        · rename_i y hy
          split at h
          · rw [← h]; exact hy
          · cases h
        · cases h
      have hlt := (List.getElem?_eq_some_iff.1 h).1
      have hg : vs[c]? = some (vs.getD c Go.undef) := by rw [Array.getD_eq_getD_getElem?, Array.getElem?_eq_getElem (by omega)]; rfl
      exact ⟨vs.getD c Go.undef, by unfold part; simp only [Sem.run_bind, ha, hag, hg, Result.andThen_ok, if_false, Sem.run_pure, Bool.false_eq_true], hr c r h⟩
  · cases h

theorem elemSz_ok (hty : TyOK P ty) {t : TypeId} {s : Nat} (h : elemSz ty t = some s) : P.underlying t = some (.slice (P.elem t)) ∧ ∀ w, (sizeOf (P.elem t)).run P w = .ok s w := by
  unfold elemSz at h
  split at h
  · rename_i e h0
    have hu := kind_slice (hty _ _ h0) rfl
    have he : P.elem t = e := by unfold Program.elem; rw [hu]
    split at h
    · rename_i te h1
      simp only [Option.some.injEq] at h
      subst h
      rw [he]
      exact ⟨hu, fun w => ti_sizeOf (hty _ _ h1) w⟩
    · cases h
  · cases h

theorem idxAddr_ok (hty : TyOK P ty) {t : TypeId} {x i r : AV} {v u : Value} (h : idxAddr ty t x i = some r) (hx : Rep G w x v) (hi : Rep G w i u) :
    ∃ z, (Instr.indexAt t v u).run P w = .ok z w ∧ Rep G w r z := by
  unfold idxAddr at h
  split at h
  · rename_i z rows tok kk n
    split at h
    · rename_i s hs
      obtain ⟨hu, hsz⟩ := elemSz_ok hty hs
      split at h
      · rename_i hz
        have hz := eq_of_beq hz
        subst hz
        obtain ⟨row, hrow, rfl⟩ := Option.map_eq_some_iff.1 h
        unfold rowAt at hrow
        split at hrow
        · rename_i h0
          cases hi with
          | int k n =>
          cases hx with
          | sl z rows tok A c b o f hz hlc hc hk hp hcell h1 hr =>
          have hlt := (List.getElem?_eq_some_iff.1 hrow).1
          have hlen : row.length = s := hk row (List.mem_of_getElem? hrow)
          rcases hp with ⟨hn, _⟩ | ⟨rfl, him, _⟩
          · omega
          · refine ⟨_, by rw [run_indexAt_slice (h := hu), if_pos ⟨h0, by omega⟩, hsz]; rfl, ?_⟩
            rw [Addr.add_mid]
            have hc' : ∀ j y, row[j]? = some y → cellAt rows n.toNat j = some y := fun j y hy => by unfold cellAt; rw [hrow]; exact hy
            have hm := row_lt hlt (j := 0) hz
            refine .ep _ 0 b _ (f _) ?_ (fun j y hy => hcell _ j y (hc' j y hy)) (fun j y hy => h1 _ j y (hc' j y hy)) (fun j y hy => hr _ j y (hc' j y hy))
            have : (n.toNat + 1) * s ≤ rows.length * s := Nat.mul_le_mul_right s hlt
            rw [Nat.add_mul] at this
            show o + n.toNat * s + row.length ≤ G.imm b
            omega
        · cases hrow
      · cases h
    · cases h
  · rename_i z id off len kk n
    split at h
    · rename_i s hs
      obtain ⟨hu, hsz⟩ := elemSz_ok hty hs
      split at h
      · rename_i hz
        have hz := eq_of_beq hz
        subst hz
        split at h
        · rename_i h0
          simp only [Option.some.injEq] at h
          subst h
          cases hi with
          | int k n =>
          cases hx with
          | ms _ _ _ _ c A hlc hc hsh =>
          rcases hsh with ⟨b, rfl, hmb, _⟩ | hc0
          · refine ⟨_, by rw [run_indexAt_slice (h := hu), if_pos ⟨h0.1, by omega⟩, hsz]; rfl, ?_⟩
            rw [Addr.add_mid, show off * s + n.toNat * s = (off + n.toNat) * s + 0 by rw [Nat.add_mul]; rfl]
            exact .ptr id _ _ b s hmb
          · omega
        · cases h
      · cases h
    · cases h
  · cases h

theorem bnd_none {len d : Nat} {T : List (Nat × AV)} {m : Nat} (h : bnd len T none d = some m) : m = d := by simpa [bnd] using h.symm
theorem bnd_ok (hs : Sim E lo G S a w) {len d m : Nat} {x : Operand} (h : bnd len S.T (some x) d = some m) : m ≤ len ∧ ∃ k, a.eval x = .int k (m : Int) := by
  simp only [bnd] at h
  split at h
  · rename_i k n hy
    split at h
    · rename_i hb
      simp only [Option.some.injEq] at h
      have hr := evA_ok hs x
      rw [hy] at hr
      have hr := hr.rep (.inl rfl)
      generalize a.eval x = v at hr
      cases hr
      exact ⟨by omega, k, by rw [← h, Int.toNat_of_nonneg hb.1]⟩
    · cases h
  · cases h

theorem getD_map_none {α : Type} (x : Option Operand) (f : Operand → α) (h : x = none) : x.map f = none := by rw [h]; rfl

/-- The four forms of a slice's bounds at once. -/
theorem sliceBounds_ok (hs : Sim E lo G S a w) {isS : Bool} {len cap l h : Nat} {lo' hi : Option Operand} (hc : len ≤ cap) (hh : bnd len S.T hi len = some h) (hl : bnd h S.T lo' 0 = some l) :
    (Instr.sliceBounds isS len cap (lo'.map a.eval) (hi.map a.eval) none).run P w = .ok (l, h, cap) w ∧ l ≤ h ∧ h ≤ len := by
  have hh' : h ≤ len ∧ ((hi = none ∧ h = len) ∨ ∃ y k, hi = some y ∧ a.eval y = .int k (h : Int)) := by
    cases hi with
    | none => have := bnd_none hh; exact ⟨by omega, .inl ⟨rfl, this⟩⟩
    | some y => obtain ⟨h1, k, h2⟩ := bnd_ok hs hh; exact ⟨h1, .inr ⟨y, k, rfl, h2⟩⟩
  have hl' : l ≤ h ∧ ((lo' = none ∧ l = 0) ∨ ∃ y k, lo' = some y ∧ a.eval y = .int k (l : Int)) := by
    cases lo' with
    | none => have := bnd_none hl; exact ⟨by omega, .inl ⟨rfl, this⟩⟩
    | some y => obtain ⟨h1, k, h2⟩ := bnd_ok hs hl; exact ⟨h1, .inr ⟨y, k, rfl, h2⟩⟩
  have hb : ∀ (k : IntKind) (n m : Nat) (c : BoundsCode), n ≤ m → (Instr.sliceBound (.int k (n : Int)) m c).run P w = .ok n w := by
    intro k n m c hnm
    simp [Instr.sliceBound, asIntOf, hnm]
  refine ⟨?_, hl'.1, hh'.1⟩
  rcases hh'.2 with ⟨rfl, rfl⟩ | ⟨y, k, rfl, hy⟩ <;> rcases hl'.2 with ⟨rfl, rfl⟩ | ⟨y', k', rfl, hy'⟩
  · simp [Instr.sliceBounds]
  · simp [Instr.sliceBounds, hy', hb _ _ _ _ hl'.1]
  · simp [Instr.sliceBounds, hy, hb _ _ _ _ (Nat.le_trans hh'.1 hc)]
  · simp [Instr.sliceBounds, hy, hy', hb _ _ _ _ (Nat.le_trans hh'.1 hc), hb _ _ _ _ hl'.1]

theorem cellAt_sub {rows : List (List AV)} {l n i j : Nat} {x : AV} (h : cellAt ((rows.drop l).take n) i j = some x) : cellAt rows (l + i) j = some x := by
  obtain ⟨r, h1, h2⟩ := cellAt_some h
  rw [List.getElem?_take] at h1
  split at h1
  · rw [List.getElem?_drop] at h1
    unfold cellAt
    rw [h1]
    exact h2
  · cases h1

/-- A piece of a slice whose rows never turn. -/
theorem Rep.slice {z : Nat} {rows : List (List AV)} {tok : Option Nat} {A : Option Addr} {c l h : Nat} (hx : Rep G w (.sl z rows tok) (.slice A rows.length c)) (hlh : l ≤ h) (hhl : h ≤ rows.length) :
    Rep G w (.sl z ((rows.drop l).take (h - l)) none) (sliced A l h c z) := by
  cases hx with
  | sl _ _ _ _ _ b o f hz hlc hc hk hp hcell h1 hr =>
  have hlen : ((rows.drop l).take (h - l)).length = h - l := by simp; omega
  unfold sliced
  rcases Nat.eq_zero_or_pos (h - l) with h0 | h0
  · have : (rows.drop l).take (h - l) = [] := by rw [h0]; simp
    rw [this, h0]
    exact .sl z [] none _ _ 0 0 (fun _ _ => Go.undef) hz (by simp) (by omega) (by simp) (.inl ⟨rfl, .inl rfl⟩) (fun i j x hx => by simp [cellAt] at hx) (fun i j x hx => by simp [cellAt] at hx) (fun i j x hx => by simp [cellAt] at hx)
  · rw [if_neg (by omega)]
    rcases hp with ⟨hn, _⟩ | ⟨rfl, him, _⟩
    · omega
    · have hmul : l * z + (h - l) * z ≤ rows.length * z := by rw [← Nat.add_mul]; exact Nat.mul_le_mul_right z (by omega)
      have hk' : ∀ r ∈ (rows.drop l).take (h - l), r.length = z := fun r hr => hk r (List.mem_of_mem_drop (List.mem_of_mem_take hr))
      have hsub : ∀ i j x, cellAt ((rows.drop l).take (h - l)) i j = some x → cellAt rows (l + i) j = some x := fun i j x hx => cellAt_sub hx
      generalize (rows.drop l).take (h - l) = rs at hlen hk' hsub ⊢
      rw [← hlen]
      refine .sl z rs none _ _ b (o + l * z) (fun i j => f (l + i) j) hz (by omega) (by omega) hk' ?_ (fun i j x hx => ?_) (fun i j x hx => h1 _ _ x (hsub _ _ _ hx)) (fun i j x hx => hr _ _ x (hsub _ _ _ hx))
      · refine .inr ⟨?_, by rw [hlen]; omega, fun t e => by cases e⟩
        rw [Option.map_some, Addr.add_mid]
      · have := hcell _ _ x (hsub _ _ _ hx)
        rw [Nat.add_mul] at this
        rw [← this]
        congr 2
        omega

theorem slc_ok (hty : TyOK P ty) (hs : Sim E lo G S a w) {t : TypeId} {x r : AV} {v : Value} {l h : Option Operand} (hr : slc ty t S.T x l h = some r) (hx : Rep G w x v) :
    ∃ u, (Instr.sliceAt t v (l.map a.eval) (h.map a.eval) none).run P w = .ok u w ∧ Rep G w r u := by
  unfold slc at hr
  split at hr
  · rename_i z rows tok
    split at hr
    · rename_i s hsz
      obtain ⟨hu, hsz⟩ := elemSz_ok hty hsz
      split at hr
      · rename_i hzz
        have hzz := eq_of_beq hzz
        subst hzz
        split at hr
        · rename_i hh h1
          split at hr
          · rename_i ll h2
            simp only [Option.some.injEq] at hr
            subst hr
            have hx' := hx
            cases hx with
            | sl _ _ _ A c b o f hz hlc hc hk hp hcell h1' hrr =>
            obtain ⟨hb, hlh, hhl⟩ := sliceBounds_ok (P := P) (isS := true) (cap := c) hs hlc h1 h2
            refine ⟨_, ?_, hx'.slice hlh hhl⟩
            rw [run_sliceAt_slice (h := hu), run_slice_any w t A rows.length c hu, hb]
            simp only [Result.andThen_ok, hsz]
          · cases hr
        · cases hr
      · cases hr
    · cases hr
  · rename_i z id off len
    split at hr
    · rename_i s hsz
      obtain ⟨hu, hsz⟩ := elemSz_ok hty hsz
      split at hr
      · rename_i hzz
        have hzz := eq_of_beq hzz
        subst hzz
        split at hr
        · rename_i hh h1
          split at hr
          · rename_i ll h2
            simp only [Option.some.injEq] at hr
            subst hr
            cases hx with
            | ms _ _ _ _ c A hlc hc hsh =>
            obtain ⟨hb, hlh, hhl⟩ := sliceBounds_ok (P := P) (isS := true) (cap := c) hs hlc h1 h2
            refine ⟨sliced A ll hh c s, ?_, ?_⟩
            · rw [run_sliceAt_slice (h := hu), run_slice_any w t A len c hu, hb]
              simp only [Result.andThen_ok, hsz]
            · unfold sliced
              rcases Nat.eq_zero_or_pos (c - ll) with h0 | h0
              · exact .ms _ _ _ _ _ _ (by omega) (by omega) (.inr h0)
              · rw [if_neg (by omega)]
                rcases hsh with ⟨b, rfl, hmb, e, hsh⟩ | hc0
                · refine .ms _ _ _ _ _ _ (by omega) (by omega) (.inl ⟨b, ?_, hmb, e, ?_⟩)
                  · rw [Option.map_some, Addr.add_mid, Nat.add_mul]
                  · rw [hsh, show off + ll + (c - ll) = off + c by omega]
                · omega
          · cases hr
        · cases hr
      · cases hr
    · cases hr
  · rename_i s
    split at hr
    · rename_i h0
      have hu := kind_str (hty _ _ h0) rfl
      split at hr
      · rename_i hh h1
        split at hr
        · rename_i ll h2
          simp only [Option.some.injEq] at hr
          subst hr
          cases hx
          obtain ⟨hb, hlh, hhl⟩ := sliceBounds_ok (P := P) (isS := false) (cap := s.size) hs (Nat.le_refl _) h1 h2
          refine ⟨.string (s.extract ll hh), ?_, .str _⟩
          rw [run_sliceAt_string (h := hu)]
          simp [Instr.slice, run_underlying hu, hb]
        · cases hr
      · cases hr
    · cases hr
  · cases hr

theorem bytesOf_eq : ∀ {rows : List (List AV)} {ns : List Int}, bytesOf rows = some ns → rows = ns.map fun n => [.int .u8 n]
  | [], ns, h => by
    simp only [bytesOf, Option.some.injEq] at h
    subst h; rfl
  | r :: l, ns, h => by
    unfold bytesOf at h
    split at h
    · rename_i he; cases he
    · rename_i n l' he
      simp only [List.cons.injEq] at he
      obtain ⟨rfl, rfl⟩ := he
      split at h
      · rename_i ms hms
        simp only [Option.some.injEq] at h
        subst h
        rw [bytesOf_eq hms]
        rfl
      · cases h
    · cases h
theorem bytesOf_map : ∀ ns : List Int, bytesOf (ns.map fun n => [AV.int .u8 n]) = some ns
  | [] => rfl
  | n :: ns => by simp only [List.map_cons, bytesOf, bytesOf_map ns]

theorem cnv_ok (hty : TyOK P ty) {s d : TypeId} {x r : AV} {v : Value} (h : cnv ty (ty s) (ty d) x = some r) (hx : Rep G w x v) : ∃ u, (convert s d v).run P w = .ok u w ∧ Rep G w r u := by
  unfold cnv at h
  split at h
  · rename_i k n
    split at h
    · rename_i kd h0
      have hd := kind_int (hty _ _ h0) rfl
      split at h
      · rename_i hsm
        simp only [Option.some.injEq] at h
        subst h
        cases hq : ty s with
        | none => rw [hq] at hsm; cases hsm
        | some ti =>
          obtain ⟨i, dd, _, hu, _⟩ := tiOf_some (hty _ _ hq)
          cases hx
          have hk : P.intKind d = kd := by unfold Program.intKind; rw [hd]
          refine ⟨_, run_convert_int w s d k n (by rw [hu]; rfl) (by rw [hk]; exact hd), ?_⟩
          rw [hk]
          exact .int _ _
      · cases h
    · cases h
  · rename_i z rows tok
    split at h
    · rename_i hd
      split at h
      · rename_i e hs
        split at h
        · rename_i hb
          split at h
          · rename_i hz
            have hz := Nat.eq_of_beq_eq_true hz
            subst hz
            split at h
            · rename_i ns hns
              simp only [Option.some.injEq] at h
              subst h
              have hus := kind_slice (hty _ _ hs) rfl
              have hud := kind_str (hty _ _ hd) rfl
              have hue : P.underlying e = some (.int .u8) := by
                unfold isByte at hb
                split at hb
                · rename_i he; exact kind_int (hty _ _ he) rfl
                · cases hb
              have hrows := bytesOf_eq hns
              cases hx with
              | sl _ _ _ A c b o f _ hlc hc hk hp hcell h1 hr =>
              refine ⟨_, ?_, .str _⟩
              rw [run_convert_bytes_string w s d e A rows.length c hus hue hud]
              have hlen : rows.length = ns.length := by rw [hrows]; simp
              rcases Nat.eq_zero_or_pos rows.length with h0 | h0
              · have hn0 : ns = [] := List.eq_nil_of_length_eq_zero (by omega)
                subst hn0
                rw [h0]
                cases A with
                | none => rfl
                | some a => exact run_bytesToString w a 0 c [] (by rfl)
              · rcases hp with ⟨h2, _⟩ | ⟨rfl, _, _⟩
                · omega
                · refine run_bytesToString w ⟨b, o, none⟩ rows.length c ns ?_
                  have := run_loadCells_list (P := P) w ⟨b, o, none⟩ (ns.map (Value.int .u8)) (fun j v hj => ?_)
                  · rw [hlen]; simpa using this
                  · rw [List.getElem?_map] at hj
                    obtain ⟨n, hn, rfl⟩ := Option.map_eq_some_iff.1 hj
                    have hca : cellAt rows j 0 = some (.int .u8 n) := by
                      unfold cellAt
                      rw [hrows, List.getElem?_map, hn]
                      rfl
                    have h3 := hr j 0 _ hca
                    have h4 := hcell j 0 _ hca
                    generalize f j 0 = fv at h3 h4
                    cases h3
                    rw [Addr.add_mid, ← h4]
                    congr 2
                    omega
            · cases h
          · cases h
        · cases h
      · cases h
    · cases h
  · cases h

theorem lenOf_ok (hty : TyOK P ty) {t ret : TypeId} {x r : AV} {v : Value} (h : lenOf (ty t) x = some r) (hx : Rep G w x v) : ∃ u, (Builtin.len_ #[t] ret #[v]).run P w = .ok u w ∧ Rep G w r u := by
  unfold lenOf at h
  split at h
  · rename_i e h0
    have hu := kind_slice (hty _ _ h0) rfl
    split at h <;> simp only [Option.some.injEq, reduceCtorEq] at h <;> subst h <;> cases hx <;>
      exact ⟨_, by simp [Builtin.len_, run_underlying hu, goInt]; rfl, by constructor⟩
  · rename_i h0
    have hu := kind_str (hty _ _ h0) rfl
    split at h <;> simp only [Option.some.injEq, reduceCtorEq] at h
    subst h; cases hx
    exact ⟨_, by simp [Builtin.len_, run_underlying hu, goInt]; rfl, by constructor⟩
  · cases h

theorem vals_get : ∀ {l : List AV}, vals l = true → ∀ (i : Nat) (x : AV), l[i]? = some x → x.val = true
  | [], _, i, x, h => by simp at h
  | y :: l, hv, i, x, h => by
    simp only [vals] at hv
    split at hv
    · rename_i hy
      cases i with
      | zero => simp only [List.getElem?_cons_zero, Option.some.injEq] at h; rw [← h]; exact hy
      | succ i => exact vals_get hv i x (by simpa using h)
    · cases hv

/-! ### a struct built of parts -/
theorem setAll_size (off : Nat) : ∀ (vs : List Value) (n : Nat) (cells : Array Value), ((vs.zipIdx n).foldl (fun cs (p : Value × Nat) => cs.setIfInBounds (off + p.2) p.1) cells).size = cells.size
  | [], _, _ => rfl
  | v :: r, n, cells => by
    simp only [List.zipIdx_cons, List.foldl_cons]
    rw [setAll_size off r (n + 1)]
    simp
theorem setAll_get (off : Nat) : ∀ (vs : List Value) (n : Nat) (cells : Array Value), off + n + vs.length ≤ cells.size → ∀ k, ((vs.zipIdx n).foldl (fun cs (p : Value × Nat) => cs.setIfInBounds (off + p.2) p.1) cells)[k]? =
    if k < off + n then cells[k]? else if k < off + n + vs.length then vs[k - (off + n)]? else cells[k]?
  | [], n, cells, _, k => by
    simp only [List.zipIdx_nil, List.foldl_nil, List.length_nil, Nat.add_zero]
    by_cases h1 : k < off + n <;> simp [h1]
  | v :: r, n, cells, hl, k => by
    simp only [List.length_cons] at hl
    simp only [List.zipIdx_cons, List.foldl_cons]
    rw [setAll_get off r (n + 1) (cells.setIfInBounds (off + n) v) (by simp; omega) k]
    simp only [Array.getElem?_setIfInBounds, List.length_cons]
    by_cases h1 : k < off + n
    · rw [if_pos (by omega), if_neg (by omega), if_pos h1]
    · rw [if_neg h1]
      by_cases h2 : k = off + n
      · subst h2
        rw [if_pos (by omega), if_pos rfl, if_pos (by omega), if_pos (by omega), Nat.sub_self]
        rfl
      · rw [if_neg (by omega)]
        by_cases h3 : k < off + (n + 1) + r.length
        · rw [if_pos h3, if_pos (by omega)]
          obtain ⟨m, rfl⟩ : ∃ m, k = off + n + 1 + m := ⟨k - (off + n + 1), by omega⟩
          rw [show off + n + 1 + m - (off + (n + 1)) = m by omega, show off + n + 1 + m - (off + n) = m + 1 by omega]
          rfl
        · rw [if_neg h3, if_neg (by omega), if_neg (by omega)]

def CellsRep (G : Gh) (w : World) (cs : List AV) (vs : Array Value) : Prop := vs.size = cs.length ∧ ∀ (j : Nat) x, cs[j]? = some x → x.one = true ∧ Rep G w x (vs.getD j Go.undef)

theorem fillA_ok (hs : Sim E lo G S a w) {fs : List (Nat × Nat × TypeId)} : ∀ {parts : List (Nat × Operand)} {cs rs : List AV} {vs : Array Value}, fillA fs S.T parts cs = some rs → CellsRep G w cs vs →
    ∃ us, Instr.fill (fun i => (fs[i]?).map fun p => (p.1, p.2.1)) vs (parts.map fun p => (p.1, a.eval p.2)) = some us ∧ CellsRep G w rs us
  | [], cs, rs, vs, h, hc => by
    simp only [fillA, Option.some.injEq] at h
    subst h
    exact ⟨vs, rfl, hc⟩
  | (i, x) :: r, cs, rs, vs, h, hc => by
    simp only [fillA] at h
    split at h
    · cases h
    · rename_i off size t hp
      split at h
      · cases h
      · rename_i y hnt
        split at h
        · rename_i hv
          split at h
          · rename_i hsz
            have hsz := eq_of_beq hsz
            split at h
            · rename_i hle
              have hle := Nat.le_of_ble_eq_true hle
              have hr := (evA_ok hs x).rep (.inl hv)
              obtain ⟨c1, c2⟩ := hr.cells hv (fun ts e => hnt ts e)
              have hcs : CellsRep G w (splice cs off (evA S.T x).cellsOf) (((a.eval x).cells.zipIdx).foldl (fun cs (p : Value × Nat) => cs.setIfInBounds (off + p.2) p.1) vs) := by
                rw [← Array.foldl_toList, Array.toList_zipIdx]
                have hl : off + 0 + (a.eval x).cells.toList.length ≤ vs.size := by simp [c1, hc.1]; omega
                refine ⟨by rw [setAll_size, hc.1]; simp [splice]; omega, fun j u hu => ?_⟩
                unfold splice at hu
                rw [splice_get cs _ off j (by omega)] at hu
                rw [Array.getD_eq_getD_getElem?, setAll_get off _ 0 vs hl j]
                simp only [Nat.add_zero, Array.length_toList, c1]
                by_cases j1 : j < off
                · rw [if_pos j1] at hu ⊢
                  rw [← Array.getD_eq_getD_getElem?]; exact hc.2 j u hu
                · rw [if_neg j1] at hu ⊢
                  by_cases j2 : j < off + (evA S.T x).cellsOf.length
                  · rw [if_pos j2] at hu ⊢
                    have := c2 _ u hu
                    rwa [Array.getD_eq_getD_getElem?, ← Array.getElem?_toList] at this
                  · rw [if_neg j2] at hu ⊢
                    rw [← Array.getD_eq_getD_getElem?]; exact hc.2 j u hu
              obtain ⟨us, h1, h2⟩ := fillA_ok hs (parts := r) h hcs
              refine ⟨us, ?_, h2⟩
              simp only [List.map_cons, Instr.fill, hp, Option.map_some]
              rw [if_neg (by rw [c1, hsz, hc.1]; simp; omega)]
              exact h1
            · cases h
          · cases h
        · cases h
end
end Go.Proofs.Ytecpiplfjmmccaa.AM

/-
  The operations that touch no memory, all together (pv_ok).
  Conditions: the table of types (ty) tells of the program's.
-/
namespace Go.Proofs.Ytecpiplfjmmccaa.AM
open Go

section
variable {E : Env} {P : Program} {ty : TypeId → Option TI} {lo : Nat → Nat} {G : Gh} {S : AS} {a : Act} {w : World}

theorem eqGuard_ok {op : BinOp} {t : TypeId} {x y : Operand} {v u : Value} (h : (∀ vs, v ≠ .agg vs) ∧ v ≠ .nilIface) : (eqGuard op t x y v u).run P w = .ok () w := by
  cases op <;> simp only [eqGuard, Bool.not_false, Bool.not_true, if_true, Bool.false_eq_true, if_false] <;> (try rfl)
  all_goals
    split
    · exact absurd rfl h.2
    · exact absurd rfl (h.1 _)
    · rfl
theorem bin_guard (hty : TyOK P ty) {op : BinOp} {t : TypeId} {xo yo : Operand} {x y r : AV} {v u : Value} (h : bin ty (ty t) op x y = some r) (hx : Rep G w x v) (hy : Rep G w y u) : (eqGuard op t xo yo v u).run P w = .ok () w := by
  cases x <;> cases hx <;> first
    | (exfalso; simp [bin] at h; done)
    | (refine eqGuard_ok ⟨fun _ e => ?_, fun e => ?_⟩ <;> (cases e; done))
    | skip
  rename_i cs vs _ _ _
  cases y <;> first | (exfalso; simp [bin] at h; done) | skip
  cases hy with
  | agg _ us _ _ _ =>
  refine run_eqGuard_agg w op t xo yo _ _ ?_
  unfold bin at h
  dsimp only at h
  split at h
  · rename_i fs h3
    obtain ⟨fl, hu, hl, hsafe⟩ := kind_strct' (hty _ _ h3) rfl
    unfold eqSafe at hsafe
    simp only [Bool.and_eq_true, Bool.not_eq_true'] at hsafe
    exact hsafe.1.2
  · cases h
theorem bin_val {ty : TypeId → Option TI} {k : Option TI} {op : BinOp} {x y r : AV} (h : bin ty k op x y = some r) : x.val = true ∧ y.val = true := by
  cases x <;> cases y <;> first | exact ⟨rfl, rfl⟩ | (exfalso; simp [bin] at h; done)

theorem reps_map (hs : Sim E lo G S a w) (xs : Array Operand) (h : vals (xs.toList.map (evA S.T)) = true) : (xs.map a.eval).size = (xs.toList.map (evA S.T)).length ∧ ∀ (i : Nat) x, (xs.toList.map (evA S.T))[i]? = some x → Rep G w x ((xs.map a.eval).getD i Go.undef) := by
  refine ⟨by simp, fun i x hx => ?_⟩
  have hv := vals_get h i x hx
  rw [List.getElem?_map] at hx
  obtain ⟨o, ho, rfl⟩ := Option.map_eq_some_iff.1 hx
  have hg : (xs.map a.eval).getD i Go.undef = a.eval o := by
    rw [Array.getD_eq_getD_getElem?, Array.getElem?_map, ← Array.getElem?_toList, ho]; rfl
  rw [hg]
  exact (evA_ok hs o).rep (.inl hv)

theorem places_of : ∀ {l : List Field} {fs : List (Nat × Nat × TypeId)}, optAll (fun f : Field => (P.info? f.type).map fun i => (f.offset, i.size, f.type)) l = some fs →
    l.mapM (fun f : Field => (P.info? f.type).map fun i => (f.offset, i.size)) = some (fs.map fun p => (p.1, p.2.1))
  | [], fs, hl => by simp only [optAll, Option.some.injEq] at hl; subst hl; rfl
  | f :: l, fs, hl => by
    simp only [optAll] at hl
    split at hl
    · rename_i y hy
      split at hl
      · rename_i ys hys
        simp only [Option.some.injEq] at hl
        subst hl
        obtain ⟨i, hi, rfl⟩ := Option.map_eq_some_iff.1 hy
        simp [List.mapM_cons, hi, places_of hys]
      · cases hl
    · cases hl

theorem bld_ok (hty : TyOK P ty) (hs : Sim E lo G S a w) {t : TypeId} {parts : Array (Nat × Operand)} {r : AV} (h : bld (ty t) S.T parts.toList = some r) :
    ∃ u, (Instr.build t (parts.map fun (i, x) => (i, a.eval x))).run P w = .ok u w ∧ Rep G w r u := by
  unfold bld at h
  split at h
  · rename_i sz by_ ag z fs h0
    obtain ⟨us, hf, rfl⟩ := Option.map_eq_some_iff.1 h
    have ht := hty _ _ h0
    obtain ⟨fl, hu, hl⟩ := kind_strct ht rfl
    obtain ⟨i, hi, _, _, hz⟩ := ti_size ht
    obtain ⟨zv, hzv, hza⟩ := Option.bind_eq_some_iff.1 hz
    have hzr := toAV_rep hza G w
    cases hzr with
    | agg _ zs hzl hz1 hzr =>
    obtain ⟨us', h1, h2⟩ := fillA_ok hs hf ⟨hzl, fun j x hx => ⟨hz1 j x hx, hzr j x hx⟩⟩
    refine ⟨.agg us', ?_, .agg _ _ h2.1 (fun j x hx => (h2.2 j x hx).1) (fun j x hx => (h2.2 j x hx).2)⟩
    refine run_build w t _ us' ?_
    unfold Program.built
    have hpl := places_of hl
    simp only [hi, hu, hzv, hpl]
    have hfun : (fun x : Nat => ((fs.map fun p => (p.1, p.2.1)).toArray)[x]?) = fun i => (fs[i]?).map fun p => (p.1, p.2.1) := by funext i; simp
    rw [hfun, Array.toList_map]
    exact h1
  · cases h

theorem pv_ok (hty : TyOK P ty) (hs : Sim E lo G S a w) {o : Oper} {x : AV} (h : pv ty o.op S.T = some x) : ∃ v, (execOp a.eval o).run P w = .ok (.value v) w ∧ RepT lo G w x v := by
  obtain ⟨dst, op, type, pos, after, guard⟩ := o
  simp only at h
  unfold pv at h
  split at h
  · rename_i y; simp only [Option.some.injEq] at h; subst h; exact ⟨_, rfl, evA_ok hs y⟩
  · rename_i y; simp only [Option.some.injEq] at h; subst h; exact ⟨_, rfl, evA_ok hs y⟩
  · rename_i c y z
    have hc := evA_ok hs c
    split at h
    · rename_i e; rw [e] at hc; have hc := hc.rep (.inl rfl); simp only [Option.some.injEq] at h; subst h
      generalize hev : a.eval c = cv at hc; cases hc
      exact ⟨_, by simp [execOp, hev, asBool], evA_ok hs y⟩
    · rename_i e; rw [e] at hc; have hc := hc.rep (.inl rfl); simp only [Option.some.injEq] at h; subst h
      generalize hev : a.eval c = cv at hc; cases hc
      exact ⟨_, by simp [execOp, hev, asBool], evA_ok hs z⟩
    · cases h
  · rename_i y
    have hr := evA_ok hs y
    split at h
    · rename_i i r c hy
      rw [hy] at hr
      have hr := hr.rep (.inl rfl)
      simp only [Option.some.injEq] at h; subst h
      generalize hev : a.eval y = yv at hr
      have hr' := hr
      cases hr
      exact ⟨_, by simp [execOp, hev], RepT.of hr'⟩
    · rename_i r c hy
      rw [hy] at hr
      have hr := hr.rep (.inl rfl)
      simp only [Option.some.injEq] at h; subst h
      generalize hev : a.eval y = yv at hr
      have hr' := hr
      cases hr
      exact ⟨_, by simp [execOp, hev], RepT.of hr'⟩
    · cases h
  · rename_i s y f
    obtain ⟨u, h1, h2⟩ := fldAddr_ok hty h (evA_ok hs y)
    exact ⟨u, by simp [execOp, h1], h2⟩
  · rename_i s y f
    split at h
    · rename_i cs hy
      split at h
      · rename_i fs h0
        split at h
        · rename_i off sz t hf
          have hr := evA_ok hs y
          rw [hy] at hr
          have hr := hr.rep (.inl rfl)
          generalize hev : a.eval y = yv at hr
          have hr' := hr
          cases hr with
          | agg _ vs hl h1 hrr =>
          obtain ⟨u, h3, h4⟩ := partOf_ok hty h hr'
          obtain ⟨fl, hu, hla⟩ := kind_strct (hty _ _ h0) rfl
          obtain ⟨_, hg⟩ := optAll_get hla
          obtain ⟨fd, hfd, hi⟩ := hg _ _ hf
          obtain ⟨i, hif, he⟩ := Option.map_eq_some_iff.1 hi
          simp only [Prod.mk.injEq] at he
          obtain ⟨e1, e2, e3⟩ := he
          have hf' : fl[f]? = some fd := by rw [← Array.getElem?_toList]; exact hfd
          refine ⟨u, ?_, RepT.of h4⟩
          simp [execOp, hev, Instr.field, run_underlying hu, hf', asAgg, e1, e3, h3]
        · cases h
      · cases h
    · cases h
  · rename_i t y i
    have hb : ∀ {p q : AV}, idxAddr ty t p q = some x → p.val = true ∧ q.val = true := by
      intro p q hq; unfold idxAddr at hq; split at hq
      · exact ⟨rfl, rfl⟩
      · exact ⟨rfl, rfl⟩
      · cases hq
    obtain ⟨u, h1, h2⟩ := idxAddr_ok hty h ((evA_ok hs y).rep (.inl (hb h).1)) ((evA_ok hs i).rep (.inl (hb h).2))
    exact ⟨u, by simp [execOp, h1], RepT.of h2⟩
  · rename_i bop t y z _
    have hv := bin_val h
    have hy := (evA_ok hs y).rep (.inl hv.1)
    have hz := (evA_ok hs z).rep (.inl hv.2)
    obtain ⟨u, h1, h2⟩ := bin_ok hty h hy hz
    exact ⟨u, by simp [execOp, bin_guard hty h hy hz, h1], RepT.of h2⟩
  · rename_i y
    have hr := evA_ok hs y
    split at h
    · rename_i b hy
      rw [hy] at hr
      have hr := hr.rep (.inl rfl)
      generalize hev : a.eval y = yv at hr
      cases hr
      simp only [Option.some.injEq] at h; subst h
      exact ⟨.bool (!b), by simp [execOp, hev, Op.unary], RepT.of (.bool _)⟩
    · cases h
  · rename_i s d y
    have hv : (evA S.T y).val = true := by
      unfold cnv at h; split at h
      · rename_i e; rw [e]; rfl
      · rename_i e; rw [e]; rfl
      · cases h
    obtain ⟨u, h1, h2⟩ := cnv_ok hty h ((evA_ok hs y).rep (.inl hv))
    exact ⟨u, by simp [execOp, h1], RepT.of h2⟩
  · rename_i y i
    have hr := evA_ok hs y
    split at h
    · rename_i vs hy
      rw [hy] at hr
      have hr := hr.rep (.inl rfl)
      generalize hev : a.eval y = yv at hr
      cases hr with
      | tup _ us hl hrr =>
      have h : vs[i]? = some x := by
        split at h
        · rename_i y hy
          split at h
          · rw [← h]; exact hy
          · cases h
        · cases h
      have hlt := (List.getElem?_eq_some_iff.1 h).1
      have hg : us[i]? = some (us.getD i Go.undef) := by rw [Array.getD_eq_getD_getElem?, Array.getElem?_eq_getElem (by omega)]; rfl
      refine ⟨us.getD i Go.undef, ?_, RepT.of (hrr i x h)⟩
      show ((Instr.extract (a.eval y) i).bind fun v => (pure (Next.value v) : Sem Next)).run P w = _
      rw [hev]
      simp only [Instr.extract, hg]
      rfl
    · cases h
  · rename_i f fi ca
    split at h
    · rename_i h1
      split at h
      · rename_i h2
        simp only [Option.some.injEq] at h; subst h
        obtain ⟨a1, a2⟩ := reps_map hs fi h1
        obtain ⟨b1, b2⟩ := reps_map hs ca h2
        exact ⟨_, rfl, RepT.of (.fn f _ _ _ _ a1 b1 a2 b2)⟩
      · cases h
    · cases h
  · rename_i t parts
    obtain ⟨u, h1, h2⟩ := bld_ok hty hs h
    exact ⟨u, by simp [execOp, h1], RepT.of h2⟩
  · rename_i t y l hh
    have hv : (evA S.T y).val = true := by
      unfold slc at h; split at h
      · rename_i e; rw [e]; rfl
      · rename_i e; rw [e]; rfl
      · rename_i e; rw [e]; rfl
      · cases h
    obtain ⟨u, h1, h2⟩ := slc_ok hty hs h ((evA_ok hs y).rep (.inl hv))
    exact ⟨u, by simp [execOp, h1], RepT.of h2⟩
  · rename_i y t
    have hv : (evA S.T y).val = true := by
      unfold lenOf at h
      split at h
      · split at h <;> first | (rename_i e; rw [e]; rfl) | cases h
      · split at h <;> first | (rename_i e; rw [e]; rfl) | cases h
      · cases h
    obtain ⟨u, h1, h2⟩ := lenOf_ok (ret := type) hty h ((evA_ok hs y).rep (.inl hv))
    exact ⟨u, by simp [execOp, resolve, invoke, builtin, h1], RepT.of h2⟩
  · rename_i y z _
    simp only [ints2] at h
    split at h
    · rename_i k p k' q he
      simp only [List.cons.injEq, and_true] at he
      have h1 := (evA_ok hs y); have h2 := (evA_ok hs z)
      rw [he.1] at h1; rw [he.2] at h2
      have h1 := h1.rep (.inl rfl); have h2 := h2.rep (.inl rfl)
      generalize hey : a.eval y = yv at h1; generalize hez : a.eval z = zv at h2
      cases h1; cases h2
      simp only [Option.some.injEq] at h; subst h
      exact ⟨_, by simp [execOp, resolve, invoke, builtin, hey, hez, Builtin.max_, Builtin.max2], RepT.of (.int _ _)⟩
    · cases h
  · rename_i y z _
    simp only [ints2] at h
    split at h
    · rename_i k p k' q he
      simp only [List.cons.injEq, and_true] at he
      have h1 := (evA_ok hs y); have h2 := (evA_ok hs z)
      rw [he.1] at h1; rw [he.2] at h2
      have h1 := h1.rep (.inl rfl); have h2 := h2.rep (.inl rfl)
      generalize hey : a.eval y = yv at h1; generalize hez : a.eval z = zv at h2
      cases h1; cases h2
      simp only [Option.some.injEq] at h; subst h
      exact ⟨_, by simp [execOp, resolve, invoke, builtin, hey, hez, Builtin.min_, Builtin.min2], RepT.of (.int _ _)⟩
    · cases h
  · cases h
end
end Go.Proofs.Ytecpiplfjmmccaa.AM

/-
  What becomes of the tracked memory: a new block, a row that is written, a slice that grows.
  No program in sight. Conditions: none.
-/
namespace Go.Proofs.Ytecpiplfjmmccaa.AM
open Go

/-- Memory has turned as a call may turn it. -/
theorem Sim.turn {E : Env} {lo : Nat → Nat} {G G' : Gh} {S : AS} {a : Act} {w w' : World} {H' : AH} (h : Sim E lo G S a w) (hle : Le G w G' w') (hx : Ext G S.H w G' H' w') (hh : HSim G' w' H') :
    Sim E lo G' { S with H := H' } a w' := by
  have hfree : ∀ (i : Nat) cs, lookL S.L i = some cs → ¬ Mut G S.H (lo i) := by
    intro i cs hi hm
    obtain ⟨f1, f2, f3⟩ := h.l.free i cs hi
    rcases hm with ⟨id, z, _, hm⟩ | ⟨c, hm⟩
    · exact f3 id z hm
    · rw [f2] at hm; cases hm
  refine { t := fun i => (h.t i).mono hle, size := h.size, d := h.d, l := ?_, h := hh, le := h.le.trans hle, ext := h.ext.trans hx, own := h.own }
  refine { at_ := fun i cs hi => ?_, free := fun i cs hi => ?_, inj := h.l.inj }
  · obtain ⟨vs, e, h2, h3, h4⟩ := h.l.at_ i cs hi
    exact ⟨vs, e, (hx.block _ (h.l.lt hi) (hfree i cs hi)).1.trans h2, h3, fun j x hj => (h4 j x hj).mono hle⟩
  · obtain ⟨f1, f2, f3⟩ := h.l.free i cs hi
    obtain ⟨_, b2, b3⟩ := hx.block _ (h.l.lt hi) (hfree i cs hi)
    refine ⟨b2.trans f1, b3.trans f2, fun id z hm => ?_⟩
    rcases hx.mb id _ _ hm with ⟨id', hm⟩ | hm
    · exact f3 id' z hm
    · have := h.l.lt hi; omega

/-- A new block of cells: m of them never turn; it may be the head of the chain c. -/
def Gh.new (G : Gh) (b m : Nat) (oc : Option Nat) : Gh := ⟨G.mb, fun k => if k = b then m else G.imm k, fun k => if k = b then oc else G.own k⟩

theorem Le.new {G : Gh} {w : World} {H : AH} (h : HSim G w H) (o : Obj) (m : Nat) (oc : Option Nat) : Le G w (G.new w.heap.size m oc) (w.alloc o) where
  mb _ _ e := e
  imm b := by
    unfold Gh.new; dsimp only
    split
    · rename_i e; have := (h.new b (by omega)).1; omega
    · exact Nat.le_refl _
  own b c e := by
    unfold Gh.new; dsimp only
    have := h.own_lt e
    rw [if_neg (by omega)]; exact e
  cell b o' ho := by
    refine cell_of_heap (heap_old w o (h.imm_lt (b := b) (by omega)))
  shape b s hs := by rw [← hs]; exact shape_of_heap (heap_old w o (lt_of_shape hs))

theorem eff_new {G : Gh} {w : World} {H H' : AH} (h : HSim G w H) (vs : Array Value) (e : TypeId) (m : Nat) (oc : Option Nat) (hb : H'.blks = H.blks)
    (hc : (oc = none ∧ H' = H) ∨ ∃ c z n, oc = some c ∧ H'.tips[c]? = some (z, n) ∧ 0 < n ∧ m = n * z ∧ (∀ b', G.own b' = some c → G.imm b' < n * z) ∧ (∀ c', c' ≠ c → H'.tips[c']? = H.tips[c']?)) :
    Ext G H w (G.new w.heap.size m oc) H' (w.alloc (.cells vs e)) ∧ HSim (G.new w.heap.size m oc) (w.alloc (.cells vs e)) H' := by
  have hle := Le.new h (.cells vs e) m oc
  have hlive : ∀ id, Live H' id ↔ Live H id := fun id => by unfold Live; rw [hb]
  refine ⟨{ os := rfl, tape := rfl, output := rfl, size := by simp, block := fun b hlt hm => ?_, mb := fun id b z e => .inl ⟨_, e⟩, muts := fun b hlt hm => ?_ },
          { at_ := fun id B h1 h2 => ?_, inj := fun id id' b z z' h1 h2 h3 h4 => ?_, ids := ?_, chain := fun c z n hcn => ?_, chains := fun c b hlen => ?_, new := fun b hlt => ?_ }⟩
  · refine ⟨heap_old w _ hlt, ?_, ?_⟩ <;> (unfold Gh.new; dsimp only; rw [if_neg (by omega)])
  · rcases hm with ⟨id, z, hl, hm⟩ | ⟨c, hm⟩
    · exact .inl ⟨id, z, (hlive id).1 hl, hm⟩
    · refine .inr ⟨c, ?_⟩
      unfold Gh.new at hm; dsimp only at hm
      rwa [if_neg (by omega)] at hm
  · rw [hb] at h1
    rcases h.at_ id B h1 h2 with ⟨b, z, h3, h4, h5, h6⟩ | h3
    rotate_left
    · exact .inr h3
    have hlt := h.mb_lt h3
    refine .inl ⟨b, z, h3, h4.heap hle (heap_old w _ hlt), ?_, ?_⟩ <;> (unfold Gh.new; dsimp only; rw [if_neg (by omega)]; assumption)
  · exact h.inj id id' b z z' ((hlive _).1 h1) ((hlive _).1 h2) h3 h4
  · rw [hb]; exact h.ids
  · have hold : ∀ c z n, oc ≠ some c → H.tips[c]? = some (z, n) → (n = 0 → ∀ b, (G.new w.heap.size m oc).own b ≠ some c) ∧ (0 < n → ∃ b us e', (G.new w.heap.size m oc).own b = some c ∧ (G.new w.heap.size m oc).imm b = n * z ∧
        (w.alloc (.cells vs e)).heap[b]? = some (.cells us e' (0, 0)) ∧ ∀ b', (G.new w.heap.size m oc).own b' = some c → b' ≠ b → (G.new w.heap.size m oc).imm b' < n * z) := by
      intro c z n hne hcn
      obtain ⟨h1, h2⟩ := h.chain c z n hcn
      refine ⟨fun hn b => ?_, fun hn => ?_⟩
      · unfold Gh.new; dsimp only
        split
        · exact hne
        · exact h1 hn b
      · obtain ⟨b, us, e', h3, h4, h5, h6⟩ := h2 hn
        have hlt := h.own_lt h3
        refine ⟨b, us, e', ?_, ?_, (heap_old w _ hlt).trans h5, fun b' hb' hne' => ?_⟩
        · unfold Gh.new; dsimp only; rw [if_neg (by omega)]; exact h3
        · unfold Gh.new; dsimp only; rw [if_neg (by omega)]; exact h4
        · unfold Gh.new at hb' ⊢; dsimp only at hb' ⊢
          split at hb'
          · exact absurd hb' hne
          · rename_i hnb; rw [if_neg hnb]; exact h6 b' hb' hne'
    rcases hc with ⟨rfl, rfl⟩ | ⟨c0, z0, n0, rfl, h1, h2, h3, h4, h5⟩
    · exact hold c z n (by simp) hcn
    · by_cases hcc : c = c0
      · subst hcc
        rw [h1] at hcn
        simp only [Option.some.injEq, Prod.mk.injEq] at hcn
        obtain ⟨rfl, rfl⟩ := hcn
        refine ⟨fun hn => by omega, fun _ => ⟨w.heap.size, vs, e, by simp [Gh.new], by simp [Gh.new, h3], heap_new w _, fun b' hb' hne' => ?_⟩⟩
        unfold Gh.new at hb' ⊢; dsimp only at hb' ⊢
        rw [if_neg hne'] at hb' ⊢
        exact h4 b' hb'
      · rw [h5 c hcc] at hcn
        exact hold c z n (by simpa using fun e => hcc e.symm) hcn
  · unfold Gh.new; dsimp only
    rcases hc with ⟨rfl, rfl⟩ | ⟨c0, z0, n0, rfl, h1, h2, h3, h4, h5⟩
    · split
      · simp
      · exact h.chains c b hlen
    · have hc0 : c ≠ c0 := by
        rintro rfl
        rw [List.getElem?_eq_none hlen] at h1
        cases h1
      split
      · simpa using fun e => hc0 e.symm
      · refine h.chains c b ?_
        have := h5 c hc0
        rw [List.getElem?_eq_none hlen] at this
        exact List.getElem?_eq_none_iff.1 this.symm
  · simp at hlt
    unfold Gh.new; dsimp only
    rw [if_neg (by omega), if_neg (by omega)]
    exact h.new b (by omega)

/-- The head of a chain grows in its place. -/
def Gh.grow (G : Gh) (b m : Nat) : Gh := ⟨G.mb, fun k => if k = b then m else G.imm k, G.own⟩

theorem row_get (vs : Array Value) (nv : List Value) (o : Nat) (h : o + nv.length ≤ vs.size) (j : Nat) :
    (vs.toList.take o ++ nv ++ vs.toList.drop (o + nv.length)).toArray.getD j Go.undef = if j < o then vs.getD j Go.undef else if j < o + nv.length then nv.getD (j - o) Go.undef else vs.getD j Go.undef := by
  rw [Array.getD_eq_getD_getElem?, List.getElem?_toArray, splice_get vs.toList nv o j (by simpa using h)]
  split
  · rw [Array.getD_eq_getD_getElem?, ← Array.getElem?_toList]
  · split
    · rw [List.getD_eq_getElem?_getD]
    · rw [Array.getD_eq_getD_getElem?, ← Array.getElem?_toList]
theorem row_size (vs : Array Value) (nv : List Value) (o : Nat) (h : o + nv.length ≤ vs.size) : (vs.toList.take o ++ nv ++ vs.toList.drop (o + nv.length)).toArray.size = vs.size := by simp; omega
theorem row_old (vs : Array Value) (nv : List Value) (o j : Nat) (h : o + nv.length ≤ vs.size) (hj : j < o) : (vs.toList.take o ++ nv ++ vs.toList.drop (o + nv.length)).toArray[j]? = vs[j]? := by
  rw [List.getElem?_toArray, splice_get vs.toList nv o j (by simpa using h), if_pos hj, Array.getElem?_toList]

theorem eff_room {G : Gh} {w : World} {H : AH} (h : HSim G w H) {c z n m b : Nat} {vs : Array Value} {e : TypeId} (hz : 0 < z) (hn : 0 < n) (hm : 0 < m) (ht : H.tips[c]? = some (z, n)) (ho : G.own b = some c) (hi : G.imm b = n * z)
    (hb : w.heap[b]? = some (.cells vs e (0, 0))) (nv : List Value) (_ : nv.length = m * z) (hfit : n * z + nv.length ≤ vs.size) :
    Le G w (G.grow b ((n + m) * z)) (w.setRow b (vs.toList.take (n * z) ++ nv ++ vs.toList.drop (n * z + nv.length)).toArray) ∧
    Ext G H w (G.grow b ((n + m) * z)) { H with tips := H.tips.set c (z, n + m) } (w.setRow b (vs.toList.take (n * z) ++ nv ++ vs.toList.drop (n * z + nv.length)).toArray) ∧
    HSim (G.grow b ((n + m) * z)) (w.setRow b (vs.toList.take (n * z) ++ nv ++ vs.toList.drop (n * z + nv.length)).toArray) { H with tips := H.tips.set c (z, n + m) } := by
  have hoth : ∀ k, k ≠ b → (w.setRow b (vs.toList.take (n * z) ++ nv ++ vs.toList.drop (n * z + nv.length)).toArray).heap[k]? = w.heap[k]? := fun k hk => setRow_other w b k _ hk
  have hnew := setRow_heap w b vs (vs.toList.take (n * z) ++ nv ++ vs.toList.drop (n * z + nv.length)).toArray e (0, 0) hb
  have hsz := row_size vs nv (n * z) hfit
  have hlt := fun j hj => row_old vs nv (n * z) j hfit hj
  generalize hr : (vs.toList.take (n * z) ++ nv ++ vs.toList.drop (n * z + nv.length)).toArray = us at hoth hnew hsz hlt ⊢
  generalize hw : w.setRow b us = w' at hoth hnew ⊢
  have hos : w'.os = w.os ∧ w'.tape = w.tape ∧ w'.output = w.output ∧ w'.heap.size = w.heap.size := by rw [← hw]; simp
  have hmz : 0 < m * z := Nat.mul_pos hm hz
  have hnm : (n + m) * z = n * z + m * z := Nat.add_mul n m z
  have hblt := lt_of_heap hb
  have hle : Le G w (G.grow b ((n + m) * z)) w' := by
    refine { mb := fun _ _ e => e, imm := fun k => ?_, own := fun _ _ e => e, cell := fun k o hk => ?_, shape := fun k s hs => ?_ }
    · unfold Gh.grow; dsimp only
      split
      · rename_i e'; rw [e']; omega
      · exact Nat.le_refl _
    · by_cases hkb : k = b
      · subst hkb
        simp only [World.cell?, hb, hnew]
        exact hlt o (by omega)
      · exact cell_of_heap (hoth k hkb)
    · by_cases hkb : k = b
      · subst hkb
        simp only [World.shape?, hb, hnew, Option.some.injEq] at hs ⊢
        rw [← hs, hsz]
      · rw [← hs]; exact shape_of_heap (hoth k hkb)
  have hclt : c < H.tips.length := (List.getElem?_eq_some_iff.1 ht).1
  refine ⟨hle, { os := hos.1, tape := hos.2.1, output := hos.2.2.1, size := by omega, block := fun k hk hmu => ?_, mb := fun _ _ _ e => .inl ⟨_, e⟩, muts := fun k hk hmu => ?_ },
          { at_ := fun id B h1 h2 => ?_, inj := fun id id' b z z' h1 h2 h3 h4 => h.inj id id' b z z' h1 h2 h3 h4, ids := h.ids, chain := fun c' z' n' hcn => ?_, chains := fun c' k hlen => ?_, new := fun k hk => ?_ }⟩
  · have hkb : k ≠ b := fun e => hmu (.inr ⟨c, by rw [e]; exact ho⟩)
    exact ⟨hoth k hkb, by unfold Gh.grow; dsimp only; rw [if_neg hkb], rfl⟩
  · rcases hmu with ⟨id, z, hl', hmu⟩ | ⟨c', hmu⟩
    · exact .inl ⟨id, z, hl', hmu⟩
    · exact .inr ⟨c', hmu⟩
  · rcases h.at_ id B h1 h2 with ⟨b', z', h3, h4, h5, h6⟩ | h3
    rotate_left
    · exact .inr h3
    have hkb : b' ≠ b := by rintro rfl; rw [h6] at ho; cases ho
    exact .inl ⟨b', z', h3, h4.heap hle (hoth b' hkb), by unfold Gh.grow; dsimp only; rw [if_neg hkb]; exact h5, h6⟩
  · by_cases hcc : c' = c
    · subst hcc
      rw [List.getElem?_set_self hclt] at hcn
      simp only [Option.some.injEq, Prod.mk.injEq] at hcn
      obtain ⟨rfl, rfl⟩ := hcn
      refine ⟨fun _ => by omega, fun _ => ⟨b, us, e, ho, by simp [Gh.grow], hnew, fun b' hb' hne => ?_⟩⟩
      obtain ⟨bb, us', e', g1, g2, g3, g4⟩ := (h.chain _ _ _ ht).2 hn
      have hbb : bb = b := by
        apply Decidable.byContradiction
        intro hne'
        have := g4 b ho (fun e => hne' e.symm)
        omega
      subst hbb
      have := g4 b' hb' hne
      unfold Gh.grow; dsimp only
      rw [if_neg hne]; omega
    · rw [List.getElem?_set_ne (fun e => hcc e.symm)] at hcn
      obtain ⟨g1, g2⟩ := h.chain c' z' n' hcn
      refine ⟨g1, fun hn' => ?_⟩
      obtain ⟨bb, us', e', g3, g4, g5, g6⟩ := g2 hn'
      have hbb : ∀ k, G.own k = some c' → k ≠ b := by
        rintro k hk rfl
        rw [hk] at ho
        exact hcc (by simpa using ho)
      refine ⟨bb, us', e', g3, ?_, (hoth bb (hbb bb g3)).trans g5, fun b' hb' hne => ?_⟩
      · unfold Gh.grow; dsimp only; rw [if_neg (hbb bb g3)]; exact g4
      · unfold Gh.grow; dsimp only; rw [if_neg (hbb b' hb')]; exact g6 b' hb' hne
  · exact h.chains c' k (by simpa using hlen)
  · unfold Gh.grow; dsimp only
    rw [if_neg (by omega)]
    exact h.new k (by omega)

/-- A new, empty chain: nothing turns. -/
theorem eff_tip {G : Gh} {w : World} {H : AH} (h : HSim G w H) (z : Nat) : Ext G H w G { H with tips := H.tips ++ [(z, 0)] } w ∧ HSim G w { H with tips := H.tips ++ [(z, 0)] } := by
  refine ⟨{ os := rfl, tape := rfl, output := rfl, size := Nat.le_refl _, block := fun _ _ _ => ⟨rfl, rfl, rfl⟩, mb := fun _ _ _ e => .inl ⟨_, e⟩, muts := fun k _ hm => hm },
    { at_ := h.at_, inj := h.inj, ids := h.ids, chain := fun c z' n hc => ?_, chains := fun c b hl => h.chains c b (by simp at hl; omega), new := h.new }⟩
  rcases Nat.lt_or_ge c H.tips.length with hlt | hge
  · rw [List.getElem?_append_left hlt] at hc
    exact h.chain c z' n hc
  · rw [List.getElem?_append_right hge] at hc
    cases hcl : c - H.tips.length with
    | zero =>
      rw [hcl] at hc
      simp only [List.getElem?_cons_zero, Option.some.injEq, Prod.mk.injEq] at hc
      obtain ⟨rfl, rfl⟩ := hc
      exact ⟨fun _ b => h.chains c b hge, fun h0 => by omega⟩
    | succ k => rw [hcl] at hc; simp at hc

/-- A row of a tracked block is written. -/
theorem eff_row {G : Gh} {w : World} {H : AH} (h : HSim G w H) {id z : Nat} {l : List (List AV)} (hid : H.blks[id]? = some (.rows z l)) {r c : Nat} {row : List AV} (hr : l[r]? = some row) (new : List AV) (nv : List Value)
    (hl : nv.length = new.length) (hc : c + new.length ≤ row.length) (hnew : ∀ (j : Nat) x, new[j]? = some x → RepU G w x (nv.getD j Go.undef)) :
    ∃ b vs e, G.mb id = some (b, z) ∧ w.heap[b]? = some (.cells vs e (0, 0)) ∧ r * z + c + nv.length ≤ vs.size ∧
      Le G w G (w.setRow b (vs.toList.take (r * z + c) ++ nv ++ vs.toList.drop (r * z + c + nv.length)).toArray) ∧
      Ext G H w G { H with blks := H.blks.set id (.rows z (l.set r (splice row c new))) } (w.setRow b (vs.toList.take (r * z + c) ++ nv ++ vs.toList.drop (r * z + c + nv.length)).toArray) ∧
      HSim G (w.setRow b (vs.toList.take (r * z + c) ++ nv ++ vs.toList.drop (r * z + c + nv.length)).toArray) { H with blks := H.blks.set id (.rows z (l.set r (splice row c new))) } := by
  rcases h.at_ id _ hid rfl with ⟨b, zz, h3, ⟨h40, h41, vs, e, h42, h43, h44, h45⟩, h5, h6⟩ | ⟨_, z', _, e⟩
  rotate_left
  · simp only [ABlk.rows.injEq] at e
    rw [e.2] at hr
    simp at hr
  subst h40
  have hrlt := (List.getElem?_eq_some_iff.1 hr).1
  have hrow : row.length = zz := h43 row (List.mem_of_getElem? hr)
  have hmul : (r + 1) * zz ≤ l.length * zz := Nat.mul_le_mul_right zz hrlt
  rw [Nat.add_mul] at hmul
  have hfit : r * zz + c + nv.length ≤ vs.size := by omega
  refine ⟨b, vs, e, h3, h42, hfit, ?_⟩
  have hoth : ∀ k, k ≠ b → (w.setRow b (vs.toList.take (r * zz + c) ++ nv ++ vs.toList.drop (r * zz + c + nv.length)).toArray).heap[k]? = w.heap[k]? := fun k hk => setRow_other w b k _ hk
  have hheap := setRow_heap w b vs (vs.toList.take (r * zz + c) ++ nv ++ vs.toList.drop (r * zz + c + nv.length)).toArray e (0, 0) h42
  have hsz := row_size vs nv (r * zz + c) hfit
  have hget := row_get vs nv (r * zz + c) hfit
  generalize hus : (vs.toList.take (r * zz + c) ++ nv ++ vs.toList.drop (r * zz + c + nv.length)).toArray = us at hoth hheap hsz hget ⊢
  generalize hw : w.setRow b us = w' at hoth hheap ⊢
  have hos : w'.os = w.os ∧ w'.tape = w.tape ∧ w'.output = w.output ∧ w'.heap.size = w.heap.size := by rw [← hw]; simp
  have hidlt : id < H.blks.length := (List.getElem?_eq_some_iff.1 hid).1
  have hle : Le G w G w' := by
    refine Le.of_agree (fun k hk => hoth k (fun e => by subst e; omega)) (fun k s hs => ?_)
    by_cases hkb : k = b
    · subst hkb
      simp only [World.shape?, h42, hheap, Option.some.injEq] at hs ⊢
      rw [← hs, hsz]
    · rw [← hs]; exact shape_of_heap (hoth k hkb)
  have hlive : ∀ k, Live { H with blks := H.blks.set id (.rows zz (l.set r (splice row c new))) } k ↔ Live H k := by
    intro k
    unfold Live
    dsimp only
    by_cases hk : id = k
    · subst hk
      rw [List.getElem?_set_self hidlt, hid]
      exact ⟨fun _ => ⟨_, rfl, rfl⟩, fun _ => ⟨_, rfl, rfl⟩⟩
    · rw [List.getElem?_set_ne hk]
  have hlid : Live H id := ⟨_, hid, rfl⟩
  refine ⟨hle, { os := hos.1, tape := hos.2.1, output := hos.2.2.1, size := by omega, block := fun k hk hmu => ?_, mb := fun _ _ _ e => .inl ⟨_, e⟩, muts := fun k hk hmu => ?_ },
          { at_ := fun id' B h1 h2 => ?_, inj := fun i i' b z z' h1 h2 h3 h4 => h.inj i i' b z z' ((hlive _).1 h1) ((hlive _).1 h2) h3 h4, ids := fun k hk => h.ids k (by simpa using hk),
            chain := fun c' z' n' hcn => ?_, chains := h.chains, new := fun k hk => h.new k (by omega) }⟩
  · have hkb : k ≠ b := fun e => hmu (.inl ⟨id, zz, hlid, by rw [e]; exact h3⟩)
    exact ⟨hoth k hkb, rfl, rfl⟩
  · rcases hmu with ⟨k', z, hl', hmu⟩ | ⟨c', hmu⟩
    · exact .inl ⟨k', z, (hlive _).1 hl', hmu⟩
    · exact .inr ⟨c', hmu⟩
  · dsimp only at h1
    by_cases hk : id = id'
    · subst hk
      rw [List.getElem?_set_self hidlt] at h1
      simp only [Option.some.injEq] at h1
      subst h1
      refine .inl ⟨b, zz, h3, ⟨rfl, h41, us, e, hheap, ?_, by simp [hsz]; exact h44, fun i j x hx => ?_⟩, h5, h6⟩
      · intro q hq
        rcases List.mem_or_eq_of_mem_set hq with hq | rfl
        · exact h43 q hq
        · simp [splice]; omega
      · obtain ⟨q, hq1, hq2⟩ := cellAt_some hx
        rw [hget]
        rw [List.getElem?_set] at hq1
        by_cases hri : r = i
        · subst hri
          rw [if_pos rfl, if_pos hrlt] at hq1
          simp only [Option.some.injEq] at hq1
          subst hq1
          unfold splice at hq2
          rw [splice_get row new c j hc] at hq2
          by_cases j1 : j < c
          · rw [if_pos j1] at hq2; rw [if_pos (by omega)]
            exact (h45 r j x (by unfold cellAt; rw [hr]; exact hq2)).mono hle
          · rw [if_neg j1] at hq2; rw [if_neg (by omega)]
            by_cases j2 : j < c + new.length
            · rw [if_pos j2] at hq2; rw [if_pos (by omega)]
              have := (hnew _ x hq2).mono hle
              rwa [show r * zz + j - (r * zz + c) = j - c by omega]
            · rw [if_neg j2] at hq2; rw [if_neg (by omega)]
              exact (h45 r j x (by unfold cellAt; rw [hr]; exact hq2)).mono hle
        · rw [if_neg hri] at hq1
          have hx' : cellAt l i j = some x := by unfold cellAt; rw [hq1]; exact hq2
          have hlt := cellAt_lt h43 hx'
          have := h45 i j x hx'
          have hne : ¬ (r * zz + c ≤ i * zz + j ∧ i * zz + j < r * zz + c + nv.length) := by
            rintro ⟨g1, g2⟩
            rcases Nat.lt_or_ge i r with g | g
            · have : (i + 1) * zz ≤ r * zz := Nat.mul_le_mul_right zz g
              rw [Nat.add_mul] at this
              omega
            · have : (r + 1) * zz ≤ i * zz := Nat.mul_le_mul_right zz (by omega)
              rw [Nat.add_mul] at this
              omega
          by_cases g1 : i * zz + j < r * zz + c
          · rw [if_pos g1]; exact this.mono hle
          · rw [if_neg g1, if_neg (by omega)]; exact this.mono hle
    · rw [List.getElem?_set_ne hk] at h1
      rcases h.at_ id' B h1 h2 with ⟨b', z', g3, g4, g5, g6⟩ | g3
      rotate_left
      · exact .inr g3
      have hkb : b' ≠ b := by
        rintro rfl
        exact hk (h.inj id id' b' zz z' hlid ⟨B, h1, h2⟩ h3 g3)
      exact .inl ⟨b', z', g3, g4.heap hle (hoth b' hkb), g5, g6⟩
  · obtain ⟨g1, g2⟩ := h.chain c' z' n' hcn
    refine ⟨g1, fun hn' => ?_⟩
    obtain ⟨bb, us', e', g3, g4, g5, g6⟩ := g2 hn'
    have hbb : bb ≠ b := by rintro rfl; rw [g3] at h6; cases h6
    exact ⟨bb, us', e', g3, g4, (hoth bb hbb).trans g5, g6⟩
end Go.Proofs.Ytecpiplfjmmccaa.AM

/-
  What becomes of the tracked memory: a block's content turned, a block more, a block forgotten, one that moves, one that never turns again.
  No program in sight. Conditions: none.
-/
namespace Go.Proofs.Ytecpiplfjmmccaa.AM
open Go

def Kin (w w' : World) : Prop := w'.os = w.os ∧ w'.tape = w.tape ∧ w'.output = w.output
theorem Kin.refl (w : World) : Kin w w := ⟨rfl, rfl, rfl⟩

/-- A tracked block's content turned. -/
theorem eff_blk {G : Gh} {w w' : World} {H : AH} (h : HSim G w H) {id b z : Nat} {B B' : ABlk} (hid : H.blks[id]? = some B) (hl : B.live = true) (hmb : G.mb id = some (b, z)) (hos : Kin w w') (hsz : w'.heap.size = w.heap.size)
    (hoth : ∀ k, k ≠ b → w'.heap[k]? = w.heap[k]?) (hsh : ∀ s, w.shape? b = some s → w'.shape? b = some s) (hat : Le G w G w' → BlkAt G w' b z B') :
    Le G w G w' ∧ Ext G H w G (H.upd id B') w' ∧ HSim G w' (H.upd id B') := by
  have hidlt : id < H.blks.length := (List.getElem?_eq_some_iff.1 hid).1
  obtain ⟨h5, h6⟩ : G.imm b = 0 ∧ G.own b = none := by
    rcases h.at_ id _ hid hl with ⟨b', zz, h3, _, h5, h6⟩ | ⟨h3, _⟩
    · rw [hmb] at h3
      simp only [Option.some.injEq, Prod.mk.injEq] at h3
      rw [h3.1]; exact ⟨h5, h6⟩
    · rw [hmb] at h3; cases h3
  have hle : Le G w G w' := by
    refine Le.of_agree (fun k hk => hoth k (fun e => by subst e; omega)) (fun k s hs => ?_)
    by_cases hkb : k = b
    · subst hkb; exact hsh s hs
    · rw [← hs]; exact shape_of_heap (hoth k hkb)
  have hlid : Live H id := ⟨_, hid, hl⟩
  have hlive : ∀ k, Live (H.upd id B') k → Live H k := by
    rintro k ⟨B1, g1, g2⟩
    by_cases hk : id = k
    · subst hk; exact hlid
    · rw [AH.upd_other hk] at g1; exact ⟨B1, g1, g2⟩
  refine ⟨hle, { os := hos.1, tape := hos.2.1, output := hos.2.2, size := by omega, block := fun k hk hmu => ?_, mb := fun _ _ _ e => .inl ⟨_, e⟩, muts := fun k hk hmu => ?_ },
          { at_ := fun id' B1 h1 h2 => ?_, inj := fun i i' b z z' h1 h2 h3 h4 => h.inj i i' b z z' (hlive _ h1) (hlive _ h2) h3 h4, ids := fun k hk => h.ids k (by simpa [AH.upd_len] using hk),
            chain := fun c' z' n' hcn => ?_, chains := h.chains, new := fun k hk => h.new k (by omega) }⟩
  · have hkb : k ≠ b := fun e => hmu (.inl ⟨id, z, hlid, by rw [e]; exact hmb⟩)
    exact ⟨hoth k hkb, rfl, rfl⟩
  · rcases hmu with ⟨k', z, hl', hmu⟩ | ⟨c', hmu⟩
    · exact .inl ⟨k', z, hlive _ hl', hmu⟩
    · exact .inr ⟨c', hmu⟩
  · by_cases hk : id = id'
    · subst hk
      rw [AH.upd_same hid] at h1
      simp only [Option.some.injEq] at h1
      subst h1
      exact .inl ⟨b, z, hmb, hat hle, h5, h6⟩
    · rw [AH.upd_other hk] at h1
      rcases h.at_ id' B1 h1 h2 with ⟨b', z', g3, g4, g5, g6⟩ | g3
      rotate_left
      · exact .inr g3
      have hkb : b' ≠ b := by
        rintro rfl
        exact hk (h.inj id id' b' z z' hlid ⟨B1, h1, h2⟩ hmb g3)
      exact .inl ⟨b', z', g3, g4.heap hle (hoth b' hkb), g5, g6⟩
  · obtain ⟨g1, g2⟩ := h.chain c' z' n' hcn
    refine ⟨g1, fun hn' => ?_⟩
    obtain ⟨bb, us', e', g3, g4, g5, g6⟩ := g2 hn'
    have hbb : bb ≠ b := by rintro rfl; rw [g3] at h6; cases h6
    exact ⟨bb, us', e', g3, g4, (hoth bb hbb).trans g5, g6⟩

/-- A number given to a block. -/
def Gh.obj (G : Gh) (id b z : Nat) : Gh := ⟨fun k => if k = id then some (b, z) else G.mb k, G.imm, G.own⟩
theorem Gh.obj_self (G : Gh) (id b z : Nat) : (G.obj id b z).mb id = some (b, z) := by simp [Gh.obj]
theorem Le.obj {G : Gh} {w w' : World} {H : AH} (h : HSim G w H) (hle : Le G w G w') (b z : Nat) : Le G w (G.obj H.blks.length b z) w' :=
  ⟨fun i x e => by
     unfold Gh.obj; dsimp only
     have : i ≠ H.blks.length := by rintro rfl; rw [h.ids _ (Nat.le_refl _)] at e; cases e
     rw [if_neg this]; exact hle.mb i x e, hle.imm, hle.own, hle.cell, hle.shape⟩

/-- A tracked block more, new in memory. -/
theorem eff_push {G : Gh} {w : World} {H : AH} (h : HSim G w H) (o : Obj) (z : Nat) (B : ABlk) (hB : Le G w (G.obj H.blks.length w.heap.size z) (w.alloc o) → BlkAt (G.obj H.blks.length w.heap.size z) (w.alloc o) w.heap.size z B) :
    Le G w (G.obj H.blks.length w.heap.size z) (w.alloc o) ∧ Ext G H w (G.obj H.blks.length w.heap.size z) (H.push B) (w.alloc o) ∧ HSim (G.obj H.blks.length w.heap.size z) (w.alloc o) (H.push B) := by
  have hle := Le.obj h (Le.alloc h o) w.heap.size z
  have hmb : ∀ k x, (G.obj H.blks.length w.heap.size z).mb k = some x → (k = H.blks.length ∧ x = (w.heap.size, z)) ∨ (k ≠ H.blks.length ∧ G.mb k = some x) := by
    intro k x e
    unfold Gh.obj at e; dsimp only at e
    split at e
    · rename_i hk; exact .inl ⟨hk, by simpa using e.symm⟩
    · rename_i hk; exact .inr ⟨hk, e⟩
  have hlive : ∀ k, k ≠ H.blks.length → Live (H.push B) k → Live H k := by
    rintro k hk ⟨B1, g1, g2⟩
    rw [AH.push_at, if_neg hk] at g1
    exact ⟨B1, g1, g2⟩
  refine ⟨hle, { os := rfl, tape := rfl, output := rfl, size := by simp, block := fun k hk hmu => ⟨heap_old w o hk, rfl, rfl⟩, mb := fun k b z' e => ?_, muts := fun k hk hmu => ?_ },
          { at_ := fun id' B1 h1 h2 => ?_, inj := fun i i' b z1 z2 h1 h2 h3 h4 => ?_, ids := fun k hk => ?_, chain := fun c z' n hc => ?_, chains := h.chains, new := fun k hk => ?_ }⟩
  · rcases hmb k _ e with ⟨_, e'⟩ | ⟨_, e'⟩
    · simp only [Prod.mk.injEq] at e'; right; omega
    · exact .inl ⟨_, e'⟩
  · rcases hmu with ⟨i, z1, hl, hmu⟩ | hmu
    · rcases hmb i _ hmu with ⟨_, e'⟩ | ⟨hne, e'⟩
      · simp only [Prod.mk.injEq] at e'; omega
      · exact .inl ⟨i, z1, hlive i hne hl, e'⟩
    · exact .inr hmu
  · rw [AH.push_at] at h1
    split at h1
    · rename_i hk
      simp only [Option.some.injEq] at h1
      subst hk; subst h1
      obtain ⟨g1, g2, _⟩ := h.new w.heap.size (Nat.le_refl _)
      exact .inl ⟨w.heap.size, z, Gh.obj_self _ _ _ _, hB hle, g1, g2⟩
    · rename_i hk
      rcases h.at_ id' B1 h1 h2 with ⟨b', z', g3, g4, g5, g6⟩ | ⟨g3, g4⟩
      · exact .inl ⟨b', z', hle.mb _ _ g3, g4.heap hle (heap_old w o (h.mb_lt g3)), g5, g6⟩
      · refine .inr ⟨?_, g4⟩
        unfold Gh.obj; dsimp only
        rw [if_neg hk]; exact g3
  · rcases hmb i _ h3 with ⟨e1, e2⟩ | ⟨e1, e2⟩ <;> rcases hmb i' _ h4 with ⟨e3, e4⟩ | ⟨e3, e4⟩
    · rw [e1, e3]
    · simp only [Prod.mk.injEq] at e2
      have := h.mb_lt e4; omega
    · simp only [Prod.mk.injEq] at e4
      have := h.mb_lt e2; omega
    · exact h.inj i i' b z1 z2 (hlive i e1 h1) (hlive i' e3 h2) e2 e4
  · rw [AH.push_len] at hk
    unfold Gh.obj; dsimp only
    rw [if_neg (by omega)]
    exact h.ids k (by omega)
  · obtain ⟨g1, g2⟩ := h.chain c z' n hc
    refine ⟨g1, fun hn => ?_⟩
    obtain ⟨b, us, e', g3, g4, g5, g6⟩ := g2 hn
    exact ⟨b, us, e', g3, g4, (heap_old w o (h.own_lt g3)).trans g5, g6⟩
  · simp at hk
    obtain ⟨g1, g2, g3⟩ := h.new k (by omega)
    refine ⟨g1, g2, fun i z' e => ?_⟩
    rcases hmb i _ e with ⟨_, e'⟩ | ⟨_, e'⟩
    · simp only [Prod.mk.injEq] at e'; omega
    · exact g3 i z' e'

/-- A tracked block forgotten. -/
theorem eff_dead {G : Gh} {w : World} {H : AH} (h : HSim G w H) (id : Nat) : Ext G H w G (H.upd id .dead) w ∧ HSim G w (H.upd id .dead) := by
  have hlive : ∀ (k : Nat) (B : ABlk), (H.upd id .dead).blks[k]? = some B → B.live = true → H.blks[k]? = some B := by
    intro k B g1 g2
    by_cases hk : id = k
    · subst hk
      rw [AH.upd_at, if_pos rfl] at g1
      split at g1
      · simp only [Option.some.injEq] at g1; subst g1; cases g2
      · cases g1
    · rwa [AH.upd_other hk] at g1
  have hlv : ∀ k, Live (H.upd id .dead) k → Live H k := fun k ⟨B, g1, g2⟩ => ⟨B, hlive k B g1 g2, g2⟩
  refine ⟨{ os := rfl, tape := rfl, output := rfl, size := Nat.le_refl _, block := fun _ _ _ => ⟨rfl, rfl, rfl⟩, mb := fun _ _ _ e => .inl ⟨_, e⟩, muts := fun k _ hm => ?_ },
    { at_ := fun k B g1 g2 => h.at_ k B (hlive k B g1 g2) g2, inj := fun i i' b z z' h1 h2 h3 h4 => h.inj i i' b z z' (hlv _ h1) (hlv _ h2) h3 h4, ids := fun k hk => h.ids k (by simpa [AH.upd_len] using hk), chain := h.chain, chains := h.chains, new := h.new }⟩
  rcases hm with ⟨i, z, hl, hm⟩ | hm
  · exact .inl ⟨i, z, hlv i hl, hm⟩
  · exact .inr hm

/-- A tracked block, empty, nowhere in memory. -/
theorem eff_empty {G : Gh} {w : World} {H : AH} (h : HSim G w H) (z : Nat) (hz : 0 < z) : Ext G H w G (H.push (.rows z [])) w ∧ HSim G w (H.push (.rows z [])) := by
  have hno : G.mb H.blks.length = none := h.ids _ (Nat.le_refl _)
  have hlive : ∀ k x, G.mb k = some x → Live (H.push (.rows z [])) k → Live H k := by
    rintro k x e ⟨B1, g1, g2⟩
    rw [AH.push_at] at g1
    split at g1
    · rename_i hk; subst hk; rw [hno] at e; cases e
    · exact ⟨B1, g1, g2⟩
  refine ⟨{ os := rfl, tape := rfl, output := rfl, size := Nat.le_refl _, block := fun _ _ _ => ⟨rfl, rfl, rfl⟩, mb := fun _ _ _ e => .inl ⟨_, e⟩, muts := fun k _ hm => ?_ },
    { at_ := fun k B g1 g2 => ?_, inj := fun i i' b z z' h1 h2 h3 h4 => h.inj i i' b z z' (hlive _ _ h3 h1) (hlive _ _ h4 h2) h3 h4, ids := fun k hk => h.ids k (by rw [AH.push_len] at hk; omega), chain := h.chain, chains := h.chains, new := h.new }⟩
  · rcases hm with ⟨i, z, hl, hm⟩ | hm
    · exact .inl ⟨i, z, hlive i _ hm hl, hm⟩
    · exact .inr hm
  · rw [AH.push_at] at g1
    split at g1
    · rename_i hk
      simp only [Option.some.injEq] at g1
      subst hk; subst g1
      exact .inr ⟨hno, z, hz, rfl⟩
    · exact h.at_ k B g1 g2

/-- A tracked block goes under a new number. -/
theorem eff_move {G : Gh} {w : World} {H : AH} (h : HSim G w H) {id b z : Nat} {B : ABlk} (hid : H.blks[id]? = some B) (hl : B.live = true) (hmb : G.mb id = some (b, z)) :
    Le G w (G.obj H.blks.length b z) w ∧ Ext G H w (G.obj H.blks.length b z) ((H.upd id .dead).push B) w ∧ HSim (G.obj H.blks.length b z) w ((H.upd id .dead).push B) := by
  have hle := Le.obj h (Le.refl G w) b z
  have hidlt : id < H.blks.length := (List.getElem?_eq_some_iff.1 hid).1
  have hlid : Live H id := ⟨_, hid, hl⟩
  have hlen : (H.upd id .dead).blks.length = H.blks.length := AH.upd_len
  have hmb' : ∀ k x, (G.obj H.blks.length b z).mb k = some x → (k = H.blks.length ∧ x = (b, z)) ∨ (k ≠ H.blks.length ∧ G.mb k = some x) := by
    intro k x e
    unfold Gh.obj at e; dsimp only at e
    split at e
    · rename_i hk; exact .inl ⟨hk, by simpa using e.symm⟩
    · rename_i hk; exact .inr ⟨hk, e⟩
  have hlive : ∀ k, k ≠ H.blks.length → Live ((H.upd id .dead).push B) k → Live H k ∧ k ≠ id := by
    rintro k hk ⟨B1, g1, g2⟩
    rw [AH.push_at, hlen, if_neg hk] at g1
    by_cases e : id = k
    · subst e
      rw [AH.upd_at, if_pos rfl, if_pos hidlt] at g1
      simp only [Option.some.injEq] at g1
      subst g1; cases g2
    · rw [AH.upd_other e] at g1
      exact ⟨⟨B1, g1, g2⟩, fun h => e h.symm⟩
  refine ⟨hle, { os := rfl, tape := rfl, output := rfl, size := Nat.le_refl _, block := fun _ _ _ => ⟨rfl, rfl, rfl⟩, mb := fun k b' z' e => ?_, muts := fun k hk hmu => ?_ },
          { at_ := fun k B1 h1 h2 => ?_, inj := fun i i' b' z1 z2 h1 h2 h3 h4 => ?_, ids := fun k hk => ?_, chain := h.chain, chains := h.chains, new := fun k hk => ?_ }⟩
  · rcases hmb' k _ e with ⟨_, e'⟩ | ⟨_, e'⟩
    · exact .inl ⟨id, by rw [hmb, e']⟩
    · exact .inl ⟨_, e'⟩
  · rcases hmu with ⟨i, z1, hl1, hmu⟩ | hmu
    · rcases hmb' i _ hmu with ⟨_, e'⟩ | ⟨hne, e'⟩
      · simp only [Prod.mk.injEq] at e'
        exact .inl ⟨id, z, hlid, by rw [hmb, e'.1]⟩
      · exact .inl ⟨i, z1, (hlive i hne hl1).1, e'⟩
    · exact .inr hmu
  · have hcase : (k = H.blks.length ∧ B1 = B) ∨ (k ≠ H.blks.length ∧ k ≠ id ∧ H.blks[k]? = some B1) := by
      rw [AH.push_at, hlen] at h1
      split at h1
      · rename_i hk; exact .inl ⟨hk, by simpa using h1.symm⟩
      · rename_i hk
        have hh := hlive k hk ⟨B1, by rw [AH.push_at, hlen, if_neg hk]; exact h1, h2⟩
        rw [AH.upd_other (fun e => hh.2 e.symm)] at h1
        exact .inr ⟨hk, hh.2, h1⟩
    rcases hcase with ⟨hk, rfl⟩ | ⟨hk, hki, h1⟩
    · subst hk
      rcases h.at_ id _ hid hl with ⟨b', z', g3, g4, g5, g6⟩ | ⟨g3, _⟩
      · rw [hmb] at g3
        simp only [Option.some.injEq, Prod.mk.injEq] at g3
        obtain ⟨rfl, rfl⟩ := g3
        exact .inl ⟨b, z, Gh.obj_self _ _ _ _, g4.heap hle rfl, g5, g6⟩
      · rw [hmb] at g3; cases g3
    · rcases h.at_ k B1 h1 h2 with ⟨b', z', g3, g4, g5, g6⟩ | ⟨g3, g4⟩
      · exact .inl ⟨b', z', hle.mb _ _ g3, g4.heap hle rfl, g5, g6⟩
      · refine .inr ⟨?_, g4⟩
        unfold Gh.obj; dsimp only
        rw [if_neg hk]; exact g3
  · rcases hmb' i _ h3 with ⟨e1, e2⟩ | ⟨e1, e2⟩ <;> rcases hmb' i' _ h4 with ⟨e3, e4⟩ | ⟨e3, e4⟩
    · rw [e1, e3]
    · simp only [Prod.mk.injEq] at e2
      obtain ⟨l1, l2⟩ := hlive i' e3 h2
      exact absurd (h.inj i' id b' z2 z l1 hlid e4 (by rw [e2.1]; exact hmb)) l2
    · simp only [Prod.mk.injEq] at e4
      obtain ⟨l1, l2⟩ := hlive i e1 h1
      exact absurd (h.inj i id b' z1 z l1 hlid e2 (by rw [e4.1]; exact hmb)) l2
    · exact h.inj i i' b' z1 z2 (hlive i e1 h1).1 (hlive i' e3 h2).1 e2 e4
  · rw [AH.push_len, hlen] at hk
    unfold Gh.obj; dsimp only
    rw [if_neg (by omega)]
    exact h.ids k (by omega)
  · obtain ⟨g1, g2, g3⟩ := h.new k hk
    refine ⟨g1, g2, fun i z' e => ?_⟩
    rcases hmb' i _ e with ⟨_, e'⟩ | ⟨_, e'⟩
    · simp only [Prod.mk.injEq] at e'
      have := h.mb_lt hmb; omega
    · exact g3 i z' e'

/-- A tracked block never turns again: its rows are told. -/
def Gh.frz (G : Gh) (b m : Nat) : Gh := ⟨G.mb, fun k => if k = b then m else G.imm k, G.own⟩
theorem eff_frz {G : Gh} {w : World} {H : AH} (h : HSim G w H) {id b z : Nat} {B : ABlk} (hid : H.blks[id]? = some B) (hl : B.live = true) (hmb : G.mb id = some (b, z)) (m : Nat) :
    Le G w (G.frz b m) w ∧ Ext G H w (G.frz b m) (H.upd id .dead) w ∧ HSim (G.frz b m) w (H.upd id .dead) := by
  have hidlt : id < H.blks.length := (List.getElem?_eq_some_iff.1 hid).1
  have hlid : Live H id := ⟨_, hid, hl⟩
  obtain ⟨h5, h6⟩ : G.imm b = 0 ∧ G.own b = none := by
    rcases h.at_ id _ hid hl with ⟨b', zz, h3, _, h5, h6⟩ | ⟨h3, _⟩
    · rw [hmb] at h3
      simp only [Option.some.injEq, Prod.mk.injEq] at h3
      rw [h3.1]; exact ⟨h5, h6⟩
    · rw [hmb] at h3; cases h3
  have hle : Le G w (G.frz b m) w := ⟨fun _ _ e => e, fun k => by
    unfold Gh.frz; dsimp only
    split
    · rename_i e; rw [e]; omega
    · exact Nat.le_refl _, fun _ _ e => e, fun _ _ _ => rfl, fun _ _ e => e⟩
  obtain ⟨q1, q2⟩ := eff_dead h id
  have hne : ∀ k, k ≠ b → (G.frz b m).imm k = G.imm k := fun k hk => by unfold Gh.frz; dsimp only; rw [if_neg hk]
  refine ⟨hle, { os := rfl, tape := rfl, output := rfl, size := Nat.le_refl _, block := fun k _ hm => ⟨rfl, hne k fun e => hm (.inl ⟨id, z, hlid, by rw [e]; exact hmb⟩), rfl⟩, mb := fun _ _ _ e => .inl ⟨_, e⟩, muts := q1.muts },
    { at_ := fun k B1 g1 g2 => ?_, inj := q2.inj, ids := q2.ids, chain := fun c z' n hc => ?_, chains := q2.chains, new := fun k hk => ?_ }⟩
  · have hki : k ≠ id := by
      rintro rfl
      rw [AH.upd_at, if_pos rfl, if_pos hidlt] at g1
      simp only [Option.some.injEq] at g1
      subst g1; cases g2
    rw [AH.upd_other (fun e => hki e.symm)] at g1
    rcases h.at_ k B1 g1 g2 with ⟨b', z', g3, g4, g5, g6⟩ | g3
    · have hbb : b' ≠ b := by
        rintro rfl
        exact hki (h.inj k id b' z' z ⟨B1, g1, g2⟩ hlid g3 hmb)
      exact .inl ⟨b', z', g3, g4.heap hle rfl, by rw [hne b' hbb]; exact g5, g6⟩
    · exact .inr g3
  · obtain ⟨g1, g2⟩ := h.chain c z' n hc
    refine ⟨g1, fun hn => ?_⟩
    obtain ⟨bb, us, e', g3, g4, g5, g6⟩ := g2 hn
    have hbb : ∀ k, G.own k = some c → k ≠ b := by rintro k hk rfl; rw [hk] at h6; cases h6
    exact ⟨bb, us, e', g3, by rw [hne bb (hbb bb g3)]; exact g4, g5, fun b' hb' hne' => by rw [hne b' (hbb b' hb')]; exact g6 b' hb' hne'⟩
  · obtain ⟨g1, g2, g3⟩ := h.new k hk
    refine ⟨?_, g2, g3⟩
    rw [hne k (fun e => by have := h.mb_lt hmb; omega)]
    exact g1
end Go.Proofs.Ytecpiplfjmmccaa.AM
