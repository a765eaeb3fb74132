/-
  Values without addresses: what a Go value reads as (AV), when a value of the machine reads so (Rep), what stays so (Le), and the memory that a call works on (HSim).
  No program in sight. Conditions: none.
-/
import Derived.Calls
import Derived.Below
import Derived.Laws.World
import Derived.Laws.Sem
import Derived.Laws.Cells
import Derived.Laws.Rows
import Derived.Laws.AppendOwn
import Derived.MapKept
namespace Go.Proofs.Ytecpiplfjmmccaa.AM
open Go

inductive AV where
  | undef | skip
  | int (k : IntKind) (n : Int)
  | bool (b : Bool)
  | str (s : ByteArray)
  | nilptr
  | lptr (i col : Nat)
  | ptr (id row col : Nat)
  | ep (row : List AV) (col : Nat)
  | nils
  | sl (z : Nat) (rows : List (List AV)) (tok : Option Nat)
  | ms (z id off len : Nat)
  | nilmap
  | map (id : Nat)
  | fn (f : FuncId) (first captured : List AV)
  | nilfn
  | iface (t : TypeId) (v : AV)
  | nilif
  | agg (cells : List AV)
  | tup (vs : List AV)
  deriving Inhabited

/-- It may stand in one cell. -/
def AV.one : AV → Bool
  | .undef | .skip | .lptr .. | .agg _ | .tup _ => false
  | _ => true
/-- It may be handed on. -/
def AV.val : AV → Bool
  | .undef | .skip | .lptr .. => false
  | _ => true

/-- What is told of memory: which block a number stands for (and how many cells a row has), how many cells of a block never turn, whose chain a block is. -/
structure Gh where
  mb : Nat → Option (Nat × Nat)
  imm : Nat → Nat
  own : Nat → Option Nat

/-- Where the n rows of a slice lie. -/
def SlPlace (G : Gh) (w : World) (z n : Nat) (tok : Option Nat) (A : Option Addr) (c b o : Nat) : Prop :=
  (n = 0 ∧ (tok = none ∨ c = 0)) ∨
  (A = some ⟨b, o, none⟩ ∧ o + n * z ≤ G.imm b ∧ ∀ t, tok = some t → o = 0 ∧ G.own b = some t ∧ ∃ e, w.shape? b = some (e, c * z))

def cellAt (rows : List (List AV)) (i j : Nat) : Option AV := (rows[i]?).bind (·[j]?)

inductive Rep (G : Gh) (w : World) : AV → Value → Prop
  | skip : Rep G w .skip Go.undef
  | int (k : IntKind) (n : Int) : Rep G w (.int k n) (.int k n)
  | bool (b : Bool) : Rep G w (.bool b) (.bool b)
  | str (s : ByteArray) : Rep G w (.str s) (.string s)
  | nilptr : Rep G w .nilptr (.pointer none)
  | ptr (id row col b z : Nat) (h : G.mb id = some (b, z)) : Rep G w (.ptr id row col) (.pointer (some ⟨b, row * z + col, none⟩))
  | ep (row : List AV) (col b o : Nat) (f : Nat → Value) (hi : o + row.length ≤ G.imm b) (hc : ∀ j x, row[j]? = some x → w.cell? ⟨b, o + j, none⟩ = some (f j))
      (h1 : ∀ (j : Nat) x, row[j]? = some x → x.one = true) (hr : ∀ j x, row[j]? = some x → Rep G w x (f j)) : Rep G w (.ep row col) (.pointer (some ⟨b, o + col, none⟩))
  | nils : Rep G w .nils (.slice none 0 0)
  | sl (z : Nat) (rows : List (List AV)) (tok : Option Nat) (A : Option Addr) (c b o : Nat) (f : Nat → Nat → Value) (hz : 0 < z) (hlc : rows.length ≤ c) (hc : c ≤ maxLen)
      (hk : ∀ r ∈ rows, r.length = z) (hp : SlPlace G w z rows.length tok A c b o)
      (hcell : ∀ i j x, cellAt rows i j = some x → w.cell? ⟨b, o + i * z + j, none⟩ = some (f i j))
      (h1 : ∀ i j x, cellAt rows i j = some x → x.one = true) (hr : ∀ i j x, cellAt rows i j = some x → Rep G w x (f i j)) : Rep G w (.sl z rows tok) (.slice A rows.length c)
  | ms (z id off len c : Nat) (A : Option Addr) (hlc : len ≤ c) (hc : c ≤ maxLen) (hs : (∃ b, A = some ⟨b, off * z, none⟩ ∧ G.mb id = some (b, z) ∧ ∃ e, w.shape? b = some (e, (off + c) * z)) ∨ c = 0) : Rep G w (.ms z id off len) (.slice A len c)
  | nilmap : Rep G w .nilmap (.map none)
  | map (id b : Nat) (h : G.mb id = some (b, 0)) : Rep G w (.map id) (.map (some b))
  | fn (f : FuncId) (fi ca : List AV) (fv cv : Array Value) (hf : fv.size = fi.length) (hc : cv.size = ca.length)
      (hfr : ∀ i x, fi[i]? = some x → Rep G w x (fv.getD i Go.undef)) (hcr : ∀ i x, ca[i]? = some x → Rep G w x (cv.getD i Go.undef)) : Rep G w (.fn f fi ca) (.func (.func f) fv cv)
  | nilfn : Rep G w .nilfn .nilFunc
  | iface (t : TypeId) (x : AV) (v : Value) (h : Rep G w x v) : Rep G w (.iface t x) (.iface t v)
  | nilif : Rep G w .nilif .nilIface
  | agg (cs : List AV) (vs : Array Value) (hl : vs.size = cs.length) (h1 : ∀ (i : Nat) x, cs[i]? = some x → x.one = true) (hr : ∀ i x, cs[i]? = some x → Rep G w x (vs.getD i Go.undef)) : Rep G w (.agg cs) (.agg vs)
  | tup (cs : List AV) (vs : Array Value) (hl : vs.size = cs.length) (hr : ∀ i x, cs[i]? = some x → Rep G w x (vs.getD i Go.undef)) : Rep G w (.tup cs) (.tuple vs)

theorem Rep.oneCell {G : Gh} {w : World} {x : AV} {v : Value} (h : Rep G w x v) (h1 : x.one = true) : v.oneCell' = true := by
  cases h <;> first | rfl | (simp [AV.one] at h1)

/-- What was told stays so. -/
structure Le (G : Gh) (w : World) (G' : Gh) (w' : World) : Prop where
  mb : ∀ i x, G.mb i = some x → G'.mb i = some x
  imm : ∀ b, G.imm b ≤ G'.imm b
  own : ∀ b c, G.own b = some c → G'.own b = some c
  cell : ∀ b o, o < G.imm b → w'.cell? ⟨b, o, none⟩ = w.cell? ⟨b, o, none⟩
  shape : ∀ b s, w.shape? b = some s → w'.shape? b = some s

theorem Le.refl (G : Gh) (w : World) : Le G w G w := ⟨fun _ _ h => h, fun _ => Nat.le_refl _, fun _ _ h => h, fun _ _ _ => rfl, fun _ _ h => h⟩
theorem Le.trans {G G' G'' : Gh} {w w' w'' : World} (h : Le G w G' w') (k : Le G' w' G'' w'') : Le G w G'' w'' :=
  ⟨fun i x e => k.mb i x (h.mb i x e), fun b => Nat.le_trans (h.imm b) (k.imm b), fun b c e => k.own b c (h.own b c e),
   fun b o ho => (k.cell b o (Nat.lt_of_lt_of_le ho (h.imm b))).trans (h.cell b o ho), fun b s e => k.shape b s (h.shape b s e)⟩

theorem cellAt_some {rows : List (List AV)} {i j : Nat} {x : AV} (h : cellAt rows i j = some x) : ∃ r, rows[i]? = some r ∧ r[j]? = some x := by
  unfold cellAt at h
  cases hr : rows[i]? with
  | none => simp [hr] at h
  | some r => exact ⟨r, rfl, by simpa [hr] using h⟩
theorem cellAt_lt {rows : List (List AV)} {z i j : Nat} {x : AV} (hk : ∀ r ∈ rows, r.length = z) (h : cellAt rows i j = some x) : i < rows.length ∧ j < z := by
  obtain ⟨r, h1, h2⟩ := cellAt_some h
  have hi := (List.getElem?_eq_some_iff.1 h1)
  have hj := (List.getElem?_eq_some_iff.1 h2)
  obtain ⟨hi, e⟩ := hi
  obtain ⟨hj, _⟩ := hj
  have := hk r (by rw [← e]; exact List.getElem_mem hi)
  exact ⟨hi, by omega⟩
theorem row_lt {n z i j : Nat} (hi : i < n) (hj : j < z) : i * z + j < n * z := by
  have : (i + 1) * z ≤ n * z := Nat.mul_le_mul_right z hi
  rw [Nat.add_mul] at this
  omega
theorem SlPlace.mono {G G' : Gh} {w w' : World} {z n : Nat} {tok : Option Nat} {A : Option Addr} {c b o : Nat} (h : SlPlace G w z n tok A c b o) (hle : Le G w G' w') : SlPlace G' w' z n tok A c b o := by
  rcases h with h | ⟨hA, hi, ht⟩
  · exact .inl h
  · refine .inr ⟨hA, Nat.le_trans hi (hle.imm b), fun t e => ?_⟩
    obtain ⟨h1, h2, e', h3⟩ := ht t e
    exact ⟨h1, hle.own _ _ h2, e', hle.shape _ _ h3⟩

theorem Rep.mono {G G' : Gh} {w w' : World} (hle : Le G w G' w') {x : AV} {v : Value} (h : Rep G w x v) : Rep G' w' x v := by
  induction h with
  | skip => exact .skip
  | int k n => exact .int k n
  | bool b => exact .bool b
  | str s => exact .str s
  | nilptr => exact .nilptr
  | ptr id row col b z h => exact .ptr id row col b z (hle.mb _ _ h)
  | ep row col b o f hi hc h1 _ ih =>
    exact .ep row col b o f (Nat.le_trans hi (hle.imm b)) (fun j x hx => by
      rw [hle.cell b (o + j) (by have := (List.getElem?_eq_some_iff.1 hx).1; omega)]; exact hc j x hx) h1 (fun j x hx => ih j x hx)
  | nils => exact .nils
  | sl z rows tok A c b o f hz hlc hc hk hp hcell h1 _ ih =>
    refine .sl z rows tok A c b o f hz hlc hc hk (hp.mono hle) (fun i j x hx => ?_) h1 (fun i j x hx => ih i j x hx)
    have hlt := cellAt_lt hk hx
    rcases hp with ⟨h0, _⟩ | ⟨_, hi, _⟩
    · omega
    · rw [hle.cell b (o + i * z + j) (by have := row_lt hlt.1 hlt.2; omega)]; exact hcell i j x hx
  | ms z id off len c A hlc hc hs => exact .ms z id off len c A hlc hc (hs.imp (fun ⟨b, h1, h2, e, h3⟩ => ⟨b, h1, hle.mb _ _ h2, e, hle.shape _ _ h3⟩) fun h => h)
  | nilmap => exact .nilmap
  | map id b h => exact .map id b (hle.mb _ _ h)
  | fn f fi ca fv cv hf hc _ _ ih1 ih2 => exact .fn f fi ca fv cv hf hc (fun i x hx => ih1 i x hx) (fun i x hx => ih2 i x hx)
  | nilfn => exact .nilfn
  | iface t x v _ ih => exact .iface t x v ih
  | nilif => exact .nilif
  | agg cs vs hl h1 _ ih => exact .agg cs vs hl h1 (fun i x hx => ih i x hx)
  | tup cs vs hl _ ih => exact .tup cs vs hl (fun i x hx => ih i x hx)

/-! ### What a call works on -/
inductive ABlk where
  | rows (z : Nat) (l : List (List AV))
  | map (k : IntKind) (es : List (Int × AV)) (pend : Option (Int × Nat))
  | dead
  deriving Inhabited
def ABlk.live : ABlk → Bool
  | .dead => false
  | _ => true
structure AH where
  blks : List ABlk
  tips : List (Nat × Nat)
  deriving Inhabited
/-- A block's content turned; a new block. -/
def AH.upd (H : AH) (i : Nat) (B : ABlk) : AH := { H with blks := H.blks.set i B }
def AH.push (H : AH) (B : ABlk) : AH := { H with blks := H.blks ++ [B] }
theorem AH.upd_same {H : AH} {i : Nat} {B B' : ABlk} (h : H.blks[i]? = some B') : (H.upd i B).blks[i]? = some B := by
  have := (List.getElem?_eq_some_iff.1 h).1
  simp [AH.upd, this]
theorem AH.upd_other {H : AH} {i j : Nat} {B : ABlk} (h : i ≠ j) : (H.upd i B).blks[j]? = H.blks[j]? := by simp [AH.upd, List.getElem?_set_ne h]
theorem AH.push_old {H : AH} {j : Nat} {B : ABlk} (h : j < H.blks.length) : (H.push B).blks[j]? = H.blks[j]? := by simp [AH.push, List.getElem?_append_left h]
theorem AH.push_new {H : AH} {B : ABlk} : (H.push B).blks[H.blks.length]? = some B := by simp [AH.push]
theorem AH.upd_len {H : AH} {i : Nat} {B : ABlk} : (H.upd i B).blks.length = H.blks.length := by simp [AH.upd]
theorem AH.push_len {H : AH} {B : ABlk} : (H.push B).blks.length = H.blks.length + 1 := by simp [AH.push]
theorem AH.upd_at {H : AH} {i j : Nat} {B : ABlk} : (H.upd i B).blks[j]? = if i = j then (if j < H.blks.length then some B else none) else H.blks[j]? := by
  simp only [AH.upd, List.getElem?_set]
  split
  · rename_i h; subst h; rfl
  · rfl
theorem AH.push_at {H : AH} {j : Nat} {B : ABlk} : (H.push B).blks[j]? = if j = H.blks.length then some B else H.blks[j]? := by
  simp only [AH.push, List.getElem?_append]
  split
  · rename_i h; rw [if_neg (by omega)]
  · rename_i h
    split
    · rename_i h2; subst h2; simp
    · have h3 : [B].length ≤ j - H.blks.length := by simp only [List.length_cons, List.length_nil]; omega
      rw [List.getElem?_eq_none h3, List.getElem?_eq_none (by omega)]
def AH.none : AH := ⟨[], []⟩

def Live (H : AH) (id : Nat) : Prop := ∃ B, H.blks[id]? = some B ∧ B.live = true

/-- A cell's value may be unknown. -/
def RepU (G : Gh) (w : World) (x : AV) (v : Value) : Prop := x = .undef ∨ (x.one = true ∧ Rep G w x v)
theorem RepU.mono {G G' : Gh} {w w' : World} (hle : Le G w G' w') {x : AV} {v : Value} (h : RepU G w x v) : RepU G' w' x v := h.imp id fun ⟨a, b⟩ => ⟨a, b.mono hle⟩

def BlkAt (G : Gh) (w : World) (b zz : Nat) : ABlk → Prop
  | .rows z l => zz = z ∧ 0 < z ∧ ∃ vs e, w.heap[b]? = some (.cells vs e (0, 0)) ∧ (∀ r ∈ l, r.length = z) ∧ l.length * z ≤ vs.size ∧ ∀ i j x, cellAt l i j = some x → RepU G w x (vs.getD (i * z + j) Go.undef)
  | .map k es pd => zz = 0 ∧ ∃ (en : Array MapEntry) (clock : Nat), w.heap[b]? = some (.map en clock) ∧ MapKept.Stamped en clock ∧ en.size = es.length ∧
      (∀ (i : Nat) n x, es[i]? = some (n, x) → x.val = true ∧ ∃ e : MapEntry, en[i]? = some e ∧ e.key = .int k n ∧ Rep G w x e.val) ∧
      ∀ n i, pd = some (n, i) → ∃ e : MapEntry, en[i]? = some e ∧ (e.born : Int) = n
  | .dead => True

structure HSim (G : Gh) (w : World) (H : AH) : Prop where
  at_ : ∀ id B, H.blks[id]? = some B → B.live = true → (∃ b z, G.mb id = some (b, z) ∧ BlkAt G w b z B ∧ G.imm b = 0 ∧ G.own b = Option.none) ∨ (G.mb id = Option.none ∧ ∃ z, 0 < z ∧ B = .rows z [])
  inj : ∀ id id' b z z', Live H id → Live H id' → G.mb id = some (b, z) → G.mb id' = some (b, z') → id = id'
  ids : ∀ id, H.blks.length ≤ id → G.mb id = Option.none
  chain : ∀ c z n, H.tips[c]? = some (z, n) → (n = 0 → ∀ b, G.own b ≠ some c) ∧ (0 < n → ∃ b vs e, G.own b = some c ∧ G.imm b = n * z ∧ w.heap[b]? = some (.cells vs e (0, 0)) ∧
      ∀ b', G.own b' = some c → b' ≠ b → G.imm b' < n * z)
  chains : ∀ c b, H.tips.length ≤ c → G.own b ≠ some c
  new : ∀ b, w.heap.size ≤ b → G.imm b = 0 ∧ G.own b = Option.none ∧ ∀ id z, G.mb id ≠ some (b, z)

def Mut (G : Gh) (H : AH) (b : Nat) : Prop := (∃ id z, Live H id ∧ G.mb id = some (b, z)) ∨ ∃ c, G.own b = some c

/-- What a call leaves as it was. -/
structure Ext (G : Gh) (H : AH) (w : World) (G' : Gh) (H' : AH) (w' : World) : Prop where
  os : w'.os = w.os
  tape : w'.tape = w.tape
  output : w'.output = w.output
  size : w.heap.size ≤ w'.heap.size
  block : ∀ b, b < w.heap.size → ¬ Mut G H b → w'.heap[b]? = w.heap[b]? ∧ G'.imm b = G.imm b ∧ G'.own b = G.own b
  mb : ∀ id b z, G'.mb id = some (b, z) → (∃ id', G.mb id' = some (b, z)) ∨ w.heap.size ≤ b
  muts : ∀ b, b < w.heap.size → Mut G' H' b → Mut G H b

theorem Ext.refl (G : Gh) (H : AH) (w : World) : Ext G H w G H w := ⟨rfl, rfl, rfl, Nat.le_refl _, fun _ _ _ => ⟨rfl, rfl, rfl⟩, fun _ _ _ h => .inl ⟨_, h⟩, fun _ _ h => h⟩
theorem Ext.trans {G G' G'' : Gh} {H H' H'' : AH} {w w' w'' : World} (h : Ext G H w G' H' w') (k : Ext G' H' w' G'' H'' w'') : Ext G H w G'' H'' w'' :=
  ⟨k.os.trans h.os, k.tape.trans h.tape, k.output.trans h.output, Nat.le_trans h.size k.size,
   fun b hb hm => by
     obtain ⟨a1, a2, a3⟩ := h.block b hb hm
     obtain ⟨b1, b2, b3⟩ := k.block b (Nat.lt_of_lt_of_le hb h.size) (fun hm' => hm (h.muts b hb hm'))
     exact ⟨b1.trans a1, b2.trans a2, b3.trans a3⟩,
   fun id b z e => by
     rcases k.mb id b z e with ⟨id', e⟩ | e
     · exact h.mb id' b z e
     · exact .inr (Nat.le_trans h.size e),
   fun b hb hm => h.muts b hb (k.muts b (Nat.lt_of_lt_of_le hb h.size) hm)⟩

def Reps (G : Gh) (w : World) (xs : List AV) (vs : List Value) : Prop := vs.length = xs.length ∧ ∀ i x, xs[i]? = some x → Rep G w x (vs.getD i Go.undef)

/-- A function with a text of its own. -/
def Ent (P : Program) (f : FuncId) : Prop := ∃ fn c, P.funcs[f]? = some fn ∧ (fn.name == "runtime.NumGoroutine") = false ∧ fn.body = some c
/-- A call of f over the memory H comes to an answer of which Q holds. -/
def AC (P : Program) (f : FuncId) (args : List AV) (H : AH) (Q : AV → AH → Prop) : Prop :=
  Ent P f ∧ ∀ G w (vs : List Value), HSim G w H → Reps G w args vs →
    Calls P f vs.toArray w fun e w' => ∃ r cr G' H', e = .returned cr ∧ Rep G' w' r cr ∧ HSim G' w' H' ∧ Le G w G' w' ∧ Ext G H w G' H' w' ∧ Q r H'

theorem AC.mono {P : Program} {f : FuncId} {args : List AV} {H : AH} {Q Q' : AV → AH → Prop} (h : AC P f args H Q) (hq : ∀ r H', Q r H' → Q' r H') : AC P f args H Q' :=
  ⟨h.1, fun G w vs hH hr => (h.2 G w vs hH hr).mono fun _ _ ⟨r, cr, G', H', h1, h2, h3, h4, h5, h6⟩ => ⟨r, cr, G', H', h1, h2, h3, h4, h5, hq _ _ h6⟩⟩
end Go.Proofs.Ytecpiplfjmmccaa.AM
