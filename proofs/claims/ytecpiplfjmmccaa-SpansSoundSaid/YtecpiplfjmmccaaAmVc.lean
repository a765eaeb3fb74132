/-
  What a run of code asks (vc): the text is walked over a state without addresses; what must be shown is left as named goals. What is left comes to what the operations do (A_ok).
  No program in sight. Conditions: none.
-/
import Derived.Test.YtecpiplfjmmccaaAmDraw2
namespace Go.Proofs.Ytecpiplfjmmccaa.AM
open Go

/-! ### values laid out -/
def force0 (x : AV) (k : AV → Prop) : Prop :=
  match x with
  | .undef => k .undef
  | .skip => k .skip
  | .int a b => k (.int a b)
  | .bool b => k (.bool b)
  | .str s => k (.str s)
  | .nilptr => k .nilptr
  | .lptr i c => k (.lptr i c)
  | .ptr i r c => k (.ptr i r c)
  | .ep row c => k (.ep row c)
  | .nils => k .nils
  | .sl z rows t => k (.sl z rows t)
  | .ms z i o n => k (.ms z i o n)
  | .nilmap => k .nilmap
  | .map i => k (.map i)
  | .fn f a b => k (.fn f a b)
  | .nilfn => k .nilfn
  | .iface t v => k (.iface t v)
  | .nilif => k .nilif
  | .agg cs => k (.agg cs)
  | .tup vs => k (.tup vs)
theorem force0_eq (x : AV) (k : AV → Prop) : force0 x k = k x := by cases x <;> rfl
def forceL : List AV → (List AV → Prop) → Prop
  | [], k => k []
  | x :: l, k => force0 x fun x => forceL l fun l => k (x :: l)
theorem forceL_eq : ∀ (l : List AV) (k : List AV → Prop), forceL l k = k l
  | [], _ => rfl
  | x :: l, k => by unfold forceL; rw [force0_eq, forceL_eq l]
def force (x : AV) (k : AV → Prop) : Prop :=
  force0 x fun
    | .agg cs => forceL cs fun cs => k (.agg cs)
    | .tup cs => forceL cs fun cs => k (.tup cs)
    | .ep cs c => forceL cs fun cs => k (.ep cs c)
    | .fn f a b => forceL a fun a => forceL b fun b => k (.fn f a b)
    | x => k x
theorem force_eq (x : AV) (k : AV → Prop) : force x k = k x := by
  unfold force
  rw [force0_eq]
  cases x <;> simp only [forceL_eq]
def forceLL : List (List AV) → (List (List AV) → Prop) → Prop
  | [], k => k []
  | x :: l, k => forceL x fun x => forceLL l fun l => k (x :: l)
theorem forceLL_eq : ∀ (l : List (List AV)) (k : List (List AV) → Prop), forceLL l k = k l
  | [], _ => rfl
  | x :: l, k => by unfold forceLL; rw [forceL_eq, forceLL_eq l]
def forceV : List (Nat × List AV) → (List (Nat × List AV) → Prop) → Prop
  | [], k => k []
  | (i, x) :: l, k => forceL x fun x => forceV l fun l => k ((i, x) :: l)
theorem forceV_eq : ∀ (l : List (Nat × List AV)) (k : List (Nat × List AV) → Prop), forceV l k = k l
  | [], _ => rfl
  | (i, x) :: l, k => by unfold forceV; rw [forceL_eq, forceV_eq l]
def forceP : List (Nat × Nat) → (List (Nat × Nat) → Prop) → Prop
  | [], k => k []
  | (i, x) :: l, k => forceP l fun l => k ((i, x) :: l)
theorem forceP_eq : ∀ (l : List (Nat × Nat)) (k : List (Nat × Nat) → Prop), forceP l k = k l
  | [], _ => rfl
  | (i, x) :: l, k => by unfold forceP; rw [forceP_eq l]
def forceB : List ABlk → (List ABlk → Prop) → Prop
  | [], k => k []
  | .rows z r :: l, k => forceB l fun l => k (.rows z r :: l)
  | .map q es pd :: l, k => forceB l fun l => k (.map q es pd :: l)
  | .dead :: l, k => forceB l fun l => k (.dead :: l)
theorem forceB_eq : ∀ (l : List ABlk) (k : List ABlk → Prop), forceB l k = k l
  | [], _ => rfl
  | x :: l, k => by cases x <;> (unfold forceB; rw [forceB_eq l])
def forceH (H : AH) (k : AH → Prop) : Prop :=
  match H with
  | ⟨b, t⟩ => forceB b fun b => forceP t fun t => k ⟨b, t⟩
theorem forceH_eq (H : AH) (k : AH → Prop) : forceH H k = k H := by
  cases H
  unfold forceH
  dsimp only
  rw [forceB_eq, forceP_eq]
def forceH0 (H : AH) (k : AH → Prop) : Prop :=
  match H with
  | ⟨b, t⟩ => k ⟨b, t⟩
theorem forceH0_eq (H : AH) (k : AH → Prop) : forceH0 H k = k H := rfl
/-- a short list's length, as a numeral -/
def lenK {α : Type} (l : List α) (k : Nat → Prop) : Prop :=
  match l with
  | [] => k 0
  | [_] => k 1
  | [_, _] => k 2
  | [_, _, _] => k 3
  | [_, _, _, _] => k 4
  | [_, _, _, _, _] => k 5
  | [_, _, _, _, _, _] => k 6
  | [_, _, _, _, _, _, _] => k 7
  | l => k l.length
theorem lenK_eq {α : Type} (l : List α) (k : Nat → Prop) : lenK l k = k l.length := by unfold lenK; split <;> rfl

/-! ### what is left to show -/
structure IdxVC (rows : List (List AV)) (n : Int) (K : List AV → Prop) : Prop where
  out : ∃ r, 0 ≤ n ∧ rows[n.toNat]? = some r ∧ K r
structure SlcVC (rows : List (List AV)) (l h : Int) (K : List (List AV) → Prop) : Prop where
  out : ∃ a b : Nat, l = a ∧ h = b ∧ a ≤ b ∧ b ≤ rows.length ∧ K ((rows.drop a).take (b - a))
structure StrVC (s : ByteArray) (l h : Int) (K : ByteArray → Prop) : Prop where
  out : ∃ a b : Nat, l = a ∧ h = b ∧ a ≤ b ∧ b ≤ s.size ∧ K (s.extract a b)
structure DivVC (b : Int) (K : Prop) : Prop where
  nz : b ≠ 0
  out : K
structure ShVC (b : Int) (K : Prop) : Prop where
  nn : 0 ≤ b
  out : K
structure NilVC (rows : List (List AV)) (K : Bool → Prop) : Prop where
  out : ∀ b, (b = true → rows = []) → K b
structure NilMVC (m : Nat) (K : Bool → Prop) : Prop where
  out : ∀ b, (b = true → m = 0) → K b
structure BytesVC (rows : List (List AV)) (K : ByteArray → Prop) : Prop where
  out : ∃ ns : List Int, rows = ns.map (fun n => [.int .u8 n]) ∧ K (bstr ns)
/-- a row of a tracked block -/
structure RowVC (H : AH) (id r : Nat) (K : Nat → List (List AV) → List AV → Prop) : Prop where
  out : ∃ z l row, H.blks[id]? = some (.rows z l) ∧ l[r]? = some row ∧ K z l row
structure MIdxVC (len : Nat) (n : Int) (K : Nat → Prop) : Prop where
  out : ∃ i : Nat, n = i ∧ i < len ∧ K i
structure MSlcVC (len : Nat) (l h : Int) (K : Nat → Nat → Prop) : Prop where
  out : ∃ a b : Nat, l = a ∧ h = b ∧ a ≤ b ∧ b ≤ len ∧ K a b
structure CallVC (P : Program) (g : FuncId) (args : List AV) (H : AH) (K : AV → AH → Prop) : Prop where
  out : AC P g args H K
structure QuietVC (P : Program) (g : FuncId) (args : List AV) (H : AH) (K : AV → Prop) : Prop where
  out : AC P g args H fun r H' => H' = H ∧ K r
structure AppVC (φ K : Prop) : Prop where
  side : φ
  out : K

/-- A new value of the destination. -/
def putK (dst : Option Tmp) (x : AV) (n : Nat) (T : List (Nat × AV)) (L : List (Nat × List AV)) (H : AH) (K : AS → Prop) : Prop :=
  match dst with
  | none => K ⟨n, T, L, H⟩
  | some d => match Nat.blt d n with
    | true => K ⟨n, (d, x) :: T, L, H⟩
    | false => False
theorem putK_eq {o : Oper} {x : AV} {n : Nat} {T : List (Nat × AV)} {L : List (Nat × List AV)} {H : AH} {K : AS → Prop} (h : putK o.dst x n T L H K) : (∀ d, o.dst = some d → d < n) ∧ K ((⟨n, T, L, H⟩ : AS).put o.dst x) := by
  unfold putK at h
  cases hd : o.dst with
  | none => rw [hd] at h; exact ⟨fun d h => (nomatch h), h⟩
  | some d =>
    rw [hd] at h
    dsimp only at h
    split at h
    · rename_i hb
      refine ⟨fun d' h' => ?_, h⟩
      simp only [Option.some.injEq] at h'
      subst h'
      simpa [Nat.blt_eq] using hb
    · cases h

def intOf (T : List (Nat × AV)) (d : Int) : Option Operand → Option Int
  | none => some d
  | some x => match evA T x with
    | .int _ n => some n
    | _ => none

/-- The tracked memory laid out, where it is not told by a name (md of 1000000). -/
def hK (md : Nat → Nat) (H : AH) (k : AH → Prop) : Prop :=
  match md 1000000 with
  | 0 => forceH H k
  | _ => k H
theorem hK_eq (md : Nat → Nat) (H : AH) (k : AH → Prop) : hK md H k = k H := by
  unfold hK
  split
  · exact forceH_eq H k
  · rfl
def tipK (md : Nat → Nat) (H : AH) (k : Nat → Prop) : Prop :=
  match md 1000000 with
  | 0 => lenK H.tips k
  | _ => k H.tips.length
theorem tipK_eq (md : Nat → Nat) (H : AH) (k : Nat → Prop) : tipK md H k = k H.tips.length := by
  unfold tipK
  split
  · exact lenK_eq _ k
  · rfl
def valK (ty : Tr) (o : Oper) (n : Nat) (T : List (Nat × AV)) (L : List (Nat × List AV)) (H : AH) (K : AS → Prop) : Prop :=
  match vop ty.get o.op ⟨n, T, L, H⟩ with
  | some x => force x fun x => putK o.dst x n T L H K
  | none => False
def effK (ty : Tr) (md : Nat → Nat) (o : Oper) (n : Nat) (T : List (Nat × AV)) (L : List (Nat × List AV)) (H : AH) (K : AS → Prop) : Prop :=
  match eopC ty.get md o ⟨n, T, L, H⟩ with
  | some (L, H, x, φ) => AppVC φ (force x fun x => forceV L fun L => hK md H fun H => putK o.dst x n T L H K)
  | none => False
def stoK (ty : Tr) (md : Nat → Nat) (o : Oper) (n : Nat) (T : List (Nat × AV)) (L : List (Nat × List AV)) (H : AH) (K : AS → Prop) : Prop :=
  match eopC ty.get md o ⟨n, T, L, H⟩ with
  | some (L', H', x, _) => forceV L' fun L => forceH0 H' fun H => putK o.dst x n T L H K
  | none => False
def newK (ty : Tr) (o : Oper) (n : Nat) (T : List (Nat × AV)) (L : List (Nat × List AV)) (H : AH) (K : AS → Prop) : Prop :=
  match o.dst with
  | some d => match Nat.blt d n with
    | true => match newC ty.get o.op T with
      | some cs => match noL d T with
        | true => forceL cs fun cs => K ⟨n, (d, .lptr d 0) :: T, (d, cs) :: L, H⟩
        | false => False
      | none => False
    | false => False
  | none => False
def dstB (d : Option Tmp) (n : Nat) : Bool :=
  match d with
  | some d => Nat.blt d n
  | none => true
def nilK (ty : Tr) (neg : Bool) (t : TypeId) (x : AV) (o : Oper) (n : Nat) (T : List (Nat × AV)) (L : List (Nat × List AV)) (H : AH) (K : AS → Prop) : Prop :=
  match isSlice (ty.get t) with
  | true => match x with
    | .nils => putK o.dst (.bool (!neg)) n T L H K
    | .sl _ rows _ => NilVC rows fun b => match neg with
      | true => putK o.dst (.bool (!b)) n T L H K
      | false => putK o.dst (.bool b) n T L H K
    | .ms _ _ _ m => NilMVC m fun b => match neg with
      | true => putK o.dst (.bool (!b)) n T L H K
      | false => putK o.dst (.bool b) n T L H K
    | _ => False
  | false => False
def shK (op : BinOp) (t : AV) (y : AV) (o : Oper) (n : Nat) (T : List (Nat × AV)) (L : List (Nat × List AV)) (H : AH) (K : AS → Prop) : Prop :=
  match t with
  | .int k a => match y with
    | .int _ b => ShVC b (match shiftOf op k a b with
      | some x => force x fun x => putK o.dst x n T L H K
      | none => False)
    | _ => False
  | _ => False
def storK (ty : Tr) (t : TypeId) (id r c : Nat) (x : AV) (o : Oper) (n : Nat) (T : List (Nat × AV)) (L : List (Nat × List AV)) (H : AH) (K : AS → Prop) : Prop :=
  match ty.get t with
  | some ti => match x.val with
    | true => match x with
      | .tup _ => False
      | x => match Nat.beq x.cellsOf.length ti.size with
        | true => RowVC H id r fun z l row => match Nat.ble (c + ti.size) row.length with
          | true => forceL (splice row c x.cellsOf) fun row => putK o.dst .skip n T L (H.upd id (.rows z (l.set r row))) K
          | false => False
        | false => False
    | false => False
  | none => False
def loadK (ty : Tr) (t : TypeId) (id r c : Nat) (o : Oper) (n : Nat) (T : List (Nat × AV)) (L : List (Nat × List AV)) (H : AH) (K : AS → Prop) : Prop :=
  RowVC H id r fun _ _ row => match loadOf (ty.get t) row c with
    | some x => force x fun x => putK o.dst x n T L H K
    | none => False
def memK (ty : Tr) (md : Nat → Nat) (o : Oper) (n : Nat) (T : List (Nat × AV)) (L : List (Nat × List AV)) (H : AH) (K : AS → Prop) : Prop :=
  match dstB o.dst n with
  | true => match mop ty.get md o T with
    | some m => m.P H fun x H' => force x fun x => match okR x with
      | true => putK o.dst x n T L H' K
      | false => False
    | none => False
  | false => False
def lookK (ty : Tr) (md : Nat → Nat) (o : Oper) (n : Nat) (T : List (Nat × AV)) (L : List (Nat × List AV)) (H : AH) (K : AS → Prop) : Prop :=
  match dstB o.dst n with
  | true => match mop ty.get md o T with
    | some (.look id q m z ok) => MAct.P (.look id q m z ok) H fun x _ => force x fun x => match okR x with
      | true => putK o.dst x n T L H K
      | false => False
    | some (.mlen id) => MAct.P (.mlen id) H fun x _ => force x fun x => match okR x with
      | true => putK o.dst x n T L H K
      | false => False
    | _ => False
  | false => False
def callK (P : Program) (q : Bool) (o : Oper) (n : Nat) (T : List (Nat × AV)) (L : List (Nat × List AV)) (H : AH) (K : AS → Prop) : Prop :=
  match dstB o.dst n with
  | true => match callOf T o.op with
    | some (g, args) => match vals args with
      | true => forceL args fun args => match q with
        | true => QuietVC P g args H fun r => force r fun r => match r.val with
          | true => putK o.dst r n T L H K
          | false => False
        | false => CallVC P g args H fun r H' => force r fun r => match r.val with
          | true => putK o.dst r n T L H' K
          | false => False
      | false => False
    | none => False
  | false => False

/-- An operation: computed as far as it goes. -/
def A0 (P : Program) (ty : Tr) (md : Nat → Nat) (qt : FuncId → Bool) (o : Oper) (S : AS) (K : AS → Prop) : Prop :=
  match S with
  | ⟨n, T, L, H⟩ => match o.op with
    | .indexAddr t x i => match evA T x with
      | .sl z rows _ => match evA T i with
        | .int _ m => match elemSz ty.get t with
          | some s => match Nat.beq s z with
            | true => IdxVC rows m fun r => forceL r fun r => putK o.dst (.ep r 0) n T L H K
            | false => False
          | none => False
        | _ => False
      | .ms z id off len => match evA T i with
        | .int _ m => match elemSz ty.get t with
          | some s => match Nat.beq s z with
            | true => MIdxVC len m fun i => putK o.dst (.ptr id (off + i) 0) n T L H K
            | false => False
          | none => False
        | _ => False
      | _ => False
    | .slice t x lo hi none => match evA T x with
      | .sl z rows _ => match intOf T 0 lo with
        | some l => match intOf T rows.length hi with
          | some h => match elemSz ty.get t with
            | some s => match Nat.beq s z with
              | true => SlcVC rows l h fun r => putK o.dst (.sl z r none) n T L H K
              | false => False
            | none => False
          | none => False
        | none => False
      | .ms z id off len => match intOf T 0 lo with
        | some l => match intOf T len hi with
          | some h => match elemSz ty.get t with
            | some s => match Nat.beq s z with
              | true => MSlcVC len l h fun a b => putK o.dst (.ms z id (off + a) (b - a)) n T L H K
              | false => False
            | none => False
          | none => False
        | none => False
      | .str s => match intOf T 0 lo with
        | some l => match intOf T s.size hi with
          | some h => match ty.get t with
            | some ⟨_, _, _, _, .str⟩ => StrVC s l h fun r => putK o.dst (.str r) n T L H K
            | _ => False
          | none => False
        | none => False
      | _ => False
    | .binOp .quo _ x (.tmp y) _ => match evA T x with
      | .int k a => match look T y with
        | .int k' b => match decide (k = k') with
          | true => DivVC b (putK o.dst (.int k (k.wrap (a.tdiv b))) n T L H K)
          | false => False
        | _ => False
      | _ => False
    | .binOp .rem _ x (.tmp y) _ => match evA T x with
      | .int k a => match look T y with
        | .int k' b => match decide (k = k') with
          | true => DivVC b (putK o.dst (.int k (a.tmod b)) n T L H K)
          | false => False
        | _ => False
      | _ => False
    | .binOp .eql t x (.const (.slice none 0 0)) _ => nilK ty false t (evA T x) o n T L H K
    | .binOp .neq t x (.const (.slice none 0 0)) _ => nilK ty true t (evA T x) o n T L H K
    | .binOp .shl _ x y _ => shK .shl (evA T x) (evA T y) o n T L H K
    | .binOp .shr _ x y _ => shK .shr (evA T x) (evA T y) o n T L H K
    | .convert s d x => match evA T x with
      | .sl z rows _ => match ty.get d with
        | some ⟨_, _, _, _, .str⟩ => match ty.get s with
          | some ⟨_, _, _, _, .slice e⟩ => match isByte (ty.get e) with
            | true => match Nat.beq z 1 with
              | true => BytesVC rows fun s => putK o.dst (.str s) n T L H K
              | false => False
            | false => False
          | _ => False
        | _ => False
      | _ => valK ty o n T L H K
    | .alloc _ => newK ty o n T L H K
    | .box _ _ => newK ty o n T L H K
    | .store t p x => match evA T p with
      | .ptr id r c => storK ty t id r c (evA T x) o n T L H K
      | _ => stoK ty md o n T L H K
    | .load t p => match evA T p with
      | .ptr id r c => loadK ty t id r c o n T L H K
      | _ => valK ty o n T L H K
    | .buildSlice t len parts => match md (o.dst.getD 0) with
      | 0 => match bsl ty.get t len parts.toList T with
        | some (s, rows) => forceLL rows fun rows => putK o.dst (.sl s rows none) n T L H K
        | none => False
      | _ => match bsl ty.get t len parts.toList T with
        | some (s, rows) => forceLL rows fun rows => tipK md H fun c => hK md { H with tips := H.tips ++ [(s, rows.length)] } fun H => putK o.dst (.sl s rows (some c)) n T L H K
        | none => False
    | .call c => match c.callee with
      | .value (.func g) => callK P (qt g) o n T L H K
      | .value _ => callK P false o n T L H K
      | .builtin .append => effK ty md o n T L H K
      | _ => valK ty o n T L H K
    | _ => valK ty o n T L H K
def A (P : Program) (ty : Tr) (md : Nat → Nat) (qt : FuncId → Bool) (o : Oper) (S : AS) (K : AS → Prop) : Prop :=
  match cls md qt o with
  | .mem => match S with
    | ⟨n, T, L, H⟩ => memK ty md o n T L H K
  | .look => match S with
    | ⟨n, T, L, H⟩ => lookK ty md o n T L H K
  | _ => A0 P ty md qt o S K

section
variable {P : Program} {ty : Tr} {md : Nat → Nat} {qt : FuncId → Bool} {o : Oper} {n : Nat} {T : List (Nat × AV)} {L : List (Nat × List AV)} {H : AH} {K : AS → Prop}

theorem val_B (hc : cls md qt o = .val ∨ cls md qt o = .rd) {x : AV} (hv : vop ty.get o.op ⟨n, T, L, H⟩ = some x) (h : putK o.dst x n T L H K) : B P ty.get md qt o ⟨n, T, L, H⟩ K := by
  obtain ⟨h1, h2⟩ := putK_eq h
  refine ⟨h1, ?_⟩
  rcases hc with hc | hc <;> rw [hc] <;> exact ⟨x, hv, h2⟩
theorem valK_ok (hc : cls md qt o = .val ∨ cls md qt o = .rd) (h : valK ty o n T L H K) : B P ty.get md qt o ⟨n, T, L, H⟩ K := by
  unfold valK at h
  split at h
  · rename_i x hx
    rw [force_eq] at h
    exact val_B hc hx h
  · cases h
theorem effK_ok (hc : cls md qt o = .eff) (h : effK ty md o n T L H K) : B P ty.get md qt o ⟨n, T, L, H⟩ K := by
  unfold effK at h
  split at h
  · rename_i L' H' x φ he
    obtain ⟨h1, h2⟩ := h
    rw [force_eq, forceV_eq, hK_eq] at h2
    obtain ⟨h3, h4⟩ := putK_eq h2
    refine ⟨h3, ?_⟩
    rw [hc]
    exact ⟨L', H', x, φ, he, h1, h4⟩
  · cases h
theorem eopC_store {ty : TypeId → Option TI} {S : AS} {t : TypeId} {p x : Operand} (ho : o.op = .store t p x) {L : List (Nat × List AV)} {H : AH} {r : AV} {φ : Prop} (h : eopC ty md o S = some (L, H, r, φ)) : φ := by
  unfold eopC at h
  rw [ho] at h
  dsimp only at h
  repeat' split at h
  all_goals first | (cases h; done) | skip
  all_goals
    simp only [Option.some.injEq, Prod.mk.injEq] at h
    rw [← h.2.2.2]
    trivial
theorem stoK_ok {t : TypeId} {p y : Operand} (ho : o.op = .store t p y) (hc : cls md qt o = .eff) (h : stoK ty md o n T L H K) : B P ty.get md qt o ⟨n, T, L, H⟩ K := by
  unfold stoK at h
  split at h
  · rename_i L' H' x φ he
    rw [forceV_eq, forceH0_eq] at h
    obtain ⟨h3, h4⟩ := putK_eq h
    refine ⟨h3, ?_⟩
    rw [hc]
    exact ⟨L', H', x, φ, he, eopC_store ho he, h4⟩
  · cases h
theorem newK_ok (hc : cls md qt o = .new) (h : newK ty o n T L H K) : B P ty.get md qt o ⟨n, T, L, H⟩ K := by
  unfold newK at h
  split at h
  · rename_i d hd
    split at h
    · rename_i hb
      split at h
      · rename_i cs hcs
        split at h
        · rename_i hn
          rw [forceL_eq] at h
          refine ⟨fun d' h' => ?_, ?_⟩
          · rw [hd] at h'
            simp only [Option.some.injEq] at h'
            subst h'
            simpa [Nat.blt_eq] using hb
          · rw [hc]
            exact ⟨d, cs, hd, hcs, hn, h⟩
        · cases h
      · cases h
    · cases h
  · cases h
theorem callK_dst {q : Bool} (h : callK P q o n T L H K) : (∀ d, o.dst = some d → d < n) ∧ ∃ g args, callOf T o.op = some (g, args) ∧ vals args = true ∧ (match q with
    | true => QuietVC P g args H fun r => r.val = true ∧ putK o.dst r n T L H K
    | false => CallVC P g args H fun r H' => r.val = true ∧ putK o.dst r n T L H' K) := by
  unfold callK at h
  split at h
  · rename_i hd
    refine ⟨fun d h' => ?_, ?_⟩
    · unfold dstB at hd
      rw [h'] at hd
      simpa [Nat.blt_eq] using hd
    split at h
    · rename_i g args hcall
      split at h
      · rename_i hv
        rw [forceL_eq] at h
        refine ⟨g, args, hcall, hv, ?_⟩
        cases q
        · refine ⟨h.out.mono fun r H' h => ?_⟩
          rw [force_eq] at h
          split at h
          · rename_i hr; exact ⟨hr, h⟩
          · cases h
        · refine ⟨h.out.mono fun r H' ⟨h0, h⟩ => ⟨h0, ?_⟩⟩
          rw [force_eq] at h
          split at h
          · rename_i hr; exact ⟨hr, h⟩
          · cases h
      · cases h
    · cases h
  · cases h
theorem callK_ok (hc : cls md qt o = .call) (h : callK P false o n T L H K) : B P ty.get md qt o ⟨n, T, L, H⟩ K := by
  obtain ⟨hd, g, args, h1, h2, h3⟩ := callK_dst h
  refine ⟨hd, ?_⟩
  rw [hc]
  exact ⟨g, args, h1, h2, h3.out.mono fun r H' ⟨k1, k2⟩ => ⟨k1, (putK_eq k2).2⟩⟩
theorem callK_quiet (hc : cls md qt o = .quiet) (h : callK P true o n T L H K) : B P ty.get md qt o ⟨n, T, L, H⟩ K := by
  obtain ⟨hd, g, args, h1, h2, h3⟩ := callK_dst h
  refine ⟨hd, ?_⟩
  rw [hc]
  exact ⟨g, args, h1, h2, h3.out.mono fun r H' ⟨k0, k1, k2⟩ => ⟨k0, k1, (putK_eq k2).2⟩⟩

theorem intOf_ok {len d m : Nat} {x : Option Operand} {l : Int} (h : intOf T d x = some l) (hl : l = (m : Int)) (hm : m ≤ len) (hd : x = none → True) : bnd len T x d = some m := by
  cases x with
  | none =>
    simp only [intOf, Option.some.injEq] at h
    simp only [bnd, Option.some.injEq]
    omega
  | some y =>
    simp only [intOf] at h
    simp only [bnd]
    split at h
    · rename_i k v hv
      simp only [Option.some.injEq] at h
      subst h
      rw [hv]
      dsimp only
      rw [if_pos ⟨by omega, by omega⟩, hl]
      simp
    · cases h

theorem nilK_ok {neg : Bool} {t : TypeId} {x : Operand} (hc : cls md qt o = .nilq) (hq : nilqOf o.op = some (neg, t, x)) (h : nilK ty neg t (evA T x) o n T L H K) : B P ty.get md qt o ⟨n, T, L, H⟩ K := by
  unfold nilK at h
  split at h
  · rename_i hsl
    have fin : (∀ d, o.dst = some d → d < n) → nilqK (evA T x) (fun b => K ((⟨n, T, L, H⟩ : AS).put o.dst (.bool (neg ^^ b)))) → B P ty.get md qt o ⟨n, T, L, H⟩ K := fun hd h => ⟨hd, by rw [hc]; exact ⟨neg, t, x, hq, hsl, h⟩⟩
    split at h
    · rename_i e
      obtain ⟨h1, h2⟩ := putK_eq h
      refine fin h1 ?_
      rw [e]
      show K _
      cases neg <;> exact h2
    · rename_i z rows tok e
      have h3 : ∀ b, (b = true → rows = []) → putK o.dst (.bool (neg ^^ b)) n T L H K := fun b hb => by
        have := h.out b hb
        cases neg <;> simpa using this
      refine fin (putK_eq (h3 false (by simp))).1 ?_
      rw [e]
      exact fun b hb => (putK_eq (h3 b hb)).2
    · rename_i z id off m e
      have h3 : ∀ b, (b = true → m = 0) → putK o.dst (.bool (neg ^^ b)) n T L H K := fun b hb => by
        have := h.out b hb
        cases neg <;> simpa using this
      refine fin (putK_eq (h3 false (by simp))).1 ?_
      rw [e]
      exact fun b hb => (putK_eq (h3 b hb)).2
    · cases h
  · cases h
theorem shK_ok {op : BinOp} {t yt : TypeId} {x y : Operand} (hc : cls md qt o = .val) (hop : op = .shl ∨ op = .shr) (ho : o.op = .binOp op t x y yt) (h : shK op (evA T x) (evA T y) o n T L H K) : B P ty.get md qt o ⟨n, T, L, H⟩ K := by
  unfold shK at h
  split at h
  · rename_i k a hx
    split at h
    · rename_i k' b hy
      obtain ⟨h1, h2⟩ := h
      split at h2
      · rename_i r hr
        rw [force_eq] at h2
        refine val_B (.inl hc) (x := r) ?_ h2
        rw [ho]
        show pv ty.get (.binOp op t x y yt) T = _
        simp only [pv, hx, hy, bin]
        rcases hop with rfl | rfl <;> simp only [h1, if_true] <;> exact hr
      · cases h2
    · cases h
  · cases h

theorem dstB_ok {S : AS} (h : dstB o.dst n = true) : ∀ d, o.dst = some d → d < n := by
  intro d hd
  unfold dstB at h
  rw [hd] at h
  simpa [Nat.blt_eq] using h
theorem storK_ok {t : TypeId} {p x : Operand} {id r c : Nat} (ho : o.op = .store t p x) (hp : evA T p = .ptr id r c) (h : storK ty t id r c (evA T x) o n T L H K) : B P ty.get md qt o ⟨n, T, L, H⟩ K := by
  have hc : cls md qt o = .eff := by unfold cls; rw [ho]
  unfold storK at h
  split at h
  · rename_i ti ht
    split at h
    · rename_i hv
      split at h
      · cases h
      · rename_i hnt
        split at h
        · rename_i hsz
          obtain ⟨z, l, row, h1, h2, h3⟩ := h.out
          split at h3
          · rename_i hle
            rw [forceL_eq] at h3
            obtain ⟨h4, h5⟩ := putK_eq h3
            refine ⟨h4, ?_⟩
            rw [hc]
            refine ⟨L, H.upd id (.rows z (l.set r (splice row c (evA T x).cellsOf))), .skip, True, ?_, trivial, h5⟩
            unfold eopC
            rw [ho]
            dsimp only
            rw [ht, hp]
            dsimp only
            rw [hv]
            dsimp only
            rw [hsz, h1]
            dsimp only
            rw [h2]
            dsimp only
            rw [hle]
            dsimp only
            split
            · rename_i e; exact absurd e (hnt _)
            · rfl
          · cases h3
        · cases h
    · cases h
  · cases h
theorem loadK_ok {t : TypeId} {p : Operand} {id r c : Nat} (ho : o.op = .load t p) (hp : evA T p = .ptr id r c) (h : loadK ty t id r c o n T L H K) : B P ty.get md qt o ⟨n, T, L, H⟩ K := by
  have hc : cls md qt o = .rd := by unfold cls; rw [ho]
  obtain ⟨z, l, row, h1, h2, h3⟩ := h.out
  split at h3
  · rename_i x hx
    rw [force_eq] at h3
    refine val_B (.inr hc) (x := x) ?_ h3
    rw [ho]
    simp only [vop, hp, h1, h2, hx]
  · cases h3
theorem memK_ok (hc : cls md qt o = .mem) (h : memK ty md o n T L H K) : B P ty.get md qt o ⟨n, T, L, H⟩ K := by
  unfold memK at h
  split at h
  · rename_i hd
    split at h
    · rename_i m hm
      refine ⟨dstB_ok (S := ⟨n, T, L, H⟩) hd, ?_⟩
      rw [hc]
      refine ⟨m, hm, MAct.mono (m := m) h fun x H' hk => ?_⟩
      rw [force_eq] at hk
      split at hk
      · rename_i ho; exact ⟨ho, (putK_eq hk).2⟩
      · cases hk
    · cases h
  · cases h
theorem lookK_ok (hc : cls md qt o = .look) (h : lookK ty md o n T L H K) : B P ty.get md qt o ⟨n, T, L, H⟩ K := by
  unfold lookK at h
  split at h
  · rename_i hd
    split at h
    · rename_i id q m z ok hm
      refine ⟨dstB_ok (S := ⟨n, T, L, H⟩) hd, ?_⟩
      rw [hc]
      refine ⟨_, hm, ?_⟩
      obtain ⟨es, pd, r, h1, h2, h3⟩ := h.out
      refine ⟨⟨es, pd, r, h1, h2, ?_⟩⟩
      rw [force_eq] at h3
      split at h3
      · rename_i ho; exact ⟨ho, rfl, (putK_eq h3).2⟩
      · cases h3
    · rename_i id hm
      refine ⟨dstB_ok (S := ⟨n, T, L, H⟩) hd, ?_⟩
      rw [hc]
      refine ⟨_, hm, ?_⟩
      obtain ⟨q, es, pd, h1, h3⟩ := h
      refine ⟨q, es, pd, h1, ?_⟩
      rw [force_eq] at h3
      split at h3
      · rename_i ho; exact ⟨ho, rfl, (putK_eq h3).2⟩
      · cases h3
    · cases h
  · cases h
theorem A0_ok {S : AS} (hcm : cls md qt o ≠ .mem) (hcl : cls md qt o ≠ .look) (h : A0 P ty md qt o S K) : B P ty.get md qt o S K := by
  obtain ⟨n, T, L, H⟩ := S
  obtain ⟨dst, op, type, pos, after, guard⟩ := o
  unfold A0 at h
  dsimp only at h
  split at h
  · -- indexAddr
    rename_i t x i
    split at h
    · rename_i z rows tok hx
      split at h
      · rename_i k m hm
        split at h
        · rename_i s hs
          split at h
          · rename_i hsz
            obtain ⟨r, h0, h1, h2⟩ := h.out
            rw [forceL_eq] at h2
            refine val_B (.inl rfl) (x := .ep r 0) ?_ h2
            show pv ty.get (.indexAddr t x i) T = _
            simp only [pv, hx, hm, idxAddr, hs]
            rw [show (s == z) = true from beq_iff_eq.2 (Nat.eq_of_beq_eq_true hsz)]
            simp only [rowAt, h0, if_true, h1, Option.map_some]
          · cases h
        · cases h
      · cases h
    · rename_i z id off len hx
      split at h
      · rename_i k m hm
        split at h
        · rename_i s hs
          split at h
          · rename_i hsz
            obtain ⟨j, rfl, h1, h2⟩ := h.out
            refine val_B (.inl rfl) (x := .ptr id (off + j) 0) ?_ h2
            show pv ty.get (.indexAddr t x i) T = _
            simp only [pv, hx, hm, idxAddr, hs]
            rw [show (s == z) = true from beq_iff_eq.2 (Nat.eq_of_beq_eq_true hsz)]
            dsimp only
            rw [if_pos ⟨by omega, by omega⟩]
            simp
          · cases h
        · cases h
      · cases h
    · cases h
  · -- slice
    rename_i t x lo hi
    split at h
    · rename_i z rows tok hx
      split at h
      · rename_i l hl
        split at h
        · rename_i hh hhi
          split at h
          · rename_i s hs
            split at h
            · rename_i hsz
              obtain ⟨a, b, h1, h2, h3, h4, h5⟩ := h.out
              refine val_B (.inl rfl) (x := .sl z ((rows.drop a).take (b - a)) none) ?_ h5
              show pv ty.get (.slice t x lo hi none) T = _
              simp only [pv, hx, slc, hs]
              rw [show (s == z) = true from beq_iff_eq.2 (Nat.eq_of_beq_eq_true hsz)]
              dsimp only
              rw [intOf_ok hhi h2 h4 (fun _ => trivial)]
              dsimp only
              rw [intOf_ok (d := 0) hl h1 h3 (fun _ => trivial)]
            · cases h
          · cases h
        · cases h
      · cases h
    · rename_i z id off len hx
      split at h
      · rename_i l hl
        split at h
        · rename_i hh hhi
          split at h
          · rename_i s hs
            split at h
            · rename_i hsz
              obtain ⟨a, b, h1, h2, h3, h4, h5⟩ := h.out
              refine val_B (.inl rfl) (x := .ms z id (off + a) (b - a)) ?_ h5
              show pv ty.get (.slice t x lo hi none) T = _
              simp only [pv, hx, slc, hs]
              rw [show (s == z) = true from beq_iff_eq.2 (Nat.eq_of_beq_eq_true hsz)]
              dsimp only
              rw [intOf_ok hhi h2 h4 (fun _ => trivial)]
              dsimp only
              rw [intOf_ok (d := 0) hl h1 h3 (fun _ => trivial)]
            · cases h
          · cases h
        · cases h
      · cases h
    · rename_i s hx
      split at h
      · rename_i l hl
        split at h
        · rename_i hh hhi
          split at h
          · rename_i ht
            obtain ⟨a, b, h1, h2, h3, h4, h5⟩ := h.out
            refine val_B (.inl rfl) (x := .str (s.extract a b)) ?_ h5
            show pv ty.get (.slice t x lo hi none) T = _
            simp only [pv, hx, slc, ht]
            rw [intOf_ok hhi h2 h4 (fun _ => trivial)]
            dsimp only
            rw [intOf_ok (d := 0) hl h1 h3 (fun _ => trivial)]
          · cases h
        · cases h
      · cases h
    · cases h
  · rename_i t x y yt
    split at h
    · rename_i k a hx
      split at h
      · rename_i k' b hy
        split at h
        · rename_i hk
          have hk := of_decide_eq_true hk
          subst hk
          refine val_B (.inl rfl) (x := .int k (k.wrap (a.tdiv b))) ?_ h.out
          show pv ty.get (.binOp .quo t x (.tmp y) yt) T = _
          have hy' : evA T (.tmp y) = .int k b := hy
          simp only [pv, hx, hy', bin, if_true, arith, if_neg h.nz]
        · cases h
      · cases h
    · cases h
  · rename_i t x y yt
    split at h
    · rename_i k a hx
      split at h
      · rename_i k' b hy
        split at h
        · rename_i hk
          have hk := of_decide_eq_true hk
          subst hk
          refine val_B (.inl rfl) (x := .int k (a.tmod b)) ?_ h.out
          show pv ty.get (.binOp .rem t x (.tmp y) yt) T = _
          have hy' : evA T (.tmp y) = .int k b := hy
          simp only [pv, hx, hy', bin, if_true, arith, if_neg h.nz]
        · cases h
      · cases h
    · cases h
  · rename_i t x yt
    exact nilK_ok (neg := false) (t := t) (x := x) rfl rfl h
  · rename_i t x yt
    exact nilK_ok (neg := true) (t := t) (x := x) rfl rfl h
  · rename_i t x y yt
    exact shK_ok (t := t) (x := x) (y := y) (yt := yt) rfl (.inl rfl) rfl h
  · rename_i t x y yt
    exact shK_ok (t := t) (x := x) (y := y) (yt := yt) rfl (.inr rfl) rfl h
  · rename_i s d x
    split at h
    · rename_i z rows tok hx
      split at h
      · rename_i hd
        split at h
        · rename_i e hs
          split at h
          · rename_i hb
            split at h
            · rename_i hz
              obtain ⟨ns, h1, h2⟩ := h.out
              refine val_B (.inl rfl) (x := .str (bstr ns)) ?_ h2
              show pv ty.get (.convert s d x) T = _
              simp only [pv, hx, cnv, hd, hs, hb, hz, h1, bytesOf_map]
            · cases h
          · cases h
        · cases h
      · cases h
    · exact valK_ok (.inl rfl) h
  · refine newK_ok ?_ h
    unfold cls at hcm ⊢
    dsimp only at hcm ⊢
    split <;> first | rfl | (rename_i he; rw [he] at hcm; exact absurd rfl hcm)
  · refine newK_ok ?_ h
    unfold cls at hcm ⊢
    dsimp only at hcm ⊢
    split <;> first | rfl | (rename_i he; rw [he] at hcm; exact absurd rfl hcm)
  · rename_i t p x
    split at h
    · rename_i id r c hp
      exact storK_ok rfl hp h
    · exact stoK_ok rfl rfl h
  · rename_i t p
    split at h
    · rename_i id r c hp
      exact loadK_ok rfl hp h
    · exact valK_ok (.inr rfl) h
  · rename_i t len parts
    split at h
    · rename_i hmd
      split at h
      · rename_i s rows hb
        rw [forceLL_eq] at h
        refine val_B (.inl (by unfold cls; simp only [hmd])) (x := .sl s rows none) ?_ h
        show vop ty.get (.buildSlice t len parts) ⟨n, T, L, H⟩ = _
        simp only [vop, hb]
      · cases h
    · rename_i hmd
      split at h
      · rename_i s rows hb
        rw [forceLL_eq, tipK_eq, hK_eq] at h
        obtain ⟨h1, h2⟩ := putK_eq (o := ⟨dst, .buildSlice t len parts, type, pos, after, guard⟩) h
        refine ⟨h1, ?_⟩
        have hc : cls md qt ⟨dst, .buildSlice t len parts, type, pos, after, guard⟩ = .eff := by
          unfold cls at hcm ⊢
          dsimp only at hcm ⊢
          split
          · rename_i h0; exact absurd h0 hmd
          · rename_i h0; rw [h0] at hcm; exact absurd rfl hcm
          · rfl
        rw [hc]
        refine ⟨L, _, .sl s rows (some H.tips.length), True, ?_, trivial, h2⟩
        simp only [eopC, hb]
      · cases h
  · rename_i c
    obtain ⟨callee, args, tys⟩ := c
    dsimp only at h
    cases callee with
    | value f => cases f with
      | func g =>
        cases hq : qt g with
        | true =>
          refine callK_quiet (by unfold cls; simp only [hq]) ?_
          dsimp only at h
          rw [hq] at h; exact h
        | false =>
          refine callK_ok (by unfold cls; simp only [hq]) ?_
          dsimp only at h
          rw [hq] at h; exact h
      | tmp t => exact callK_ok rfl h
      | const v => exact callK_ok rfl h
      | global g => exact callK_ok rfl h
    | invoke r m => exact valK_ok (.inl rfl) h
    | builtin b =>
      cases b <;> first
        | exact valK_ok (.inl rfl) h
        | exact absurd rfl hcm
        | (refine effK_ok ?_ h
           unfold cls at hcm ⊢
           dsimp only at hcm ⊢
           split <;> first | rfl | (rename_i he; rw [he] at hcm; exact absurd rfl hcm))
        | (refine valK_ok (.inl ?_) h
           unfold cls at hcl ⊢
           dsimp only at hcl ⊢
           split <;> first | rfl | (rename_i he; rw [he] at hcl; exact absurd rfl hcl))
  · refine valK_ok ?_ h
    cases op <;> first
      | exact .inl rfl
      | exact .inr rfl
      | exact absurd rfl hcm
      | exact absurd rfl hcl
      | (exfalso; rename_i h1 h2 h3 h4 h5 h6 h7 h8 h9 h10 h11 h12 h13 h14 h15; first | exact h10 _ rfl | exact h11 _ _ rfl | exact h12 _ _ _ rfl | exact h13 _ _ rfl | exact h14 _ _ _ rfl | exact h15 _ rfl)
      | skip
    rename_i op t x y yt h1 h2 h3 h4 h5 h6 h7 h8 h9 h10 h11 h12 h13 h14 h15
    left
    unfold cls
    dsimp only
    split <;> first | rfl | skip
    all_goals rename_i he
    all_goals first | (cases he; done) | exact (h5 _ _ _ he).elim | exact (h6 _ _ _ he).elim
theorem A_ok {S : AS} (h : A P ty md qt o S K) : B P ty.get md qt o S K := by
  unfold A at h
  split at h
  · rename_i hc
    obtain ⟨n, T, L, H⟩ := S
    exact memK_ok hc h
  · rename_i hc
    obtain ⟨n, T, L, H⟩ := S
    exact lookK_ok hc h
  · rename_i h1 h2
    exact A0_ok h1 h2 h
end
end Go.Proofs.Ytecpiplfjmmccaa.AM
