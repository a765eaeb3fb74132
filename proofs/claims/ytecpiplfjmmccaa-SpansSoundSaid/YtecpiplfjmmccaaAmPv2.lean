/-
  What an operation that touches no memory gives (pv), and that the machine's gives just that.
  Conditions: the table of types (ty) tells of the program's.
-/
import Derived.Test.YtecpiplfjmmccaaAmPv
import Derived.Laws.BytesString
namespace Go.Proofs.Ytecpiplfjmmccaa.AM
open Go

def fldAddr (k : Option TI) (f : Nat) (x : AV) : Option AV :=
  match k with
  | some ⟨_, _, _, _, .strct fs⟩ => match fs[f]? with
    | some (off, size, _) => match size with
      | 0 => none
      | _ + 1 => match x with
        | .lptr i c => some (.lptr i (c + off))
        | .ptr i r c => some (.ptr i r (c + off))
        | .ep row c => some (.ep row (c + off))
        | _ => none
    | none => none
  | _ => none

def partOf (k : Option TI) (cs : List AV) (c : Nat) : Option AV :=
  match k with
  | some ti => match ti.agg with
    | true => match Nat.ble (c + ti.size) cs.length with
      | true => some (.agg ((cs.drop c).take ti.size))
      | false => none
    | false => match cs[c]? with
      | some x => match x.one with
        | true => some x
        | false => none
      | none => none
  | none => none

/-- A row of a slice. -/
def rowAt (rows : List (List AV)) (n : Int) : Option (List AV) := if 0 ≤ n then rows[n.toNat]? else none
def elemSz (ty : TypeId → Option TI) (t : TypeId) : Option Nat :=
  match ty t with
  | some ⟨_, _, _, _, .slice e⟩ => match ty e with
    | some te => some te.size
    | none => none
  | _ => none
def idxAddr (ty : TypeId → Option TI) (t : TypeId) (x i : AV) : Option AV :=
  match x, i with
  | .sl z rows _, .int _ n => match elemSz ty t with
    | some s => match s == z with
      | true => (rowAt rows n).map (.ep · 0)
      | false => none
    | none => none
  | .ms z id off len, .int _ n => match elemSz ty t with
    | some s => match s == z with
      | true => if 0 ≤ n ∧ n < (len : Int) then some (.ptr id (off + n.toNat) 0) else none
      | false => none
    | none => none
  | _, _ => none

def bnd (len : Nat) (T : List (Nat × AV)) : Option Operand → Nat → Option Nat
  | none, d => some d
  | some x, _ => match evA T x with
    | .int _ n => if 0 ≤ n ∧ n ≤ (len : Int) then some n.toNat else none
    | _ => none
def slc (ty : TypeId → Option TI) (t : TypeId) (T : List (Nat × AV)) (x : AV) (lo hi : Option Operand) : Option AV :=
  match x with
  | .sl z rows _ => match elemSz ty t with
    | some s => match s == z with
      | true => match bnd rows.length T hi rows.length with
        | some h => match bnd h T lo 0 with
          | some l => some (.sl z ((rows.drop l).take (h - l)) none)
          | none => none
        | none => none
      | false => none
    | none => none
  | .ms z id off len => match elemSz ty t with
    | some s => match s == z with
      | true => match bnd len T hi len with
        | some h => match bnd h T lo 0 with
          | some l => some (.ms z id (off + l) (h - l))
          | none => none
        | none => none
      | false => none
    | none => none
  | .str s => match ty t with
    | some ⟨_, _, _, _, .str⟩ => match bnd s.size T hi s.size with
      | some h => match bnd h T lo 0 with
        | some l => some (.str (s.extract l h))
        | none => none
      | none => none
    | _ => none
  | _ => none

def isSome : Option TI → Bool
  | some _ => true
  | none => false
/-- The numbers of a slice of bytes. -/
def bytesOf : List (List AV) → Option (List Int)
  | [] => some []
  | [.int .u8 n] :: l => match bytesOf l with
    | some ns => some (n :: ns)
    | none => none
  | _ :: _ => none
def bstr (ns : List Int) : ByteArray := ns.foldl (fun r n => r.push (UInt8.ofNat n.toNat)) ByteArray.empty
def isByte : Option TI → Bool
  | some ⟨_, _, _, _, .int .u8⟩ => true
  | _ => false
def cnv (ty : TypeId → Option TI) (ks kd : Option TI) (x : AV) : Option AV :=
  match x with
  | .int _ n => match kd with
    | some ⟨_, _, _, _, .int k⟩ => match isSome ks with
      | true => some (.int k (k.wrap n))
      | false => none
    | _ => none
  | .sl z rows _ => match kd with
    | some ⟨_, _, _, _, .str⟩ => match ks with
      | some ⟨_, _, _, _, .slice e⟩ => match isByte (ty e) with
        | true => match Nat.beq z 1 with
          | true => match bytesOf rows with
            | some ns => some (.str (bstr ns))
            | none => none
          | false => none
        | false => none
      | _ => none
    | _ => none
  | _ => none

def lenOf (k : Option TI) (x : AV) : Option AV :=
  match k with
  | some ⟨_, _, _, _, .slice _⟩ => match x with
    | .sl _ rows _ => some (.int .i64 rows.length)
    | .nils => some (.int .i64 0)
    | .ms _ _ _ n => some (.int .i64 n)
    | _ => none
  | some ⟨_, _, _, _, .str⟩ => match x with
    | .str s => some (.int .i64 s.size)
    | _ => none
  | _ => none

def ints2 (f : Int → Int → Int) : List AV → Option AV
  | [.int k a, .int _ b] => some (.int k (f a b))
  | _ => none

/-- cells of a struct with parts laid in -/
def fillA (places : List (Nat × Nat × TypeId)) (T : List (Nat × AV)) : List (Nat × Operand) → List AV → Option (List AV)
  | [], cs => some cs
  | (i, x) :: r, cs => match places[i]? with
    | none => none
    | some (off, size, _) => match evA T x with
      | .tup _ => none
      | y => match y.val with
        | true => match y.cellsOf.length == size with
          | true => match Nat.ble (off + size) cs.length with
            | true => fillA places T r (splice cs off y.cellsOf)
            | false => none
          | false => none
        | false => none
def bld (k : Option TI) (T : List (Nat × AV)) (parts : List (Nat × Operand)) : Option AV :=
  match k with
  | some ⟨_, _, _, some (.agg z), .strct fs⟩ => (fillA fs T parts z).map .agg
  | _ => none

def vals : List AV → Bool
  | [] => true
  | x :: l => match x.val with
    | true => vals l
    | false => false

def pv (ty : TypeId → Option TI) (op : Op) (T : List (Nat × AV)) : Option AV :=
  match op with
  | .move x => some (evA T x)
  | .assign x => some (evA T x)
  | .pick c a b => match evA T c with
    | .bool true => some (evA T a)
    | .bool false => some (evA T b)
    | _ => none
  | .fieldAddr s x f => fldAddr (ty s) f (evA T x)
  | .field s x f => match evA T x with
    | .agg cs => match ty s with
      | some ⟨_, _, _, _, .strct fs⟩ => match fs[f]? with
        | some (off, _, t) => partOf (ty t) cs off
        | none => none
      | _ => none
    | _ => none
  | .indexAddr t x i => idxAddr ty t (evA T x) (evA T i)
  | .binOp op t x y _ => bin ty (ty t) op (evA T x) (evA T y)
  | .unOp .not _ x => match evA T x with
    | .bool b => some (.bool (!b))
    | _ => none
  | .convert s d x => cnv ty (ty s) (ty d) (evA T x)
  | .extract x i => match evA T x with
    | .tup vs => match vs[i]? with
      | some x => match x.val with
        | true => some x
        | false => none
      | none => none
    | _ => none
  | .makeFunc (.func f) fi ca => match vals (fi.toList.map (evA T)) with
    | true => match vals (ca.toList.map (evA T)) with
      | true => some (.fn f (fi.toList.map (evA T)) (ca.toList.map (evA T)))
      | false => none
    | false => none
  | .build t parts => bld (ty t) T parts.toList
  | .slice t x lo hi none => slc ty t T (evA T x) lo hi
  | .call ⟨.builtin .len, ⟨[x]⟩, ⟨[t]⟩⟩ => lenOf (ty t) (evA T x)
  | .call ⟨.builtin .max, ⟨[x, y]⟩, _⟩ => ints2 (fun a b => if b > a then b else a) [evA T x, evA T y]
  | .call ⟨.builtin .min, ⟨[x, y]⟩, _⟩ => ints2 (fun a b => if b < a then b else a) [evA T x, evA T y]
  | _ => none

section
variable {E : Env} {P : Program} {ty : TypeId → Option TI} {lo : Nat → Nat} {G : Gh} {S : AS} {a : Act} {w : World} {o : Oper}

theorem fldAddr_ok (hty : TyOK P ty) {s : TypeId} {f : Nat} {x r : AV} {v : Value} (h : fldAddr (ty s) f x = some r) (hx : RepT lo G w x v) :
    ∃ u, (Instr.fieldAt s v f).run P w = .ok u w ∧ RepT lo G w r u := by
  unfold fldAddr at h
  split at h
  · rename_i h0
    obtain ⟨fs, hu, hl⟩ := kind_strct (hty _ _ h0) rfl
    split at h
    · rename_i off size t h1
      obtain ⟨_, hg⟩ := optAll_get hl
      obtain ⟨fd, hf, hi⟩ := hg _ _ h1
      obtain ⟨i, hif, he⟩ := Option.map_eq_some_iff.1 hi
      simp only [Prod.mk.injEq] at he
      obtain ⟨e1, e2, e3⟩ := he
      split at h
      · cases h
      · rename_i n
        have hf' : fs[f]? = some fd := by rw [← Array.getElem?_toList]; exact hf
        have hsz : ∀ w, (sizeOf fd.type).run P w = .ok (n + 1) w := fun w => by rw [run_sizeOf w hif]; simp [Program.cellsOf, hif, e2]
        have hrun : ∀ b c, (Instr.fieldAt s (.pointer (some ⟨b, c, none⟩)) f).run P w = .ok (.pointer (some ⟨b, c + off, none⟩)) w := by
          intro b c
          simp only [Instr.fieldAt, Sem.run_bind, run_underlying hu, Result.andThen_ok]
          simp only [hf', Instr.sureAddr, fieldPlace, Sem.run_bind, Sem.run_pure, Result.andThen_ok, hsz]
          simp [Addr.add_mid, e1]
        rcases hx with rfl | ⟨i, c, rfl, rfl⟩ | hx
        · cases h
        · simp only [Option.some.injEq] at h
          subst h
          exact ⟨_, hrun _ _, .inr (.inl ⟨i, c + off, rfl, rfl⟩)⟩
        · split at h
          · cases hx
          · cases hx with
            | ptr id row col b z hb => 
              simp only [Option.some.injEq] at h
              subst h
              exact ⟨_, hrun _ _, RepT.of (by rw [Nat.add_assoc]; exact .ptr _ _ _ b z hb)⟩
          · cases hx with
            | ep row col b o f hi hc h1 hr =>
              simp only [Option.some.injEq] at h
              subst h
              exact ⟨_, hrun _ _, RepT.of (by rw [Nat.add_assoc]; exact .ep _ _ b o f hi hc h1 hr)⟩
          · cases h
    · cases h
  · cases h

theorem partOf_ok (hty : TyOK P ty) {t : TypeId} {cs : List AV} {c : Nat} {r : AV} {vs : Array Value} (h : partOf (ty t) cs c = some r) (hx : Rep G w (.agg cs) (.agg vs)) :
    ∃ u, (part t vs c).run P w = .ok u w ∧ Rep G w r u := by
  unfold partOf at h
  split at h
  · rename_i ti h0
    have ha := ti_agg (hty _ _ h0) w
    have hs := ti_sizeOf (hty _ _ h0) w
    cases hx with
    | agg _ _ hl h1 hr =>
    split at h
    · rename_i hag
      split at h
      · rename_i hle
        simp only [Option.some.injEq] at h
        subst h
        have hle := Nat.le_of_ble_eq_true hle
        refine ⟨.agg (vs.extract c (c + ti.size)), by unfold part; simp only [Sem.run_bind, ha, hag, hs, Result.andThen_ok, if_true, Sem.run_pure], .agg _ _ (by simp; omega) (fun i x hx => ?_) (fun i x hx => ?_)⟩
        · rw [List.getElem?_take] at hx
          split at hx
          · rw [List.getElem?_drop] at hx; exact h1 _ x hx
          · cases hx
        · rw [List.getElem?_take] at hx
          split at hx
          · rename_i hlt
            rw [List.getElem?_drop] at hx
            have := hr _ x hx
            rw [Array.getD_eq_getD_getElem?] at this ⊢
            rw [Array.getElem?_extract]
            rw [if_pos (by omega)]
            exact this
          · cases hx
      · cases h
    · rename_i hag
      have h : cs[c]? = some r := by
        split at h
        · rename_i y hy
          split at h
          · rw [← h]; exact hy
          · cases h
        · cases h
      have hlt := (List.getElem?_eq_some_iff.1 h).1
      have hg : vs[c]? = some (vs.getD c Go.undef) := by rw [Array.getD_eq_getD_getElem?, Array.getElem?_eq_getElem (by omega)]; rfl
      exact ⟨vs.getD c Go.undef, by unfold part; simp only [Sem.run_bind, ha, hag, hg, Result.andThen_ok, if_false, Sem.run_pure, Bool.false_eq_true], hr c r h⟩
  · cases h

theorem elemSz_ok (hty : TyOK P ty) {t : TypeId} {s : Nat} (h : elemSz ty t = some s) : P.underlying t = some (.slice (P.elem t)) ∧ ∀ w, (sizeOf (P.elem t)).run P w = .ok s w := by
  unfold elemSz at h
  split at h
  · rename_i e h0
    have hu := kind_slice (hty _ _ h0) rfl
    have he : P.elem t = e := by unfold Program.elem; rw [hu]
    split at h
    · rename_i te h1
      simp only [Option.some.injEq] at h
      subst h
      rw [he]
      exact ⟨hu, fun w => ti_sizeOf (hty _ _ h1) w⟩
    · cases h
  · cases h

theorem idxAddr_ok (hty : TyOK P ty) {t : TypeId} {x i r : AV} {v u : Value} (h : idxAddr ty t x i = some r) (hx : Rep G w x v) (hi : Rep G w i u) :
    ∃ z, (Instr.indexAt t v u).run P w = .ok z w ∧ Rep G w r z := by
  unfold idxAddr at h
  split at h
  · rename_i z rows tok kk n
    split at h
    · rename_i s hs
      obtain ⟨hu, hsz⟩ := elemSz_ok hty hs
      split at h
      · rename_i hz
        have hz := eq_of_beq hz
        subst hz
        obtain ⟨row, hrow, rfl⟩ := Option.map_eq_some_iff.1 h
        unfold rowAt at hrow
        split at hrow
        · rename_i h0
          cases hi with
          | int k n =>
          cases hx with
          | sl z rows tok A c b o f hz hlc hc hk hp hcell h1 hr =>
          have hlt := (List.getElem?_eq_some_iff.1 hrow).1
          have hlen : row.length = s := hk row (List.mem_of_getElem? hrow)
          rcases hp with ⟨hn, _⟩ | ⟨rfl, him, _⟩
          · omega
          · refine ⟨_, by rw [run_indexAt_slice (h := hu), if_pos ⟨h0, by omega⟩, hsz]; rfl, ?_⟩
            rw [Addr.add_mid]
            have hc' : ∀ j y, row[j]? = some y → cellAt rows n.toNat j = some y := fun j y hy => by unfold cellAt; rw [hrow]; exact hy
            have hm := row_lt hlt (j := 0) hz
            refine .ep _ 0 b _ (f _) ?_ (fun j y hy => hcell _ j y (hc' j y hy)) (fun j y hy => h1 _ j y (hc' j y hy)) (fun j y hy => hr _ j y (hc' j y hy))
            have : (n.toNat + 1) * s ≤ rows.length * s := Nat.mul_le_mul_right s hlt
            rw [Nat.add_mul] at this
            show o + n.toNat * s + row.length ≤ G.imm b
            omega
        · cases hrow
      · cases h
    · cases h
  · rename_i z id off len kk n
    split at h
    · rename_i s hs
      obtain ⟨hu, hsz⟩ := elemSz_ok hty hs
      split at h
      · rename_i hz
        have hz := eq_of_beq hz
        subst hz
        split at h
        · rename_i h0
          simp only [Option.some.injEq] at h
          subst h
          cases hi with
          | int k n =>
          cases hx with
          | ms _ _ _ _ c A hlc hc hsh =>
          rcases hsh with ⟨b, rfl, hmb, _⟩ | hc0
          · refine ⟨_, by rw [run_indexAt_slice (h := hu), if_pos ⟨h0.1, by omega⟩, hsz]; rfl, ?_⟩
            rw [Addr.add_mid, show off * s + n.toNat * s = (off + n.toNat) * s + 0 by rw [Nat.add_mul]; rfl]
            exact .ptr id _ _ b s hmb
          · omega
        · cases h
      · cases h
    · cases h
  · cases h

theorem bnd_none {len d : Nat} {T : List (Nat × AV)} {m : Nat} (h : bnd len T none d = some m) : m = d := by simpa [bnd] using h.symm
theorem bnd_ok (hs : Sim E lo G S a w) {len d m : Nat} {x : Operand} (h : bnd len S.T (some x) d = some m) : m ≤ len ∧ ∃ k, a.eval x = .int k (m : Int) := by
  simp only [bnd] at h
  split at h
  · rename_i k n hy
    split at h
    · rename_i hb
      simp only [Option.some.injEq] at h
      have hr := evA_ok hs x
      rw [hy] at hr
      have hr := hr.rep (.inl rfl)
      generalize a.eval x = v at hr
      cases hr
      exact ⟨by omega, k, by rw [← h, Int.toNat_of_nonneg hb.1]⟩
    · cases h
  · cases h

theorem getD_map_none {α : Type} (x : Option Operand) (f : Operand → α) (h : x = none) : x.map f = none := by rw [h]; rfl

/-- The four forms of a slice's bounds at once. -/
theorem sliceBounds_ok (hs : Sim E lo G S a w) {isS : Bool} {len cap l h : Nat} {lo' hi : Option Operand} (hc : len ≤ cap) (hh : bnd len S.T hi len = some h) (hl : bnd h S.T lo' 0 = some l) :
    (Instr.sliceBounds isS len cap (lo'.map a.eval) (hi.map a.eval) none).run P w = .ok (l, h, cap) w ∧ l ≤ h ∧ h ≤ len := by
  have hh' : h ≤ len ∧ ((hi = none ∧ h = len) ∨ ∃ y k, hi = some y ∧ a.eval y = .int k (h : Int)) := by
    cases hi with
    | none => have := bnd_none hh; exact ⟨by omega, .inl ⟨rfl, this⟩⟩
    | some y => obtain ⟨h1, k, h2⟩ := bnd_ok hs hh; exact ⟨h1, .inr ⟨y, k, rfl, h2⟩⟩
  have hl' : l ≤ h ∧ ((lo' = none ∧ l = 0) ∨ ∃ y k, lo' = some y ∧ a.eval y = .int k (l : Int)) := by
    cases lo' with
    | none => have := bnd_none hl; exact ⟨by omega, .inl ⟨rfl, this⟩⟩
    | some y => obtain ⟨h1, k, h2⟩ := bnd_ok hs hl; exact ⟨h1, .inr ⟨y, k, rfl, h2⟩⟩
  have hb : ∀ (k : IntKind) (n m : Nat) (c : BoundsCode), n ≤ m → (Instr.sliceBound (.int k (n : Int)) m c).run P w = .ok n w := by
    intro k n m c hnm
    simp [Instr.sliceBound, asIntOf, hnm]
  refine ⟨?_, hl'.1, hh'.1⟩
  rcases hh'.2 with ⟨rfl, rfl⟩ | ⟨y, k, rfl, hy⟩ <;> rcases hl'.2 with ⟨rfl, rfl⟩ | ⟨y', k', rfl, hy'⟩
  · simp [Instr.sliceBounds]
  · simp [Instr.sliceBounds, hy', hb _ _ _ _ hl'.1]
  · simp [Instr.sliceBounds, hy, hb _ _ _ _ (Nat.le_trans hh'.1 hc)]
  · simp [Instr.sliceBounds, hy, hy', hb _ _ _ _ (Nat.le_trans hh'.1 hc), hb _ _ _ _ hl'.1]

theorem cellAt_sub {rows : List (List AV)} {l n i j : Nat} {x : AV} (h : cellAt ((rows.drop l).take n) i j = some x) : cellAt rows (l + i) j = some x := by
  obtain ⟨r, h1, h2⟩ := cellAt_some h
  rw [List.getElem?_take] at h1
  split at h1
  · rw [List.getElem?_drop] at h1
    unfold cellAt
    rw [h1]
    exact h2
  · cases h1

/-- A piece of a slice whose rows never turn. -/
theorem Rep.slice {z : Nat} {rows : List (List AV)} {tok : Option Nat} {A : Option Addr} {c l h : Nat} (hx : Rep G w (.sl z rows tok) (.slice A rows.length c)) (hlh : l ≤ h) (hhl : h ≤ rows.length) :
    Rep G w (.sl z ((rows.drop l).take (h - l)) none) (sliced A l h c z) := by
  cases hx with
  | sl _ _ _ _ _ b o f hz hlc hc hk hp hcell h1 hr =>
  have hlen : ((rows.drop l).take (h - l)).length = h - l := by simp; omega
  unfold sliced
  rcases Nat.eq_zero_or_pos (h - l) with h0 | h0
  · have : (rows.drop l).take (h - l) = [] := by rw [h0]; simp
    rw [this, h0]
    exact .sl z [] none _ _ 0 0 (fun _ _ => Go.undef) hz (by simp) (by omega) (by simp) (.inl ⟨rfl, .inl rfl⟩) (fun i j x hx => by simp [cellAt] at hx) (fun i j x hx => by simp [cellAt] at hx) (fun i j x hx => by simp [cellAt] at hx)
  · rw [if_neg (by omega)]
    rcases hp with ⟨hn, _⟩ | ⟨rfl, him, _⟩
    · omega
    · have hmul : l * z + (h - l) * z ≤ rows.length * z := by rw [← Nat.add_mul]; exact Nat.mul_le_mul_right z (by omega)
      have hk' : ∀ r ∈ (rows.drop l).take (h - l), r.length = z := fun r hr => hk r (List.mem_of_mem_drop (List.mem_of_mem_take hr))
      have hsub : ∀ i j x, cellAt ((rows.drop l).take (h - l)) i j = some x → cellAt rows (l + i) j = some x := fun i j x hx => cellAt_sub hx
      generalize (rows.drop l).take (h - l) = rs at hlen hk' hsub ⊢
      rw [← hlen]
      refine .sl z rs none _ _ b (o + l * z) (fun i j => f (l + i) j) hz (by omega) (by omega) hk' ?_ (fun i j x hx => ?_) (fun i j x hx => h1 _ _ x (hsub _ _ _ hx)) (fun i j x hx => hr _ _ x (hsub _ _ _ hx))
      · refine .inr ⟨?_, by rw [hlen]; omega, fun t e => by cases e⟩
        rw [Option.map_some, Addr.add_mid]
      · have := hcell _ _ x (hsub _ _ _ hx)
        rw [Nat.add_mul] at this
        rw [← this]
        congr 2
        omega

theorem slc_ok (hty : TyOK P ty) (hs : Sim E lo G S a w) {t : TypeId} {x r : AV} {v : Value} {l h : Option Operand} (hr : slc ty t S.T x l h = some r) (hx : Rep G w x v) :
    ∃ u, (Instr.sliceAt t v (l.map a.eval) (h.map a.eval) none).run P w = .ok u w ∧ Rep G w r u := by
  unfold slc at hr
  split at hr
  · rename_i z rows tok
    split at hr
    · rename_i s hsz
      obtain ⟨hu, hsz⟩ := elemSz_ok hty hsz
      split at hr
      · rename_i hzz
        have hzz := eq_of_beq hzz
        subst hzz
        split at hr
        · rename_i hh h1
          split at hr
          · rename_i ll h2
            simp only [Option.some.injEq] at hr
            subst hr
            have hx' := hx
            cases hx with
            | sl _ _ _ A c b o f hz hlc hc hk hp hcell h1' hrr =>
            obtain ⟨hb, hlh, hhl⟩ := sliceBounds_ok (P := P) (isS := true) (cap := c) hs hlc h1 h2
            refine ⟨_, ?_, hx'.slice hlh hhl⟩
            rw [run_sliceAt_slice (h := hu), run_slice_any w t A rows.length c hu, hb]
            simp only [Result.andThen_ok, hsz]
          · cases hr
        · cases hr
      · cases hr
    · cases hr
  · rename_i z id off len
    split at hr
    · rename_i s hsz
      obtain ⟨hu, hsz⟩ := elemSz_ok hty hsz
      split at hr
      · rename_i hzz
        have hzz := eq_of_beq hzz
        subst hzz
        split at hr
        · rename_i hh h1
          split at hr
          · rename_i ll h2
            simp only [Option.some.injEq] at hr
            subst hr
            cases hx with
            | ms _ _ _ _ c A hlc hc hsh =>
            obtain ⟨hb, hlh, hhl⟩ := sliceBounds_ok (P := P) (isS := true) (cap := c) hs hlc h1 h2
            refine ⟨sliced A ll hh c s, ?_, ?_⟩
            · rw [run_sliceAt_slice (h := hu), run_slice_any w t A len c hu, hb]
              simp only [Result.andThen_ok, hsz]
            · unfold sliced
              rcases Nat.eq_zero_or_pos (c - ll) with h0 | h0
              · exact .ms _ _ _ _ _ _ (by omega) (by omega) (.inr h0)
              · rw [if_neg (by omega)]
                rcases hsh with ⟨b, rfl, hmb, e, hsh⟩ | hc0
                · refine .ms _ _ _ _ _ _ (by omega) (by omega) (.inl ⟨b, ?_, hmb, e, ?_⟩)
                  · rw [Option.map_some, Addr.add_mid, Nat.add_mul]
                  · rw [hsh, show off + ll + (c - ll) = off + c by omega]
                · omega
          · cases hr
        · cases hr
      · cases hr
    · cases hr
  · rename_i s
    split at hr
    · rename_i h0
      have hu := kind_str (hty _ _ h0) rfl
      split at hr
      · rename_i hh h1
        split at hr
        · rename_i ll h2
          simp only [Option.some.injEq] at hr
          subst hr
          cases hx
          obtain ⟨hb, hlh, hhl⟩ := sliceBounds_ok (P := P) (isS := false) (cap := s.size) hs (Nat.le_refl _) h1 h2
          refine ⟨.string (s.extract ll hh), ?_, .str _⟩
          rw [run_sliceAt_string (h := hu)]
          simp [Instr.slice, run_underlying hu, hb]
        · cases hr
      · cases hr
    · cases hr
  · cases hr

theorem bytesOf_eq : ∀ {rows : List (List AV)} {ns : List Int}, bytesOf rows = some ns → rows = ns.map fun n => [.int .u8 n]
  | [], ns, h => by
    simp only [bytesOf, Option.some.injEq] at h
    subst h; rfl
  | r :: l, ns, h => by
    unfold bytesOf at h
    split at h
    · rename_i he; cases he
    · rename_i n l' he
      simp only [List.cons.injEq] at he
      obtain ⟨rfl, rfl⟩ := he
      split at h
      · rename_i ms hms
        simp only [Option.some.injEq] at h
        subst h
        rw [bytesOf_eq hms]
        rfl
      · cases h
    · cases h
theorem bytesOf_map : ∀ ns : List Int, bytesOf (ns.map fun n => [AV.int .u8 n]) = some ns
  | [] => rfl
  | n :: ns => by simp only [List.map_cons, bytesOf, bytesOf_map ns]

theorem cnv_ok (hty : TyOK P ty) {s d : TypeId} {x r : AV} {v : Value} (h : cnv ty (ty s) (ty d) x = some r) (hx : Rep G w x v) : ∃ u, (convert s d v).run P w = .ok u w ∧ Rep G w r u := by
  unfold cnv at h
  split at h
  · rename_i k n
    split at h
    · rename_i kd h0
      have hd := kind_int (hty _ _ h0) rfl
      split at h
      · rename_i hsm
        simp only [Option.some.injEq] at h
        subst h
        cases hq : ty s with
        | none => rw [hq] at hsm; cases hsm
        | some ti =>
          obtain ⟨i, dd, _, hu, _⟩ := tiOf_some (hty _ _ hq)
          cases hx
          have hk : P.intKind d = kd := by unfold Program.intKind; rw [hd]
          refine ⟨_, run_convert_int w s d k n (by rw [hu]; rfl) (by rw [hk]; exact hd), ?_⟩
          rw [hk]
          exact .int _ _
      · cases h
    · cases h
  · rename_i z rows tok
    split at h
    · rename_i hd
      split at h
      · rename_i e hs
        split at h
        · rename_i hb
          split at h
          · rename_i hz
            have hz := Nat.eq_of_beq_eq_true hz
            subst hz
            split at h
            · rename_i ns hns
              simp only [Option.some.injEq] at h
              subst h
              have hus := kind_slice (hty _ _ hs) rfl
              have hud := kind_str (hty _ _ hd) rfl
              have hue : P.underlying e = some (.int .u8) := by
                unfold isByte at hb
                split at hb
                · rename_i he; exact kind_int (hty _ _ he) rfl
                · cases hb
              have hrows := bytesOf_eq hns
              cases hx with
              | sl _ _ _ A c b o f _ hlc hc hk hp hcell h1 hr =>
              refine ⟨_, ?_, .str _⟩
              rw [run_convert_bytes_string w s d e A rows.length c hus hue hud]
              have hlen : rows.length = ns.length := by rw [hrows]; simp
              rcases Nat.eq_zero_or_pos rows.length with h0 | h0
              · have hn0 : ns = [] := List.eq_nil_of_length_eq_zero (by omega)
                subst hn0
                rw [h0]
                cases A with
                | none => rfl
                | some a => exact run_bytesToString w a 0 c [] (by rfl)
              · rcases hp with ⟨h2, _⟩ | ⟨rfl, _, _⟩
                · omega
                · refine run_bytesToString w ⟨b, o, none⟩ rows.length c ns ?_
                  have := run_loadCells_list (P := P) w ⟨b, o, none⟩ (ns.map (Value.int .u8)) (fun j v hj => ?_)
                  · rw [hlen]; simpa using this
                  · rw [List.getElem?_map] at hj
                    obtain ⟨n, hn, rfl⟩ := Option.map_eq_some_iff.1 hj
                    have hca : cellAt rows j 0 = some (.int .u8 n) := by
                      unfold cellAt
                      rw [hrows, List.getElem?_map, hn]
                      rfl
                    have h3 := hr j 0 _ hca
                    have h4 := hcell j 0 _ hca
                    generalize f j 0 = fv at h3 h4
                    cases h3
                    rw [Addr.add_mid, ← h4]
                    congr 2
                    omega
            · cases h
          · cases h
        · cases h
      · cases h
    · cases h
  · cases h

theorem lenOf_ok (hty : TyOK P ty) {t ret : TypeId} {x r : AV} {v : Value} (h : lenOf (ty t) x = some r) (hx : Rep G w x v) : ∃ u, (Builtin.len_ #[t] ret #[v]).run P w = .ok u w ∧ Rep G w r u := by
  unfold lenOf at h
  split at h
  · rename_i e h0
    have hu := kind_slice (hty _ _ h0) rfl
    split at h <;> simp only [Option.some.injEq, reduceCtorEq] at h <;> subst h <;> cases hx <;>
      exact ⟨_, by simp [Builtin.len_, run_underlying hu, goInt]; rfl, by constructor⟩
  · rename_i h0
    have hu := kind_str (hty _ _ h0) rfl
    split at h <;> simp only [Option.some.injEq, reduceCtorEq] at h
    subst h; cases hx
    exact ⟨_, by simp [Builtin.len_, run_underlying hu, goInt]; rfl, by constructor⟩
  · cases h

theorem vals_get : ∀ {l : List AV}, vals l = true → ∀ (i : Nat) (x : AV), l[i]? = some x → x.val = true
  | [], _, i, x, h => by simp at h
  | y :: l, hv, i, x, h => by
    simp only [vals] at hv
    split at hv
    · rename_i hy
      cases i with
      | zero => simp only [List.getElem?_cons_zero, Option.some.injEq] at h; rw [← h]; exact hy
      | succ i => exact vals_get hv i x (by simpa using h)
    · cases hv

/-! ### a struct built of parts -/
theorem setAll_size (off : Nat) : ∀ (vs : List Value) (n : Nat) (cells : Array Value), ((vs.zipIdx n).foldl (fun cs (p : Value × Nat) => cs.setIfInBounds (off + p.2) p.1) cells).size = cells.size
  | [], _, _ => rfl
  | v :: r, n, cells => by
    simp only [List.zipIdx_cons, List.foldl_cons]
    rw [setAll_size off r (n + 1)]
    simp
theorem setAll_get (off : Nat) : ∀ (vs : List Value) (n : Nat) (cells : Array Value), off + n + vs.length ≤ cells.size → ∀ k, ((vs.zipIdx n).foldl (fun cs (p : Value × Nat) => cs.setIfInBounds (off + p.2) p.1) cells)[k]? =
    if k < off + n then cells[k]? else if k < off + n + vs.length then vs[k - (off + n)]? else cells[k]?
  | [], n, cells, _, k => by
    simp only [List.zipIdx_nil, List.foldl_nil, List.length_nil, Nat.add_zero]
    by_cases h1 : k < off + n <;> simp [h1]
  | v :: r, n, cells, hl, k => by
    simp only [List.length_cons] at hl
    simp only [List.zipIdx_cons, List.foldl_cons]
    rw [setAll_get off r (n + 1) (cells.setIfInBounds (off + n) v) (by simp; omega) k]
    simp only [Array.getElem?_setIfInBounds, List.length_cons]
    by_cases h1 : k < off + n
    · rw [if_pos (by omega), if_neg (by omega), if_pos h1]
    · rw [if_neg h1]
      by_cases h2 : k = off + n
      · subst h2
        rw [if_pos (by omega), if_pos rfl, if_pos (by omega), if_pos (by omega), Nat.sub_self]
        rfl
      · rw [if_neg (by omega)]
        by_cases h3 : k < off + (n + 1) + r.length
        · rw [if_pos h3, if_pos (by omega)]
          obtain ⟨m, rfl⟩ : ∃ m, k = off + n + 1 + m := ⟨k - (off + n + 1), by omega⟩
          rw [show off + n + 1 + m - (off + (n + 1)) = m by omega, show off + n + 1 + m - (off + n) = m + 1 by omega]
          rfl
        · rw [if_neg h3, if_neg (by omega), if_neg (by omega)]

def CellsRep (G : Gh) (w : World) (cs : List AV) (vs : Array Value) : Prop := vs.size = cs.length ∧ ∀ (j : Nat) x, cs[j]? = some x → x.one = true ∧ Rep G w x (vs.getD j Go.undef)

theorem fillA_ok (hs : Sim E lo G S a w) {fs : List (Nat × Nat × TypeId)} : ∀ {parts : List (Nat × Operand)} {cs rs : List AV} {vs : Array Value}, fillA fs S.T parts cs = some rs → CellsRep G w cs vs →
    ∃ us, Instr.fill (fun i => (fs[i]?).map fun p => (p.1, p.2.1)) vs (parts.map fun p => (p.1, a.eval p.2)) = some us ∧ CellsRep G w rs us
  | [], cs, rs, vs, h, hc => by
    simp only [fillA, Option.some.injEq] at h
    subst h
    exact ⟨vs, rfl, hc⟩
  | (i, x) :: r, cs, rs, vs, h, hc => by
    simp only [fillA] at h
    split at h
    · cases h
    · rename_i off size t hp
      split at h
      · cases h
      · rename_i y hnt
        split at h
        · rename_i hv
          split at h
          · rename_i hsz
            have hsz := eq_of_beq hsz
            split at h
            · rename_i hle
              have hle := Nat.le_of_ble_eq_true hle
              have hr := (evA_ok hs x).rep (.inl hv)
              obtain ⟨c1, c2⟩ := hr.cells hv (fun ts e => hnt ts e)
              have hcs : CellsRep G w (splice cs off (evA S.T x).cellsOf) (((a.eval x).cells.zipIdx).foldl (fun cs (p : Value × Nat) => cs.setIfInBounds (off + p.2) p.1) vs) := by
                rw [← Array.foldl_toList, Array.toList_zipIdx]
                have hl : off + 0 + (a.eval x).cells.toList.length ≤ vs.size := by simp [c1, hc.1]; omega
                refine ⟨by rw [setAll_size, hc.1]; simp [splice]; omega, fun j u hu => ?_⟩
                unfold splice at hu
                rw [splice_get cs _ off j (by omega)] at hu
                rw [Array.getD_eq_getD_getElem?, setAll_get off _ 0 vs hl j]
                simp only [Nat.add_zero, Array.length_toList, c1]
                by_cases j1 : j < off
                · rw [if_pos j1] at hu ⊢
                  rw [← Array.getD_eq_getD_getElem?]; exact hc.2 j u hu
                · rw [if_neg j1] at hu ⊢
                  by_cases j2 : j < off + (evA S.T x).cellsOf.length
                  · rw [if_pos j2] at hu ⊢
                    have := c2 _ u hu
                    rwa [Array.getD_eq_getD_getElem?, ← Array.getElem?_toList] at this
                  · rw [if_neg j2] at hu ⊢
                    rw [← Array.getD_eq_getD_getElem?]; exact hc.2 j u hu
              obtain ⟨us, h1, h2⟩ := fillA_ok hs (parts := r) h hcs
              refine ⟨us, ?_, h2⟩
              simp only [List.map_cons, Instr.fill, hp, Option.map_some]
              rw [if_neg (by rw [c1, hsz, hc.1]; simp; omega)]
              exact h1
            · cases h
          · cases h
        · cases h
end
end Go.Proofs.Ytecpiplfjmmccaa.AM
