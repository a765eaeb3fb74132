/-
  What an operation does hangs on its operands alone.
  No program in sight. Conditions: none.
-/
import Derived.Test.YtecpiplfjmmccaaAmB
namespace Go.Proofs.Ytecpiplfjmmccaa.AM
open Go

section
variable {ty : TypeId → Option TI} {md : Nat → Nat} {T T' : List (Nat × AV)}

theorem map_evA {xs : List Operand} (h : ∀ x ∈ xs, evA T x = evA T' x) : xs.map (evA T) = xs.map (evA T') := List.map_congr_left h
theorem bnd_congr {len d : Nat} {x : Option Operand} (h : ∀ y, x = some y → evA T y = evA T' y) : bnd len T x d = bnd len T' x d := by
  cases x with
  | none => rfl
  | some y => simp only [bnd, h y rfl]
theorem slc_congr {t : TypeId} {x : AV} {lo hi : Option Operand} (h1 : ∀ y, lo = some y → evA T y = evA T' y) (h2 : ∀ y, hi = some y → evA T y = evA T' y) : slc ty t T x lo hi = slc ty t T' x lo hi := by
  unfold slc
  simp only [bnd_congr h2, bnd_congr h1]
theorem fillA_congr {fs : List (Nat × Nat × TypeId)} : ∀ {parts : List (Nat × Operand)} {cs : List AV}, (∀ p ∈ parts, evA T p.2 = evA T' p.2) → fillA fs T parts cs = fillA fs T' parts cs
  | [], cs, _ => rfl
  | (i, x) :: r, cs, h => by
    have h1 := h (i, x) (List.mem_cons_self ..)
    have h2 : ∀ cs, fillA fs T r cs = fillA fs T' r cs := fun cs => fillA_congr fun p hp => h p (List.mem_cons_of_mem _ hp)
    simp only at h1
    simp only [fillA, h1, h2]
theorem bld_congr {k : Option TI} {parts : List (Nat × Operand)} (h : ∀ p ∈ parts, evA T p.2 = evA T' p.2) : bld k T parts = bld k T' parts := by
  unfold bld
  simp only [fillA_congr h]
theorem bsl_congr {t : TypeId} {len : Nat} {parts : List (Nat × Operand)} (h : ∀ p ∈ parts, evA T p.2 = evA T' p.2) : bsl ty t len parts T = bsl ty t len parts T' := by
  unfold bsl
  simp only [fillA_congr h]

theorem pv_congr {op : Op} (h : ∀ x ∈ op.operands, evA T x = evA T' x) : pv ty op T = pv ty op T' := by
  unfold pv
  split
  · rename_i x; rw [h x (by simp [Op.operands])]
  · rename_i x; rw [h x (by simp [Op.operands])]
  · rename_i c a b; rw [h c (by simp [Op.operands]), h a (by simp [Op.operands]), h b (by simp [Op.operands])]
  · rename_i s x f; rw [h x (by simp [Op.operands])]
  · rename_i s x f; rw [h x (by simp [Op.operands])]
  · rename_i t x i; rw [h x (by simp [Op.operands]), h i (by simp [Op.operands])]
  · rename_i o t x y _; rw [h x (by simp [Op.operands]), h y (by simp [Op.operands])]
  · rename_i x; rw [h x (by simp [Op.operands])]
  · rename_i s d x; rw [h x (by simp [Op.operands])]
  · rename_i x i; rw [h x (by simp [Op.operands])]
  · rename_i f fi ca
    rw [map_evA (fun x hx => h x (by simp only [Op.operands, Array.mem_append]; exact .inl (Array.mem_toList_iff.1 hx))), map_evA (fun x hx => h x (by simp only [Op.operands, Array.mem_append]; exact .inr (Array.mem_toList_iff.1 hx)))]
  · rename_i t parts
    exact bld_congr fun p hp => h p.2 (by simp only [Op.operands, List.mem_toArray, List.mem_map]; exact ⟨p, hp, rfl⟩)
  · rename_i t x lo hi
    rw [h x (by simp [Op.operands])]
    exact slc_congr (fun y hy => h y (by simp [Op.operands, hy])) (fun y hy => h y (by simp [Op.operands, hy]))
  · rename_i x t; rw [h x (by simp [Op.operands, Call.operands])]
  · rename_i x y _; rw [h x (by simp [Op.operands, Call.operands]), h y (by simp [Op.operands, Call.operands])]
  · rename_i x y _; rw [h x (by simp [Op.operands, Call.operands]), h y (by simp [Op.operands, Call.operands])]
  · rfl

/-- A place that comes out has gone in. -/
theorem pv_lptr {op : Op} {j c : Nat} (h : pv ty op T = some (.lptr j c)) : ∃ x ∈ op.operands, ∃ c', evA T x = .lptr j c' := by
  unfold pv at h
  split at h
  · rename_i x; simp only [Option.some.injEq] at h; exact ⟨x, by simp [Op.operands], c, h⟩
  · rename_i x; simp only [Option.some.injEq] at h; exact ⟨x, by simp [Op.operands], c, h⟩
  · rename_i c' a b
    split at h
    · simp only [Option.some.injEq] at h; exact ⟨a, by simp [Op.operands], c, h⟩
    · simp only [Option.some.injEq] at h; exact ⟨b, by simp [Op.operands], c, h⟩
    · cases h
  · rename_i s x f
    refine ⟨x, by simp [Op.operands], ?_⟩
    unfold fldAddr at h
    repeat' split at h
    all_goals first | (cases h; done) | skip
    · rename_i hx
      simp only [Option.some.injEq, AV.lptr.injEq] at h
      rw [hx, h.1]; exact ⟨_, rfl⟩
  all_goals exfalso
  · split at h
    · split at h
      · split at h
        · unfold partOf at h
          repeat' split at h
          all_goals first | (cases h; done) | skip
          · rename_i h1; simp only [Option.some.injEq] at h; subst h; cases h1
        · cases h
      · cases h
    · cases h
  · unfold idxAddr at h
    repeat' split at h
    all_goals first | (cases h; done) | skip
    · obtain ⟨_, _, h⟩ := Option.map_eq_some_iff.1 h; cases h
  · unfold bin arith shiftOf boolOp at h
    repeat' split at h
    all_goals first | (cases h; done) | skip
  · split at h <;> cases h
  · unfold cnv at h
    repeat' split at h
    all_goals cases h
  · repeat' split at h
    all_goals first | (cases h; done) | skip
    · rename_i h1; simp only [Option.some.injEq] at h; subst h; cases h1
  · repeat' split at h
    all_goals cases h
  · unfold bld at h
    repeat' split at h
    all_goals first | (cases h; done) | skip
    · obtain ⟨_, _, h⟩ := Option.map_eq_some_iff.1 h; cases h
  · unfold slc at h
    repeat' split at h
    all_goals cases h
  · unfold lenOf at h
    repeat' split at h
    all_goals cases h
  · unfold ints2 at h
    split at h <;> cases h
  · unfold ints2 at h
    split at h <;> cases h
  · cases h
end

section
variable {ty : TypeId → Option TI} {md : Nat → Nat} {S S' : AS}

theorem loadOf_one {k : Option TI} {cells : List AV} {c : Nat} {r : AV} (h : loadOf k cells c = some r) : ∀ j d, r ≠ .lptr j d := by
  rintro j d rfl
  unfold loadOf at h
  repeat' split at h
  all_goals first | (cases h; done) | skip
  · rename_i h1; simp only [Option.some.injEq] at h; subst h; cases h1

theorem vop_congr {op : Op} (h : ∀ x ∈ op.operands, evA S.T x = evA S'.T x) (hl : ∀ t p, op = .load t p → (∀ j c, evA S.T p = .lptr j c → lookL S.L j = lookL S'.L j) ∧ S.H = S'.H) : vop ty op S = vop ty op S' := by
  unfold vop
  split
  · rename_i t p
    obtain ⟨h1, h2⟩ := hl t p rfl
    rw [← h p (by simp [Op.operands]), h2]
    cases hp : evA S.T p <;> simp only []
    rw [h1 _ _ hp]
  · rename_i t len parts
    rw [bsl_congr fun p hp => h p.2 (by simp only [Op.operands, List.mem_toArray, List.mem_map]; exact ⟨p, hp, rfl⟩)]
  · exact pv_congr h

theorem vop_lptr {op : Op} {j c : Nat} (h : vop ty op S = some (.lptr j c)) : ∃ x ∈ op.operands, ∃ c', evA S.T x = .lptr j c' := by
  unfold vop at h
  split at h
  · exfalso
    repeat' split at h
    all_goals first | (cases h; done) | exact loadOf_one h _ _ rfl
  · split at h <;> cases h
  · exact pv_lptr h

theorem newC_congr {op : Op} {T T' : List (Nat × AV)} (h : ∀ x ∈ op.operands, evA T x = evA T' x) : newC ty op T = newC ty op T' := by
  unfold newC
  split
  · rfl
  · rename_i t y; rw [h y (by simp [Op.operands])]
  · rfl

theorem mop_congr {o : Oper} {T T' : List (Nat × AV)} (h : ∀ x ∈ o.op.operands, evA T x = evA T' x) : mop ty md o T = mop ty md o T' := by
  unfold mop
  split
  · rfl
  · rename_i t m k v ho
    rw [h m (by rw [ho]; simp [Op.operands]), h k (by rw [ho]; simp [Op.operands]), h v (by rw [ho]; simp [Op.operands])]
  · rename_i t m k ho
    rw [h m (by rw [ho]; simp [Op.operands]), h k (by rw [ho]; simp [Op.operands])]
  · rename_i t m k v ho
    rw [h m (by rw [ho]; simp [Op.operands]), h k (by rw [ho]; simp [Op.operands]), h v (by rw [ho]; simp [Op.operands])]
  · rename_i t m k ok ho
    rw [h m (by rw [ho]; simp [Op.operands]), h k (by rw [ho]; simp [Op.operands])]
  · rename_i t ho
    rw [newC_congr (T' := T') (fun x hx => h x (by rw [ho]; exact hx))]
  · rename_i t y ho
    rw [newC_congr (T' := T') (fun x hx => h x (by rw [ho]; exact hx))]
  · rename_i t len parts ho
    rw [bsl_congr (T' := T') fun p hp => h p.2 (by rw [ho]; simp only [Op.operands, List.mem_toArray, List.mem_map]; exact ⟨p, hp, rfl⟩)]
  · rename_i t n c ho
    rw [h n (by rw [ho]; simp [Op.operands]), h c (by rw [ho]; simp [Op.operands])]
  · rename_i x y t u ho
    rw [h x (by rw [ho]; simp [Op.operands, Call.operands]), h y (by rw [ho]; simp [Op.operands, Call.operands])]
  · rename_i x t ho
    rw [h x (by rw [ho]; simp [Op.operands, Call.operands])]
  · rename_i m k t t' ho
    rw [h m (by rw [ho]; simp [Op.operands, Call.operands]), h k (by rw [ho]; simp [Op.operands, Call.operands])]
  · rename_i m t ho
    rw [h m (by rw [ho]; simp [Op.operands, Call.operands])]
  · rfl

theorem callOf_congr {op : Op} {T T' : List (Nat × AV)} (h : ∀ x ∈ op.operands, evA T x = evA T' x) : callOf T op = callOf T' op := by
  unfold callOf
  split
  · rename_i f args tt
    rw [h f (by simp [Op.operands, Call.operands]), map_evA (xs := args.toList) (fun x hx => h x (by simp only [Op.operands, Call.operands, Array.mem_append]; exact .inr (Array.mem_toList_iff.1 hx)))]
  · rfl
end
end Go.Proofs.Ytecpiplfjmmccaa.AM
