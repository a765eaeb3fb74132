/-
  A region whose order is drawn: one order speaks for all (Bord_ok).
  Conditions: the table of types tells of the program's; operations that are out of order do not meet (drawOK).
-/
import Derived.Test.YtecpiplfjmmccaaAmDraw
namespace Go.Proofs.Ytecpiplfjmmccaa.AM
open Go

section
variable {P : Program} {ty : TypeId → Option TI} {md : Nat → Nat} {qt : FuncId → Bool}

theorem B_mono {o : Oper} {S : AS} {K K' : AS → Prop} (h : B P ty md qt o S K) (hk : ∀ S, K S → K' S) : B P ty md qt o S K' := by
  unfold B at h ⊢
  obtain ⟨hd, h⟩ := h
  refine ⟨hd, ?_⟩
  cases hc : cls md qt o <;> rw [hc] at h <;> dsimp only at h ⊢
  · obtain ⟨x, h1, h2⟩ := h; exact ⟨x, h1, hk _ h2⟩
  · obtain ⟨x, h1, h2⟩ := h; exact ⟨x, h1, hk _ h2⟩
  · obtain ⟨d, cs, h1, h2, h3, h4⟩ := h; exact ⟨d, cs, h1, h2, h3, hk _ h4⟩
  · obtain ⟨L, H, x, φ, h1, h2, h3⟩ := h; exact ⟨L, H, x, φ, h1, h2, hk _ h3⟩
  · obtain ⟨g, args, h1, h2, h3⟩ := h; exact ⟨g, args, h1, h2, h3.mono fun r H' ⟨k1, k2⟩ => ⟨k1, hk _ k2⟩⟩
  · obtain ⟨g, args, h1, h2, h3⟩ := h; exact ⟨g, args, h1, h2, h3.mono fun r H' ⟨k0, k1, k2⟩ => ⟨k0, k1, hk _ k2⟩⟩
  rotate_left
  · obtain ⟨m, h1, h2⟩ := h; exact ⟨m, h1, MAct.mono (m := m) h2 fun r H' ⟨k1, k2⟩ => ⟨k1, hk _ k2⟩⟩
  · obtain ⟨m, h1, h2⟩ := h; exact ⟨m, h1, MAct.mono (m := m) h2 fun r H' ⟨k1, k0, k2⟩ => ⟨k1, k0, hk _ k2⟩⟩
  · obtain ⟨neg, t, x, h1, h2, h3⟩ := h; exact ⟨neg, t, x, h1, h2, nilqK_mono h3 fun b hb => hk _ hb⟩
theorem B1_mono {ops : List Oper} {o : Oper} {S : AS} {K K' : AS → Prop} (h : B1 P ty md qt ops o S K) (hk : ∀ S, K S → K' S) : B1 P ty md qt ops o S K' := by
  rw [B1_iff] at h ⊢
  rcases h with ⟨h1, h2⟩ | ⟨h1, h2, h3⟩
  · exact .inl ⟨h1, B_mono h2 hk⟩
  · exact .inr ⟨h1, h2, hk _ h3⟩

theorem noL_eqv {S S' : AS} (e : Eqv S S') (d : Nat) : noL d S.T = noL d S'.T := by
  cases h : noL d S'.T with
  | true => rw [noL_iff] at h ⊢; exact fun i j c hm => h i j c ((e.m _).1 hm)
  | false =>
    cases h' : noL d S.T with
    | false => rfl
    | true =>
      rw [noL_iff] at h'
      have : noL d S'.T = true := noL_iff.2 fun i j c hm => h' i j c ((e.m _).2 hm)
      rw [h] at this; cases this
theorem eopC_eqv {S S' : AS} (e : Eqv S S') {o : Oper} {L : List (Nat × List AV)} {H : AH} {x : AV} {φ : Prop} (h : eopC ty md o S = some (L, H, x, φ)) : ∃ L', eopC ty md o S' = some (L', H, x, φ) ∧ ∀ i, lookL L i = lookL L' i := by
  have he : ∀ y, evA S.T y = evA S'.T y := evA_eqv e.t
  have hH := e.h
  unfold eopC at h ⊢
  split at h
  · rename_i t p y hop
    rw [← he p, ← he y, ← hH]
    repeat' split at h
    all_goals first | (cases h; done) | skip
    · rename_i k ti h1 b1 h2 z h3 b2 h4 pp i c h5 o6 cs h6 b7 h7
      simp only [Option.some.injEq, Prod.mk.injEq] at h
      obtain ⟨rfl, rfl, rfl, rfl⟩ := h
      refine ⟨updL S'.L i (splice cs c (evA S.T y).cellsOf), ?_, fun k => by rw [lookL_updL, lookL_updL, e.l]⟩
      rw [← e.l, h6]; dsimp only
      rw [h7]
    · rename_i k ti h1 b1 h2 z h3 b2 h4 pp id r c h5 o6 z' l h6 o7 row h7 b8 h8
      simp only [Option.some.injEq, Prod.mk.injEq] at h
      obtain ⟨rfl, rfl, rfl, rfl⟩ := h
      exact ⟨S'.L, rfl, e.l⟩
  · rename_i t len parts hop
    rw [bsl_congr (T' := S'.T) fun p _ => he p.2] at h
    rw [← hH]
    split at h
    · rename_i h1
      simp only [Option.some.injEq, Prod.mk.injEq] at h
      obtain ⟨rfl, rfl, rfl, rfl⟩ := h
      exact ⟨_, rfl, e.l⟩
    · cases h
  · rename_i y z t u hop
    rw [← he y, ← he z, ← hH]
    split at h
    · rename_i h1
      split at h
      · rename_i h2
        simp only [Option.some.injEq, Prod.mk.injEq] at h
        obtain ⟨rfl, rfl, rfl, rfl⟩ := h
        exact ⟨_, rfl, e.l⟩
      · cases h
    · cases h
  · cases h

theorem B_eqv {o : Oper} {S S' : AS} {K K' : AS → Prop} (e : Eqv S S') (h : B P ty md qt o S K) (hk : ∀ S S', Eqv S S' → K S → K' S') : B P ty md qt o S' K' := by
  have he : ∀ y, evA S.T y = evA S'.T y := evA_eqv e.t
  unfold B at h ⊢
  obtain ⟨hd, h⟩ := h
  refine ⟨fun d hd' => by rw [← e.n]; exact hd d hd', ?_⟩
  have hv : vop ty o.op S = vop ty o.op S' := vop_congr (fun x _ => he x) fun t p _ => ⟨fun j c _ => e.l j, e.h⟩
  cases hc : cls md qt o <;> rw [hc] at h <;> dsimp only at h ⊢
  · obtain ⟨x, h1, h2⟩ := h; exact ⟨x, by rw [← hv]; exact h1, hk _ _ (put_eqv e _ _) h2⟩
  · obtain ⟨x, h1, h2⟩ := h; exact ⟨x, by rw [← hv]; exact h1, hk _ _ (put_eqv e _ _) h2⟩
  · obtain ⟨d, cs, h1, h2, h3, h4⟩ := h
    refine ⟨d, cs, h1, by rw [← newC_congr (fun x _ => he x)]; exact h2, by rw [← noL_eqv e]; exact h3, hk _ _ ?_ h4⟩
    have := put_eqv e (some d) (.lptr d 0)
    exact ⟨this.n, this.t, this.m, fun i => by simp only [lookL_cons, e.l], this.h⟩
  · obtain ⟨L, H, x, φ, h1, h2, h3⟩ := h
    obtain ⟨L', g1, g2⟩ := eopC_eqv e h1
    refine ⟨L', H, x, φ, g1, h2, hk _ _ (put_eqv ?_ _ _) h3⟩
    exact ⟨e.n, e.t, e.m, g2, rfl⟩
  · obtain ⟨g, args, h1, h2, h3⟩ := h
    rw [callOf_congr (T' := S'.T) (fun x _ => he x)] at h1
    rw [e.h] at h3
    exact ⟨g, args, h1, h2, h3.mono fun r H' ⟨k1, k2⟩ => ⟨k1, hk _ _ (put_eqv (S := { S with H := H' }) (S' := { S' with H := H' }) ⟨e.n, e.t, e.m, e.l, rfl⟩ _ _) k2⟩⟩
  · obtain ⟨g, args, h1, h2, h3⟩ := h
    rw [callOf_congr (T' := S'.T) (fun x _ => he x)] at h1
    rw [e.h] at h3
    exact ⟨g, args, h1, h2, h3.mono fun r H' ⟨k0, k1, k2⟩ => ⟨k0, k1, hk _ _ (put_eqv e _ _) k2⟩⟩
  rotate_left
  · obtain ⟨m, h1, h2⟩ := h
    rw [mop_congr (T' := S'.T) (fun x _ => he x)] at h1
    rw [e.h] at h2
    exact ⟨m, h1, MAct.mono (m := m) h2 fun r H' ⟨k1, k2⟩ => ⟨k1, hk _ _ (put_eqv (S := { S with H := H' }) (S' := { S' with H := H' }) ⟨e.n, e.t, e.m, e.l, rfl⟩ _ _) k2⟩⟩
  · obtain ⟨m, h1, h2⟩ := h
    rw [mop_congr (T' := S'.T) (fun x _ => he x)] at h1
    rw [e.h] at h2
    exact ⟨m, h1, MAct.mono (m := m) h2 fun r H' ⟨k1, k0, k2⟩ => ⟨k1, k0, hk _ _ (put_eqv e _ _) k2⟩⟩
  · obtain ⟨neg, t, x, h1, h2, h3⟩ := h
    rw [he x] at h3
    exact ⟨neg, t, x, h1, h2, nilqK_mono h3 fun b hb => hk _ _ (put_eqv e _ _) hb⟩
theorem B1_eqv {ops : List Oper} {o : Oper} {S S' : AS} {K K' : AS → Prop} (e : Eqv S S') (h : B1 P ty md qt ops o S K) (hk : ∀ S S', Eqv S S' → K S → K' S') : B1 P ty md qt ops o S' K' := by
  rw [B1_iff] at h ⊢
  have hr : res ops o S = res ops o S' := res_agr fun t _ => e.t t
  rw [← hr]
  rcases h with ⟨h1, h2⟩ | ⟨h1, h2, h3⟩
  · exact .inl ⟨h1, B_eqv e h2 hk⟩
  · exact .inr ⟨h1, fun d hd => by rw [← e.n]; exact h2 d hd, hk _ _ (put_eqv e _ _) h3⟩

/-- The operations in an order. -/
def Bord (P : Program) (ty : TypeId → Option TI) (md : Nat → Nat) (qt : FuncId → Bool) (ops : List Oper) : List Nat → AS → (AS → Prop) → Prop
  | [], S, K => K S
  | i :: l, S, K => ∃ o, ops[i]? = some o ∧ B1 P ty md qt ops o S fun S => Bord P ty md qt ops l S K
def KE (K : AS → Prop) (S : AS) : Prop := ∃ S', Eqv S' S ∧ K S'
theorem Bord_eqv {ops : List Oper} {K : AS → Prop} : ∀ {l : List Nat} {S S' : AS}, Eqv S S' → Bord P ty md qt ops l S (KE K) → Bord P ty md qt ops l S' (KE K)
  | [], _, _, e, ⟨S0, e0, h⟩ => ⟨S0, e0.trans e, h⟩
  | _ :: _, _, _, e, ⟨o, ho, h⟩ => ⟨o, ho, B1_eqv e h fun _ _ e' h' => Bord_eqv e' h'⟩
theorem Bord_mono {ops : List Oper} {K K' : AS → Prop} (hk : ∀ S, K S → K' S) : ∀ {l : List Nat} {S : AS}, Bord P ty md qt ops l S K → Bord P ty md qt ops l S K'
  | [], _, h => hk _ h
  | _ :: _, _, ⟨o, ho, h⟩ => ⟨o, ho, B1_mono h fun _ h' => Bord_mono hk h'⟩

def Swap (md : Nat → Nat) (qt : FuncId → Bool) (ops : List Oper) (k i : Nat) : Prop := ∀ ok oi, ops[k]? = some ok → ops[i]? = some oi → Apart ops ok oi ∧ clsOK (cls md qt ok) (cls md qt oi) = true

/-- One operation drawn ahead of those that it does not meet. -/
theorem move {ops : List Oper} {K : AS → Prop} {i : Nat} {oi : Oper} (hoi : ops[i]? = some oi) {suf : List Nat} : ∀ {pre : List Nat} {S : AS}, (∀ k ∈ pre, Swap md qt ops k i) → Bord P ty md qt ops (pre ++ i :: suf) S (KE K) →
    B1 P ty md qt ops oi S fun S' => Bord P ty md qt ops (pre ++ suf) S' (KE K)
  | [], S, _, ⟨o, ho, h⟩ => by
    rw [hoi] at ho
    simp only [Option.some.injEq] at ho
    subst ho
    exact h
  | k :: pre, S, hp, ⟨ok, hok, h⟩ => by
    have h1 : B1 P ty md qt ops ok S fun S1 => B1 P ty md qt ops oi S1 fun S' => Bord P ty md qt ops (pre ++ suf) S' (KE K) :=
      B1_mono h fun S1 h1 => move hoi (fun k hk => hp k (List.mem_cons_of_mem _ hk)) h1
    obtain ⟨ha, hc⟩ := hp k (List.mem_cons_self ..) ok oi hok hoi
    exact B1_mono (commute ha hc h1) fun S2 h3 => ⟨ok, hok, B1_mono h3 fun S3 ⟨S4, e, h4⟩ => Bord_eqv e h4⟩

/-- Of whom an operation stands behind. -/
def afters (o : Oper) : List Nat := (o.after.toList.filter (Region.binds .any)).map (·.on)
def aft (ops : List Oper) (i : Nat) : List Nat := match ops[i]? with | some o => afters o | none => []

structure DrawOK (md : Nat → Nat) (qt : FuncId → Bool) (ops : List Oper) (order : List Nat) (tab : List (List Nat)) : Prop where
  all : ∀ i, i < ops.length → i ∈ order
  nodup : order.Pairwise fun a b => a ≠ b
  lin : order.Pairwise fun a b => b ∉ aft ops a
  self : ∀ i ∈ order, i ∉ aft ops i
  swap : order.Pairwise fun a b => a ∈ tab.getD b [] ∨ Swap md qt ops a b
  tab : ∀ i, ∀ k ∈ tab.getD i [], k ∈ aft ops i ∨ ∃ j ∈ aft ops i, k ∈ tab.getD j []
  low : ∀ i, ∀ k ∈ aft ops i, k < ops.length
  lt : ∀ i ∈ order, i < ops.length
  len : order.length = ops.length

theorem Bord_any {E : Env} (hty : TyOK P ty) {ops : Array Oper} {order : List Nat} {tab : List (List Nat)} {K : AS → Prop} {Q : Exit → Act → World → Prop} (hd : DrawOK md qt ops.toList order tab) (hq : ∀ a w, Aft E (KE K) a w → Q .normal a w) :
    ∀ (rem : List Nat) (listed : Array Bool), listed.size = ops.size → rem.Sublist order → (∀ j, j < ops.size → (listed.getD j true = false ↔ j ∈ rem)) → (∀ j, j ∉ rem → j < ops.size → ∀ k ∈ tab.getD j [], k ∉ rem) →
      ∀ {lo : Nat → Nat} {G : Gh} {S : AS} {a : Act} {w : World}, Sim E lo G S a w → Bord P ty md qt ops.toList rem S (KE K) → wpAny P .any ops Q rem.length listed a w := by
  intro rem
  generalize hn : rem.length = n
  induction n generalizing rem with
  | zero =>
    intro listed hsz hsub hl hdc lo G S a w hs h
    have hrem : rem = [] := List.eq_nil_of_length_eq_zero hn
    subst hrem
    refine ⟨?_, hq _ _ ⟨lo, G, S, hs, h⟩⟩
    apply List.eq_nil_iff_forall_not_mem.2
    intro j hj
    obtain ⟨h1, o, ho, _⟩ := mem_ready.1 hj
    have := (hl j (Array.getElem?_eq_some_iff.1 ho).1).1 h1
    cases this
  | succ n ih =>
    intro listed hsz hsub hl hdc lo G S a w hs h
    have hbound : ∀ j ∈ rem, j < ops.size := fun j hj => by have := hd.lt j (hsub.mem hj); simpa using this
    have hlisted : ∀ j, j ∉ rem → j < ops.size → listed.getD j false = true := by
      intro j hj hlt
      have h1 : ¬ listed.getD j true = false := fun h => hj ((hl j hlt).1 h)
      have hlt' : j < listed.size := by omega
      simpa [Array.getD_eq_getD_getElem?, hlt'] using h1
    refine ⟨fun hr => ?_, fun i hi => ?_⟩
    · exfalso
      cases rem with
      | nil => simp at hn
      | cons i suf =>
        have hilt := hbound i (List.mem_cons_self ..)
        have : i ∈ Region.ready .any ops listed := by
          refine mem_ready.2 ⟨(hl i hilt).2 (List.mem_cons_self ..), _, Array.getElem?_eq_getElem hilt, fun e he hb => ?_⟩
          have hea : e.on ∈ aft ops.toList i := by
            unfold aft
            rw [Array.getElem?_toList, Array.getElem?_eq_getElem hilt]
            exact List.mem_map.2 ⟨e, List.mem_filter.2 ⟨Array.mem_toList_iff.2 he, hb⟩, rfl⟩
          refine hlisted _ (fun hm => ?_) (by have := hd.low i _ hea; simpa using this)
          rcases List.mem_cons.1 hm with e1 | hm
          · exact hd.self i (hsub.mem (List.mem_cons_self ..)) (by rw [e1] at hea; exact hea)
          · exact (List.pairwise_cons.1 (hd.lin.sublist hsub)).1 _ hm hea
        rw [hr] at this
        cases this
    · obtain ⟨hif, o, ho, hall⟩ := mem_ready.1 hi
      have hilt := (Array.getElem?_eq_some_iff.1 ho).1
      have hirem := (hl i hilt).1 hif
      obtain ⟨pre, suf, hrem⟩ := List.append_of_mem hirem
      have haft : ∀ k ∈ aft ops.toList i, k ∉ rem ∧ k < ops.size := by
        intro k hk
        have hlt : k < ops.size := by have := hd.low i _ hk; simpa using this
        refine ⟨fun hm => ?_, hlt⟩
        unfold aft at hk
        rw [Array.getElem?_toList, ho] at hk
        obtain ⟨e, he, rfl⟩ := List.mem_map.1 hk
        obtain ⟨he, hb⟩ := List.mem_filter.1 he
        have h1 := hall e (Array.mem_toList_iff.1 he) hb
        have h2 := (hl e.on hlt).2 hm
        have hlt' : e.on < listed.size := by omega
        simp [Array.getD_eq_getD_getElem?, hlt'] at h1 h2
        rw [h1] at h2; cases h2
      have htab : ∀ k ∈ tab.getD i [], k ∉ rem := by
        intro k hk
        rcases hd.tab i k hk with h1 | ⟨j, h1, h2⟩
        · exact (haft k h1).1
        · exact hdc j (haft j h1).1 (haft j h1).2 k h2
      subst hrem
      have hsw := List.pairwise_append.1 (hd.swap.sublist hsub)
      have hnd := hd.nodup.sublist hsub
      have hmv := move (oi := o) (by rw [Array.getElem?_toList]; exact ho) (fun k hk => by
        rcases hsw.2.2 k hk i (List.mem_cons_self ..) with h1 | h1
        · exact absurd (List.mem_append_left _ hk) (htab k h1)
        · exact h1) h
      refine wpOp_mono ?_ (B1_ok (Q := Q) hty hs ho hmv)
      rintro a' w' ⟨lo', G', S', hs', h'⟩
      have hnotin : i ∉ pre ++ suf := by
        intro hm
        rcases List.mem_append.1 hm with hm | hm
        · exact (List.pairwise_append.1 hnd).2.2 i hm i (List.mem_cons_self ..) rfl
        · exact (List.pairwise_cons.1 (List.pairwise_append.1 hnd).2.1).1 i hm rfl
      refine ih (pre ++ suf) (by simp at hn ⊢; omega) _ (by simpa using hsz) ?_ ?_ ?_ hs' h'
      · exact (List.Sublist.append_left (List.sublist_cons_self i suf) pre).trans hsub
      · intro j hj
        by_cases hij : i = j
        · subst hij
          have : i < listed.size := by omega
          simp [Array.getD_eq_getD_getElem?, this]
          simpa using hnotin
        · rw [getD_set_ne true hij, hl j hj]
          simp only [List.mem_append, List.mem_cons]
          constructor
          · rintro (h1 | h1 | h1)
            · exact .inl h1
            · exact absurd h1.symm hij
            · exact .inr h1
          · rintro (h1 | h1)
            · exact .inl h1
            · exact .inr (.inr h1)
      · intro j hj hlt k hk
        have hk' : k ∉ pre ++ i :: suf := by
          by_cases hij : j = i
          · subst hij; exact htab k hk
          · refine hdc j (fun hm => hj ?_) hlt k hk
            rcases List.mem_append.1 hm with h1 | h1
            · exact List.mem_append_left _ h1
            · rcases List.mem_cons.1 h1 with h1 | h1
              · exact absurd h1 hij
              · exact List.mem_append_right _ h1
        intro hm
        refine hk' ?_
        rcases List.mem_append.1 hm with h1 | h1
        · exact List.mem_append_left _ h1
        · exact List.mem_append_right _ (List.mem_cons_of_mem _ h1)

/-- A region whose order is drawn. -/
theorem Bord_ok {E : Env} (hty : TyOK P ty) (hmix : P.follows .mixedOrders = true) {id : Nat} {ops : Array Oper} {order : List Nat} {tab : List (List Nat)} {K : AS → Prop} {Q : Exit → Act → World → Prop} (hd : DrawOK md qt ops.toList order tab) {lo : Nat → Nat} {G : Gh} {S : AS} {a : Act} {w : World}
    (hs : Sim E lo G S a w) (h : Bord P ty md qt ops.toList order S K) (hq : ∀ a w, Aft E K a w → Q .normal a w) : (Code.region id ops true).wp P Q a w := by
  have hq' : ∀ a w, Aft E (KE K) a w → Q .normal a w := fun a w ⟨lo, G, S, hs, S', e, hk⟩ => hq a w ⟨lo, G, S', hs.eqv ⟨e.n.symm, fun i => (e.t i).symm, fun p => (e.m p).symm, fun i => (e.l i).symm, e.h.symm⟩, hk⟩
  refine wp_region_any hmix ?_
  have hlen : order.length = ops.size := by
    have := hd.len; simpa using this
  rw [← hlen]
  refine Bord_any (K := K) hty hd hq' order _ (by simp [hlen]) (List.Sublist.refl _) (fun j hj => ?_) (fun j hj hlt => absurd (hd.all j (by simpa using hlt)) hj) (hs.draws 1) (Bord_mono (fun S h => ⟨S, Eqv.refl S, h⟩) h)
  have := hd.all j (by simpa using hj)
  simp [this, hj, hlen]

def pw {α : Type} (p : α → α → Bool) : List α → Bool
  | [] => true
  | a :: l => l.all (p a) && pw p l
theorem pw_iff {α : Type} {p : α → α → Bool} : ∀ {l : List α}, pw p l = true → l.Pairwise fun a b => p a b = true
  | [], _ => .nil
  | a :: l, h => by
    simp only [pw, Bool.and_eq_true, List.all_eq_true] at h
    exact .cons h.1 (pw_iff h.2)
def swapB (md : Nat → Nat) (qt : FuncId → Bool) (ops : List Oper) (k i : Nat) : Bool :=
  match ops[k]? with
  | some ok => match ops[i]? with
    | some oi => clsOK (cls md qt ok) (cls md qt oi) && ok.apart ops.toArray oi
    | none => true
  | none => true
theorem swapB_ok {ops : List Oper} {k i : Nat} (h : swapB md qt ops k i = true) : Swap md qt ops k i := by
  intro ok oi hok hoi
  unfold swapB at h
  rw [hok, hoi] at h
  simp only [Bool.and_eq_true] at h
  exact ⟨Oper.apart_spec h.2, h.1⟩
def drawB (md : Nat → Nat) (qt : FuncId → Bool) (ops : List Oper) (order : List Nat) (tab : List (List Nat)) : Bool :=
  Nat.beq order.length ops.length && (List.range ops.length).all (fun i => order.contains i) && order.all (fun i => Nat.blt i ops.length && !(aft ops i).contains i) &&
  pw (fun a b => !Nat.beq a b && !(aft ops a).contains b && ((tab.getD b []).contains a || swapB md qt ops a b)) order &&
  (List.range tab.length).all (fun i => (tab.getD i []).all fun k => (aft ops i).contains k || (aft ops i).any fun j => (tab.getD j []).contains k) &&
  (List.range ops.length).all (fun i => (aft ops i).all fun k => Nat.blt k ops.length)
theorem drawB_ok {ops : List Oper} {order : List Nat} {tab : List (List Nat)} (h : drawB md qt ops order tab = true) : DrawOK md qt ops order tab := by
  unfold drawB at h
  simp only [Bool.and_eq_true, List.all_eq_true, List.mem_range, Bool.not_eq_true', List.contains_eq_mem, decide_eq_true_eq, decide_eq_false_iff_not, Nat.blt_eq] at h
  obtain ⟨⟨⟨⟨⟨h1, h2⟩, h3⟩, h4⟩, h5⟩, h6⟩ := h
  have h4 := pw_iff h4
  simp only [Bool.and_eq_true, Bool.not_eq_true', Bool.or_eq_true, decide_eq_true_eq, decide_eq_false_iff_not] at h4
  have hout : ∀ i, ops.length ≤ i → aft ops i = [] := fun i hi => by unfold aft; rw [List.getElem?_eq_none hi]
  refine { all := h2, nodup := h4.imp fun h => Nat.ne_of_beq_eq_false h.1.1, lin := h4.imp fun h => h.1.2, self := fun i hi => (h3 i hi).2, swap := h4.imp fun h => h.2.imp id swapB_ok, tab := fun i k hk => ?_, low := fun i k hk => ?_, lt := fun i hi => (h3 i hi).1, len := Nat.eq_of_beq_eq_true h1 }
  · rcases Nat.lt_or_ge i tab.length with hi | hi
    · have := h5 i hi k hk
      simp only [Bool.or_eq_true, List.any_eq_true, decide_eq_true_eq] at this
      exact this
    · rw [List.getD_eq_getElem?_getD, List.getElem?_eq_none hi] at hk
      cases hk
  · rcases Nat.lt_or_ge i ops.length with hi | hi
    · exact h6 i hi k hk
    · rw [hout i hi] at hk; cases hk

/-- A first ready one: light ones first. -/
def pickF (p : Nat → Bool) : List Nat → Option Nat
  | [] => none
  | i :: l => match p i with
    | true => some i
    | false => pickF p l
def canonFrom (rdy lt : List Nat → Nat → Bool) : Nat → List Nat → List Nat → List Nat
  | 0, _, done => done.reverse
  | n + 1, rem, done => match pickF (fun i => rdy done i && lt done i) rem with
    | some i => canonFrom rdy lt n (rem.filter fun j => !Nat.beq i j) (i :: done)
    | none => match pickF (rdy done) rem with
      | some i => canonFrom rdy lt n (rem.filter fun j => !Nat.beq i j) (i :: done)
      | none => done.reverse
/-- The order that speaks for all. -/
def canon (md : Nat → Nat) (qt : FuncId → Bool) (ops : List Oper) : List Nat :=
  canonFrom (fun done i => (aft ops i).all fun k => done.contains k) (fun _ i => match ops[i]? with | some o => light (cls md qt o) | none => false) ops.length (List.range ops.length) []
def tabFrom (ops : List Oper) : Nat → List (List Nat) → List (List Nat)
  | 0, t => t
  | n + 1, t => tabFrom ops n (t ++ [((aft ops t.length) ++ (aft ops t.length).flatMap fun j => t.getD j []).eraseDups])
def anc (ops : List Oper) : List (List Nat) := tabFrom ops ops.length []
end
end Go.Proofs.Ytecpiplfjmmccaa.AM
