/-
  Spans: Nodes, walked.
  Conditions: none.
-/
import Derived.Test.YtecpiplfjmmccaaSpQ
import Derived.Test.YtecpiplfjmmccaaSpH
namespace Go.Proofs.Ytecpiplfjmmccaa.AM
open Go
set_option maxRecDepth 20000

theorem nodesTo_mem {l : List Sp} {a b : Int} {n : Nat} {x : Int} : x ∈ nodesTo l a b n ↔ 0 ≤ x ∧ x < n ∧ anyN l (lo0 a) (hi0 b) x = true := by
  unfold nodesTo
  simp only [List.mem_map, List.mem_filter, List.mem_range]
  constructor
  · rintro ⟨k, ⟨h1, h2⟩, rfl⟩; exact ⟨by omega, by omega, h2⟩
  · rintro ⟨h1, h2, h3⟩
    exact ⟨x.toNat, ⟨by omega, by rw [Int.toNat_of_nonneg h1]; exact h3⟩, Int.toNat_of_nonneg h1⟩
theorem nodesTo_sorted (l : List Sp) (a b : Int) (n : Nat) : (nodesTo l a b n).Pairwise fun x y => x < y := by
  unfold nodesTo
  rw [List.pairwise_map]
  exact (List.Pairwise.filter _ List.pairwise_lt_range).imp fun h => by omega
theorem mem_keys {es : List (Int × AV)} {x : Int} : (∃ q ∈ es, q.1 = x) ↔ x ∈ es.map (·.1) := by simp
theorem nodup_keys {es : List (Int × AV)} : (es.Pairwise fun p q => p.1 ≠ q.1) ↔ (es.map (·.1)).Nodup := by rw [List.Nodup, List.pairwise_map]
theorem nodes_perm {l : List Sp} {a b : Int} {es : List (Int × AV)} (hd : es.Pairwise fun p q => p.1 ≠ q.1) (hm : ∀ x, (∃ p ∈ es, p.1 = x) ↔ (0 ≤ x ∧ x < 6 ∧ anyN l (lo0 a) (hi0 b) x = true)) : (es.map (·.1)).Perm (nodesOf l a b) := by
  have hd' : (es.map (·.1)).Nodup := by rw [List.Nodup, List.pairwise_map]; exact hd
  have hn := nodesTo_sorted l a b 6
  have hn' : (nodesOf l a b).Nodup := hn.imp fun h => by omega
  rw [List.perm_ext_iff_of_nodup hd' hn']
  intro x
  unfold nodesOf
  rw [nodesTo_mem, List.mem_map]
  exact hm x
theorem nodes_eq {l : List Sp} {a b : Int} {L : List Int} {es : List (Int × AV)} (hp : L.Perm (es.map (·.1))) (hs : L.Pairwise fun a b => a ≤ b) (hperm : (es.map (·.1)).Perm (nodesOf l a b)) : L = nodesOf l a b := by
  have hn := nodesTo_sorted l a b 6
  exact List.Perm.eq_of_pairwise (le := fun a b : Int => a ≤ b) (fun a b _ _ h1 h2 => by omega) hs (hn.imp fun h => by omega) (hp.trans hperm)

theorem f20_ok (e : Int) (l : List Sp) (a b : Int) : PC Try.prog 20 [mapV e l, .int .i64 a, .int .i64 b] fun r => r = intS (nodesOf l a b) := by
  refine PC.of_vc (fun _ => 0) (fun | 58 => false | 59 => false | _ => true) ty_ok mix Try.func20 (by kernel_rfl) rfl (by kernel_rfl) (pur2 (mapV_pur e l) (pur2 (.int _ _) (pur2 (.int _ _) pur0))) fun hf => ?_
  conv => whnf
  have hlo : 0 ≤ lo0 a := by unfold lo0; split <;> omega
  have hhi : hi0 b ≤ 10000 := by unfold hi0; split <;> omega
  refine ⟨Nat × List (Int × AV), fun p => ⟨35, [(3, .lptr 3 0), (2, .int .i64 b), (7, .map 0), (8, .int .i64 (lo0 a + p.1))], [(3, [.int .u32 e, spS l])], ⟨[.map .i64 p.2 none], []⟩⟩,
    fun p => (p.1 = 0 ∨ lo0 a + p.1 ≤ hi0 b) ∧ (p.2.Pairwise fun p q => p.1 ≠ q.1) ∧ (∀ q ∈ p.2, ∃ c, q.2 = .int .i64 c) ∧ (∀ x, (∃ q ∈ p.2, q.1 = x) ↔ (0 ≤ x ∧ x < 6 ∧ anyN l (lo0 a) (lo0 a + p.1) x = true)),
    fun p => (hi0 b - lo0 a - p.1).toNat, ⟨(0, []), ⟨.inl rfl, .nil, (by simp), fun x => ?_⟩, rfl, ?_, ?_, .of rfl⟩, ?_⟩
  · simp [anyN_self]
  · refine leT_cons (Wk.refl _) (leT_cons (Wk.refl _) (leT_cons (Wk.refl _) (leT_cons (Wk.int ?_) (leT_nil))))
    simp only [lo0]; omega
  · refine leL_cons rfl (leC_refl _) (leL_nil)
  rintro ⟨k, es⟩ ⟨hk, hd, hv, hm⟩
  dsimp only at hk hd hv hm
  conv => whnf
  refine bsp_intro ?_ ?_
  · intro h
    have h : lo0 a + k < hi0 b := of_decide_eq_true h
    conv => whnf
    refine (f27_ok e l (lo0 a + k)).quiet (Wss.refl _) ?_
    rintro r rfl
    conv => whnf
    have hsucc : ∀ x, anyN l (lo0 a) (lo0 a + (k + 1 : Nat)) x = (anyN l (lo0 a) (lo0 a + k) x || find l (lo0 a + k) == x) := fun x => by
      rw [← anyN_succ (by omega)]; congr 1; omega
    have hstep : IntKind.i64.wrap (lo0 a + k + 1) = lo0 a + ((k + 1 : Nat) : Int) := by rw [IntWalk.i64_in _ (by omega)]; omega
    have fin : ∀ es' : List (Int × AV), (es'.Pairwise fun p q => p.1 ≠ q.1) → (∀ q ∈ es', ∃ c, q.2 = .int .i64 c) → (∀ x, (∃ q ∈ es', q.1 = x) ↔ (0 ≤ x ∧ x < 6 ∧ (anyN l (lo0 a) (lo0 a + k) x = true ∨ find l (lo0 a + k) = x))) →
        (fun p : Nat × List (Int × AV) => (p.1 = 0 ∨ lo0 a + p.1 ≤ hi0 b) ∧ (p.2.Pairwise fun p q => p.1 ≠ q.1) ∧ (∀ q ∈ p.2, ∃ c, q.2 = .int .i64 c) ∧ (∀ x, (∃ q ∈ p.2, q.1 = x) ↔ (0 ≤ x ∧ x < 6 ∧ anyN l (lo0 a) (lo0 a + p.1) x = true))) (k + 1, es') ∧ (hi0 b - lo0 a - ((k + 1 : Nat) : Int)).toNat < (hi0 b - lo0 a - k).toNat :=
      fun es' h1 h2 h3 => ⟨⟨.inr (by dsimp only; omega), h1, h2, fun x => by rw [h3 x, hsucc x]; simp⟩, by omega⟩
    refine bsp_intro ?_ ?_
    · intro h1
      have h1 : 0 ≤ find l (lo0 a + k) := of_decide_eq_true h1
      conv => whnf
      refine bsp_intro ?_ ?_
      · intro h2
        have h2 : find l (lo0 a + k) < 6 := of_decide_eq_true h2
        conv => whnf
        by_cases hin : ∃ q ∈ es, q.1 = find l (lo0 a + k)
        · obtain ⟨⟨n, x⟩, hq, hn⟩ := hin
          obtain ⟨c, rfl⟩ := hv _ hq
          dsimp only at hn
          subst hn
          refine ⟨es, none, some (.int .i64 c), rfl, hq, ?_⟩
          conv => whnf
          refine ⟨es, none, rfl, ?_⟩
          obtain ⟨j, hj⟩ := List.mem_iff_getElem?.1 hq
          rw [putE_some hd hj]
          have hkeys : (es.set j (find l (lo0 a + k), AV.int .i64 (IntKind.i64.wrap (c + 1)))).map (·.1) = es.map (·.1) := by
            apply List.ext_getElem?
            intro i
            simp only [List.getElem?_map, List.getElem?_set]
            split
            · rename_i hij; subst hij
              rw [if_pos (List.getElem?_eq_some_iff.1 hj).1, hj]; rfl
            · rfl
          have hmem : ∀ x, (∃ q ∈ es.set j (find l (lo0 a + k), AV.int .i64 (IntKind.i64.wrap (c + 1))), q.1 = x) ↔ ∃ q ∈ es, q.1 = x := fun x => by
            rw [mem_keys, mem_keys, hkeys]
          conv => whnf
          obtain ⟨f1, f2⟩ := fin (es.set j (find l (lo0 a + k), AV.int .i64 (IntKind.i64.wrap (c + 1)))) (by rw [nodup_keys, hkeys, ← nodup_keys]; exact hd) (fun q hq' => by
            rcases List.mem_or_eq_of_mem_set hq' with h | rfl
            · exact hv q h
            · exact ⟨_, rfl⟩) (fun x => by
            rw [hmem, hm x]
            constructor
            · rintro ⟨h1, h2, h3⟩; exact ⟨h1, h2, .inl h3⟩
            · rintro ⟨h1, h2, h3 | h3⟩
              · exact ⟨h1, h2, h3⟩
              · subst h3; exact (hm _).1 ⟨_, hq, rfl⟩)
          refine ⟨_, f1, f2, rfl, ?_, ?_, .of rfl⟩
          · refine leT_cons (Wk.refl _) (leT_cons (Wk.refl _) (leT_cons (Wk.refl _) (leT_cons (Wk.int ?_) (leT_nil))))
            exact hstep
          · refine leL_cons rfl (leC_refl _) (leL_nil)
        · have hno : ∀ p ∈ es, p.1 ≠ find l (lo0 a + k) := fun p hp e => hin ⟨p, hp, e⟩
          refine ⟨es, none, none, rfl, hno, ?_⟩
          conv => whnf
          refine ⟨es, none, rfl, ?_⟩
          rw [putE_none hno]
          conv => whnf
          obtain ⟨f1, f2⟩ := fin (es ++ [(find l (lo0 a + k), AV.int .i64 (IntKind.i64.wrap (0 + 1)))]) (List.pairwise_append.2 ⟨hd, by simp, fun p hp q hq => by simp at hq; subst hq; exact hno p hp⟩) (fun q hq => by
            rcases List.mem_append.1 hq with h | h
            · exact hv q h
            · simp at h; subst h; exact ⟨_, rfl⟩) (fun x => by
            constructor
            · rintro ⟨q, hq, rfl⟩
              rcases List.mem_append.1 hq with h | h
              · obtain ⟨g1, g2, g3⟩ := (hm q.1).1 ⟨q, h, rfl⟩
                exact ⟨g1, g2, .inl g3⟩
              · simp at h; subst h; exact ⟨h1, h2, .inr rfl⟩
            · rintro ⟨g1, g2, g3 | g3⟩
              · obtain ⟨q, hq, e⟩ := (hm x).2 ⟨g1, g2, g3⟩
                exact ⟨q, List.mem_append_left _ hq, e⟩
              · exact ⟨_, List.mem_append_right _ (List.mem_singleton.2 rfl), g3⟩)
          refine ⟨_, f1, f2, rfl, ?_, ?_, .of rfl⟩
          · refine leT_cons (Wk.refl _) (leT_cons (Wk.refl _) (leT_cons (Wk.refl _) (leT_cons (Wk.int ?_) (leT_nil))))
            exact hstep
          · refine leL_cons rfl (leC_refl _) (leL_nil)
      · intro h2
        have h2 : ¬ find l (lo0 a + k) < 6 := of_decide_eq_false h2
        conv => whnf
        obtain ⟨f1, f2⟩ := fin es hd hv (fun x => by rw [hm x]; exact ⟨fun ⟨a, b, c⟩ => ⟨a, b, .inl c⟩, fun ⟨a, b, c⟩ => ⟨a, b, c.elim id fun e => by omega⟩⟩)
        refine ⟨_, f1, f2, rfl, ?_, ?_, .of rfl⟩
        · refine leT_cons (Wk.refl _) (leT_cons (Wk.refl _) (leT_cons (Wk.refl _) (leT_cons (Wk.int ?_) (leT_nil))))
          exact hstep
        · refine leL_cons rfl (leC_refl _) (leL_nil)
    · intro h1
      have h1 : ¬ 0 ≤ find l (lo0 a + k) := of_decide_eq_false h1
      conv => whnf
      obtain ⟨f1, f2⟩ := fin es hd hv (fun x => by rw [hm x]; exact ⟨fun ⟨a, b, c⟩ => ⟨a, b, .inl c⟩, fun ⟨a, b, c⟩ => ⟨a, b, c.elim id fun e => by omega⟩⟩)
      refine ⟨_, f1, f2, rfl, ?_, ?_, .of rfl⟩
      · refine leT_cons (Wk.refl _) (leT_cons (Wk.refl _) (leT_cons (Wk.refl _) (leT_cons (Wk.int ?_) (leT_nil))))
        exact hstep
      · refine leL_cons rfl (leC_refl _) (leL_nil)
  · intro h
    have h : ¬ lo0 a + k < hi0 b := of_decide_eq_false h
    have hany : ∀ x, anyN l (lo0 a) (lo0 a + k) x = anyN l (lo0 a) (hi0 b) x := fun x => by
      rcases hk with rfl | hk
      · rw [anyN_ge (by simp), anyN_ge (by omega)]
      · rw [show lo0 a + (k : Int) = hi0 b by omega]
    have hperm := nodes_perm (l := l) (a := a) (b := b) hd (fun x => by rw [hm x, hany x])
    have hes : es.length ≤ 6 := by
      have h1 := hperm.length_eq
      have h2 := nodesTo_len l a b 6
      rw [List.length_map] at h1
      unfold nodesOf at h1
      omega
    conv => whnf
    refine ⟨(f59_ok _ _).mono ?_⟩
    rintro r H' ⟨rfl, rfl⟩
    conv => whnf
    refine ⟨(f58_ok _ 0 1 es none rfl rfl (fun p hp => ?_) (by omega)).mono ?_⟩
    · obtain ⟨g1, g2, _⟩ := (hm p.1).1 ⟨p, hp, rfl⟩
      simp [Lit.wf, IntKind.min, IntKind.max, IntKind.signed, IntKind.bits]; omega
    rintro r H' ⟨rfl, L, g1, g2, g3⟩
    have hL : L = nodesOf l a b := nodes_eq g1 g2 hperm
    rw [hL] at g3
    rcases g3 with ⟨g3, rfl⟩ | rfl
    · conv => whnf
      rw [g3]
      exact ⟨intS [], .nil 1 (by omega), intS_pur _, rfl⟩
    · conv => whnf
      exact fin (intS_pur _) rfl
end Go.Proofs.Ytecpiplfjmmccaa.AM
