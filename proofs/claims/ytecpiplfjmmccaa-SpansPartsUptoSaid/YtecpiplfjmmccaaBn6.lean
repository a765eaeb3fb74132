/-
  Texts laid together by program (bundle.py): each part says in its own head what is proved. What is proved here serves the law's row.
  Conditions: as each part says.
-/
import Derived.Test.YtecpiplfjmmccaaBn5
import Derived.Test.YtecpiplfjmmccaaBnShelf
/-
  The keys of a map of numbers, sorted (slices.Sorted of maps.Keys): by the base's own laws; told without addresses.
  Conditions: the map's keys are numbers of their kind.
-/
namespace Go.Proofs.Ytecpiplfjmmccaa.AM
open Go Go.Proofs Go.RowKit Go.Maps Go.Sort Go.Shelf

/-- slices.Sort's two contracts at this dump, at the fence that asks nothing. -/
theorem sortsA (m : Nat) : AnyZI.SortsIn Try.prog Try.sortedA_ren Fence.wide m :=
  ⟨fun blk off cap ss W hH hblk hsz => callsIn_wide.2 (AnyM.slices_Sort_int Try.sortA blk off cap ss W hH hblk hsz),
   fun p cap W => callsIn_wide.2 (AnyM.slices_Sort_int_none Try.sortA p cap W)⟩

theorem f59_ok (H : AH) (id : Nat) : AC Try.prog 59 [.map id] H fun r H' => r = .fn 80 [] [.ptr H.blks.length 0 0] ∧ H' = H.push (.rows 1 [[.map id]]) := by
  refine AC.of_vc (md := fun | 1 => 2 | 1000000 => 1 | _ => 0) (qt := fun _ => true) ty_ok mix Try.func59 (by kernel_rfl) rfl (by kernel_rfl) ?_
  conv => whnf
  exact ⟨rfl, rfl⟩

set_option maxHeartbeats 1000000 in
theorem f58_ok (H : AH) (id idb : Nat) (es : List (Int × AV)) (pd : Option (Int × Nat)) (hi : H.blks[id]? = some (.map .i64 es pd)) (hib : H.blks[idb]? = some (.rows 1 [[.map id]])) (hw : ∀ p ∈ es, (Lit.int .i64 p.1).wf = true) (hl : es.length ≤ 1000000000000) :
    AC Try.prog 58 [.fn 80 [] [.ptr idb 0 0]] H fun r H' => H' = H ∧ ∃ l : List Int, l.Perm (es.map (·.1)) ∧ l.Pairwise (fun a b => a ≤ b) ∧ ((l = [] ∧ r = .nils) ∨ r = intS l) := by
  refine ⟨⟨_, _, Try.func58, by kernel_rfl, rfl⟩, fun G w vs hH hr => ?_⟩
  obtain ⟨hlv, hr⟩ := hr
  match vs, hlv with
  | [v], _ =>
  have h0 := hr 0 _ rfl
  simp only [List.getD_cons_zero] at h0
  cases h0 with
  | fn _ _ _ fv cv hf hc hfr hcr =>
  have hf0 : fv = #[] := Array.eq_empty_of_size_eq_zero hf
  subst hf0
  obtain ⟨c0, rfl⟩ : ∃ c0, cv = #[c0] := by
    obtain ⟨cl⟩ := cv
    match cl, hc with
    | [c0], _ => exact ⟨c0, rfl⟩
  have h1 : Rep G w (.ptr idb 0 0) c0 := hcr 0 _ rfl
  cases h1 with
  | ptr _ _ _ B z hmb =>
  obtain ⟨rfl, _, us, e, g1, _, g3, g4⟩ := rows_at (S := ⟨0, [], [], H⟩) hH hib hmb
  have g5 := g4 0 0 (.map id) rfl
  simp only [Nat.zero_mul, Nat.add_zero] at g5
  rcases g5 with g5 | ⟨_, g5⟩
  · cases g5
  generalize hu0 : us.getD 0 Go.undef = u0 at g5
  cases g5 with
  | map _ b hmb2 =>
  obtain ⟨en, clock, hat⟩ := map_at (S := ⟨0, [], [], H⟩) hH hi hmb2
  have hk3 : Try.prog.underlying 3 = some (.int .i64) := Try.underlying3
  obtain ⟨D, hown, hDl, hDp⟩ := map_owns (P := Try.prog) hat hk3 hw (by have : maxLen = 9223372036854775807 := rfl; omega)
  have hcB : w.cell? ⟨B, 0, none⟩ = some (.map (some b)) := by
    have := cell_row (w := w) g1 (j := 0) (by simp at g3; omega)
    rw [this, hu0]
  have hseq : SeqGives Fence.wide 2 Try.prog 80 #[.pointer (some ⟨B, 0, none⟩)] encZ (fun ss => ss.Perm (intKeys (.map D))) (Maps.size (.map D)) w :=
    AnyZI.keys_gives (ρ := Try.keysA_ren) { Try.keysA with } Fence.wide _ trivial rfl (by omega) B b es.length (.map D) _ (lt_of_heap g1) hcB hown
  have hsz : Maps.size (.map D) = es.length := hDl
  have cS := AnyZI.sorted_in Try.sortedA Fence.wide 5 trivial trivial trivial trivial rfl (by omega) (sortsA _) (enters_of Try.func79 (by kernel_rfl) rfl) 80 #[.pointer (some ⟨B, 0, none⟩)] trivial (enters_of Try.func80 (by kernel_rfl) rfl) _ _ (by rw [hsz]; have : maxLen = 9223372036854775807 := rfl; omega) (by rw [hsz]; omega) _ hseq
  change CallsIn _ _ Try.prog 58 _ _ _ at cS
  simp only [Nat.zero_mul, Nat.add_zero]
  refine (callsIn_wide.1 cS).mono ?_
  rintro en' w' ⟨v, ss, rfl, hperm, hrow, hnil, hb⟩
  have hkeys : (intKeys (.map D)).Perm (es.map (·.1)) := by
    have := hDp.map Go.intOf
    rw [List.map_map, List.map_map] at this
    exact this
  obtain ⟨G', q1, q2, q3, q4⟩ := owns_rep (q := .i64) (l := ss.mergeSort fun x y => decide (x ≤ y)) hH hb (by rw [List.length_mergeSort]; exact hrow) (by
    rw [hnil]
    constructor
    · rintro rfl; simp
    · intro h
      have := List.length_mergeSort (le := fun x y : Int => decide (x ≤ y)) ss
      rw [h] at this
      exact List.eq_nil_of_length_eq_zero this.symm)
  have hp1 : (ss.mergeSort fun x y => decide (x ≤ y)).Perm (es.map (·.1)) := ((List.mergeSort_perm ss _).trans hperm).trans hkeys
  have hs1 : (ss.mergeSort fun x y => decide (x ≤ y)).Pairwise (fun a b => a ≤ b) := by
    have := List.pairwise_mergeSort (le := fun x y : Int => decide (x ≤ y)) (fun a b c h1 h2 => by simp at *; omega) (fun a b => by simp; omega) ss
    exact this.imp fun h => by simpa using h
  rcases q4 with ⟨q4, q5⟩ | q4
  · exact ⟨.nils, v, G', H, rfl, q5, q3, q1, q2, rfl, _, hp1, hs1, .inl ⟨q4, rfl⟩⟩
  · exact ⟨_, v, G', H, rfl, q4, q3, q1, q2, rfl, _, hp1, hs1, .inr rfl⟩
end Go.Proofs.Ytecpiplfjmmccaa.AM

/-
  Spans: Nodes, walked.
  Conditions: none.
-/
namespace Go.Proofs.Ytecpiplfjmmccaa.AM
open Go
set_option maxRecDepth 20000

theorem nodesTo_mem {l : List Sp} {a b : Int} {n : Nat} {x : Int} : x ∈ nodesTo l a b n ↔ 0 ≤ x ∧ x < n ∧ anyN l (lo0 a) (hi0 b) x = true := by
  unfold nodesTo
  simp only [List.mem_map, List.mem_filter, List.mem_range]
  constructor
  · rintro ⟨k, ⟨h1, h2⟩, rfl⟩; exact ⟨by omega, by omega, h2⟩
  · rintro ⟨h1, h2, h3⟩
    exact ⟨x.toNat, ⟨by omega, by rw [Int.toNat_of_nonneg h1]; exact h3⟩, Int.toNat_of_nonneg h1⟩
theorem nodesTo_sorted (l : List Sp) (a b : Int) (n : Nat) : (nodesTo l a b n).Pairwise fun x y => x < y := by
  unfold nodesTo
  rw [List.pairwise_map]
  exact (List.Pairwise.filter _ List.pairwise_lt_range).imp fun h => by omega
theorem mem_keys {es : List (Int × AV)} {x : Int} : (∃ q ∈ es, q.1 = x) ↔ x ∈ es.map (·.1) := by simp
theorem nodup_keys {es : List (Int × AV)} : (es.Pairwise fun p q => p.1 ≠ q.1) ↔ (es.map (·.1)).Nodup := by rw [List.Nodup, List.pairwise_map]
theorem nodes_perm {l : List Sp} {a b : Int} {es : List (Int × AV)} (hd : es.Pairwise fun p q => p.1 ≠ q.1) (hm : ∀ x, (∃ p ∈ es, p.1 = x) ↔ (0 ≤ x ∧ x < 6 ∧ anyN l (lo0 a) (hi0 b) x = true)) : (es.map (·.1)).Perm (nodesOf l a b) := by
  have hd' : (es.map (·.1)).Nodup := by rw [List.Nodup, List.pairwise_map]; exact hd
  have hn := nodesTo_sorted l a b 6
  have hn' : (nodesOf l a b).Nodup := hn.imp fun h => by omega
  rw [List.perm_ext_iff_of_nodup hd' hn']
  intro x
  unfold nodesOf
  rw [nodesTo_mem, List.mem_map]
  exact hm x
theorem nodes_eq {l : List Sp} {a b : Int} {L : List Int} {es : List (Int × AV)} (hp : L.Perm (es.map (·.1))) (hs : L.Pairwise fun a b => a ≤ b) (hperm : (es.map (·.1)).Perm (nodesOf l a b)) : L = nodesOf l a b := by
  have hn := nodesTo_sorted l a b 6
  exact List.Perm.eq_of_pairwise (le := fun a b : Int => a ≤ b) (fun a b _ _ h1 h2 => by omega) hs (hn.imp fun h => by omega) (hp.trans hperm)

theorem f20_ok (e : Int) (l : List Sp) (a b : Int) : PC Try.prog 20 [mapV e l, .int .i64 a, .int .i64 b] fun r => r = intS (nodesOf l a b) := by
  refine PC.of_vc (fun _ => 0) (fun | 58 => false | 59 => false | _ => true) ty_ok mix Try.func20 (by kernel_rfl) rfl (by kernel_rfl) (pur2 (mapV_pur e l) (pur2 (.int _ _) (pur2 (.int _ _) pur0))) fun hf => ?_
  conv => whnf
  have hlo : 0 ≤ lo0 a := by unfold lo0; split <;> omega
  have hhi : hi0 b ≤ 10000 := by unfold hi0; split <;> omega
  refine ⟨Nat × List (Int × AV), fun p => ⟨35, [(3, .lptr 3 0), (2, .int .i64 b), (7, .map 0), (8, .int .i64 (lo0 a + p.1))], [(3, [.int .u32 e, spS l])], ⟨[.map .i64 p.2 none], []⟩⟩,
    fun p => (p.1 = 0 ∨ lo0 a + p.1 ≤ hi0 b) ∧ (p.2.Pairwise fun p q => p.1 ≠ q.1) ∧ (∀ q ∈ p.2, ∃ c, q.2 = .int .i64 c) ∧ (∀ x, (∃ q ∈ p.2, q.1 = x) ↔ (0 ≤ x ∧ x < 6 ∧ anyN l (lo0 a) (lo0 a + p.1) x = true)),
    fun p => (hi0 b - lo0 a - p.1).toNat, ⟨(0, []), ⟨.inl rfl, .nil, (by simp), fun x => ?_⟩, rfl, ?_, ?_, .of rfl⟩, ?_⟩
  · simp [anyN_self]
  · refine leT_cons (Wk.refl _) (leT_cons (Wk.refl _) (leT_cons (Wk.refl _) (leT_cons (Wk.int ?_) (leT_nil))))
    simp only [lo0]; omega
  · refine leL_cons rfl (leC_refl _) (leL_nil)
  rintro ⟨k, es⟩ ⟨hk, hd, hv, hm⟩
  dsimp only at hk hd hv hm
  conv => whnf
  refine bsp_intro ?_ ?_
  · intro h
    have h : lo0 a + k < hi0 b := of_decide_eq_true h
    conv => whnf
    refine (f27_ok e l (lo0 a + k)).quiet (Wss.refl _) ?_
    rintro r rfl
    conv => whnf
    have hsucc : ∀ x, anyN l (lo0 a) (lo0 a + (k + 1 : Nat)) x = (anyN l (lo0 a) (lo0 a + k) x || find l (lo0 a + k) == x) := fun x => by
      rw [← anyN_succ (by omega)]; congr 1; omega
    have hstep : IntKind.i64.wrap (lo0 a + k + 1) = lo0 a + ((k + 1 : Nat) : Int) := by rw [IntWalk.i64_in _ (by omega)]; omega
    have fin : ∀ es' : List (Int × AV), (es'.Pairwise fun p q => p.1 ≠ q.1) → (∀ q ∈ es', ∃ c, q.2 = .int .i64 c) → (∀ x, (∃ q ∈ es', q.1 = x) ↔ (0 ≤ x ∧ x < 6 ∧ (anyN l (lo0 a) (lo0 a + k) x = true ∨ find l (lo0 a + k) = x))) →
        (fun p : Nat × List (Int × AV) => (p.1 = 0 ∨ lo0 a + p.1 ≤ hi0 b) ∧ (p.2.Pairwise fun p q => p.1 ≠ q.1) ∧ (∀ q ∈ p.2, ∃ c, q.2 = .int .i64 c) ∧ (∀ x, (∃ q ∈ p.2, q.1 = x) ↔ (0 ≤ x ∧ x < 6 ∧ anyN l (lo0 a) (lo0 a + p.1) x = true))) (k + 1, es') ∧ (hi0 b - lo0 a - ((k + 1 : Nat) : Int)).toNat < (hi0 b - lo0 a - k).toNat :=
      fun es' h1 h2 h3 => ⟨⟨.inr (by dsimp only; omega), h1, h2, fun x => by rw [h3 x, hsucc x]; simp⟩, by omega⟩
    refine bsp_intro ?_ ?_
    · intro h1
      have h1 : 0 ≤ find l (lo0 a + k) := of_decide_eq_true h1
      conv => whnf
      refine bsp_intro ?_ ?_
      · intro h2
        have h2 : find l (lo0 a + k) < 6 := of_decide_eq_true h2
        conv => whnf
        by_cases hin : ∃ q ∈ es, q.1 = find l (lo0 a + k)
        · obtain ⟨⟨n, x⟩, hq, hn⟩ := hin
          obtain ⟨c, rfl⟩ := hv _ hq
          dsimp only at hn
          subst hn
          refine ⟨es, none, some (.int .i64 c), rfl, hq, ?_⟩
          conv => whnf
          refine ⟨es, none, rfl, ?_⟩
          obtain ⟨j, hj⟩ := List.mem_iff_getElem?.1 hq
          rw [putE_some hd hj]
          have hkeys : (es.set j (find l (lo0 a + k), AV.int .i64 (IntKind.i64.wrap (c + 1)))).map (·.1) = es.map (·.1) := by
            apply List.ext_getElem?
            intro i
            simp only [List.getElem?_map, List.getElem?_set]
            split
            · rename_i hij; subst hij
              rw [if_pos (List.getElem?_eq_some_iff.1 hj).1, hj]; rfl
            · rfl
          have hmem : ∀ x, (∃ q ∈ es.set j (find l (lo0 a + k), AV.int .i64 (IntKind.i64.wrap (c + 1))), q.1 = x) ↔ ∃ q ∈ es, q.1 = x := fun x => by
            rw [mem_keys, mem_keys, hkeys]
          conv => whnf
          obtain ⟨f1, f2⟩ := fin (es.set j (find l (lo0 a + k), AV.int .i64 (IntKind.i64.wrap (c + 1)))) (by rw [nodup_keys, hkeys, ← nodup_keys]; exact hd) (fun q hq' => by
            rcases List.mem_or_eq_of_mem_set hq' with h | rfl
            · exact hv q h
            · exact ⟨_, rfl⟩) (fun x => by
            rw [hmem, hm x]
            constructor
            · rintro ⟨h1, h2, h3⟩; exact ⟨h1, h2, .inl h3⟩
            · rintro ⟨h1, h2, h3 | h3⟩
              · exact ⟨h1, h2, h3⟩
              · subst h3; exact (hm _).1 ⟨_, hq, rfl⟩)
          refine ⟨_, f1, f2, rfl, ?_, ?_, .of rfl⟩
          · refine leT_cons (Wk.refl _) (leT_cons (Wk.refl _) (leT_cons (Wk.refl _) (leT_cons (Wk.int ?_) (leT_nil))))
            exact hstep
          · refine leL_cons rfl (leC_refl _) (leL_nil)
        · have hno : ∀ p ∈ es, p.1 ≠ find l (lo0 a + k) := fun p hp e => hin ⟨p, hp, e⟩
          refine ⟨es, none, none, rfl, hno, ?_⟩
          conv => whnf
          refine ⟨es, none, rfl, ?_⟩
          rw [putE_none hno]
          conv => whnf
          obtain ⟨f1, f2⟩ := fin (es ++ [(find l (lo0 a + k), AV.int .i64 (IntKind.i64.wrap (0 + 1)))]) (List.pairwise_append.2 ⟨hd, by simp, fun p hp q hq => by simp at hq; subst hq; exact hno p hp⟩) (fun q hq => by
            rcases List.mem_append.1 hq with h | h
            · exact hv q h
            · simp at h; subst h; exact ⟨_, rfl⟩) (fun x => by
            constructor
            · rintro ⟨q, hq, rfl⟩
              rcases List.mem_append.1 hq with h | h
              · obtain ⟨g1, g2, g3⟩ := (hm q.1).1 ⟨q, h, rfl⟩
                exact ⟨g1, g2, .inl g3⟩
              · simp at h; subst h; exact ⟨h1, h2, .inr rfl⟩
            · rintro ⟨g1, g2, g3 | g3⟩
              · obtain ⟨q, hq, e⟩ := (hm x).2 ⟨g1, g2, g3⟩
                exact ⟨q, List.mem_append_left _ hq, e⟩
              · exact ⟨_, List.mem_append_right _ (List.mem_singleton.2 rfl), g3⟩)
          refine ⟨_, f1, f2, rfl, ?_, ?_, .of rfl⟩
          · refine leT_cons (Wk.refl _) (leT_cons (Wk.refl _) (leT_cons (Wk.refl _) (leT_cons (Wk.int ?_) (leT_nil))))
            exact hstep
          · refine leL_cons rfl (leC_refl _) (leL_nil)
      · intro h2
        have h2 : ¬ find l (lo0 a + k) < 6 := of_decide_eq_false h2
        conv => whnf
        obtain ⟨f1, f2⟩ := fin es hd hv (fun x => by rw [hm x]; exact ⟨fun ⟨a, b, c⟩ => ⟨a, b, .inl c⟩, fun ⟨a, b, c⟩ => ⟨a, b, c.elim id fun e => by omega⟩⟩)
        refine ⟨_, f1, f2, rfl, ?_, ?_, .of rfl⟩
        · refine leT_cons (Wk.refl _) (leT_cons (Wk.refl _) (leT_cons (Wk.refl _) (leT_cons (Wk.int ?_) (leT_nil))))
          exact hstep
        · refine leL_cons rfl (leC_refl _) (leL_nil)
    · intro h1
      have h1 : ¬ 0 ≤ find l (lo0 a + k) := of_decide_eq_false h1
      conv => whnf
      obtain ⟨f1, f2⟩ := fin es hd hv (fun x => by rw [hm x]; exact ⟨fun ⟨a, b, c⟩ => ⟨a, b, .inl c⟩, fun ⟨a, b, c⟩ => ⟨a, b, c.elim id fun e => by omega⟩⟩)
      refine ⟨_, f1, f2, rfl, ?_, ?_, .of rfl⟩
      · refine leT_cons (Wk.refl _) (leT_cons (Wk.refl _) (leT_cons (Wk.refl _) (leT_cons (Wk.int ?_) (leT_nil))))
        exact hstep
      · refine leL_cons rfl (leC_refl _) (leL_nil)
  · intro h
    have h : ¬ lo0 a + k < hi0 b := of_decide_eq_false h
    have hany : ∀ x, anyN l (lo0 a) (lo0 a + k) x = anyN l (lo0 a) (hi0 b) x := fun x => by
      rcases hk with rfl | hk
      · rw [anyN_ge (by simp), anyN_ge (by omega)]
      · rw [show lo0 a + (k : Int) = hi0 b by omega]
    have hperm := nodes_perm (l := l) (a := a) (b := b) hd (fun x => by rw [hm x, hany x])
    have hes : es.length ≤ 6 := by
      have h1 := hperm.length_eq
      have h2 := nodesTo_len l a b 6
      rw [List.length_map] at h1
      unfold nodesOf at h1
      omega
    conv => whnf
    refine ⟨(f59_ok _ _).mono ?_⟩
    rintro r H' ⟨rfl, rfl⟩
    conv => whnf
    refine ⟨(f58_ok _ 0 1 es none rfl rfl (fun p hp => ?_) (by omega)).mono ?_⟩
    · obtain ⟨g1, g2, _⟩ := (hm p.1).1 ⟨p, hp, rfl⟩
      simp [Lit.wf, IntKind.min, IntKind.max, IntKind.signed, IntKind.bits]; omega
    rintro r H' ⟨rfl, L, g1, g2, g3⟩
    have hL : L = nodesOf l a b := nodes_eq g1 g2 hperm
    rw [hL] at g3
    rcases g3 with ⟨g3, rfl⟩ | rfl
    · conv => whnf
      rw [g3]
      exact ⟨intS [], .nil 1 (by omega), intS_pur _, rfl⟩
    · conv => whnf
      exact fin (intS_pur _) rfl
end Go.Proofs.Ytecpiplfjmmccaa.AM

/-
  Spans: what the program's Split lays comes to the document's runs. Plain.
  Conditions: the map is sound.
-/
namespace Go.Proofs.Ytecpiplfjmmccaa.AM
open Go

/-- The step of find. -/
abbrev fst (v : Int) (n : Int) (s : Sp) : Int := if s.1 ≤ v then s.2 else n
theorem find_append (l l' : List Sp) (v : Int) : find (l ++ l') v = l'.foldl (fst v) (find l v) := by unfold find; rw [List.foldl_append]
theorem fold_none {l : List Sp} {v : Int} (h : ∀ s ∈ l, v < s.1) (n : Int) : l.foldl (fst v) n = n := by
  induction l generalizing n with
  | nil => rfl
  | cons s l ih =>
    have := h s (List.mem_cons_self ..)
    simp only [List.foldl_cons]
    rw [fst, if_neg (by omega)]
    exact ih (fun t ht => h t (List.mem_cons_of_mem _ ht)) n
theorem fold_filter {l : List Sp} {v : Int} {p : Sp → Bool} (h : ∀ s ∈ l, s.1 ≤ v → p s = true) (n : Int) : (l.filter p).foldl (fst v) n = l.foldl (fst v) n := by
  induction l generalizing n with
  | nil => rfl
  | cons s l ih =>
    have ih := fun n => ih (fun t ht => h t (List.mem_cons_of_mem _ ht)) n
    by_cases hp : p s = true
    · rw [List.filter_cons_of_pos hp, List.foldl_cons, List.foldl_cons, ih]
    · rw [List.filter_cons_of_neg hp, List.foldl_cons, ih]
      have : ¬ s.1 ≤ v := fun hs => hp (h s (List.mem_cons_self ..) hs)
      rw [fst, if_neg this]
theorem fold_all {l : List Sp} {v v' : Int} (h : ∀ s ∈ l, s.1 ≤ v ∧ s.1 ≤ v') (n : Int) : l.foldl (fst v) n = l.foldl (fst v') n := by
  induction l generalizing n with
  | nil => rfl
  | cons s l ih =>
    obtain ⟨h1, h2⟩ := h s (List.mem_cons_self ..)
    simp only [List.foldl_cons]
    rw [fst, fst, if_pos h1, if_pos h2]
    exact ih (fun t ht => h t (List.mem_cons_of_mem _ ht)) _
theorem find_mem {l : List Sp} {v : Int} (h : ∃ s ∈ l, s.1 ≤ v) : ∃ s ∈ l, s.1 ≤ v ∧ find l v = s.2 := by
  have key : ∀ (l : List Sp) (n : Int), (l.foldl (fst v) n = n) ∨ ∃ s ∈ l, s.1 ≤ v ∧ l.foldl (fst v) n = s.2 := by
    intro l
    induction l with
    | nil => intro n; exact .inl rfl
    | cons s l ih =>
      intro n
      simp only [List.foldl_cons]
      rcases ih (fst v n s) with h | ⟨t, h1, h2, h3⟩
      · by_cases hs : s.1 ≤ v
        · exact .inr ⟨s, List.mem_cons_self .., hs, by rw [h, fst, if_pos hs]⟩
        · rw [h, fst, if_neg hs]; exact .inl rfl
      · exact .inr ⟨t, List.mem_cons_of_mem _ h1, h2, h3⟩
  obtain ⟨s, h1, h2⟩ := h
  obtain ⟨p, q, rfl⟩ := List.append_of_mem h1
  unfold find
  rw [List.foldl_append, List.foldl_cons]
  have e : (if s.1 ≤ v then s.2 else List.foldl (fun n s => if s.1 ≤ v then s.2 else n) (-1) p) = s.2 := if_pos h2
  rw [e]
  rcases key q s.2 with h | ⟨t, g1, g2, g3⟩
  · exact ⟨s, h1, h2, h⟩
  · exact ⟨t, by simp [g1], g2, g3⟩

/-- Breakpoints: rising, from 0 on, below n, of nodes that are. -/
structure Brk (M : List Sp) (n : Int) : Prop where
  rise : M.Pairwise fun s t => s.1 < t.1
  zero : ∃ x M', M = (0, x) :: M'
  lt : ∀ s ∈ M, s.1 < n
  node : ∀ s ∈ M, s.2 ≠ -1

theorem runs_congr {f g : Nat → Int} : ∀ {n : Nat}, (∀ v, v < n → f v = g v) → runs f n = runs g n
  | 0, _ => rfl
  | n + 1, h => by
    have ih := runs_congr (f := f) (g := g) (n := n) fun v hv => h v (by omega)
    unfold runs
    rw [ih, h n (by omega)]
theorem runs_const {f : Nat → Int} {k : Nat} {x : Int} : ∀ {n : Nat}, k ≤ n → (runs f k).2 = x → (∀ v, k ≤ v → v < n → f v = x) → runs f n = runs f k
  | 0, hk, _, _ => by have : k = 0 := by omega
                      subst this; rfl
  | n + 1, hk, h2, hc => by
    rcases Nat.lt_or_ge n k with h | h
    · have : k = n + 1 := by omega
      subst this; rfl
    · have ih := runs_const (f := f) (k := k) (x := x) (n := n) h h2 fun v h1 h3 => hc v h1 (by omega)
      conv => lhs; unfold runs
      rw [ih, h2, hc n h (by omega), if_neg (by simp)]
theorem glueTo_prefix {l l' : List Sp} : ∀ {i : Nat}, i ≤ l.length → glueTo (l ++ l') i = glueTo l i
  | 0, _ => rfl
  | i + 1, h => by
    have ih := glueTo_prefix (l := l) (l' := l') (i := i) (by omega)
    simp only [glueTo]
    rw [ih, List.getElem?_append_left (by omega), List.getElem?_append_left (by omega)]

theorem runs_glue : ∀ (r : List Sp) (M : List Sp), M = r.reverse → ∀ n : Nat, Brk M n → runs (fun v => find M v) n = (glue M, (M.getLast?.map (·.2)).getD 0)
  | [], M, e, n, h => by
    subst e
    obtain ⟨x, M', h⟩ := h.zero
    cases h
  | s :: r, M, e, n, h => by
    have e : M = r.reverse ++ [s] := by rw [e, List.reverse_cons]
    have hlast : (M.getLast?.map (·.2)).getD 0 = s.2 := by rw [e]; simp
    rw [hlast]
    have hsn : s.2 ≠ -1 := h.node s (by rw [e]; simp)
    have hs0 : 0 ≤ s.1 := by
      obtain ⟨x, M', h0⟩ := h.zero
      have hp := h.rise
      have hm : s ∈ M := by rw [e]; simp
      rw [h0] at hp hm
      rcases List.mem_cons.1 hm with rfl | hm
      · exact Int.le_refl _
      · exact Int.le_of_lt ((List.pairwise_cons.1 hp).1 s hm)
    have hsl := h.lt s (by rw [e]; simp)
    obtain ⟨k, hk⟩ := Int.eq_ofNat_of_zero_le hs0
    have hfind : ∀ v : Int, find M v = if s.1 ≤ v then s.2 else find r.reverse v := fun v => by rw [e, find_append]; rfl
    cases hr : r with
    | nil =>
      subst hr
      have hM : M = [s] := by rw [e]; rfl
      have hs1 : s.1 = 0 := by
        obtain ⟨x, M', h0⟩ := h.zero
        rw [hM] at h0
        simp only [List.cons.injEq] at h0
        rw [h0.1]
      have hf : ∀ v : Nat, find M v = s.2 := fun v => by rw [hfind, if_pos (by omega)]
      have h1 : runs (fun v => find M v) 1 = ([(((0 : Nat) : Int), s.2)], s.2) := by
        have h0 : (fun v : Nat => find M (v : Int)) 0 = s.2 := hf 0
        unfold runs
        have h1 : (fun v : Nat => find M (v : Int)) 0 ≠ (runs (fun v => find M v) 0).2 := by rw [h0]; exact hsn
        rw [if_pos h1]
        simp only [runs, h0, List.nil_append]
      have := runs_const (f := fun v => find M v) (k := 1) (x := s.2) (n := n) (by omega) (by rw [h1]) (fun v _ _ => hf v)
      rw [this, h1, hM]
      have e3 : glue [s] = [s] := by simp [glue, glueTo]
      rw [e3]
      have e4 : ((((0 : Nat) : Int), s.2) : Sp) = s := Prod.ext hs1.symm rfl
      rw [e4]
    | cons t r' =>
      have hne : r ≠ [] := by rw [hr]; simp
      have hb : Brk r.reverse k := by
        refine ⟨(List.pairwise_append.1 (by rw [← e]; exact h.rise)).1, ?_, fun u hu => ?_, fun u hu => h.node u (by rw [e]; simp [List.mem_reverse.1 hu])⟩
        · obtain ⟨x, M', h0⟩ := h.zero
          have hl : 0 < r.reverse.length := by simp [hr]
          cases hrr : r.reverse with
          | nil => rw [hrr] at hl; simp at hl
          | cons u M'' =>
            rw [e, hrr] at h0
            simp only [List.cons_append, List.cons.injEq] at h0
            exact ⟨x, M'', by rw [h0.1]⟩
        · have := (List.pairwise_append.1 (by rw [← e]; exact h.rise)).2.2 u hu s (by simp)
          omega
      have ih := runs_glue r r.reverse rfl k hb
      have hk1 : runs (fun v => find M v) k = (glue r.reverse, ((r.reverse.getLast?).map (·.2)).getD 0) := by
        rw [← ih]
        exact runs_congr fun v hv => by rw [hfind, if_neg (by omega)]
      have hlr : (r.reverse.getLast?).map (·.2) = some t.2 := by rw [hr]; simp
      have hfk : find M (k : Int) = s.2 := by rw [hfind, if_pos (by omega)]
      have hlen : M.length = r.length + 1 := by rw [e]; simp
      have hgl : glue M = if s.2 = t.2 then glue r.reverse else glue r.reverse ++ [s] := by
        unfold glue
        rw [hlen]
        have i1 : r.length < M.length := by omega
        have i2 : r.length - 1 < M.length := by omega
        have g1 : M[r.length] = s := by simp only [e]; rw [List.getElem_append_right (by simp)]; simp
        have hrl : 0 < r.length := by rw [hr]; simp
        have g2 : M[r.length - 1] = t := by
          simp only [e]
          rw [List.getElem_append_left (by simp; omega)]
          simp [hr]
        have g3 : glueTo M r.length = glueTo r.reverse r.reverse.length := by
          rw [e, glueTo_prefix (by simp)]; simp
        split
        · rename_i he
          rw [glueTo_skip i1 hrl (by rw [g1, g2]; exact he), g3]
        · rename_i he
          rw [glueTo_keep i1 hrl (by rw [g1, g2]; exact he), g3, g1]
      have hk2 : runs (fun v => find M v) (k + 1) = (glue M, s.2) := by
        conv => lhs; unfold runs
        simp only [hk1, hfk, hlr, Option.getD_some]
        rw [hgl]
        by_cases he : s.2 = t.2
        · rw [if_neg (by simpa using he), if_pos he, he]
        · rw [if_pos he, if_neg he]
          have : ((k : Int), s.2) = s := Prod.ext hk.symm rfl
          rw [this]
      have := runs_const (f := fun v => find M v) (k := k + 1) (x := s.2) (n := n) (by omega) (by rw [hk2]) (fun v h1 _ => by show find M (v : Int) = _; rw [hfind, if_pos (by omega)])
      rw [this, hk2]

/-! ### the program's breakpoints -/
def preOf (l : List Sp) (size a b node : Int) : List Sp := l.filter (fun s => decide (s.1 < a)) ++ [(a, node)] ++ (if b < size then [(b, find l b)] else []) ++ l.filter (fun s => decide (b < s.1))
theorem snd_rise {l : List Sp} {size nodes : Int} (h : Snd l size nodes) : l.Pairwise fun s t => s.1 < t.1 := by
  have key : ∀ (i j : Nat) (hi : i < l.length) (hj : j < l.length), i < j → l[i].1 < l[j].1 := by
    intro i j hi hj hij
    induction j with
    | zero => omega
    | succ j ih =>
      have h1 := ((h.2.2 (j + 1) hj).2.2.2.2.2 (by omega)).1
      simp only [Nat.add_sub_cancel] at h1
      rcases Nat.lt_or_ge i j with h2 | h2
      · have := ih (by omega) h2; omega
      · have : i = j := by omega
        subst this; exact h1
  rw [List.pairwise_iff_getElem]
  exact fun i j hi hj hij => key i j hi hj hij
theorem snd_mem {l : List Sp} {size nodes : Int} (h : Snd l size nodes) {s : Sp} (hs : s ∈ l) : 0 ≤ s.1 ∧ s.1 < size ∧ 0 ≤ s.2 ∧ s.2 < nodes ∧ s.2 < 6 := by
  obtain ⟨i, hi, rfl⟩ := List.mem_iff_getElem.1 hs
  have h1 := h.2.2 i hi
  have h0 := (h.2.2 0 (by omega)).2.2.2.2.1 rfl
  refine ⟨?_, h1.2.2.2.1, h1.1, h1.2.1, h1.2.2.1⟩
  rcases Nat.eq_zero_or_pos i with h2 | h2
  · subst h2; omega
  · have := List.pairwise_iff_getElem.1 (snd_rise h) 0 i (by omega) hi h2
    omega
theorem snd_zero {l : List Sp} {size nodes : Int} (h : Snd l size nodes) : ∃ x M, l = (0, x) :: M := by
  have h0 := h.1
  match l, h0 with
  | s :: M, _ =>
    have := (h.2.2 0 (by simp)).2.2.2.2.1 rfl
    exact ⟨s.2, M, by rw [show s = (0, s.2) from Prod.ext this rfl]⟩
theorem find_in_range {l : List Sp} {size nodes v : Int} (h : Snd l size nodes) (hv : 0 ≤ v) : 0 ≤ find l v ∧ find l v < 6 ∧ find l v < nodes := by
  obtain ⟨x, M, e⟩ := snd_zero h
  obtain ⟨s, h1, _, h2⟩ := find_mem (l := l) (v := v) ⟨(0, x), by rw [e]; simp, hv⟩
  obtain ⟨_, _, g1, g2, g3⟩ := snd_mem h h1
  rw [h2]
  exact ⟨g1, g3, g2⟩
theorem rise_split {l : List Sp} (h : l.Pairwise fun s t => s.1 < t.1) (b : Int) : l = l.filter (fun s => decide (s.1 ≤ b)) ++ l.filter (fun s => decide (b < s.1)) := by
  induction l with
  | nil => rfl
  | cons s l ih =>
    obtain ⟨h1, h2⟩ := List.pairwise_cons.1 h
    by_cases hs : s.1 ≤ b
    · rw [List.filter_cons_of_pos (by simpa using hs), List.filter_cons_of_neg (by simp; omega), List.cons_append, ← ih h2]
    · have e1 : l.filter (fun s => decide (s.1 ≤ b)) = [] := by
        rw [List.filter_eq_nil_iff]
        intro t ht
        have := h1 t ht
        simp; omega
      have e2 : l.filter (fun s => decide (b < s.1)) = l := by
        rw [List.filter_eq_self]
        intro t ht
        have := h1 t ht
        simp; omega
      rw [List.filter_cons_of_neg (by simpa using hs), List.filter_cons_of_pos (by simp; omega), e1, e2]; rfl
theorem find_pre {l : List Sp} {size nodes a b node : Int} (h : Snd l size nodes) (hab : a < b) {v : Nat} (hv : (v : Int) < size) : find (preOf l size a b node) v = ndOf l a b node v := by
  unfold preOf
  rw [find_append, find_append, find_append]
  have hlate : ∀ {v : Int} (n : Int), v ≤ b → (l.filter (fun s => decide (b < s.1))).foldl (fst v) n = n := fun {v} n hvb => fold_none (fun s hs => by have := (List.mem_filter.1 hs).2; simp at this; omega) n
  by_cases h1 : (v : Int) < a
  · rw [show ndOf l a b node v = find l v from if_neg (by omega), hlate _ (by omega)]
    have e1 : ∀ n : Int, (if b < size then [(b, find l b)] else []).foldl (fst (v : Int)) n = n := fun n => by
      split
      · simp only [List.foldl_cons, List.foldl_nil, fst]; rw [if_neg (by omega)]
      · rfl
    rw [e1]
    simp only [List.foldl_cons, List.foldl_nil, fst]
    rw [if_neg (by omega)]
    exact fold_filter (fun s _ hs => by simp; omega) _
  · by_cases h2 : (v : Int) < b
    · rw [show ndOf l a b node v = node from if_pos ⟨by omega, h2⟩, hlate _ (by omega)]
      have e1 : ∀ n : Int, (if b < size then [(b, find l b)] else []).foldl (fst (v : Int)) n = n := fun n => by
        split
        · simp only [List.foldl_cons, List.foldl_nil, fst]; rw [if_neg (by omega)]
        · rfl
      rw [e1]
      simp only [List.foldl_cons, List.foldl_nil, fst]
      rw [if_pos (by omega)]
    · rw [show ndOf l a b node v = find l v from if_neg (by omega), if_pos (by omega)]
      simp only [List.foldl_cons, List.foldl_nil]
      have e0 : fst (v : Int) (fst (v : Int) (find (l.filter fun s => decide (s.1 < a)) v) (a, node)) (b, find l b) = find l b := by simp only [fst]; rw [if_pos (by omega)]
      rw [e0]
      have hs := rise_split (snd_rise h) b
      have e2 : find l v = (l.filter (fun s => decide (b < s.1))).foldl (fst (v : Int)) (find (l.filter (fun s => decide (s.1 ≤ b))) v) := by
        conv => lhs; rw [hs]
        rw [find_append]
      rw [e2]
      congr 1
      have e3 : find (l.filter (fun s => decide (s.1 ≤ b))) (v : Int) = find (l.filter (fun s => decide (s.1 ≤ b))) b := fold_all (fun s hs => by have := (List.mem_filter.1 hs).2; simp at this; omega) _
      rw [e3]
      exact (fold_filter (fun s _ hs => by simpa using hs) _).symm
theorem pre_brk {l : List Sp} {size nodes a b node : Int} (h : Snd l size nodes) (ha : 0 ≤ a) (hab : a < b) (hb : b ≤ size) (hn : 0 ≤ node) : Brk (preOf l size a b node) size := by
  have hr := snd_rise h
  refine ⟨?_, ?_, fun s hs => ?_, fun s hs => ?_⟩
  · unfold preOf
    refine List.pairwise_append.2 ⟨List.pairwise_append.2 ⟨List.pairwise_append.2 ⟨hr.filter _, by simp, fun s hs t ht => ?_⟩, ?_, fun s hs t ht => ?_⟩, hr.filter _, fun s hs t ht => ?_⟩
    · have := (List.mem_filter.1 hs).2
      simp at this ht; subst ht; exact this
    · split <;> simp
    · split at ht
      · simp at ht; subst ht
        rcases List.mem_append.1 hs with hs | hs
        · have := (List.mem_filter.1 hs).2; simp at this; dsimp only; omega
        · simp at hs; subst hs; exact hab
      · simp at ht
    · have ht := (List.mem_filter.1 ht).2
      simp at ht
      rcases List.mem_append.1 hs with hs | hs
      · rcases List.mem_append.1 hs with hs | hs
        · have := (List.mem_filter.1 hs).2; simp at this; omega
        · simp at hs; subst hs; dsimp only; omega
      · split at hs
        · simp at hs; subst hs; exact ht
        · simp at hs
  · unfold preOf
    obtain ⟨x, M, e⟩ := snd_zero h
    by_cases h0 : 0 < a
    · rw [e, List.filter_cons_of_pos (by simpa using h0)]
      exact ⟨x, _, rfl⟩
    · have ha0 : a = 0 := by omega
      subst ha0
      have e1 : l.filter (fun s => decide (s.1 < 0)) = [] := by
        rw [List.filter_eq_nil_iff]
        intro t ht
        have := (snd_mem h ht).1
        simp; omega
      rw [e1]
      exact ⟨node, _, rfl⟩
  · unfold preOf at hs
    rcases List.mem_append.1 hs with hs | hs
    · rcases List.mem_append.1 hs with hs | hs
      · rcases List.mem_append.1 hs with hs | hs
        · exact (snd_mem h (List.mem_filter.1 hs).1).2.1
        · simp at hs; subst hs; dsimp only; omega
      · split at hs
        · simp at hs; subst hs; assumption
        · simp at hs
    · exact (snd_mem h (List.mem_filter.1 hs).1).2.1
  · have hz : ∀ s ∈ l, s.2 ≠ -1 := fun s hs => by have := (snd_mem h hs).2.2.1; omega
    unfold preOf at hs
    rcases List.mem_append.1 hs with hs | hs
    · rcases List.mem_append.1 hs with hs | hs
      · rcases List.mem_append.1 hs with hs | hs
        · exact hz s (List.mem_filter.1 hs).1
        · simp at hs; subst hs; dsimp only; omega
      · split at hs
        · simp at hs; subst hs; have := (find_in_range (v := b) h (by omega)).1; dsimp only; omega
        · simp at hs
    · exact hz s (List.mem_filter.1 hs).1
/-- What the program lays, those side by side of one node as one, are the runs of the document's. -/
theorem glue_pre {l : List Sp} {size nodes a b node : Int} (h : Snd l size nodes) (ha : 0 ≤ a) (hab : a < b) (hb : b ≤ size) (hn : 0 ≤ node) : glue (preOf l size a b node) = (runs (ndOf l a b node) size.toNat).1 := by
  have hsz : ((size.toNat : Nat) : Int) = size := Int.toNat_of_nonneg (by omega)
  have hbk := pre_brk h ha hab hb hn
  rw [← hsz] at hbk
  have := runs_glue _ _ (List.reverse_reverse _).symm size.toNat hbk
  have hc := runs_congr (f := fun v => find (preOf l ↑size.toNat a b node) v) (g := ndOf l a b node) (n := size.toNat) (fun v hv => by
    rw [hsz]; exact find_pre h hab (by omega))
  rw [← hc, this, hsz]
/-- Are they the node's alone? -/
theorem nodes_one {l : List Sp} {size nodes a b node : Int} (h : Snd l size nodes) (ha : 0 ≤ a) (hab : a < b) (hb : b ≤ size) (hs : size ≤ 10000) : nodesOf l a b = [node] ↔ ¬ Other l a b node size.toNat := by
  have hlo : lo0 a = a := by unfold lo0; split <;> omega
  have hhi : hi0 b = b := by unfold hi0; split <;> omega
  have hmem : ∀ x, x ∈ nodesOf l a b ↔ ∃ v : Nat, v < size.toNat ∧ a ≤ (v : Int) ∧ (v : Int) < b ∧ find l v = x := by
    intro x
    unfold nodesOf
    rw [nodesTo_mem, hlo, hhi]
    unfold anyN
    simp only [List.any_eq_true, List.mem_range, beq_iff_eq]
    constructor
    · rintro ⟨_, _, k, hk, he⟩
      exact ⟨(a + k).toNat, by omega, by omega, by omega, by rw [Int.toNat_of_nonneg (by omega)]; exact he⟩
    · rintro ⟨v, h1, h2, h3, rfl⟩
      obtain ⟨g1, g2, _⟩ := find_in_range (v := (v : Int)) h (by omega)
      exact ⟨g1, by omega, (v - a).toNat, by omega, by congr 1; omega⟩
  constructor
  · rintro he ⟨v, h1, h2, h3, h4⟩
    have := (hmem (find l v)).2 ⟨v, h1, h2, h3, rfl⟩
    rw [he] at this
    simp at this
    exact h4 this
  · intro hno
    have hall : ∀ x ∈ nodesOf l a b, x = node := by
      intro x hx
      obtain ⟨v, h1, h2, h3, rfl⟩ := (hmem x).1 hx
      exact Decidable.byContradiction fun h4 => hno ⟨v, h1, h2, h3, h4⟩
    have hin : node ∈ nodesOf l a b := by
      refine (hmem node).2 ⟨a.toNat, by omega, by omega, by omega, ?_⟩
      exact Decidable.byContradiction fun h4 => hno ⟨a.toNat, by omega, by omega, by omega, h4⟩
    have hsrt := nodesTo_sorted l a b 6
    change (nodesOf l a b).Pairwise _ at hsrt
    match hL : nodesOf l a b with
    | [] => rw [hL] at hin; cases hin
    | [x] => rw [hall x (by rw [hL]; simp)]
    | x :: y :: r =>
      rw [hL] at hsrt
      have h1 := (List.pairwise_cons.1 hsrt).1 y (by simp)
      have h2 := hall x (by rw [hL]; simp)
      have h3 := hall y (by rw [hL]; simp)
      omega
end Go.Proofs.Ytecpiplfjmmccaa.AM

/-
  A tracked slice that never turns again: told by its rows; tracked memory told of less, ahead of a call and behind it.
  No program in sight. Conditions: none.
-/
namespace Go.Proofs.Ytecpiplfjmmccaa.AM
open Go

/-- A value in which the slices of the block id are told by their rows. -/
inductive Fz (id z : Nat) (l : List (List AV)) : AV → AV → Prop where
  | refl (x : AV) : Fz id z l x x
  | ms (off len : Nat) (h : off + len ≤ l.length) : Fz id z l (.ms z id off len) (.sl z ((l.drop off).take len) none)
  | agg (cs cs' : List AV) (f : Nat → AV) (hl : cs'.length = cs.length) (hc : ∀ (j : Nat) x, cs'[j]? = some x → cs[j]? = some (f j)) (h1 : ∀ (j : Nat) x, cs'[j]? = some x → x.one = true) (h : ∀ (j : Nat) x, cs'[j]? = some x → Fz id z l (f j) x) : Fz id z l (.agg cs) (.agg cs')
  | tup (cs cs' : List AV) (f : Nat → AV) (hl : cs'.length = cs.length) (hc : ∀ (j : Nat) x, cs'[j]? = some x → cs[j]? = some (f j)) (h : ∀ (j : Nat) x, cs'[j]? = some x → Fz id z l (f j) x) : Fz id z l (.tup cs) (.tup cs')

theorem Fz.rep {id z : Nat} {l : List (List AV)} {G G' : Gh} {w : World} (hle : Le G w G' w) (hz : 0 < z) (hk : ∀ r ∈ l, r.length = z) (hone : ∀ i j x, cellAt l i j = some x → x.one = true)
    (hmb : ∀ b z', G.mb id = some (b, z') → l.length * z ≤ G'.imm b ∧ ∃ vs e, w.heap[b]? = some (.cells vs e (0, 0)) ∧ l.length * z ≤ vs.size ∧ ∀ i j x, cellAt l i j = some x → RepU G w x (vs.getD (i * z + j) Go.undef)) {x y : AV} (h : Fz id z l x y) : ∀ {v : Value}, Rep G w x v → Rep G' w y v := by
  induction h with
  | refl x => intro v hr; exact hr.mono hle
  | ms off len hlen =>
    intro v hr
    cases hr with
    | ms _ _ _ _ c A hlc hc hsh =>
    have hnl : ((l.drop off).take len).length = len := by simp; omega
    rcases Nat.eq_zero_or_pos len with h0 | h0
    · subst h0
      simp only [List.take_zero]
      exact .sl z [] none A c 0 0 (fun _ _ => Go.undef) hz (Nat.zero_le _) hc (fun r hr => nomatch hr) (.inl ⟨rfl, .inl rfl⟩) (fun i j x hx => by simp [cellAt] at hx) (fun i j x hx => by simp [cellAt] at hx) (fun i j x hx => by simp [cellAt] at hx)
    · rcases hsh with ⟨b, rfl, hm, e, hsh⟩ | hc0
      · obtain ⟨g1, vs, e', g2, g3, g4⟩ := hmb b z hm
        have hk' : ∀ r ∈ (l.drop off).take len, r.length = z := fun r hr => hk r (List.mem_of_mem_drop (List.mem_of_mem_take hr))
        have hsub : ∀ i j x, cellAt ((l.drop off).take len) i j = some x → cellAt l (off + i) j = some x := fun i j x hx => cellAt_sub hx
        have hmul : off * z + len * z ≤ l.length * z := by rw [← Nat.add_mul]; exact Nat.mul_le_mul_right z hlen
        conv => arg 4; rw [← hnl]
        refine .sl z _ none _ c b (off * z) (fun i j => vs.getD ((off + i) * z + j) Go.undef) hz (by rw [hnl]; exact hlc) hc hk' (.inr ⟨rfl, by rw [hnl]; omega, fun t e => nomatch e⟩) (fun i j x hx => ?_) (fun i j x hx => hone _ _ x (hsub i j x hx)) (fun i j x hx => ?_)
        · have hlt := cellAt_lt hk (hsub i j x hx)
          have := row_lt hlt.1 hlt.2
          rw [Nat.add_mul] at this
          have h2 := cell_row g2 (j := off * z + i * z + j) (by omega)
          rw [h2, Nat.add_mul]
        · rcases g4 _ _ x (hsub i j x hx) with rfl | ⟨_, h2⟩
          · have := hone _ _ _ (hsub i j _ hx); cases this
          · exact h2.mono hle
      · omega
  | agg cs cs' f hl hc h1 _ ih =>
    intro v hr
    cases hr with
    | agg _ vs hvl hv1 hvr => exact .agg cs' vs (by rw [hl]; exact hvl) h1 (fun i x hx => ih i x hx (hvr i (f i) (hc i x hx)))
  | tup cs cs' f hl hc _ ih =>
    intro v hr
    cases hr with
    | tup _ vs hvl hvr => exact .tup cs' vs (by rw [hl]; exact hvl) (fun i x hx => ih i x hx (hvr i (f i) (hc i x hx)))

/-- A call's answer, a tracked slice in it told by its rows. -/
theorem AC.frz {P : Program} {f : FuncId} {args : List AV} {H : AH} {Q : AV → AH → Prop} (h : AC P f args H fun r H' => Q r H' ∨ ∃ id z l r', H'.blks[id]? = some (.rows z l) ∧ (∀ i j x, cellAt l i j = some x → x.one = true) ∧ Fz id z l r r' ∧ Q r' (H'.upd id .dead)) : AC P f args H Q := by
  refine ⟨h.1, fun G w vs hH hr => (h.2 G w vs hH hr).mono ?_⟩
  rintro e w' ⟨r, cr, G', H', h1, h2, h3, h4, h5, h6 | ⟨id, z, l, r', g1, g2, g3, g4⟩⟩
  · exact ⟨r, cr, G', H', h1, h2, h3, h4, h5, h6⟩
  · rcases h3.at_ id _ g1 rfl with ⟨b, z', q1, ⟨q2, q3, vs', e', q4, q5, q6, q7⟩, _, _⟩ | ⟨q1, z', q2, q3⟩
    · subst q2
      obtain ⟨a1, a2, a3⟩ := eff_frz h3 g1 rfl q1 (l.length * z')
      refine ⟨r', cr, _, _, h1, ?_, a3, h4.trans a1, h5.trans a2, g4⟩
      refine g3.rep a1 q3 q5 g2 (fun b2 z2 hb2 => ?_) h2
      rw [q1] at hb2
      simp only [Option.some.injEq, Prod.mk.injEq] at hb2
      obtain ⟨rfl, rfl⟩ := hb2
      exact ⟨by simp [Gh.frz], vs', e', q4, q6, q7⟩
    · simp only [ABlk.rows.injEq] at q3
      obtain ⟨rfl, rfl⟩ := q3
      obtain ⟨a1, a2⟩ := eff_dead h3 id
      refine ⟨r', cr, _, _, h1, ?_, a2, h4, h5.trans a1, g4⟩
      exact g3.rep (Le.refl _ _) q2 (by simp) g2 (fun b2 z2 hb2 => by rw [q1] at hb2; cases hb2) h2

/-- Tracked memory told of less behind a call, and ahead of it. -/
theorem AC.leH {P : Program} {f : FuncId} {args : List AV} {H : AH} {Q : AV → AH → Prop} (h : AC P f args H fun r H' => ∃ H'', LeH H' H'' ∧ Q r H'') : AC P f args H Q := by
  refine ⟨h.1, fun G w vs hH hr => (h.2 G w vs hH hr).mono ?_⟩
  rintro e w' ⟨r, cr, G', H', h1, h2, h3, h4, h5, H'', h6, h7⟩
  obtain ⟨a1, a2⟩ := h6.sim h3
  exact ⟨r, cr, G', H'', h1, h2, a2, h4, h5.trans a1, h7⟩
theorem AC.leH_pre {P : Program} {f : FuncId} {args : List AV} {H H0 : AH} {Q : AV → AH → Prop} (hl : LeH H H0) (h : AC P f args H0 Q) : AC P f args H Q := by
  refine ⟨h.1, fun G w vs hH hr => ?_⟩
  obtain ⟨a1, a2⟩ := hl.sim hH
  refine (h.2 G w vs a2 hr).mono ?_
  rintro e w' ⟨r, cr, G', H', h1, h2, h3, h4, h5, h6⟩
  exact ⟨r, cr, G', H', h1, h2, h3, h4, a1.trans h5, h6⟩
/-- A pure function whose answer bears a tracked slice of its own. -/
theorem PC.of_frz {P : Program} {ty : Tr} (md : Nat → Nat) (qt : FuncId → Bool) (hty : TyOK P ty.get) (hmix : P.follows .mixedOrders = true) {f : FuncId} {fn : Func} {c : Code} (hf : P.funcs[f]? = some fn) (hname : (fn.name == "runtime.NumGoroutine") = false) (hb : fn.body = some c) {args : List AV} (hlen : Nat.ble args.length fn.ntmps = true)
    {Q : AV → Prop} (hp : ∀ x ∈ args, Pur x) (h : (∀ x ∈ args, Fit x) → vc P ty md qt c ⟨fn.ntmps, number 0 args, [], AH.none⟩ (retK ty fn fun r H' => (∃ r', Ws r r' ∧ Pur r' ∧ Q r') ∨ ∃ id z l r', H'.blks[id]? = some (.rows z l) ∧ (∀ i j x, cellAt l i j = some x → x.one = true) ∧ Fz id z l r r' ∧ Pur r' ∧ Q r')) : PC P f args Q := by
  refine ⟨hp, AC.given ⟨fn, c, hf, hname, hb⟩ fun hfit => AC.frz ((AC.of_vc hty hmix hf hname hb hlen (h hfit)).mono ?_)⟩
  rintro r H' (h | ⟨id, z, l, r', h1, h2, h3, h4, h5⟩)
  · exact .inl h
  · exact .inr ⟨id, z, l, r', h1, h2, h3, r', .refl _, h4, h5⟩
end Go.Proofs.Ytecpiplfjmmccaa.AM

/-
  Spans: glued and Split, walked.
  Conditions: none.
-/
namespace Go.Proofs.Ytecpiplfjmmccaa.AM
open Go
set_option maxRecDepth 20000

theorem f61_ok (H : AH) (id : Nat) (l : List Sp) (hl : H.blks[id]? = some (.rows 2 (l.map spR))) (hb : l.length ≤ 1000000000000) :
    AC Try.prog 61 [.ms 2 id 0 l.length] H fun r H' => r = .ms 2 id 0 (glue l).length ∧ H' = H.upd id (.rows 2 ((glue l).map spR)) := by
  refine AC.of_vc (md := fun | 1000000 => 1 | _ => 0) (qt := fun _ => false) ty_ok mix Try.func61 (by kernel_rfl) rfl (by kernel_rfl) ?_
  conv => whnf
  refine ⟨(f81_ok H id l hl hb).mono ?_⟩
  rintro r H' ⟨rfl, hH⟩
  rw [hH]
  conv => whnf
  exact ⟨rfl, rfl⟩

/-- What a slice under way holds. -/
def Way (H : AH) (id : Nat) (L : List Sp) : Prop := H.blks[id]? = some (.rows 2 (L.map spR))
theorem Way.snoc {H : AH} {id : Nat} {L : List Sp} (s : Sp) : Way ((H.upd id .dead).push (.rows 2 ((L.map spR).take L.length ++ [spR s]))) H.blks.length (L ++ [s]) := by
  unfold Way
  have : (H.upd id .dead).blks.length = H.blks.length := AH.upd_len
  rw [AH.push_at, if_pos this.symm, List.take_of_length_le (by simp)]
  simp
theorem sp_one {L : List Sp} : ∀ i j x, cellAt (L.map spR) i j = some x → x.one = true := by
  intro i j x hx
  obtain ⟨r, h1, h2⟩ := cellAt_some hx
  rw [List.getElem?_map] at h1
  obtain ⟨s, _, rfl⟩ := Option.map_eq_some_iff.1 h1
  match j, h2 with
  | 0, h2 => simp [spR] at h2; subst h2; rfl
  | 1, h2 => simp [spR] at h2; subst h2; rfl
theorem fz_split {id n : Nat} {e k : Int} {L : List Sp} (hn : n = L.length) : Fz id 2 (L.map spR) (.tup [.agg [.int .u32 e, .ms 2 id 0 n], .int .u16 k]) (.tup [mapV e L, .int .u16 k]) := by
  refine .tup _ _ (fun j => if j = 0 then .agg [.int .u32 e, .ms 2 id 0 n] else .int .u16 k) rfl (fun j x hx => ?_) (fun j x hx => ?_) <;> match j, hx with
  | 0, hx => simp at hx; subst hx; first | rfl | (
      refine .agg _ _ (fun j => if j = 0 then .int .u32 e else .ms 2 id 0 n) rfl (fun j x hx => ?_) (fun j x hx => ?_) (fun j x hx => ?_) <;> match j, hx with
      | 0, hx => simp at hx; subst hx; first | rfl | exact .refl _
      | 1, hx =>
        simp at hx; subst hx; first | rfl | (
          have := Fz.ms (id := id) (z := 2) (l := L.map spR) 0 n (by simp [hn])
          have e2 : ((L.map spR).drop 0).take n = L.map spR := by rw [hn, List.drop_zero, List.take_of_length_le (by simp)]
          rw [e2] at this
          exact this))
  | 1, hx => simp at hx; subst hx; first | rfl | exact .refl _

theorem f22_ok (e : Int) (l : List Sp) (size nodes a b node : Int) : PC Try.prog 22 [mapV e l, .int .i64 size, .int .i64 nodes, .int .i64 a, .int .i64 b, .int .i64 node] fun r =>
    r = .tup [mapV (splitOf e l size nodes a b node).1 (splitOf e l size nodes a b node).2.1, .int .u16 (splitOf e l size nodes a b node).2.2] := by
  refine PC.of_frz (fun | 75 => 2 | 82 => 2 | 93 => 2 | 108 => 2 | 1000000 => 1 | _ => 0) (fun | 61 => false | _ => true) ty_ok mix Try.func22 (by kernel_rfl) rfl (by kernel_rfl) (pur2 (mapV_pur e l) (pur2 (.int _ _) (pur2 (.int _ _) (pur2 (.int _ _) (pur2 (.int _ _) (pur2 (.int _ _) pur0)))))) fun hf => ?_
  have bad : ∀ (H' : AH), ¬ (Valid l size nodes a b node ∧ Other l a b node size.toNat) → (fun r H' => (∃ r', Ws r r' ∧ Pur r' ∧ r' = .tup [mapV (splitOf e l size nodes a b node).1 (splitOf e l size nodes a b node).2.1, .int .u16 (splitOf e l size nodes a b node).2.2]) ∨
      ∃ id z L r', H'.blks[id]? = some (.rows z L) ∧ (∀ i j x, cellAt L i j = some x → x.one = true) ∧ Fz id z L r r' ∧ Pur r' ∧ r' = .tup [mapV (splitOf e l size nodes a b node).1 (splitOf e l size nodes a b node).2.1, .int .u16 (splitOf e l size nodes a b node).2.2]) (one? [AV.agg [.int .u32 0, .nils], .int .u16 120]) H' := fun H' h =>
    .inl ⟨_, ws_tup2 (ws_nilV 0) (.refl _), pur_tup2 (mapV_pur _ _) (.int _ _), by unfold splitOf; rw [if_neg h]⟩
  have hla := mapV_len (e := e) (l := l) (hf _ (by simp))
  conv => whnf
  refine (f25_ok e l size nodes).quiet (Wss.refl _) ?_
  rintro r ⟨s, rfl, hs⟩
  conv => whnf
  refine bsp_intro ?_ ?_
  · intro h
    have h : ¬ Snd l size nodes := fun h' => by rw [hs.2 h'] at h; cases h
    conv => whnf
    exact bad _ fun hv => h hv.1.1
  intro h
  have hsnd : Snd l size nodes := hs.1 (by simpa using h)
  conv => whnf
  refine bsp_intro ?_ ?_
  · intro h
    have h := of_decide_eq_true h
    conv => whnf
    exact bad _ fun hv => by have := hv.1.2.2.2.2.2.2.2; omega
  intro h
  have hv6 := of_decide_eq_false h
  conv => whnf
  refine bsp_intro ?_ ?_
  · intro h
    have h := of_decide_eq_true h
    conv => whnf
    exact bad _ fun hv => by have := hv.1.2.1; omega
  intro h
  have hv1 := of_decide_eq_false h
  conv => whnf
  refine bsp_intro ?_ ?_
  · intro h
    have h := of_decide_eq_true h
    conv => whnf
    exact bad _ fun hv => by have := hv.1.2.2.1; omega
  intro h
  have hv2 := of_decide_eq_false h
  conv => whnf
  refine bsp_intro ?_ ?_
  · intro h
    have h := of_decide_eq_true h
    conv => whnf
    exact bad _ fun hv => by have := hv.1.2.2.2.1; omega
  intro h
  have hv3 := of_decide_eq_false h
  conv => whnf
  refine bsp_intro ?_ ?_
  · intro h
    have h := of_decide_eq_true h
    conv => whnf
    exact bad _ fun hv => by have := hv.1.2.2.2.2.1; omega
  intro h
  have hv4 := of_decide_eq_false h
  conv => whnf
  refine bsp_intro ?_ ?_
  · intro h
    have h := min_ge (of_decide_eq_true h)
    conv => whnf
    exact bad _ fun hv => by have := hv.1.2.2.2.2.2; omega
  intro h
  have hv5 := min_lt (of_decide_eq_false h)
  have hvalid : Valid l size nodes a b node := ⟨hsnd, by omega, by omega, by omega, by omega, hv5.1, hv5.2, by omega⟩
  have hll : l.length ≤ 40 := hsnd.2.1
  conv => whnf
  refine (f20_ok e l a b).quiet (Wss.refl _) ?_
  rintro r rfl
  conv => whnf
  refine (f60_ok (nodesOf l a b) [node]).quiet (Wss.refl _) ?_
  rintro r rfl
  have hone := nodes_one (node := node) hsnd (by omega) (by omega : a < b) (by omega : b ≤ size) (by omega)
  conv => whnf
  refine bsp_intro ?_ ?_
  · intro h
    have h := of_decide_eq_true h
    conv => whnf
    exact bad _ fun hv => hone.1 h hv.2
  intro h
  have hoth : Other l a b node size.toNat := by
    have h := of_decide_eq_false h
    exact Classical.byContradiction fun hn => h (hone.2 hn)
  conv => whnf
  refine ⟨Nat × AH × Nat × List Sp, fun p => ⟨121, [(6, .lptr 6 0), (12, .lptr 12 0), (1, .int .i64 size), (3, .int .i64 a), (4, .int .i64 b), (5, .int .i64 node), (13, .int .u16 0), (14, .ms 2 p.2.2.1 0 p.2.2.2.length), (62, spS l), (63, .int .i64 l.length), (64, .int .i64 p.1)],
      [(6, [.int .u32 e, spS l]), (12, [.int .u32 0, .nils])], p.2.1⟩, fun p => p.1 ≤ l.length ∧ p.2.2.2 = ((l.take p.1).filter fun s => decide (s.1 < a)) ∧ Way p.2.1 p.2.2.1 p.2.2.2, fun p => l.length - p.1, ⟨(0, AH.none.push (.rows 2 []), 0, []), ⟨Nat.zero_le _, rfl, rfl⟩, rfl, ?_, ?_, .empty 2 (by omega)⟩, ?_⟩
  · refine leT_cons (Wk.refl _) (leT_cons (Wk.refl _) (leT_cons (Wk.refl _) (leT_cons (Wk.refl _) (leT_cons (Wk.refl _) (leT_cons (Wk.refl _) (leT_cons (Wk.refl _) (leT_cons (.nilms 2 0) (leT_cons (Wk.refl _) (leT_cons (Wk.int ?_) (leT_cons (Wk.refl _) (leT_nil)))))))))))
    simp
  · refine leL_cons rfl (leC_refl _) (leL_cons rfl (leC_refl _) (leL_nil))
  rintro ⟨i, H, id, L⟩ ⟨hi, hL, hw⟩
  dsimp only at hi hL hw
  have hLl : L.length ≤ 40 := by rw [hL]; exact Nat.le_trans (List.length_filter_le _ _) (by simp; omega)
  conv => whnf
  refine bsp_intro ?_ ?_
  · intro h
    have hlt : i < l.length := by have := of_decide_eq_true h; omega
    have hstep : IntKind.i64.wrap ((i : Int) + 1) = ((i + 1 : Nat) : Int) := IntWalk.i64_in _ (by omega)
    conv => whnf
    refine ⟨_, by omega, rows_get hlt, ?_⟩
    conv => whnf
    refine bsp_intro ?_ ?_
    · intro h
      have h1 : l[i].1 < a := of_decide_eq_true h
      have hnx : L ++ [l[i]] = (l.take (i + 1)).filter (fun s => decide (s.1 < a)) := by rw [take_snoc hlt, List.filter_append, hL]; simp [h1]
      conv => whnf
      refine ⟨_, hw, ?_⟩
      conv => whnf
      refine ⟨(by dsimp only; simp; omega), ?_⟩
      conv => whnf
      refine ⟨(i + 1, _, H.blks.length, L ++ [l[i]]), ⟨by omega, hnx, Way.snoc (H := H) (id := id) (L := L) l[i]⟩, by dsimp only; omega, rfl, ?_, ?_, .refl _⟩
      · refine leT_cons (Wk.refl _) (leT_cons (Wk.refl _) (leT_cons (Wk.refl _) (leT_cons (Wk.refl _) (leT_cons (Wk.refl _) (leT_cons (Wk.refl _) (leT_cons (Wk.refl _) (leT_cons (.of ?_) (leT_cons (Wk.refl _) (leT_cons (Wk.refl _) (leT_cons (Wk.int ?_) (leT_nil)))))))))))
        · dsimp only
          rw [List.length_append]; rfl
        · exact hstep
      · refine leL_cons rfl (leC_refl _) (leL_cons rfl (leC_refl _) (leL_nil))
    · intro h
      have h1 : ¬ l[i].1 < a := of_decide_eq_false h
      have hnx : L = (l.take (i + 1)).filter (fun s => decide (s.1 < a)) := by rw [take_snoc hlt, List.filter_append, hL]; simp; omega
      conv => whnf
      refine ⟨(i + 1, H, id, L), ⟨by omega, hnx, hw⟩, by dsimp only; omega, rfl, ?_, ?_, .refl _⟩
      · refine leT_cons (Wk.refl _) (leT_cons (Wk.refl _) (leT_cons (Wk.refl _) (leT_cons (Wk.refl _) (leT_cons (Wk.refl _) (leT_cons (Wk.refl _) (leT_cons (Wk.refl _) (leT_cons (Wk.refl _) (leT_cons (Wk.refl _) (leT_cons (Wk.refl _) (leT_cons (Wk.int ?_) (leT_nil)))))))))))
        exact hstep
      · refine leL_cons rfl (leC_refl _) (leL_cons rfl (leC_refl _) (leL_nil))
  · intro h
    have hge : i = l.length := by have := of_decide_eq_false h; omega
    rw [hge, List.take_length] at hL
    clear hi
    conv => whnf
    refine ⟨_, hw, ?_⟩
    conv => whnf
    refine ⟨(by dsimp only; simp; omega), ?_⟩
    have hw2 := Way.snoc (H := H) (id := id) (L := L) (a, node)
    conv => whnf
    refine bsp_intro ?_ ?_
    · intro h
      have h7 : b < size := of_decide_eq_true h
      conv => whnf
      refine (f27_ok e l b).quiet (Wss.refl _) ?_
      rintro r rfl
      conv => whnf
      refine ⟨_, hw2, ?_⟩
      conv => whnf
      refine ⟨(by dsimp only; simp; omega), ?_⟩
      generalize hB0 : L ++ [(a, node)] = B0 at hw2
      have hw3 := Way.snoc (H := (H.upd id .dead).push (.rows 2 ((L.map spR).take L.length ++ [spR (a, node)]))) (id := H.blks.length) (L := B0) (b, find l b)
      have hB : B0 ++ [(b, find l b)] = (l.filter fun s => decide (s.1 < a)) ++ [(a, node)] ++ (if b < size then [(b, find l b)] else []) := by rw [if_pos h7, ← hB0, hL]
      have hB0l : L.length + 1 = B0.length := by rw [← hB0]; simp
      have hBl : (B0 ++ [(b, find l b)]).length = L.length + 1 + 1 := by rw [List.length_append, ← hB0l]; rfl
      rw [← hB0l] at hw3
      generalize B0 ++ [(b, find l b)] = B at hw3 hB hBl
      clear hw hL hw2
      conv => whnf
      refine ⟨Nat × AH × Nat × List Sp, fun p => ⟨121, [(6, .lptr 6 0), (12, .lptr 12 0), (4, .int .i64 b), (13, .int .u16 0), (14, .ms 2 p.2.2.1 0 p.2.2.2.length), (95, spS l), (96, .int .i64 l.length), (97, .int .i64 p.1)],
        [(6, [.int .u32 e, spS l]), (12, [.int .u32 0, .nils])], p.2.1⟩, fun p => p.1 ≤ l.length ∧ p.2.2.2 = B ++ ((l.take p.1).filter fun s => decide (b < s.1)) ∧ Way p.2.1 p.2.2.1 p.2.2.2, fun p => l.length - p.1, ⟨(0, _, _, B), ⟨Nat.zero_le _, by simp, hw3⟩, rfl, ?_, ?_, .refl _⟩, ?_⟩
      · refine leT_cons (Wk.refl _) (leT_cons (Wk.refl _) (leT_cons (Wk.refl _) (leT_cons (Wk.refl _) (leT_cons (.of ?_) (leT_cons (Wk.refl _) (leT_cons (Wk.int ?_) (leT_cons (Wk.refl _) (leT_nil))))))))
        · simp only [hBl]; rfl
        · simp
      · refine leL_cons rfl (leC_refl _) (leL_cons rfl (leC_refl _) (leL_nil))
      clear hw3
      rintro ⟨i, H, id, L⟩ ⟨hi, hL, hw⟩
      dsimp only at hi hL hw
      have hLl : L.length ≤ 100 := by
        rw [hL, List.length_append]
        have := List.length_filter_le (fun s : Sp => decide (b < s.1)) (l.take i)
        have h2 : (l.take i).length ≤ l.length := by simp; omega
        omega
      conv => whnf
      refine bsp_intro ?_ ?_
      · intro h
        have hlt : i < l.length := by have := of_decide_eq_true h; omega
        have hstep : IntKind.i64.wrap ((i : Int) + 1) = ((i + 1 : Nat) : Int) := IntWalk.i64_in _ (by omega)
        conv => whnf
        refine ⟨_, by omega, rows_get hlt, ?_⟩
        conv => whnf
        refine bsp_intro ?_ ?_
        · intro h
          have h1 : b < l[i].1 := of_decide_eq_true h
          have hnx : L ++ [l[i]] = B ++ (l.take (i + 1)).filter (fun s => decide (b < s.1)) := by rw [take_snoc hlt, List.filter_append, hL, List.append_assoc]; simp [h1]
          conv => whnf
          refine ⟨_, hw, ?_⟩
          conv => whnf
          refine ⟨(by dsimp only; simp; omega), ?_⟩
          conv => whnf
          refine ⟨(i + 1, _, H.blks.length, L ++ [l[i]]), ⟨by omega, hnx, Way.snoc (H := H) (id := id) (L := L) l[i]⟩, by dsimp only; omega, rfl, ?_, ?_, .refl _⟩
          · refine leT_cons (Wk.refl _) (leT_cons (Wk.refl _) (leT_cons (Wk.refl _) (leT_cons (Wk.refl _) (leT_cons (.of ?_) (leT_cons (Wk.refl _) (leT_cons (Wk.refl _) (leT_cons (Wk.int ?_) (leT_nil))))))))
            · dsimp only
              rw [List.length_append]; rfl
            · exact hstep
          · refine leL_cons rfl (leC_refl _) (leL_cons rfl (leC_refl _) (leL_nil))
        · intro h
          have h1 : ¬ b < l[i].1 := of_decide_eq_false h
          have hnx : L = B ++ (l.take (i + 1)).filter (fun s => decide (b < s.1)) := by rw [take_snoc hlt, List.filter_append, hL]; simp; omega
          conv => whnf
          refine ⟨(i + 1, H, id, L), ⟨by omega, hnx, hw⟩, by dsimp only; omega, rfl, ?_, ?_, .refl _⟩
          · refine leT_cons (Wk.refl _) (leT_cons (Wk.refl _) (leT_cons (Wk.refl _) (leT_cons (Wk.refl _) (leT_cons (Wk.refl _) (leT_cons (Wk.refl _) (leT_cons (Wk.refl _) (leT_cons (Wk.int ?_) (leT_nil))))))))
            exact hstep
          · refine leL_cons rfl (leC_refl _) (leL_cons rfl (leC_refl _) (leL_nil))
      · intro h
        have hge : i = l.length := by have := of_decide_eq_false h; omega
        rw [hge, List.take_length] at hL
        have hpre : L = preOf l size a b node := by rw [hL, hB]; rfl
        have hgl : glue L = (runs (ndOf l a b node) size.toNat).1 := by rw [hpre]; exact glue_pre hsnd (by omega) (by omega) (by omega) (by omega)
        clear hi
        conv => whnf
        refine ⟨(f61_ok H id L hw (by omega)).mono ?_⟩
        rintro r H' ⟨rfl, hH⟩
        rw [hH]
        clear hH H'
        conv => whnf
        refine bsp_intro ?_ ?_
        · intro h
          have h5 : 40 < (runs (ndOf l a b node) size.toNat).1.length := by have := of_decide_eq_true h; rw [← hgl]; omega
          conv => whnf
          exact .inl ⟨_, ws_tup2 (ws_nilV 0) (.refl _), pur_tup2 (mapV_pur _ _) (.int _ _), by unfold splitOf; rw [if_pos ⟨hvalid, hoth⟩, if_pos h5]⟩
        · intro h
          have h5 : ¬ 40 < (runs (ndOf l a b node) size.toNat).1.length := by have := of_decide_eq_false h; rw [← hgl]; omega
          conv => whnf
          refine .inr ⟨id, 2, _, _, AH.upd_same hw, sp_one, fz_split rfl, pur_tup2 (mapV_pur _ _) (.int _ _), ?_⟩
          unfold splitOf; rw [if_pos ⟨hvalid, hoth⟩, if_neg h5, hgl]
    · intro h
      have h7 : ¬ b < size := of_decide_eq_false h
      have hw3 := hw2
      have hB : L ++ [(a, node)] = (l.filter fun s => decide (s.1 < a)) ++ [(a, node)] ++ (if b < size then [(b, find l b)] else []) := by rw [if_neg h7, hL]; simp
      have hBl : (L ++ [(a, node)]).length = L.length + 1 := by simp
      generalize L ++ [(a, node)] = B at hw3 hB hBl
      clear hw hL hw2
      conv => whnf
      refine ⟨Nat × AH × Nat × List Sp, fun p => ⟨121, [(6, .lptr 6 0), (12, .lptr 12 0), (4, .int .i64 b), (13, .int .u16 0), (14, .ms 2 p.2.2.1 0 p.2.2.2.length), (95, spS l), (96, .int .i64 l.length), (97, .int .i64 p.1)],
        [(6, [.int .u32 e, spS l]), (12, [.int .u32 0, .nils])], p.2.1⟩, fun p => p.1 ≤ l.length ∧ p.2.2.2 = B ++ ((l.take p.1).filter fun s => decide (b < s.1)) ∧ Way p.2.1 p.2.2.1 p.2.2.2, fun p => l.length - p.1, ⟨(0, _, _, B), ⟨Nat.zero_le _, by simp, hw3⟩, rfl, ?_, ?_, .refl _⟩, ?_⟩
      · refine leT_cons (Wk.refl _) (leT_cons (Wk.refl _) (leT_cons (Wk.refl _) (leT_cons (Wk.refl _) (leT_cons (.of ?_) (leT_cons (Wk.refl _) (leT_cons (Wk.int ?_) (leT_cons (Wk.refl _) (leT_nil))))))))
        · simp only [hBl]; rfl
        · simp
      · refine leL_cons rfl (leC_refl _) (leL_cons rfl (leC_refl _) (leL_nil))
      clear hw3
      rintro ⟨i, H, id, L⟩ ⟨hi, hL, hw⟩
      dsimp only at hi hL hw
      have hLl : L.length ≤ 100 := by
        rw [hL, List.length_append]
        have := List.length_filter_le (fun s : Sp => decide (b < s.1)) (l.take i)
        have h2 : (l.take i).length ≤ l.length := by simp; omega
        omega
      conv => whnf
      refine bsp_intro ?_ ?_
      · intro h
        have hlt : i < l.length := by have := of_decide_eq_true h; omega
        have hstep : IntKind.i64.wrap ((i : Int) + 1) = ((i + 1 : Nat) : Int) := IntWalk.i64_in _ (by omega)
        conv => whnf
        refine ⟨_, by omega, rows_get hlt, ?_⟩
        conv => whnf
        refine bsp_intro ?_ ?_
        · intro h
          have h1 : b < l[i].1 := of_decide_eq_true h
          have hnx : L ++ [l[i]] = B ++ (l.take (i + 1)).filter (fun s => decide (b < s.1)) := by rw [take_snoc hlt, List.filter_append, hL, List.append_assoc]; simp [h1]
          conv => whnf
          refine ⟨_, hw, ?_⟩
          conv => whnf
          refine ⟨(by dsimp only; simp; omega), ?_⟩
          conv => whnf
          refine ⟨(i + 1, _, H.blks.length, L ++ [l[i]]), ⟨by omega, hnx, Way.snoc (H := H) (id := id) (L := L) l[i]⟩, by dsimp only; omega, rfl, ?_, ?_, .refl _⟩
          · refine leT_cons (Wk.refl _) (leT_cons (Wk.refl _) (leT_cons (Wk.refl _) (leT_cons (Wk.refl _) (leT_cons (.of ?_) (leT_cons (Wk.refl _) (leT_cons (Wk.refl _) (leT_cons (Wk.int ?_) (leT_nil))))))))
            · dsimp only
              rw [List.length_append]; rfl
            · exact hstep
          · refine leL_cons rfl (leC_refl _) (leL_cons rfl (leC_refl _) (leL_nil))
        · intro h
          have h1 : ¬ b < l[i].1 := of_decide_eq_false h
          have hnx : L = B ++ (l.take (i + 1)).filter (fun s => decide (b < s.1)) := by rw [take_snoc hlt, List.filter_append, hL]; simp; omega
          conv => whnf
          refine ⟨(i + 1, H, id, L), ⟨by omega, hnx, hw⟩, by dsimp only; omega, rfl, ?_, ?_, .refl _⟩
          · refine leT_cons (Wk.refl _) (leT_cons (Wk.refl _) (leT_cons (Wk.refl _) (leT_cons (Wk.refl _) (leT_cons (Wk.refl _) (leT_cons (Wk.refl _) (leT_cons (Wk.refl _) (leT_cons (Wk.int ?_) (leT_nil))))))))
            exact hstep
          · refine leL_cons rfl (leC_refl _) (leL_cons rfl (leC_refl _) (leL_nil))
      · intro h
        have hge : i = l.length := by have := of_decide_eq_false h; omega
        rw [hge, List.take_length] at hL
        have hpre : L = preOf l size a b node := by rw [hL, hB]; rfl
        have hgl : glue L = (runs (ndOf l a b node) size.toNat).1 := by rw [hpre]; exact glue_pre hsnd (by omega) (by omega) (by omega) (by omega)
        clear hi
        conv => whnf
        refine ⟨(f61_ok H id L hw (by omega)).mono ?_⟩
        rintro r H' ⟨rfl, hH⟩
        rw [hH]
        clear hH H'
        conv => whnf
        refine bsp_intro ?_ ?_
        · intro h
          have h5 : 40 < (runs (ndOf l a b node) size.toNat).1.length := by have := of_decide_eq_true h; rw [← hgl]; omega
          conv => whnf
          exact .inl ⟨_, ws_tup2 (ws_nilV 0) (.refl _), pur_tup2 (mapV_pur _ _) (.int _ _), by unfold splitOf; rw [if_pos ⟨hvalid, hoth⟩, if_pos h5]⟩
        · intro h
          have h5 : ¬ 40 < (runs (ndOf l a b node) size.toNat).1.length := by have := of_decide_eq_false h; rw [← hgl]; omega
          conv => whnf
          refine .inr ⟨id, 2, _, _, AH.upd_same hw, sp_one, fz_split rfl, pur_tup2 (mapV_pur _ _) (.int _ _), ?_⟩
          unfold splitOf; rw [if_pos ⟨hvalid, hoth⟩, if_neg h5, hgl]
end Go.Proofs.Ytecpiplfjmmccaa.AM

/-
  Spans: Parts, walked.
  Conditions: none.
-/
namespace Go.Proofs.Ytecpiplfjmmccaa.AM
open Go
set_option maxRecDepth 20000

theorem f31_ok (e : Int) (m : List Sp) (l : List Fc) (node : Int) (hl : FcOK l) : PC Try.prog 31 [mapV e m, factS l, .int .i64 node] fun r => r = factS (partsOf m l node) := by
  refine PC.of_vc (fun _ => 0) (fun _ => true) ty_ok mix Try.func31 (by kernel_rfl) rfl (by kernel_rfl) (pur2 (mapV_pur e m) (pur2 (factS_pur l) (pur2 (.int _ _) pur0))) fun hf => ?_
  have hla := factS_len (l := l) (hf _ (by simp))
  conv => whnf
  refine ⟨Nat, fun i => ⟨41, [(3, .lptr 3 0), (1, factS l), (2, .int .i64 node), (7, .sl 2 ((partsOf m (l.take i) node).map factR) (some 0)), (10, factS l), (11, .int .i64 l.length), (12, .int .i64 i)], [(3, [.int .u32 e, spS m])], ⟨[], [(2, ((partsOf m (l.take i) node).map factR).length)]⟩⟩, fun i => i ≤ l.length, fun i => l.length - i, ⟨0, by simp, rfl, ?_, ?_, .tips [2] rfl⟩, ?_⟩
  · refine leT_cons (Wk.refl _) (leT_cons (Wk.refl _) (leT_cons (Wk.refl _) (leT_cons (.nil 2 (some 0) (by omega)) (leT_cons (Wk.refl _) (leT_cons (Wk.int (by simp)) (leT_cons (Wk.refl _) (leT_nil)))))))
  · refine leL_cons rfl (leC_refl _) (leL_nil)
  intro i hi
  conv => whnf
  refine bsp_intro ?_ ?_
  · intro h
    have hlt : i < l.length := by simpa using h
    have hps := partsOf_snoc m (node := node) hlt
    have next : ∀ q, partsOf m [l[i]] node = q → partsOf m (l.take (i + 1)) node = partsOf m (l.take i) node ++ q := fun q h => by rw [hps, h]
    conv => whnf
    refine ⟨_, by omega, rows_get hlt, ?_⟩
    conv => whnf
    refine DrawVC.go [0, 1, 2, 3, 4, 5, 6, 7, 8, 9, 11, 10, 12, 13] (by kernel_rfl) ?_
    conv => whnf
    refine bsp_intro ?_ ?_
    · intro h1
      have hk : ∃ k ks, l[i].1 = k :: ks := by
        cases hc : l[i].1 with
        | nil => simp [hc] at h1
        | cons k ks => exact ⟨k, ks, rfl⟩
      obtain ⟨k, ks, hk⟩ := hk
      conv => whnf
      refine ⟨intR k, by omega, by simp [hk], ?_⟩
      conv => whnf
      refine (f27_ok e m k).quiet (Wss.refl _) ?_
      rintro r rfl
      conv => whnf
      have hp : partsOf m [l[i]] node = if find m k == node then [l[i]] else [] := by
        unfold partsOf
        rw [List.filter_cons, hk]
        rfl
      refine bsp_intro ?_ ?_
      · intro h2
        have hp2 := next _ (by rw [hp, if_pos h2])
        conv => whnf
        refine DrawVC.go [0, 1, 2, 4, 5, 3, 6, 7, 8, 9] (by kernel_rfl) ?_
        conv => whnf
        refine (f65_ok l[i].1 (hl.2 _ (List.getElem_mem hlt))).quiet (Wss.refl _) ?_
        rintro r rfl
        conv => whnf
        refine ⟨⟨rfl, ?_⟩, ?_⟩
        · have := partsOf_len m (l.take i) node
          have := hl.1
          simp at *
          omega
        conv => whnf
        refine ⟨i + 1, by omega, by dsimp only; omega, rfl, ?_, ?_, .tips [] ?_⟩
        · refine leT_cons (Wk.refl _) (leT_cons (Wk.refl _) (leT_cons (Wk.refl _) (leT_cons (Wk.rows ?_) (leT_cons (Wk.refl _) (leT_cons (Wk.refl _) (leT_cons (Wk.int ?_) (leT_nil)))))))
          · rw [hp2, List.map_append]; rfl
          · exact IntWalk.i64_in _ (by omega)
        · refine leL_cons rfl (leC_refl _) (leL_nil)
        · dsimp only; rw [hp2, List.map_append]; rfl
      · intro h2
        have hp2 := next _ (by rw [hp, if_neg (by simpa using h2)])
        rw [List.append_nil] at hp2
        conv => whnf
        refine ⟨i + 1, by omega, by dsimp only; omega, rfl, ?_, ?_, .tips [] ?_⟩
        · refine leT_cons (Wk.refl _) (leT_cons (Wk.refl _) (leT_cons (Wk.refl _) (leT_cons (Wk.rows ?_) (leT_cons (Wk.refl _) (leT_cons (Wk.refl _) (leT_cons (Wk.int ?_) (leT_nil)))))))
          · rw [hp2]
          · exact IntWalk.i64_in _ (by omega)
        · refine leL_cons rfl (leC_refl _) (leL_nil)
        · dsimp only; rw [hp2]; rfl
    · intro h1
      have hk : l[i].1 = [] := by simpa using h1
      have hp2 := next [] (by unfold partsOf; rw [List.filter_cons, hk]; rfl)
      rw [List.append_nil] at hp2
      conv => whnf
      refine ⟨i + 1, by omega, by dsimp only; omega, rfl, ?_, ?_, .tips [] ?_⟩
      · refine leT_cons (Wk.refl _) (leT_cons (Wk.refl _) (leT_cons (Wk.refl _) (leT_cons (Wk.rows ?_) (leT_cons (Wk.refl _) (leT_cons (Wk.refl _) (leT_cons (Wk.int ?_) (leT_nil)))))))
        · rw [hp2]
        · exact IntWalk.i64_in _ (by omega)
      · refine leL_cons rfl (leC_refl _) (leL_nil)
      · dsimp only; rw [hp2]; rfl
  · intro h
    have hge : l.length ≤ i := by simpa using h
    conv => whnf
    rw [List.take_of_length_le hge]
    exact ⟨_, ws_factS _ _, factS_pur _, rfl⟩
end Go.Proofs.Ytecpiplfjmmccaa.AM

/-
  Spans: the chapter's example, walked.
  Conditions: none.
-/
namespace Go.Proofs.Ytecpiplfjmmccaa.AM
open Go
set_option maxRecDepth 20000

theorem split_eq {e : Int} {l : List Sp} {size nodes a b node : Int} (hv : Valid l size nodes a b node) (ho : Other l a b node size.toNat) (hg : (glue (preOf l size a b node)).length ≤ 40) : splitOf e l size nodes a b node = (IntKind.u32.wrap (e + 1), glue (preOf l size a b node), 0) := by
  have := glue_pre (l := l) (size := size) (nodes := nodes) (a := a) (b := b) (node := node) hv.1 hv.2.1 hv.2.2.1 hv.2.2.2.1 hv.2.2.2.2.1
  unfold splitOf
  rw [if_pos ⟨hv, ho⟩, if_neg (by rw [← this]; omega), ← this]
theorem known_split : splitOf 1 [(0, 0)] 100 2 30 60 1 = (2, [(0, 0), (30, 1), (60, 0)], 0) := by
  have h1 : Snd [(0, 0)] 100 2 := ⟨by simp, by simp, fun i h => by
    have : i = 0 := by simp at h; exact h
    subst this
    exact ⟨by simp, by simp, by simp, by simp, fun _ => rfl, fun h => by omega⟩⟩
  have h2 : glue (preOf [(0, 0)] 100 30 60 1) = [(0, 0), (30, 1), (60, 0)] := by decide
  rw [split_eq ⟨h1, by decide, by decide, by decide, by decide, by decide, by decide, by decide⟩ ⟨30, by decide, by decide, by decide, by decide⟩ (by rw [h2]; decide), h2]
  rfl
theorem known_nodes : nodesOf [(0, 0), (30, 1), (60, 0)] 0 100 = [0, 1] := by kernel_rfl
theorem known_snd : Snd [(0, 0), (30, 1), (60, 0)] 100 2 := ⟨by simp, by simp, fun i h => by
  have h3 : i = 0 ∨ i = 1 ∨ i = 2 := by simp at h; omega
  rcases h3 with rfl | rfl | rfl
  · exact ⟨by simp, by simp, by simp, by simp, fun _ => rfl, fun h => by omega⟩
  · exact ⟨by simp, by simp, by simp, by simp, fun h => by omega, fun _ => ⟨by simp, by simp⟩⟩
  · exact ⟨by simp, by simp, by simp, by simp, fun h => by omega, fun _ => ⟨by simp, by simp⟩⟩⟩

theorem f21_ok : PC Try.prog 21 [] fun r => r = .bool true := by
  refine PC.of_vc (fun _ => 0) (fun _ => true) ty_ok mix Try.func21 (by kernel_rfl) rfl (by kernel_rfl) pur0 fun hf => ?_
  conv => whnf
  refine f49_ok.quiet (Wss.refl _) ?_
  rintro r rfl
  conv => whnf
  refine (f22_ok 1 [(0, 0)] 100 2 30 60 1).quiet (Wss.refl _) ?_
  rw [known_split]
  rintro r rfl
  conv => whnf
  refine (f20_ok 2 [(0, 0), (30, 1), (60, 0)] 0 100).quiet (Wss.refl _) ?_
  rw [known_nodes]
  rintro r rfl
  conv => whnf
  refine ⟨_, by omega, rfl, ?_⟩
  conv => whnf
  refine ⟨_, by omega, rfl, ?_⟩
  conv => whnf
  refine (f27_ok 2 [(0, 0), (30, 1), (60, 0)] 59).quiet (Wss.refl _) ?_
  rintro r rfl
  conv => whnf
  refine (f27_ok 2 [(0, 0), (30, 1), (60, 0)] 60).quiet (Wss.refl _) ?_
  rintro r rfl
  conv => whnf
  refine (f25_ok 2 [(0, 0), (30, 1), (60, 0)] 100 2).quiet (Wss.refl _) ?_
  rintro r ⟨b, rfl, hb⟩
  have hb := hb.2 known_snd
  subst hb
  conv => whnf
  refine (f23_ok 2 [(0, 0), (30, 1), (60, 0)] 2 [(0, 0), (30, 1), (60, 0)]).quiet (Wss.refl _) ?_
  rintro r rfl
  conv => whnf
  refine (f31_ok 2 [(0, 0), (30, 1), (60, 0)] [([31], 0)] 1 ⟨by simp, by simp⟩).quiet (Wss.refl _) ?_
  rintro r rfl
  conv => whnf
  exact fin (.bool _) rfl
end Go.Proofs.Ytecpiplfjmmccaa.AM

/-
  Spans: what runs and splits come to. Plain.
  Conditions: the map is sound.
-/
namespace Go.Proofs.Ytecpiplfjmmccaa.AM
open Go

theorem runs_find {f : Nat → Int} : ∀ (n : Nat), (∀ s ∈ (runs f n).1, 0 ≤ s.1 ∧ s.1 < n) ∧ (∀ v : Nat, v < n → find (runs f n).1 v = f v) ∧ ∀ v : Int, (n : Int) - 1 ≤ v → find (runs f n).1 v = (runs f n).2
  | 0 => ⟨by simp [runs], by simp, fun v _ => rfl⟩
  | n + 1 => by
    obtain ⟨h1, h2, h3⟩ := runs_find (f := f) n
    unfold runs
    split
    · rename_i hne
      refine ⟨fun s hs => ?_, fun v hv => ?_, fun v hv => ?_⟩
      · rcases List.mem_append.1 hs with hs | hs
        · have := h1 s hs; omega
        · simp at hs; subst hs; dsimp only; omega
      · dsimp only
        rw [find_append]
        simp only [List.foldl_cons, List.foldl_nil, fst]
        by_cases hvn : v = n
        · subst hvn; rw [if_pos (by omega)]
        · rw [if_neg (by omega)]; exact h2 v (by omega)
      · dsimp only
        rw [find_append]
        simp only [List.foldl_cons, List.foldl_nil, fst]
        rw [if_pos (by omega)]
    · rename_i he
      have he : f n = (runs f n).2 := by simpa using he
      refine ⟨fun s hs => by have := h1 s hs; omega, fun v hv => ?_, fun v hv => h3 v (by omega)⟩
      by_cases hvn : v = n
      · subst hvn; rw [h3 _ (by omega), he]
      · exact h2 v (by omega)
theorem runs_chain {f : Nat → Int} : ∀ (n : Nat), (∀ (i : Nat) (h : i < (runs f n).1.length), (runs f n).1[i].2 = f (runs f n).1[i].1.toNat ∧ (i = 0 → f 0 ≠ -1 → (runs f n).1[i].1 = 0) ∧ (∀ h' : 0 < i, (runs f n).1[i - 1].1 < (runs f n).1[i].1 ∧ (runs f n).1[i].2 ≠ (runs f n).1[i - 1].2)) ∧
    (∀ h : 0 < (runs f n).1.length, (runs f n).1[(runs f n).1.length - 1].2 = (runs f n).2) ∧ (0 < n → f 0 ≠ -1 → 0 < (runs f n).1.length) ∧ ((runs f n).1.length = 0 → (runs f n).2 = -1)
  | 0 => ⟨fun i h => by simp [runs] at h, fun h => by simp [runs] at h, fun h => by omega, fun _ => rfl⟩
  | n + 1 => by
    obtain ⟨h1, h2, h3, h4⟩ := runs_chain (f := f) n
    obtain ⟨k1, _, _⟩ := runs_find (f := f) n
    unfold runs
    split
    · rename_i hne
      refine ⟨fun i h => ?_, fun h => ?_, fun _ _ => by simp, fun h => by simp at h⟩
      · dsimp only at h ⊢
        simp only [List.length_append, List.length_singleton] at h
        rcases Nat.lt_or_ge i (runs f n).1.length with hi | hi
        · have e1 : ((runs f n).1 ++ [((n : Int), f n)])[i]'(by simp; omega) = (runs f n).1[i] := List.getElem_append_left hi
          rw [e1]
          refine ⟨(h1 i hi).1, (h1 i hi).2.1, fun h' => ?_⟩
          have e2 : ((runs f n).1 ++ [((n : Int), f n)])[i - 1]'(by simp; omega) = (runs f n).1[i - 1] := List.getElem_append_left (by omega)
          rw [e2]
          exact (h1 i hi).2.2 h'
        · have hi' : i = (runs f n).1.length := by omega
          subst hi'
          have e1 : ((runs f n).1 ++ [((n : Int), f n)])[(runs f n).1.length]'(by simp) = ((n : Int), f n) := by simp
          rw [e1]
          refine ⟨by simp, fun h0 hf => ?_, fun h' => ?_⟩
          · rcases Nat.eq_zero_or_pos n with hn | hn
            · subst hn; rfl
            · have := h3 hn hf; omega
          · have hl := h2 h'
            have e2 : ((runs f n).1 ++ [((n : Int), f n)])[(runs f n).1.length - 1]'(by simp; omega) = (runs f n).1[(runs f n).1.length - 1] := List.getElem_append_left (by omega)
            rw [e2]
            refine ⟨(k1 _ (List.getElem_mem _)).2, ?_⟩
            rw [hl]; exact hne
      · simp
    · rename_i he
      have he : f n = (runs f n).2 := by simpa using he
      refine ⟨h1, h2, fun _ hf => ?_, h4⟩
      rcases Nat.eq_zero_or_pos n with hn | hn
      · subst hn
        simp only [runs] at he
        exact absurd he hf
      · exact h3 hn hf
theorem runs_snd {f : Nat → Int} {n : Nat} {nodes : Int} (hn : 0 < n) (hf : ∀ v, v < n → 0 ≤ f v ∧ f v < nodes ∧ f v < 6) (hl : (runs f n).1.length ≤ 40) : Snd (runs f n).1 n nodes := by
  obtain ⟨h1, h2, h3, _⟩ := runs_chain (f := f) n
  obtain ⟨k1, _, _⟩ := runs_find (f := f) n
  have h0 : f 0 ≠ -1 := by have := (hf 0 hn).1; omega
  refine ⟨h3 hn h0, hl, fun i h => ?_⟩
  obtain ⟨a1, a2, a3⟩ := h1 i h
  obtain ⟨b1, b2⟩ := k1 _ (List.getElem_mem h)
  have := hf (runs f n).1[i].1.toNat (by omega)
  rw [← a1] at this
  exact ⟨this.1, this.2.1, this.2.2, b2, fun e => a2 e h0, a3⟩
theorem snd_brk {l : List Sp} {size nodes : Int} (h : Snd l size nodes) : Brk l size :=
  ⟨snd_rise h, snd_zero h, fun s hs => (snd_mem h hs).2.1, fun s hs => by have := (snd_mem h hs).2.2.1; omega⟩
theorem glue_snd {l : List Sp} {size nodes : Int} (h : Snd l size nodes) : glue l = l := by
  have key : ∀ i, i ≤ l.length → glueTo l i = l.take i := by
    intro i
    induction i with
    | zero => intro _; rfl
    | succ i ih =>
      intro hi
      rcases Nat.eq_zero_or_pos i with h0 | h0
      · subst h0; exact glueTo_one (by omega)
      · rw [glueTo_keep (by omega) h0 ((h.2.2 i (by omega)).2.2.2.2.2 h0).2, ih (by omega), take_snoc (by omega)]
  have := key l.length (Nat.le_refl _)
  rwa [List.take_length] at this
/-- A sound map is its own runs. -/
theorem runs_self {l : List Sp} {size nodes : Int} (h : Snd l size nodes) : (runs (fun v => find l v) size.toNat).1 = l := by
  have h1 := (snd_mem h (s := l[0]'(by have := h.1; omega)) (List.getElem_mem _))
  have hsz : ((size.toNat : Nat) : Int) = size := Int.toNat_of_nonneg (by omega)
  have hb := snd_brk h
  rw [← hsz] at hb
  rw [runs_glue _ _ (List.reverse_reverse _).symm size.toNat hb, glue_snd h]

theorem nd_range {l : List Sp} {size nodes a b node : Int} (h : Snd l size nodes) (hn : 0 ≤ node ∧ node < nodes ∧ node < 6) (v : Nat) : 0 ≤ ndOf l a b node v ∧ ndOf l a b node v < nodes ∧ ndOf l a b node v < 6 := by
  unfold ndOf
  split
  · exact hn
  · have := find_in_range (v := (v : Int)) h (by omega)
    omega
/-- A split that is done. -/
theorem split_snd {l : List Sp} {e size nodes a b node : Int} (hv : Valid l size nodes a b node) (h0 : (splitOf e l size nodes a b node).2.2 = 0) :
    splitOf e l size nodes a b node = (IntKind.u32.wrap (e + 1), (runs (ndOf l a b node) size.toNat).1, 0) ∧ Other l a b node size.toNat ∧ Snd (runs (ndOf l a b node) size.toNat).1 size nodes := by
  unfold splitOf at h0 ⊢
  split at h0
  · rename_i h
    rw [if_pos h]
    split at h0
    · cases h0
    · rename_i hl
      rw [if_neg hl]
      refine ⟨rfl, h.2, ?_⟩
      have hs := hv.2.2
      have hsz : ((size.toNat : Nat) : Int) = size := Int.toNat_of_nonneg (by have := hv.2.1; omega)
      have := runs_snd (f := ndOf l a b node) (n := size.toNat) (nodes := nodes) (by have := hv.2.1; omega) (fun v _ => nd_range hv.1 ⟨hs.2.2.1, hs.2.2.2.1, hs.2.2.2.2.1⟩ v) (by omega)
      rwa [hsz] at this
  · cases h0
theorem split_err {l : List Sp} {e size nodes a b node : Int} (hv : Valid l size nodes a b node) (h0 : (splitOf e l size nodes a b node).2.2 ≠ 0) :
    ((splitOf e l size nodes a b node).2.2 = 120 ∧ ¬ Other l a b node size.toNat) ∨ ((splitOf e l size nodes a b node).2.2 = 3 ∧ Other l a b node size.toNat ∧ 40 < (runs (ndOf l a b node) size.toNat).1.length) := by
  unfold splitOf at h0 ⊢
  split at h0
  · rename_i h
    rw [if_pos h]
    split at h0
    · rename_i hl
      rw [if_pos hl]
      exact .inr ⟨rfl, h.2, hl⟩
    · exact absurd rfl h0
  · rename_i h
    rw [if_neg h]
    exact .inl ⟨rfl, fun ho => h ⟨hv, ho⟩⟩
theorem runs_pre_len {l : List Sp} {size nodes a b node : Int} (h : Snd l size nodes) (ha : 0 ≤ a) (hab : a < b) (hb : b ≤ size) (hn : 0 ≤ node) : (runs (ndOf l a b node) size.toNat).1.length ≤ l.length + 2 := by
  rw [← glue_pre h ha hab hb hn]
  have h1 : (glue (preOf l size a b node)).length ≤ (preOf l size a b node).length := glueTo_len _ _
  have h2 : (l.filter (fun s => decide (s.1 < a))).length + (l.filter (fun s => decide (b < s.1))).length ≤ l.length := by
    clear h1 h
    induction l with
    | nil => simp
    | cons s l ih =>
      by_cases h1 : s.1 < a
      · have h2 : ¬ b < s.1 := by omega
        simp only [List.filter_cons, h1, h2, decide_true, decide_false, if_true, List.length_cons]
        simp; omega
      · by_cases h2 : b < s.1
        · simp only [List.filter_cons, h1, h2, decide_true, decide_false, if_true, List.length_cons]
          simp; omega
        · simp only [List.filter_cons, h1, h2, decide_false, List.length_cons]
          simp; omega
  unfold preOf at h1 ⊢
  simp only [List.length_append, List.length_singleton] at h1
  have h3 : (if b < size then [(b, find l b)] else []).length ≤ 1 := by split <;> simp
  omega

theorem new_snd {size nodes : Int} (hs : 1 ≤ size) (hn : 1 ≤ nodes) : Snd [(0, 0)] size nodes := ⟨by simp, by simp, fun i h => by
  have : i = 0 := by simp at h; exact h
  subst this
  exact ⟨by simp, by simp; omega, by simp, by simp; omega, fun _ => rfl, fun h => by omega⟩⟩
/-- A map that splits make is sound; its epoch is a number of its kind. -/
theorem of_snd {size nodes : Int} (hs : 1 ≤ size ∧ size ≤ 10000) (hn : 1 ≤ nodes ∧ nodes ≤ 6) (l : List Ct) (hl : ∀ c ∈ l, CtOK c) : Snd (ofMap size nodes l).2 size nodes ∧ 1 ≤ (ofMap size nodes l).1 ∧ (ofMap size nodes l).1 ≤ 31 := by
  unfold ofMap
  have key : ∀ (l : List Ct), (∀ c ∈ l, CtOK c) → ∀ (m : Int × List Sp) (k : Int), Snd m.2 size nodes ∧ 1 ≤ m.1 ∧ m.1 ≤ k → 0 ≤ k → k + l.length ≤ 40 → Snd (l.foldl (ofStep size nodes) m).2 size nodes ∧ 1 ≤ (l.foldl (ofStep size nodes) m).1 ∧ (l.foldl (ofStep size nodes) m).1 ≤ k + l.length := by
    intro l
    induction l with
    | nil => intro _ m k h _ _; simpa using h
    | cons c l ih =>
      intro hc m k h hk hkl
      simp only [List.length_cons] at hkl
      simp only [List.foldl_cons, List.length_cons]
      have h1 := hc c (List.mem_cons_self ..)
      have h2 := ih (fun c hc' => hc c (List.mem_cons_of_mem _ hc')) (ofStep size nodes m c) (k + 1)
      have hst : Snd (ofStep size nodes m c).2 size nodes ∧ 1 ≤ (ofStep size nodes m c).1 ∧ (ofStep size nodes m c).1 ≤ k + 1 := by
        rw [ofStep_eq]
        split
        · rename_i h0
          have hb1 : 0 ≤ cutFrom size c ∧ cutFrom size c < size := ⟨Int.tmod_nonneg _ h1.1, Int.tmod_lt_of_pos _ (by omega)⟩
          have hb2 : 0 ≤ c.2.1.tmod (size - cutFrom size c) ∧ c.2.1.tmod (size - cutFrom size c) < size - cutFrom size c := ⟨Int.tmod_nonneg _ h1.2.2.1, Int.tmod_lt_of_pos _ (by omega)⟩
          have hb3 : 0 ≤ cutNode nodes c ∧ cutNode nodes c < nodes := ⟨Int.tmod_nonneg _ h1.2.2.2.2.1, Int.tmod_lt_of_pos _ (by omega)⟩
          have hv : Valid m.2 size nodes (cutFrom size c) (cutTo size c) (cutNode nodes c) := ⟨h.1, hb1.1, by unfold cutTo; omega, by unfold cutTo; omega, hb3.1, hb3.2, by omega, hs.2⟩
          obtain ⟨e1, _, e3⟩ := split_snd hv h0
          rw [e1]
          refine ⟨e3, ?_⟩
          dsimp only
          have : IntKind.u32.wrap (m.1 + 1) = m.1 + 1 := by
            simp only [IntKind.wrap, IntKind.bits, IntKind.signed, Bool.false_and, Bool.false_eq_true, if_false]
            exact Int.emod_eq_of_lt (by omega) (by omega)
          rw [this]; omega
        · exact ⟨h.1, h.2.1, by omega⟩
      obtain ⟨g1, g2, g3⟩ := h2 hst (by omega) (by omega)
      exact ⟨g1, g2, by omega⟩
  have hlen : (l.take 30).length ≤ 30 := by simp; omega
  obtain ⟨g1, g2, g3⟩ := key (l.take 30) (fun c hc => hl c (List.mem_of_mem_take hc)) (1, [(0, 0)]) 1 ⟨new_snd hs.1 hn.1, by decide, by decide⟩ (by omega) (by omega)
  exact ⟨g1, g2, by omega⟩
/-- Which nodes a range has. -/
theorem nodes_mem {l : List Sp} {a b x : Int} (ha : 0 ≤ a) (hb : b ≤ 10000) : x ∈ nodesOf l a b ↔ 0 ≤ x ∧ x < 6 ∧ ∃ v : Int, a ≤ v ∧ v < b ∧ find l v = x := by
  have hlo : lo0 a = a := by unfold lo0; split <;> omega
  have hhi : hi0 b = b := by unfold hi0; split <;> omega
  unfold nodesOf
  rw [nodesTo_mem, hlo, hhi]
  unfold anyN
  simp only [List.any_eq_true, List.mem_range, beq_iff_eq]
  constructor
  · rintro ⟨h1, h2, k, hk, he⟩
    exact ⟨h1, by omega, a + k, by omega, by omega, he⟩
  · rintro ⟨h1, h2, v, h3, h4, he⟩
    exact ⟨h1, by omega, (v - a).toNat, by omega, by rw [← he]; congr 1; omega⟩
theorem find_neg {l : List Sp} {size nodes v : Int} (h : Snd l size nodes) (hv : v < 0) : find l v = -1 := fold_none (fun s hs => by have := (snd_mem h hs).1; omega) _
end Go.Proofs.Ytecpiplfjmmccaa.AM

/-
  Spans: the law SpansSplits, walked.
  Conditions: none.
-/
namespace Go.Proofs.Ytecpiplfjmmccaa.AM
open Go
set_option maxRecDepth 20000

theorem err_small (e : Int) (l : List Sp) (size nodes a b node : Int) : (splitOf e l size nodes a b node).2.2 = 0 ∨ (splitOf e l size nodes a b node).2.2 = 3 ∨ (splitOf e l size nodes a b node).2.2 = 120 := by
  unfold splitOf
  split
  · split
    · exact .inr (.inl rfl)
    · exact .inl rfl
  · exact .inr (.inr rfl)
theorem f8_ok (e : Int) (l : List Sp) (cs : List Ct) (size nodes a b node : Int) (hc : ∀ c ∈ cs, CtOK c) : PC Try.prog 8 [mapV e l, cutS cs, .int .i64 size, .int .i64 nodes, .int .i64 a, .int .i64 b, .int .i64 node] fun r => r = .bool true := by
  refine PC.of_vc (fun _ => 0) (fun _ => true) ty_ok mix Try.func8 (by kernel_rfl) rfl (by kernel_rfl) (pur2 (mapV_pur e l) (pur2 (cutS_pur cs) (pur2 (.int _ _) (pur2 (.int _ _) (pur2 (.int _ _) (pur2 (.int _ _) (pur2 (.int _ _) pur0))))))) fun hf => ?_
  conv => whnf
  refine bsp_intro ?_ ?_
  · intro _
    conv => whnf
    refine f21_ok.quiet (Wss.refl _) ?_
    rintro r rfl
    conv => whnf
    exact fin (.bool _) rfl
  intro _
  conv => whnf
  refine bsp_intro ?_ ?_
  · intro _
    conv => whnf
    refine f21_ok.quiet (Wss.refl _) ?_
    rintro r rfl
    conv => whnf
    exact fin (.bool _) rfl
  intro _
  conv => whnf
  refine f21_ok.quiet (Wss.refl _) ?_
  rintro r rfl
  conv => whnf
  refine (f22_ok e l size nodes a b node).quiet (Wss.refl _) ?_
  rintro r rfl
  conv => whnf
  refine (f35_ok e l size nodes a b node).quiet (Wss.refl _) ?_
  rintro r rfl
  conv => whnf
  refine (f19_ok 100 3 cs ⟨by omega, by omega⟩ ⟨by omega, by omega⟩ hc).quiet (Wss.refl _) ?_
  rintro r rfl
  conv => whnf
  refine (f22_ok _ _ 100 3 (a.tmod 120) (b.tmod 120) (node.tmod 4)).quiet (Wss.refl _) ?_
  rintro r rfl
  conv => whnf
  refine (f35_ok _ _ 100 3 (a.tmod 120) (b.tmod 120) (node.tmod 4)).quiet (Wss.refl _) ?_
  rintro r rfl
  conv => whnf
  refine (f29_ok _ _ _ _).quiet (Wss.refl _) ?_
  rintro r rfl
  conv => whnf
  refine bsp_intro ?_ ?_
  · intro _
    conv => whnf
    refine bsp_intro ?_ ?_
    · intro _
      conv => whnf
      refine (f29_ok _ _ _ _).quiet (Wss.refl _) ?_
      rintro r rfl
      conv => whnf
      refine bsp_intro ?_ ?_
      · intro _
        conv => whnf
        refine fin (.bool _) ?_
        have h := err_small (ofMap 100 3 cs).1 (ofMap 100 3 cs).2 100 3 (a.tmod 120) (b.tmod 120) (node.tmod 4)
        have hw : IntKind.i64.wrap (splitOf (ofMap 100 3 cs).1 (ofMap 100 3 cs).2 100 3 (a.tmod 120) (b.tmod 120) (node.tmod 4)).2.2 = (splitOf (ofMap 100 3 cs).1 (ofMap 100 3 cs).2 100 3 (a.tmod 120) (b.tmod 120) (node.tmod 4)).2.2 := IntWalk.i64_in _ (by omega)
        simp [one?, hw]
      · intro h; simp at h
    · intro h
      have h2 := err_small e l size nodes a b node
      have hw : IntKind.i64.wrap (splitOf e l size nodes a b node).2.2 = (splitOf e l size nodes a b node).2.2 := IntWalk.i64_in _ (by omega)
      rw [hw] at h
      simp at h
  · intro h; simp at h
end Go.Proofs.Ytecpiplfjmmccaa.AM

/-
  Spans: the law SpansMoves, walked.
  Conditions: none.
-/
namespace Go.Proofs.Ytecpiplfjmmccaa.AM
open Go
set_option maxRecDepth 20000

theorem u8_in {n : Int} (h : 0 ≤ n ∧ n < 256) : IntKind.u8.wrap n = n := by
  simp only [IntKind.wrap, IntKind.bits, IntKind.signed, Bool.false_and, Bool.false_eq_true, if_false]
  exact Int.emod_eq_of_lt (by omega) (by omega)
theorem u16_in {n : Int} (h : 0 ≤ n ∧ n < 65536) : IntKind.u16.wrap n = n := by
  simp only [IntKind.wrap, IntKind.bits, IntKind.signed, Bool.false_and, Bool.false_eq_true, if_false]
  exact Int.emod_eq_of_lt (by omega) (by omega)
theorem u32_in {n : Int} (h : 0 ≤ n ∧ n < 4294967296) : IntKind.u32.wrap n = n := by
  simp only [IntKind.wrap, IntKind.bits, IntKind.signed, Bool.false_and, Bool.false_eq_true, if_false]
  exact Int.emod_eq_of_lt (by omega) (by omega)

/-- Has the range, up to v, another's member? -/
def Oth (l : List Sp) (a node : Int) (k : Nat) : Prop := ∃ v : Nat, v < k ∧ find l (a + v) ≠ node
theorem oth_succ {l : List Sp} {a node : Int} {k : Nat} : Oth l a node (k + 1) ↔ Oth l a node k ∨ find l (a + k) ≠ node := by
  constructor
  · rintro ⟨v, h1, h2⟩
    rcases Nat.lt_or_ge v k with h | h
    · exact .inl ⟨v, h, h2⟩
    · have : v = k := by omega
      subst this; exact .inr h2
  · rintro (⟨v, h1, h2⟩ | h)
    · exact ⟨v, by omega, h2⟩
    · exact ⟨k, by omega, h⟩
theorem oth_other {l : List Sp} {a b node size : Int} (ha : 0 ≤ a) (hb : b ≤ size) : Oth l a node (b - a).toNat ↔ Other l a b node size.toNat := by
  constructor
  · rintro ⟨v, h1, h2⟩
    exact ⟨(a + v).toNat, by omega, by omega, by omega, by rw [Int.toNat_of_nonneg (by omega)]; exact h2⟩
  · rintro ⟨v, h1, h2, h3, h4⟩
    exact ⟨(v - a).toNat, by omega, by rw [show a + (((v : Int) - a).toNat : Int) = v by omega]; exact h4⟩

theorem f9_ok (cs : List Ct) (size nodes : Int) (c : Ct) (hcs : ∀ c ∈ cs, CtOK c) (hs : 0 ≤ size ∧ size < 65536) (hn : 0 ≤ nodes ∧ nodes < 256) (hc : CtOK c) : PC Try.prog 9 [cutS cs, .int .u16 size, .int .u8 nodes, .agg (cutR c)] fun r => r = .bool true := by
  refine PC.of_vc (fun _ => 0) (fun _ => true) ty_ok mix Try.func9 (by kernel_rfl) rfl (by kernel_rfl) (pur2 (cutS_pur cs) (pur2 (.int _ _) (pur2 (.int _ _) (pur2 (.agg _ fun j x hx => ?_) pur0)))) fun hf => ?_
  · match j, hx with
    | 0, hx => simp [cutR] at hx; subst hx; exact .int _ _
    | 1, hx => simp [cutR] at hx; subst hx; exact .int _ _
    | 2, hx => simp [cutR] at hx; subst hx; exact .int _ _
  obtain ⟨c1, c2, c3⟩ := c
  obtain ⟨q1, q2, q3, q4, q5, q6⟩ := hc
  dsimp only at q1 q2 q3 q4 q5 q6
  have hN : 0 ≤ nodes.tmod 5 ∧ nodes.tmod 5 < 5 := ⟨Int.tmod_nonneg _ hn.1, Int.tmod_lt_of_pos _ (by omega)⟩
  have hS : 0 ≤ size.tmod 200 ∧ size.tmod 200 < 200 := ⟨Int.tmod_nonneg _ hs.1, Int.tmod_lt_of_pos _ (by omega)⟩
  generalize hNN : 2 + nodes.tmod 5 = N
  generalize hSS : 2 + size.tmod 200 = S
  have eN : IntKind.i64.wrap (2 + IntKind.i64.wrap (nodes.tmod 5)) = N := by rw [IntWalk.i64_in (nodes.tmod 5) (by omega), IntWalk.i64_in _ (by omega), hNN]
  have eS : IntKind.i64.wrap (2 + IntKind.i64.wrap (size.tmod 200)) = S := by rw [IntWalk.i64_in (size.tmod 200) (by omega), IntWalk.i64_in _ (by omega), hSS]
  conv => whnf

  simp only [eN, eS]
  refine (f19_ok S N cs ⟨by omega, by omega⟩ ⟨by omega, by omega⟩ hcs).quiet (Wss.refl _) ?_
  rintro r rfl
  obtain ⟨hsnd, he1, he2⟩ := of_snd (size := S) (nodes := N) ⟨by omega, by omega⟩ ⟨by omega, by omega⟩ cs hcs
  generalize (ofMap S N cs).1 = e at he1 he2
  generalize (ofMap S N cs).2 = l at hsnd
  conv => whnf
  refine ⟨by omega, ?_⟩
  have ea : (IntKind.i64.wrap c1).tmod S = c1.tmod S := by rw [IntWalk.i64_in _ (by omega)]
  have ha : 0 ≤ c1.tmod S ∧ c1.tmod S < S := ⟨Int.tmod_nonneg _ q1, Int.tmod_lt_of_pos _ (by omega)⟩
  simp only [ea]
  generalize c1.tmod S = a at ha
  have eSa : IntKind.i64.wrap (S - a) = S - a := IntWalk.i64_in _ (by omega)
  conv => whnf
  simp only [eSa]
  refine ⟨by omega, ?_⟩
  have hb0 : 0 ≤ c2.tmod (S - a) ∧ c2.tmod (S - a) < S - a := ⟨Int.tmod_nonneg _ q3, Int.tmod_lt_of_pos _ (by omega)⟩
  have eb : IntKind.i64.wrap (IntKind.i64.wrap (a + 1) + (IntKind.i64.wrap c2).tmod (S - a)) = a + 1 + c2.tmod (S - a) := by
    rw [IntWalk.i64_in (a + 1) (by omega), IntWalk.i64_in c2 (by omega), IntWalk.i64_in _ (by omega)]
  conv => whnf
  simp only [eb]
  generalize hbb : a + 1 + c2.tmod (S - a) = b
  refine ⟨by omega, ?_⟩
  have et : (IntKind.i64.wrap c3).tmod N = c3.tmod N := by rw [IntWalk.i64_in _ (by omega)]
  have ht : 0 ≤ c3.tmod N ∧ c3.tmod N < N := ⟨Int.tmod_nonneg _ q5, Int.tmod_lt_of_pos _ (by omega)⟩
  conv => whnf
  simp only [et]
  generalize c3.tmod N = to at ht
  have hv : Valid l S N a b to := ⟨hsnd, by omega, by omega, by omega, by omega, by omega, by omega, by omega⟩
  refine (f22_ok e l S N a b to).quiet (Wss.refl _) ?_
  rintro r rfl
  generalize hsp : splitOf e l S N a b to = sp
  have hoo := oth_other (l := l) (a := a) (b := b) (node := to) (size := S) (by omega) (by omega)
  conv => whnf
  refine ⟨Nat × Bool, fun p => ⟨138, [(9, .int .i64 N), (10, .int .i64 S), (11, .lptr 11 0), (12, .int .i64 a), (13, .int .i64 b), (14, .int .i64 to), (15, .lptr 15 0), (16, .int .u16 sp.2.2), (17, .bool p.2), (18, .int .i64 (a + p.1))], [(11, [.int .u32 e, spS l]), (15, [.int .u32 sp.1, spS sp.2.1])], AH.none⟩,
    fun p => p.1 ≤ (b - a).toNat ∧ (p.2 = true ↔ Oth l a to p.1), fun p => (b - a).toNat - p.1, ⟨(0, false), ⟨by omega, by simp [Oth]⟩, rfl, ?_, ?_, .refl _⟩, ?_⟩
  · refine leT_cons (Wk.refl _) (leT_cons (Wk.refl _) (leT_cons (Wk.refl _) (leT_cons (Wk.refl _) (leT_cons (Wk.refl _) (leT_cons (Wk.refl _) (leT_cons (Wk.refl _) (leT_cons (Wk.refl _) (leT_cons (Wk.refl _) (leT_cons (Wk.int ?_) (leT_nil))))))))))
    simp
  · refine leL_cons rfl (leC_refl _) (leL_cons rfl (leC_refl _) (leL_nil))
  rintro ⟨k, o⟩ ⟨hk, ho⟩
  dsimp only at hk ho
  conv => whnf
  refine bsp_intro ?_ ?_
  · intro h
    have h : a + k < b := of_decide_eq_true h
    have hstep : IntKind.i64.wrap (a + k + 1) = a + ((k + 1 : Nat) : Int) := by rw [IntWalk.i64_in _ (by omega)]; omega
    conv => whnf
    refine bsp_intro ?_ ?_
    · intro ht
      conv => whnf
      refine ⟨(k + 1, true), ⟨by omega, ?_⟩, by dsimp only; omega, rfl, ?_, ?_, .refl _⟩
      · dsimp only
        rw [oth_succ, ← ho]
        simp only [true_iff]
        exact .inl ht
      · refine leT_cons (Wk.refl _) (leT_cons (Wk.refl _) (leT_cons (Wk.refl _) (leT_cons (Wk.refl _) (leT_cons (Wk.refl _) (leT_cons (Wk.refl _) (leT_cons (Wk.refl _) (leT_cons (Wk.refl _) (leT_cons (Wk.refl _) (leT_cons (Wk.int ?_) (leT_nil))))))))))
        exact hstep
      · refine leL_cons rfl (leC_refl _) (leL_cons rfl (leC_refl _) (leL_nil))
    · intro ht
      conv => whnf
      refine (f27_ok e l (a + k)).quiet (Wss.refl _) ?_
      rintro r rfl
      conv => whnf
      refine ⟨(k + 1, !(find l (a + k) == to)), ⟨by omega, ?_⟩, by dsimp only; omega, rfl, ?_, ?_, .refl _⟩
      · dsimp only
        rw [oth_succ, ← ho]
        have ht' : o = false := ht
        simp [ht']
      · refine leT_cons (Wk.refl _) (leT_cons (Wk.refl _) (leT_cons (Wk.refl _) (leT_cons (Wk.refl _) (leT_cons (Wk.refl _) (leT_cons (Wk.refl _) (leT_cons (Wk.refl _) (leT_cons (Wk.refl _) (leT_cons (Wk.refl _) (leT_cons (Wk.int ?_) (leT_nil))))))))))
        exact hstep
      · refine leL_cons rfl (leC_refl _) (leL_cons rfl (leC_refl _) (leL_nil))
  intro h
  have h : ¬ a + k < b := of_decide_eq_false h
  have hkk : k = (b - a).toNat := by omega
  subst hkk
  rw [hoo] at ho
  conv => whnf
  refine bsp_intro ?_ ?_
  · intro h0
    have h0 : sp.2.2 ≠ 0 := by simpa using h0
    have herr := split_err (e := e) hv (by rw [hsp]; exact h0)
    rw [hsp] at herr
    conv => whnf
    refine f21_ok.quiet (Wss.refl _) ?_
    rintro r rfl
    rcases herr with ⟨k1, k2⟩ | ⟨k1, k2, k3⟩
    · have ho' : o = false := by cases o <;> simp_all
      subst ho'
      rw [k1]
      conv => whnf
      exact fin (.bool _) rfl
    · have hle := runs_pre_len (node := to) hsnd (by omega) (by omega : a < b) (by omega : b ≤ S) (by omega)
      rw [k1]
      conv => whnf
      refine fin (.bool _) ?_
      simp [one?]; omega
  intro h0
  have h0 : sp.2.2 = 0 := by simpa using h0
  obtain ⟨hs1, hs2, hs3⟩ := split_snd (e := e) hv (by rw [hsp]; exact h0)
  rw [hsp] at hs1
  have ho' : o = true := ho.2 hs2
  subst ho'
  rw [hs1]
  generalize hx : (runs (ndOf l a b to) S.toNat).1 = x at hs3
  have hfind : ∀ v : Nat, (v : Int) < S → find x v = ndOf l a b to v := fun v hv' => by rw [← hx]; exact (runs_find (f := ndOf l a b to) S.toNat).2.1 v (by omega)
  conv => whnf
  refine ⟨Nat, fun k => ⟨138, [(9, .int .i64 N), (10, .int .i64 S), (11, .lptr 11 0), (12, .int .i64 a), (13, .int .i64 b), (14, .int .i64 to), (15, .lptr 15 0), (17, .bool true), (19, .int .i64 k)], [(11, [.int .u32 e, spS l]), (15, [.int .u32 (IntKind.u32.wrap (e + 1)), spS x])], AH.none⟩,
    fun k => k ≤ S.toNat, fun k => S.toNat - k, ⟨0, by omega, rfl, ?_, ?_, .refl _⟩, ?_⟩
  · refine leT_cons (Wk.refl _) (leT_cons (Wk.refl _) (leT_cons (Wk.refl _) (leT_cons (Wk.refl _) (leT_cons (Wk.refl _) (leT_cons (Wk.refl _) (leT_cons (Wk.refl _) (leT_cons (Wk.refl _) (leT_cons (Wk.refl _) (leT_nil)))))))))
  · refine leL_cons rfl (leC_refl _) (leL_cons rfl (leC_refl _) (leL_nil))
  intro k hk
  conv => whnf
  refine bsp_intro ?_ ?_
  · intro h
    have h : (k : Int) < S := of_decide_eq_true h
    have hstep : IntKind.i64.wrap ((k : Int) + 1) = ((k + 1 : Nat) : Int) := by rw [IntWalk.i64_in _ (by omega)]; omega
    have hfk := hfind k h
    unfold ndOf at hfk
    have fin2 : k + 1 ≤ S.toNat ∧ S.toNat - (k + 1) < S.toNat - k := by omega
    conv => whnf
    refine (f27_ok e l k).quiet (Wss.refl _) ?_
    rintro r rfl
    conv => whnf
    refine bsp_intro ?_ ?_
    · intro h1
      have h1 : a ≤ (k : Int) := of_decide_eq_true h1
      conv => whnf
      refine bsp_intro ?_ ?_
      · intro h2
        have h2 : (k : Int) < b := of_decide_eq_true h2
        rw [if_pos ⟨h1, h2⟩] at hfk
        conv => whnf
        refine (f27_ok (IntKind.u32.wrap (e + 1)) x k).quiet (Wss.refl _) ?_
        rintro r rfl
        rw [hfk]
        conv => whnf
        refine bsp_intro ?_ ?_
        · intro h3; simp at h3
        intro _
        conv => whnf
        refine ⟨k + 1, fin2.1, fin2.2, rfl, ?_, ?_, .refl _⟩
        · refine leT_cons (Wk.refl _) (leT_cons (Wk.refl _) (leT_cons (Wk.refl _) (leT_cons (Wk.refl _) (leT_cons (Wk.refl _) (leT_cons (Wk.refl _) (leT_cons (Wk.refl _) (leT_cons (Wk.refl _) (leT_cons (Wk.int ?_) (leT_nil)))))))))
          exact hstep
        · refine leL_cons rfl (leC_refl _) (leL_cons rfl (leC_refl _) (leL_nil))
      · intro h2
        have h2 : ¬ (k : Int) < b := of_decide_eq_false h2
        rw [if_neg (by omega)] at hfk
        conv => whnf
        refine (f27_ok (IntKind.u32.wrap (e + 1)) x k).quiet (Wss.refl _) ?_
        rintro r rfl
        rw [hfk]
        conv => whnf
        refine bsp_intro ?_ ?_
        · intro h3; simp at h3
        intro _
        conv => whnf
        refine ⟨k + 1, fin2.1, fin2.2, rfl, ?_, ?_, .refl _⟩
        · refine leT_cons (Wk.refl _) (leT_cons (Wk.refl _) (leT_cons (Wk.refl _) (leT_cons (Wk.refl _) (leT_cons (Wk.refl _) (leT_cons (Wk.refl _) (leT_cons (Wk.refl _) (leT_cons (Wk.refl _) (leT_cons (Wk.int ?_) (leT_nil)))))))))
          exact hstep
        · refine leL_cons rfl (leC_refl _) (leL_cons rfl (leC_refl _) (leL_nil))
    · intro h1
      have h1 : ¬ a ≤ (k : Int) := of_decide_eq_false h1
      rw [if_neg (by omega)] at hfk
      conv => whnf
      refine (f27_ok (IntKind.u32.wrap (e + 1)) x k).quiet (Wss.refl _) ?_
      rintro r rfl
      rw [hfk]
      conv => whnf
      refine bsp_intro ?_ ?_
      · intro h3; simp at h3
      intro _
      conv => whnf
      refine ⟨k + 1, fin2.1, fin2.2, rfl, ?_, ?_, .refl _⟩
      · refine leT_cons (Wk.refl _) (leT_cons (Wk.refl _) (leT_cons (Wk.refl _) (leT_cons (Wk.refl _) (leT_cons (Wk.refl _) (leT_cons (Wk.refl _) (leT_cons (Wk.refl _) (leT_cons (Wk.refl _) (leT_cons (Wk.int ?_) (leT_nil)))))))))
        exact hstep
      · refine leL_cons rfl (leC_refl _) (leL_cons rfl (leC_refl _) (leL_nil))
  intro h
  conv => whnf
  refine f21_ok.quiet (Wss.refl _) ?_
  rintro r rfl
  conv => whnf
  refine (f25_ok (IntKind.u32.wrap (e + 1)) x S N).quiet (Wss.refl _) ?_
  rintro r ⟨bb, rfl, hbb'⟩
  have := hbb'.2 hs3
  subst this
  conv => whnf
  refine fin (.bool _) ?_
  simp [one?]
end Go.Proofs.Ytecpiplfjmmccaa.AM

/-
  Spans: the law SpansNodes, walked.
  Conditions: none.
-/
namespace Go.Proofs.Ytecpiplfjmmccaa.AM
open Go
set_option maxRecDepth 20000

theorem cutR_pur (c : Ct) : Pur (.agg (cutR c)) := .agg _ fun j x hx => by
  match j, hx with
  | 0, hx => simp [cutR] at hx; subst hx; exact .int _ _
  | 1, hx => simp [cutR] at hx; subst hx; exact .int _ _
  | 2, hx => simp [cutR] at hx; subst hx; exact .int _ _
theorem nodesOf_len (l : List Sp) (a b : Int) : (nodesOf l a b).length ≤ 6 := nodesTo_len l a b 6

theorem f5_ok (cs : List Ct) (c : Ct) (at_ : Int) (hcs : ∀ c ∈ cs, CtOK c) (hc : CtOK c) (hat : 0 ≤ at_ ∧ at_ < 65536) : PC Try.prog 5 [cutS cs, .agg (cutR c), .int .u16 at_] fun r => r = .bool true := by
  refine PC.of_vc (fun _ => 0) (fun _ => true) ty_ok mix Try.func5 (by kernel_rfl) rfl (by kernel_rfl) (pur2 (cutS_pur cs) (pur2 (cutR_pur c) (pur2 (.int _ _) pur0))) fun hf => ?_
  obtain ⟨c1, c2, c3⟩ := c
  obtain ⟨q1, q2, q3, q4, q5, q6⟩ := hc
  dsimp only at q1 q2 q3 q4 q5 q6
  conv => whnf
  refine (f19_ok 200 4 cs ⟨by omega, by omega⟩ ⟨by omega, by omega⟩ hcs).quiet (Wss.refl _) ?_
  rintro r rfl
  obtain ⟨hsnd, he1, he2⟩ := of_snd (size := 200) (nodes := 4) ⟨by omega, by omega⟩ ⟨by omega, by omega⟩ cs hcs
  generalize (ofMap 200 4 cs).1 = e at he1 he2
  generalize (ofMap 200 4 cs).2 = l at hsnd
  have ea : (IntKind.i64.wrap c1).tmod 200 = c1.tmod 200 := by rw [IntWalk.i64_in _ (by omega)]
  have ha : 0 ≤ c1.tmod 200 ∧ c1.tmod 200 < 200 := ⟨Int.tmod_nonneg _ q1, Int.tmod_lt_of_pos _ (by omega)⟩
  generalize haa : c1.tmod 200 = a at ea ha
  have eSa : IntKind.i64.wrap (200 - a) = 200 - a := IntWalk.i64_in _ (by omega)
  conv => whnf
  simp only [ea, eSa]
  refine ⟨by omega, ?_⟩
  have hb0 : 0 ≤ c2.tmod (200 - a) ∧ c2.tmod (200 - a) < 200 - a := ⟨Int.tmod_nonneg _ q3, Int.tmod_lt_of_pos _ (by omega)⟩
  have eb : IntKind.i64.wrap (IntKind.i64.wrap (a + 1) + (IntKind.i64.wrap c2).tmod (200 - a)) = a + 1 + c2.tmod (200 - a) := by
    rw [IntWalk.i64_in (a + 1) (by omega), IntWalk.i64_in c2 (by omega), IntWalk.i64_in _ (by omega)]
  generalize hbb : a + 1 + c2.tmod (200 - a) = b at eb
  have eba : IntKind.i64.wrap (IntKind.i64.wrap (b - a) + 1) = b - a + 1 := by rw [IntWalk.i64_in (b - a) (by omega), IntWalk.i64_in _ (by omega)]
  conv => whnf
  simp only [eb, eba]
  refine ⟨by omega, ?_⟩
  have hk0 : 0 ≤ at_.tmod (b - a + 1) ∧ at_.tmod (b - a + 1) < b - a + 1 := ⟨Int.tmod_nonneg _ hat.1, Int.tmod_lt_of_pos _ (by omega)⟩
  have ek : IntKind.i64.wrap (a + (IntKind.i64.wrap at_).tmod (b - a + 1)) = a + at_.tmod (b - a + 1) := by
    rw [IntWalk.i64_in at_ (by omega), IntWalk.i64_in _ (by omega)]
  generalize hkk : a + at_.tmod (b - a + 1) = k at ek
  conv => whnf
  simp only [ek]
  refine (f20_ok e l a b).quiet (Wss.refl _) ?_
  rintro r rfl
  conv => whnf
  refine (f20_ok e l a k).quiet (Wss.refl _) ?_
  rintro r rfl
  conv => whnf
  refine (f20_ok e l k b).quiet (Wss.refl _) ?_
  rintro r rfl
  have mA := fun x => nodes_mem (l := l) (a := a) (b := b) (x := x) (by omega) (by omega)
  have mX := fun x => nodes_mem (l := l) (a := a) (b := k) (x := x) (by omega) (by omega)
  have mY := fun x => nodes_mem (l := l) (a := k) (b := b) (x := x) (by omega) (by omega)
  have hA := nodesTo_sorted l a b 6
  change (nodesOf l a b).Pairwise _ at hA
  have hlA := nodesOf_len l a b
  have hlX := nodesOf_len l a k
  have hin : ∀ x ∈ nodesOf l a b, x ∈ nodesOf l a k ∨ x ∈ nodesOf l k b := by
    intro x hx
    obtain ⟨h1, h2, v, h3, h4, h5⟩ := (mA x).1 hx
    by_cases hvk : v < k
    · exact .inl ((mX x).2 ⟨h1, h2, v, h3, hvk, h5⟩)
    · exact .inr ((mY x).2 ⟨h1, h2, v, by omega, h4, h5⟩)
  have hin2 : ∀ x ∈ nodesOf l a k, x ∈ nodesOf l a b := by
    intro x hx
    obtain ⟨h1, h2, v, h3, h4, h5⟩ := (mX x).1 hx
    exact (mA x).2 ⟨h1, h2, v, h3, by omega, h5⟩
  have hpos : 0 < (nodesOf l a b).length := by
    obtain ⟨g1, g2, g3⟩ := find_in_range (v := a) hsnd (by omega)
    exact List.length_pos_of_mem ((mA (find l a)).2 ⟨g1, g2, a, by omega, by omega, rfl⟩)
  have hnil : nodesOf l a a = [] := by
    apply List.eq_nil_iff_forall_not_mem.2
    intro x hx
    obtain ⟨_, _, v, h3, h4, _⟩ := (nodes_mem (l := l) (a := a) (b := a) (x := x) (by omega) (by omega)).1 hx
    omega
  generalize hAA : nodesOf l a b = A at hA hlA hin hin2 hpos
  generalize hXX : nodesOf l a k = X at hin hin2 hlX
  generalize nodesOf l k b = Y at hin
  conv => whnf
  refine ⟨Nat, fun i => ⟨117, [(7, .lptr 7 0), (8, .int .i64 a), (11, intS A), (12, intS X), (13, intS Y), (14, .int .i64 i)], [(7, [.int .u32 e, spS l])], AH.none⟩, fun i => i ≤ A.length, fun i => A.length - i, ⟨0, by omega, rfl, ?_, ?_, .refl _⟩, ?_⟩
  · refine leT_cons (Wk.refl _) (leT_cons (Wk.refl _) (leT_cons (Wk.refl _) (leT_cons (Wk.refl _) (leT_cons (Wk.refl _) (leT_cons (Wk.refl _) (leT_nil))))))
  · refine leL_cons rfl (leC_refl _) (leL_nil)
  intro i hi
  conv => whnf
  refine bsp_intro ?_ ?_
  · intro h
    have h : i < A.length := by have := of_decide_eq_true h; simp at this; exact this
    have hstep : IntKind.i64.wrap ((i : Int) + 1) = ((i + 1 : Nat) : Int) := by rw [IntWalk.i64_in _ (by omega)]; omega
    have hmem : A[i] ∈ X ∨ A[i] ∈ Y := hin _ (List.getElem_mem h)
    have next : ∀ (T : List (Nat × AV)) (L : List (Nat × List AV)), True := fun _ _ => trivial
    conv => whnf
    refine DrawVC.go [0, 1, 2, 3, 4, 5, 6, 7, 8, 9, 10, 11, 12, 13, 14, 15, 16, 17, 18, 19, 20, 21, 22, 23, 24, 25, 26, 27, 28, 29, 30, 31] (by kernel_rfl) ?_
    conv => whnf
    refine bsp_intro ?_ ?_
    · intro h0
      have h0 : 0 < i := by have := of_decide_eq_true h0; omega
      have e1 : IntKind.i64.wrap ((i : Int) - 1) = ((i - 1 : Nat) : Int) := by rw [IntWalk.i64_in _ (by omega)]; omega
      have hlt' : i - 1 < A.length := by omega
      have hris := List.pairwise_iff_getElem.1 hA (i - 1) i hlt' h (by omega)
      conv => whnf
      refine ⟨_, by omega, rows_get h, ?_⟩
      conv => whnf
      rw [e1]
      refine ⟨_, by omega, rows_get hlt', ?_⟩
      conv => whnf
      refine bsp_intro ?_ ?_
      · intro h1
        have h1 := of_decide_eq_true h1
        omega
      intro _
      conv => whnf
      refine ⟨_, by omega, rows_get h, ?_⟩
      conv => whnf
      refine (f24_ok X A[i]).quiet (Wss.refl _) ?_
      rintro r rfl
      conv => whnf
      refine bsp_intro ?_ ?_
      · intro h2
        have h2 : A[i] ∉ X := by simpa using h2
        have h3 : A[i] ∈ Y := hmem.resolve_left h2
        conv => whnf
        refine ⟨_, by omega, rows_get h, ?_⟩
        conv => whnf
        refine (f24_ok Y A[i]).quiet (Wss.refl _) ?_
        rintro r rfl
        conv => whnf
        refine bsp_intro ?_ ?_
        · intro h4; simp [h3] at h4
        intro _
        conv => whnf
        refine ⟨i + 1, by omega, by dsimp only; omega, rfl, ?_, ?_, .refl _⟩
        · refine leT_cons (Wk.refl _) (leT_cons (Wk.refl _) (leT_cons (Wk.refl _) (leT_cons (Wk.refl _) (leT_cons (Wk.refl _) (leT_cons (Wk.int ?_) (leT_nil))))))
          exact hstep
        · refine leL_cons rfl (leC_refl _) (leL_nil)
      · intro _
        conv => whnf
        refine ⟨i + 1, by omega, by dsimp only; omega, rfl, ?_, ?_, .refl _⟩
        · refine leT_cons (Wk.refl _) (leT_cons (Wk.refl _) (leT_cons (Wk.refl _) (leT_cons (Wk.refl _) (leT_cons (Wk.refl _) (leT_cons (Wk.int ?_) (leT_nil))))))
          exact hstep
        · refine leL_cons rfl (leC_refl _) (leL_nil)
    · intro _
      conv => whnf
      refine ⟨_, by omega, rows_get h, ?_⟩
      conv => whnf
      refine (f24_ok X A[i]).quiet (Wss.refl _) ?_
      rintro r rfl
      conv => whnf
      refine bsp_intro ?_ ?_
      · intro h2
        have h2 : A[i] ∉ X := by simpa using h2
        have h3 : A[i] ∈ Y := hmem.resolve_left h2
        conv => whnf
        refine ⟨_, by omega, rows_get h, ?_⟩
        conv => whnf
        refine (f24_ok Y A[i]).quiet (Wss.refl _) ?_
        rintro r rfl
        conv => whnf
        refine bsp_intro ?_ ?_
        · intro h4; simp [h3] at h4
        intro _
        conv => whnf
        refine ⟨i + 1, by omega, by dsimp only; omega, rfl, ?_, ?_, .refl _⟩
        · refine leT_cons (Wk.refl _) (leT_cons (Wk.refl _) (leT_cons (Wk.refl _) (leT_cons (Wk.refl _) (leT_cons (Wk.refl _) (leT_cons (Wk.int ?_) (leT_nil))))))
          exact hstep
        · refine leL_cons rfl (leC_refl _) (leL_nil)
      · intro _
        conv => whnf
        refine ⟨i + 1, by omega, by dsimp only; omega, rfl, ?_, ?_, .refl _⟩
        · refine leT_cons (Wk.refl _) (leT_cons (Wk.refl _) (leT_cons (Wk.refl _) (leT_cons (Wk.refl _) (leT_cons (Wk.refl _) (leT_cons (Wk.int ?_) (leT_nil))))))
          exact hstep
        · refine leL_cons rfl (leC_refl _) (leL_nil)
  intro _
  conv => whnf
  refine ⟨Nat, fun i => ⟨117, [(7, .lptr 7 0), (8, .int .i64 a), (11, intS A), (12, intS X), (15, .int .i64 i)], [(7, [.int .u32 e, spS l])], AH.none⟩, fun i => i ≤ X.length, fun i => X.length - i, ⟨0, by omega, rfl, ?_, ?_, .refl _⟩, ?_⟩
  · refine leT_cons (Wk.refl _) (leT_cons (Wk.refl _) (leT_cons (Wk.refl _) (leT_cons (Wk.refl _) (leT_cons (Wk.refl _) (leT_nil)))))
  · refine leL_cons rfl (leC_refl _) (leL_nil)
  clear hi
  intro i hi
  conv => whnf
  refine bsp_intro ?_ ?_
  · intro h
    have h : i < X.length := by have := of_decide_eq_true h; simp at this; exact this
    have hstep : IntKind.i64.wrap ((i : Int) + 1) = ((i + 1 : Nat) : Int) := by rw [IntWalk.i64_in _ (by omega)]; omega
    conv => whnf
    refine ⟨_, by omega, rows_get h, ?_⟩
    conv => whnf
    refine (f24_ok A X[i]).quiet (Wss.refl _) ?_
    rintro r rfl
    have hm := hin2 _ (List.getElem_mem h)
    conv => whnf
    refine bsp_intro ?_ ?_
    · intro h4; simp [hm] at h4
    intro _
    conv => whnf
    refine ⟨i + 1, by omega, by dsimp only; omega, rfl, ?_, ?_, .refl _⟩
    · refine leT_cons (Wk.refl _) (leT_cons (Wk.refl _) (leT_cons (Wk.refl _) (leT_cons (Wk.refl _) (leT_cons (Wk.int ?_) (leT_nil)))))
      exact hstep
    · refine leL_cons rfl (leC_refl _) (leL_nil)
  intro _
  conv => whnf
  refine f21_ok.quiet (Wss.refl _) ?_
  rintro r rfl
  conv => whnf
  refine (f20_ok e l a a).quiet (Wss.refl _) ?_
  rw [hnil]
  rintro r rfl
  conv => whnf
  refine fin (.bool _) ?_
  simp [one?]; omega
end Go.Proofs.Ytecpiplfjmmccaa.AM

/-
  Spans: the law SpansBack, walked.
  Conditions: none.
-/
namespace Go.Proofs.Ytecpiplfjmmccaa.AM
open Go
set_option maxRecDepth 20000

theorem f4_ok (cs : List Ct) (size : Int) (c : Ct) (hcs : ∀ c ∈ cs, CtOK c) (hs : 0 ≤ size ∧ size < 65536) (hc : CtOK c) : PC Try.prog 4 [cutS cs, .int .u16 size, .agg (cutR c)] fun r => r = .bool true := by
  refine PC.of_vc (fun _ => 0) (fun _ => true) ty_ok mix Try.func4 (by kernel_rfl) rfl (by kernel_rfl) (pur2 (cutS_pur cs) (pur2 (.int _ _) (pur2 (cutR_pur c) pur0))) fun hf => ?_
  obtain ⟨c1, c2, c3⟩ := c
  obtain ⟨q1, q2, q3, q4, q5, q6⟩ := hc
  dsimp only at q1 q2 q3 q4 q5 q6
  have hS : 0 ≤ size.tmod 200 ∧ size.tmod 200 < 200 := ⟨Int.tmod_nonneg _ hs.1, Int.tmod_lt_of_pos _ (by omega)⟩
  generalize hSS : 2 + size.tmod 200 = S
  have eS : IntKind.i64.wrap (2 + IntKind.i64.wrap (size.tmod 200)) = S := by rw [IntWalk.i64_in (size.tmod 200) (by omega), IntWalk.i64_in _ (by omega), hSS]
  conv => whnf
  simp only [eS]
  refine (f19_ok S 3 cs ⟨by omega, by omega⟩ ⟨by omega, by omega⟩ hcs).quiet (Wss.refl _) ?_
  rintro r rfl
  obtain ⟨hsnd, he1, he2⟩ := of_snd (size := S) (nodes := 3) ⟨by omega, by omega⟩ ⟨by omega, by omega⟩ cs hcs
  generalize (ofMap S 3 cs).1 = e at he1 he2
  generalize (ofMap S 3 cs).2 = l at hsnd
  conv => whnf
  refine ⟨by omega, ?_⟩
  have ea : (IntKind.i64.wrap c1).tmod S = c1.tmod S := by rw [IntWalk.i64_in _ (by omega)]
  have ha : 0 ≤ c1.tmod S ∧ c1.tmod S < S := ⟨Int.tmod_nonneg _ q1, Int.tmod_lt_of_pos _ (by omega)⟩
  simp only [ea]
  generalize c1.tmod S = a at ha
  have eSa : IntKind.i64.wrap (S - a) = S - a := IntWalk.i64_in _ (by omega)
  conv => whnf
  simp only [eSa]
  refine ⟨by omega, ?_⟩
  have hb0 : 0 ≤ c2.tmod (S - a) ∧ c2.tmod (S - a) < S - a := ⟨Int.tmod_nonneg _ q3, Int.tmod_lt_of_pos _ (by omega)⟩
  have eb : IntKind.i64.wrap (IntKind.i64.wrap (a + 1) + (IntKind.i64.wrap c2).tmod (S - a)) = a + 1 + c2.tmod (S - a) := by
    rw [IntWalk.i64_in (a + 1) (by omega), IntWalk.i64_in c2 (by omega), IntWalk.i64_in _ (by omega)]
  conv => whnf
  simp only [eb]
  generalize hbb : a + 1 + c2.tmod (S - a) = b
  refine (f20_ok e l a b).quiet (Wss.refl _) ?_
  rintro r rfl
  have mA := fun x => nodes_mem (l := l) (a := a) (b := b) (x := x) (by omega) (by omega)
  generalize nodesOf l a b = A at mA
  conv => whnf
  refine bsp_intro ?_ ?_
  · intro _
    conv => whnf
    refine f21_ok.quiet (Wss.refl _) ?_
    rintro r rfl
    conv => whnf
    exact fin (.bool _) rfl
  intro h
  have hone : A.length = 1 := by simp at h; omega
  clear h
  obtain ⟨n0, rfl⟩ : ∃ n0, A = [n0] := by
    match A, hone with
    | [n0], _ => exact ⟨n0, rfl⟩
  have hall : ∀ v : Int, a ≤ v → v < b → find l v = n0 := by
    intro v h1 h2
    obtain ⟨g1, g2, _⟩ := find_in_range (v := v) hsnd (by omega)
    have := (mA (find l v)).2 ⟨g1, g2, v, h1, h2, rfl⟩
    simpa using this
  have hn0 : 0 ≤ n0 ∧ n0 < 6 ∧ n0 < 3 := by
    rw [← hall a (by omega) (by omega)]
    exact find_in_range hsnd (by omega)
  have hc32 : 0 ≤ c3.tmod 2 ∧ c3.tmod 2 < 2 := ⟨Int.tmod_nonneg _ q5, Int.tmod_lt_of_pos _ (by omega)⟩
  have hto : 0 ≤ (n0 + 1 + c3.tmod 2).tmod 3 ∧ (n0 + 1 + c3.tmod 2).tmod 3 < 3 := ⟨Int.tmod_nonneg _ (by omega), Int.tmod_lt_of_pos _ (by omega)⟩
  have hne : (n0 + 1 + c3.tmod 2).tmod 3 ≠ n0 := by
    rw [Int.tmod_eq_emod_of_nonneg (by omega)]
    omega
  have et : (IntKind.i64.wrap (IntKind.i64.wrap (n0 + 1) + (IntKind.i64.wrap c3).tmod 2)).tmod 3 = (n0 + 1 + c3.tmod 2).tmod 3 := by
    rw [IntWalk.i64_in (n0 + 1) (by omega), IntWalk.i64_in c3 (by omega), IntWalk.i64_in _ (by omega)]
  conv => whnf
  refine DrawVC.go [0, 1, 2, 3, 4, 5, 6, 7, 8, 9, 10] (by kernel_rfl) ?_
  conv => whnf
  refine ⟨_, by omega, rfl, ?_⟩
  conv => whnf
  simp only [et]
  generalize (n0 + 1 + c3.tmod 2).tmod 3 = to at hto hne
  have hv : Valid l S 3 a b to := ⟨hsnd, by omega, by omega, by omega, by omega, by omega, by omega, by omega⟩
  have hoth : Other l a b to S.toNat := ⟨a.toNat, by omega, by omega, by omega, by rw [Int.toNat_of_nonneg (by omega), hall a (by omega) (by omega)]; exact hne.symm⟩
  refine (f22_ok e l S 3 a b to).quiet (Wss.refl _) ?_
  rintro r rfl
  generalize hsp : splitOf e l S 3 a b to = sp
  conv => whnf
  refine bsp_intro ?_ ?_
  · intro h0
    have h0 : sp.2.2 ≠ 0 := by simpa using h0
    have herr := split_err (e := e) hv (by rw [hsp]; exact h0)
    rw [hsp] at herr
    rcases herr with ⟨k1, k2⟩ | ⟨k1, k2, k3⟩
    · exact absurd hoth k2
    · rw [k1]
      conv => whnf
      refine f21_ok.quiet (Wss.refl _) ?_
      rintro r rfl
      conv => whnf
      exact fin (.bool _) rfl
  intro h0
  have h0 : sp.2.2 = 0 := by simpa using h0
  obtain ⟨hs1, hs2, hs3⟩ := split_snd (e := e) hv (by rw [hsp]; exact h0)
  rw [hsp] at hs1
  rw [hs1]
  have hfx : ∀ v : Nat, (v : Int) < S → find (runs (ndOf l a b to) S.toNat).1 v = ndOf l a b to v := fun v hv' => (runs_find (f := ndOf l a b to) S.toNat).2.1 v (by omega)
  have eu1 : IntKind.u32.wrap (e + 1) = e + 1 := u32_in (by omega)
  rw [eu1]
  generalize (runs (ndOf l a b to) S.toNat).1 = x at hs3 hfx
  have hv2 : Valid x S 3 a b n0 := ⟨hs3, by omega, by omega, by omega, by omega, by omega, by omega, by omega⟩
  have hoth2 : Other x a b n0 S.toNat := ⟨a.toNat, by omega, by omega, by omega, by
    rw [hfx _ (by omega)]
    unfold ndOf
    rw [if_pos ⟨by omega, by omega⟩]; exact hne⟩
  have hback : (runs (ndOf x a b n0) S.toNat).1 = l := by
    rw [← runs_self hsnd]
    congr 1
    refine runs_congr fun v hv' => ?_
    have h1 := hfx v (by omega)
    unfold ndOf at h1 ⊢
    split
    · rename_i h2; exact (hall _ h2.1 h2.2).symm
    · rename_i h2; rw [if_neg h2] at h1; exact h1
  have hsp2 : splitOf (e + 1) x S 3 a b n0 = (e + 2, l, 0) := by
    unfold splitOf
    rw [if_pos ⟨hv2, hoth2⟩, hback, if_neg (by have := hsnd.2.1; omega), u32_in (by omega)]
    simp only [Prod.mk.injEq, and_true]
    omega
  have hl40 := hsnd.2.1
  conv => whnf
  refine DrawVC.go [0, 1, 2, 3, 4, 5, 6, 11, 7, 8, 9, 10, 12, 13] (by kernel_rfl) ?_
  conv => whnf
  refine ⟨_, by omega, rfl, ?_⟩
  conv => whnf
  refine (f22_ok (e + 1) x S 3 a b n0).quiet (Wss.refl _) ?_
  rw [hsp2]
  rintro r rfl
  have eu2 : IntKind.u32.wrap (e + 2) = e + 2 := u32_in (by omega)
  conv => whnf
  rw [eu2]
  refine bsp_intro ?_ ?_
  · intro h; simp at h
  intro _
  conv => whnf
  refine bsp_intro ?_ ?_
  · intro h; simp at h
  intro _
  conv => whnf
  refine ⟨Nat, fun k => ⟨129, [(8, .lptr 8 0), (15, .lptr 15 0), (17, .int .i64 k)], [(8, [.int .u32 e, spS l]), (15, [.int .u32 (e + 2), spS l])], AH.none⟩, fun k => k ≤ l.length, fun k => l.length - k, ⟨0, by omega, rfl, ?_, ?_, .refl _⟩, ?_⟩
  · refine leT_cons (Wk.refl _) (leT_cons (Wk.refl _) (leT_cons (Wk.refl _) (leT_nil)))
  · refine leL_cons rfl (leC_refl _) (leL_cons rfl (leC_refl _) (leL_nil))
  intro k hk
  conv => whnf
  refine bsp_intro ?_ ?_
  · intro h
    have h : k < l.length := by have := of_decide_eq_true h; simp at this; exact this
    have hstep : IntKind.i64.wrap ((k : Int) + 1) = ((k + 1 : Nat) : Int) := by rw [IntWalk.i64_in _ (by omega)]; omega
    conv => whnf
    refine DrawVC.go [0, 1, 2, 3, 4, 5, 6, 7, 8, 9, 10] (by kernel_rfl) ?_
    conv => whnf
    refine ⟨_, by omega, rows_get h, ?_⟩
    conv => whnf
    refine ⟨_, by omega, rows_get h, ?_⟩
    conv => whnf
    refine bsp_intro ?_ ?_
    · intro h; simp at h
    intro _
    conv => whnf
    refine ⟨k + 1, by omega, by dsimp only; omega, rfl, ?_, ?_, .refl _⟩
    · refine leT_cons (Wk.refl _) (leT_cons (Wk.refl _) (leT_cons (Wk.int ?_) (leT_nil)))
      exact hstep
    · refine leL_cons rfl (leC_refl _) (leL_cons rfl (leC_refl _) (leL_nil))
  intro _
  conv => whnf
  refine f21_ok.quiet (Wss.refl _) ?_
  rintro r rfl
  conv => whnf
  refine (f23_ok (e + 2) l e l).quiet (Wss.refl _) ?_
  rintro r rfl
  conv => whnf
  refine fin (.bool _) ?_
  have : ¬ e + 2 = e := by omega
  simp [one?, this]
end Go.Proofs.Ytecpiplfjmmccaa.AM

/-
  Facts as bytes, walked.
  Conditions: none.
-/
namespace Go.Proofs.Ytecpiplfjmmccaa.AM
open Go
set_option maxRecDepth 20000

theorem u64_nonneg (n : Int) : 0 ≤ IntKind.u64.wrap n := by
  simp only [IntKind.wrap, IntKind.bits, IntKind.signed, Bool.false_and, Bool.false_eq_true, if_false]
  exact Int.emod_nonneg _ (by decide)
/-- A byte of a number. -/
def byt (v : Int) (k : Int) : Int := IntKind.u8.wrap (v.fdiv (2 ^ (min (IntKind.u64.wrap (8 * IntKind.u64.wrap k)).toNat IntKind.u64.bits)))
def bytR (n : Int) : List AV := [.int .u8 n]
/-- A number's bytes, the greatest first. -/
def putB (v : Int) (n : Nat) : List Int := (List.range n).map fun (i : Nat) => byt v ((n : Int) - 1 - i)
theorem putB_len (v : Int) (n : Nat) : (putB v n).length = n := by simp [putB]
theorem putB_get (v : Int) {n i : Nat} (h : i < (putB v n).length) : (putB v n)[i] = byt v ((n : Int) - 1 - i) := by simp [putB]

inductive Wks : List AV → List AV → Prop where
  | nil : Wks [] []
  | cons {x y : AV} {l l' : List AV} (h : Wk x y) (t : Wks l l') : Wks (x :: l) (y :: l')
theorem Wks.get : ∀ {l l' : List AV}, Wks l l' → l'.length = l.length ∧ ∀ (i : Nat) y, l'[i]? = some y → ∃ x, l[i]? = some x ∧ Wk x y
  | _, _, .nil => ⟨rfl, fun i y h => by simp at h⟩
  | _, _, .cons h t => by
    obtain ⟨h1, h2⟩ := t.get
    refine ⟨by simp [h1], fun i y hy => ?_⟩
    cases i with
    | zero => simp only [List.getElem?_cons_zero, Option.some.injEq] at hy; subst hy; exact ⟨_, rfl, h⟩
    | succ i => simpa using h2 i y (by simpa using hy)
/-- A chain begun ahead of the call. -/
theorem AC.begin {P : Program} {f : FuncId} {args args' : List AV} {H : AH} {Q : AV → AH → Prop} (hw : Wks args args') (z : Nat) (h : AC P f args' ⟨H.blks, H.tips ++ [(z, 0)]⟩ Q) : AC P f args H Q := by
  refine ⟨h.1, fun G w vs hH hr => ?_⟩
  obtain ⟨e1, e2⟩ := eff_tip hH z
  obtain ⟨w1, w2⟩ := hw.get
  refine (h.2 G w vs e2 ⟨by rw [w1]; exact hr.1, fun i y hy => ?_⟩).mono ?_
  · obtain ⟨x, hx, hk⟩ := w2 i y hy
    exact hk.rep (hr.2 i x hx)
  · rintro e w' ⟨r, cr, G', H', h1, h2, h3, h4, h5, h6⟩
    exact ⟨r, cr, G', H', h1, h2, h3, h4, e1.trans h5, h6⟩

theorem f84_tok (out : List Int) (v : Int) (n : Nat) (hn : n ≤ 100) (hb : out.length ≤ 1000000000000) :
    AC Try.prog 84 [.sl 1 (out.map bytR) (some 0), .int .u64 v, .int .i64 n] ⟨[], [(1, (out.map bytR).length)]⟩ fun r H' => r = .sl 1 ((out ++ putB v n).map bytR) (some 0) ∧ H' = ⟨[], [(1, ((out ++ putB v n).map bytR).length)]⟩ := by
  refine AC.of_vc (md := fun _ => 0) (qt := fun _ => true) ty_ok mix Try.func84 (by kernel_rfl) rfl (by kernel_rfl) ?_
  conv => whnf
  refine ⟨Nat, fun i => ⟨24, [(0, .sl 1 ((out ++ (putB v n).take i).map bytR) (some 0)), (1, .int .u64 v), (7, .int .i64 ((n : Int) - 1 - i))], [], ⟨[], [(1, ((out ++ (putB v n).take i).map bytR).length)]⟩⟩, fun i => i ≤ n, fun i => n - i, ⟨0, by omega, rfl, ?_, ?_, .tips [] ?_⟩, ?_⟩
  · refine leT_cons (Wk.rows ?_) (leT_cons (Wk.refl _) (leT_cons (Wk.int ?_) (leT_nil)))
    · simp
    · rw [IntWalk.i64_in _ (by omega)]; simp
  · refine leL_nil
  · simp
  intro i hi
  have hpl := putB_len v n
  conv => whnf
  refine bsp_intro ?_ ?_
  · intro h
    have h := of_decide_eq_true h
    have hlt : i < (putB v n).length := by omega
    conv => whnf
    refine ⟨u64_nonneg _, ?_⟩
    conv => whnf
    refine ⟨⟨rfl, ?_⟩, ?_⟩
    · simp; omega
    conv => whnf
    refine ⟨i + 1, by omega, by dsimp only; omega, rfl, ?_, ?_, .tips [] ?_⟩
    · refine leT_cons (Wk.rows ?_) (leT_cons (Wk.refl _) (leT_cons (Wk.int ?_) (leT_nil)))
      · rw [take_snoc hlt, putB_get]; simp only [List.map_append, List.append_assoc]; rfl
      · rw [IntWalk.i64_in _ (by omega)]; omega
    · refine leL_nil
    · dsimp only; rw [take_snoc hlt, ← List.append_assoc, List.map_append]; simp
  · intro h
    have h := of_decide_eq_false h
    conv => whnf
    rw [List.take_of_length_le (by omega)]
    exact ⟨rfl, rfl⟩
theorem f84_nil (v : Int) (n : Nat) (hn : n ≤ 100) :
    AC Try.prog 84 [.nils, .int .u64 v, .int .i64 n] AH.none fun r H' => r = .sl 1 ((putB v n).map bytR) (some 0) ∧ H' = ⟨[], [(1, ((putB v n).map bytR).length)]⟩ := by
  refine AC.begin (.cons (.nil 1 (some 0) (by omega)) (.cons (.refl _) (.cons (.refl _) .nil))) 1 ?_
  exact (f84_tok [] v n hn (by simp)).mono fun r H' h => by simpa using h
end Go.Proofs.Ytecpiplfjmmccaa.AM

/-
  Facts as bytes; whether facts are alike; walked.
  Conditions: none.
-/
namespace Go.Proofs.Ytecpiplfjmmccaa.AM
open Go
set_option maxRecDepth 20000

def encKeys (ks : List Int) : List Int := ks.flatMap fun k => putB (IntKind.u64.wrap k) 4
def encFact (f : Fc) : List Int := putB (IntKind.u64.wrap f.1.length) 1 ++ (encKeys f.1 ++ putB (IntKind.u64.wrap f.2) 8)
def encFacts (l : List Fc) : List Int := putB (IntKind.u64.wrap l.length) 4 ++ l.flatMap encFact
theorem encKeys_snoc {ks : List Int} {j : Nat} (h : j < ks.length) : encKeys (ks.take (j + 1)) = encKeys (ks.take j) ++ putB (IntKind.u64.wrap ks[j]) 4 := by
  rw [take_snoc h]; simp only [encKeys, List.flatMap_append, List.flatMap_cons, List.flatMap_nil, List.append_nil]
theorem encKeys_len (ks : List Int) : (encKeys ks).length = 4 * ks.length := by
  unfold encKeys
  induction ks with
  | nil => rfl
  | cons k ks ih => rw [List.flatMap_cons, List.length_append, ih, putB_len]; simp; omega
theorem flat_take (l : List Fc) (i : Nat) : ((l.take i).flatMap encFact).length ≤ (l.flatMap encFact).length := by
  conv => rhs; rw [← List.take_append_drop i l]
  rw [List.flatMap_append, List.length_append]
  omega
theorem flat_snoc {l : List Fc} {i : Nat} (h : i < l.length) : (l.take (i + 1)).flatMap encFact = (l.take i).flatMap encFact ++ encFact l[i] := by
  rw [take_snoc h]; simp only [List.flatMap_append, List.flatMap_cons, List.flatMap_nil, List.append_nil]

theorem ws_bytS (l : List Int) (tok : Option Nat) : Ws (.sl 1 (l.map bytR) tok) (.sl 1 (l.map bytR) none) := by
  refine .drop 1 _ tok (fun r hr => ?_) (fun i j x hx => ?_)
  · obtain ⟨s, _, rfl⟩ := List.mem_map.1 hr; rfl
  · obtain ⟨r, h1, h2⟩ := cellAt_some hx
    rw [List.getElem?_map] at h1
    obtain ⟨s, _, rfl⟩ := Option.map_eq_some_iff.1 h1
    match j, h2 with
    | 0, h2 => simp [bytR] at h2; subst h2; rfl
theorem bytS_pur (l : List Int) : Pur (.sl 1 (l.map bytR) none) := by
  refine .sl 1 _ fun i j x hx => ?_
  obtain ⟨r, h1, h2⟩ := cellAt_some hx
  rw [List.getElem?_map] at h1
  obtain ⟨s, _, rfl⟩ := Option.map_eq_some_iff.1 h1
  match j, h2 with
  | 0, h2 => simp [bytR] at h2; subst h2; exact .int _ _

theorem f64_ok (l : List Fc) (hb : (encFacts l).length ≤ 1000000000000) : PC Try.prog 64 [.nils, factS l] fun r => r = .sl 1 ((encFacts l).map bytR) none := by
  refine PC.of_vc (fun _ => 0) (fun g => match g with | 84 => false | _ => true) ty_ok mix Try.func64 (by kernel_rfl) rfl (by kernel_rfl) (pur2 .nils (pur2 (factS_pur l) pur0)) fun hf => ?_
  have hla := factS_len (l := l) (hf _ (by simp))
  conv => whnf
  refine ⟨(f84_nil (IntKind.u64.wrap (l.map factR).length) 4 (by omega)).mono ?_⟩
  rintro r H' ⟨rfl, rfl⟩
  rw [List.length_map]
  conv => whnf
  have h4 : (encFacts l).length = 4 + (l.flatMap encFact).length := by unfold encFacts; rw [List.length_append, putB_len]
  refine ⟨Nat, fun i => ⟨57, [(0, .sl 1 ((putB (IntKind.u64.wrap l.length) 4 ++ (l.take i).flatMap encFact).map bytR) (some 0)), (1, factS l), (5, .int .i64 i)], [], ⟨[], [(1, ((putB (IntKind.u64.wrap l.length) 4 ++ (l.take i).flatMap encFact).map bytR).length)]⟩⟩, fun i => i ≤ l.length, fun i => l.length - i, ⟨0, by omega, rfl, ?_, ?_, .tips [] ?_⟩, ?_⟩
  · refine leT_cons (Wk.rows ?_) (leT_cons (Wk.refl _) (leT_cons (Wk.refl _) (leT_nil)))
    simp
  · refine leL_nil
  · simp
  intro i hi
  conv => whnf
  refine bsp_intro ?_ ?_
  · intro h
    have hlt : i < l.length := by simpa using h
    have hfl := flat_take l i
    have hfl1 := flat_take l (i + 1)
    rw [flat_snoc hlt, List.length_append] at hfl1
    have hef : (encFact l[i]).length = 1 + (4 * l[i].1.length + 8) := by unfold encFact; simp only [List.length_append, putB_len, encKeys_len]
    have hkl := intS_len (l := l[i].1) ((hf (factS l) (by simp)).sl.2.2 i 0 _ (by simp [cellAt, hlt, factR]))
    conv => whnf
    refine ⟨_, by omega, rows_get hlt, ?_⟩
    conv => whnf
    refine ⟨(f84_tok _ (IntKind.u64.wrap (l[i].1.map intR).length) 1 (by omega) ?_).mono ?_⟩
    · rw [List.length_append, putB_len]; omega
    rintro r H' ⟨rfl, rfl⟩
    rw [List.length_map]
    conv => whnf
    generalize hO : putB (IntKind.u64.wrap l.length) 4 ++ (l.take i).flatMap encFact = O
    have hOl : O.length = 4 + ((l.take i).flatMap encFact).length := by rw [← hO, List.length_append, putB_len]
    refine ⟨Nat, fun j => ⟨57, [(0, .sl 1 ((O ++ putB (IntKind.u64.wrap l[i].1.length) 1 ++ encKeys (l[i].1.take j)).map bytR) (some 0)), (1, factS l), (5, .int .i64 i), (6, .int .i64 j)], [], ⟨[], [(1, ((O ++ putB (IntKind.u64.wrap l[i].1.length) 1 ++ encKeys (l[i].1.take j)).map bytR).length)]⟩⟩, fun j => j ≤ l[i].1.length, fun j => l[i].1.length - j, ⟨0, by omega, rfl, ?_, ?_, .tips [] ?_⟩, ?_⟩
    · refine leT_cons (Wk.rows ?_) (leT_cons (Wk.refl _) (leT_cons (Wk.refl _) (leT_cons (Wk.refl _) (leT_nil))))
      simp [encKeys]
    · refine leL_nil
    · simp [encKeys]
    intro j hj
    conv => whnf
    refine ⟨_, by omega, rows_get hlt, ?_⟩
    conv => whnf
    refine bsp_intro ?_ ?_
    · intro h2
      have hlt2 : j < l[i].1.length := by simpa using h2
      conv => whnf
      refine ⟨_, by omega, rows_get hlt, ?_⟩
      conv => whnf
      refine ⟨_, by omega, rows_get hlt2, ?_⟩
      conv => whnf
      refine ⟨(f84_tok _ (IntKind.u64.wrap l[i].1[j]) 4 (by omega) ?_).mono ?_⟩
      · simp only [List.length_append, putB_len, encKeys_len, List.length_take]; omega
      rintro r H' ⟨rfl, rfl⟩
      conv => whnf
      refine ⟨j + 1, by omega, by dsimp only; omega, rfl, ?_, ?_, .tips [] ?_⟩
      · refine leT_cons (Wk.rows ?_) (leT_cons (Wk.refl _) (leT_cons (Wk.refl _) (leT_cons (Wk.int ?_) (leT_nil))))
        · rw [encKeys_snoc hlt2]; simp only [List.append_assoc]
        · exact IntWalk.i64_in _ (by omega)
      · refine leL_nil
      · dsimp only; rw [encKeys_snoc hlt2]; simp only [List.append_assoc]; rfl
    · intro h2
      have hge2 : l[i].1.length ≤ j := by simpa using h2
      conv => whnf
      refine ⟨_, by omega, rows_get hlt, ?_⟩
      conv => whnf
      rw [List.take_of_length_le hge2]
      refine ⟨(f84_tok _ (IntKind.u64.wrap l[i].2) 8 (by omega) ?_).mono ?_⟩
      · simp only [List.length_append, putB_len, encKeys_len]; omega
      rintro r H' ⟨rfl, rfl⟩
      conv => whnf
      have hO' : putB (IntKind.u64.wrap l.length) 4 ++ (l.take (i + 1)).flatMap encFact = O ++ putB (IntKind.u64.wrap l[i].1.length) 1 ++ encKeys l[i].1 ++ putB (IntKind.u64.wrap l[i].2) 8 := by
        rw [flat_snoc hlt, ← List.append_assoc, hO]; unfold encFact; simp only [List.append_assoc]
      refine ⟨i + 1, by omega, by dsimp only; omega, rfl, ?_, ?_, .tips [] ?_⟩
      · refine leT_cons (Wk.rows ?_) (leT_cons (Wk.refl _) (leT_cons (Wk.int ?_) (leT_nil)))
        · rw [hO']
        · exact IntWalk.i64_in _ (by omega)
      · refine leL_nil
      · dsimp only; rw [hO']; rfl
  · intro h
    have hge : l.length ≤ i := by simpa using h
    conv => whnf
    rw [List.take_of_length_le hge]
    exact ⟨_, ws_bytS _ _, bytS_pur _, rfl⟩

theorem f30_ok (l : List Fc) (hb : (encFacts l).length ≤ 1000000000000) : PC Try.prog 30 [factS l, factS l] fun r => r = .bool true := by
  refine PC.of_vc (fun _ => 0) (fun _ => true) ty_ok mix Try.func30 (by kernel_rfl) rfl (by kernel_rfl) (pur2 (factS_pur l) (pur2 (factS_pur l) pur0)) fun hf => ?_
  conv => whnf
  refine DrawVC.go [0, 3, 1, 2, 4, 5, 6, 7] (by kernel_rfl) ?_
  conv => whnf
  refine (f64_ok l hb).quiet (Wss.refl _) ?_
  rintro r rfl
  conv => whnf
  refine ⟨_, rfl, ?_⟩
  conv => whnf
  refine (f64_ok l hb).quiet (Wss.refl _) ?_
  rintro r rfl
  conv => whnf
  refine ⟨_, rfl, ?_⟩
  conv => whnf
  refine fin (.bool _) ?_
  show AV.bool _ = _
  congr 1
  simp
end Go.Proofs.Ytecpiplfjmmccaa.AM

/-
  Spans: the laws SpansParts and SpansWhole, walked.
  Conditions: the facts hold at most 1048576 values and letters together.
-/
namespace Go.Proofs.Ytecpiplfjmmccaa.AM
open Go
set_option maxRecDepth 20000

theorem encFact_len (f : Fc) : (encFact f).length = 4 * f.1.length + 9 := by
  unfold encFact
  rw [List.length_append, List.length_append, putB_len, putB_len, encKeys_len]; omega
theorem encFacts_len (l : List Fc) : (encFacts l).length ≤ 4 + 9 * fcBulk l := by
  unfold encFacts
  rw [List.length_append, putB_len]
  have : (l.flatMap encFact).length ≤ 9 * fcBulk l := by
    unfold fcBulk
    induction l with
    | nil => simp
    | cons f l ih =>
      rw [List.flatMap_cons, List.length_append, encFact_len, List.map_cons, List.sum_cons]
      omega
  omega
theorem fcBulk_filter (l : List Fc) (p : Fc → Bool) : fcBulk (l.filter p) ≤ fcBulk l := by
  unfold fcBulk
  induction l with
  | nil => simp
  | cons f l ih =>
    by_cases h : p f = true
    · rw [List.filter_cons_of_pos h]; simp only [List.map_cons, List.sum_cons]; omega
    · rw [List.filter_cons_of_neg h]; simp only [List.map_cons, List.sum_cons]; omega
theorem fcBulk_len (l : List Fc) : 2 * l.length ≤ fcBulk l ∧ ∀ f ∈ l, f.1.length + 2 ≤ fcBulk l := by
  unfold fcBulk
  induction l with
  | nil => simp
  | cons f l ih =>
    simp only [List.map_cons, List.sum_cons, List.length_cons]
    refine ⟨by omega, fun g hg => ?_⟩
    rcases List.mem_cons.1 hg with rfl | hg
    · omega
    · have := ih.2 g hg; omega
theorem fc_ok {l : List Fc} (h : fcBulk l ≤ 1048576) : FcOK l := by
  obtain ⟨h1, h2⟩ := fcBulk_len l
  exact ⟨by omega, fun f hf => by have := h2 f hf; omega⟩
theorem parts_enc {m : List Sp} {l : List Fc} {node : Int} (h : fcBulk l ≤ 1048576) : (encFacts (partsOf m l node)).length ≤ 1000000000000 := by
  have h1 := encFacts_len (partsOf m l node)
  have h2 : fcBulk (partsOf m l node) ≤ fcBulk l := fcBulk_filter l _
  omega

theorem f7_ok (e : Int) (l : List Sp) (cs : List Ct) (fs : List Fc) (node a b : Int) (hcs : ∀ c ∈ cs, CtOK c) (hfs : fcBulk fs ≤ 1048576) : PC Try.prog 7 [mapV e l, cutS cs, factS fs, .int .i64 node, .int .i64 a, .int .i64 b] fun r => r = .bool true := by
  refine PC.of_vc (fun _ => 0) (fun _ => true) ty_ok mix Try.func7 (by kernel_rfl) rfl (by kernel_rfl) (pur2 (mapV_pur e l) (pur2 (cutS_pur cs) (pur2 (factS_pur fs) (pur2 (.int _ _) (pur2 (.int _ _) (pur2 (.int _ _) pur0)))))) fun hf => ?_
  have hfc := fc_ok hfs
  conv => whnf
  refine bsp_intro ?_ ?_
  · intro _
    conv => whnf
    refine f21_ok.quiet (Wss.refl _) ?_
    rintro r rfl
    conv => whnf
    exact fin (.bool _) rfl
  intro _
  conv => whnf
  refine bsp_intro ?_ ?_
  · intro _
    conv => whnf
    refine f21_ok.quiet (Wss.refl _) ?_
    rintro r rfl
    conv => whnf
    exact fin (.bool _) rfl
  intro _
  conv => whnf
  refine f21_ok.quiet (Wss.refl _) ?_
  rintro r rfl
  conv => whnf
  refine (f19_ok 100 3 cs ⟨by omega, by omega⟩ ⟨by omega, by omega⟩ hcs).quiet (Wss.refl _) ?_
  rintro r rfl
  generalize (ofMap 100 3 cs).1 = ex
  generalize (ofMap 100 3 cs).2 = x
  conv => whnf
  refine DrawVC.go [0, 1, 2, 4, 5, 6, 3, 7, 8, 9, 10, 11, 12, 14, 15, 16, 13, 17, 18, 19, 20] (by kernel_rfl) ?_
  conv => whnf
  refine (f31_ok e l fs node hfc).quiet (Wss.refl _) ?_
  rintro r rfl
  conv => whnf
  refine (f32_ok e l fs node hfc).quiet (Wss.refl _) ?_
  rintro r rfl
  conv => whnf
  refine (f30_ok (partsOf l fs node) (parts_enc hfs)).quiet (Wss.refl _) ?_
  rintro r rfl
  conv => whnf
  refine (f31_ok ex x fs node hfc).quiet (Wss.refl _) ?_
  rintro r rfl
  conv => whnf
  refine (f32_ok ex x fs node hfc).quiet (Wss.refl _) ?_
  rintro r rfl
  conv => whnf
  refine (f30_ok (partsOf x fs node) (parts_enc hfs)).quiet (Wss.refl _) ?_
  rintro r rfl
  conv => whnf
  refine bsp_intro ?_ ?_
  · intro _
    conv => whnf
    exact fin (.bool _) rfl
  intro _
  conv => whnf
  refine bsp_intro ?_ ?_
  · intro _
    conv => whnf
    exact fin (.bool _) rfl
  intro _
  conv => whnf
  refine bsp_intro ?_ ?_
  · intro _
    conv => whnf
    exact fin (.bool _) rfl
  intro _
  conv => whnf
  refine bsp_intro ?_ ?_
  · intro _
    conv => whnf
    exact fin (.bool _) rfl
  intro _
  conv => whnf
  refine DrawVC.go [0, 1, 2, 3, 4, 5, 6, 8, 9, 10, 11, 12, 7, 13, 14, 15, 16, 17, 18, 19, 20, 21, 23, 24, 25, 26, 27, 22, 28, 29, 30, 31] (by kernel_rfl) ?_
  conv => whnf
  refine (f20_ok ex x (a.tmod 200) (b.tmod 200)).quiet (Wss.refl _) ?_
  rintro r rfl
  conv => whnf
  refine (f34_ok ex x (a.tmod 200) (b.tmod 200)).quiet (Wss.refl _) ?_
  rintro r rfl
  conv => whnf
  refine (f33_ok _ _).quiet (Wss.refl _) ?_
  rintro r rfl
  conv => whnf
  refine bsp_intro ?_ ?_
  · intro _
    conv => whnf
    refine (f20_ok e l (a.tmod 50) (b.tmod 50)).quiet (Wss.refl _) ?_
    rintro r rfl
    conv => whnf
    refine (f34_ok e l (a.tmod 50) (b.tmod 50)).quiet (Wss.refl _) ?_
    rintro r rfl
    conv => whnf
    refine (f33_ok _ _).quiet (Wss.refl _) ?_
    rintro r rfl
    conv => whnf
    exact fin (.bool _) (by simp [one?])
  · intro h; simp at h

/-- How many facts stand in a map's place. -/
def hasN (l : List Fc) : Nat := (l.filter fun f => match f.1 with | [] => false | k :: _ => decide (0 ≤ k)).length
theorem partsOf_nil (m : List Sp) (v : Int) (l : List Fc) (n : Int) : (partsOf m (([], v) :: l) n).length = (partsOf m l n).length := by unfold partsOf; rw [List.filter_cons_of_neg (by simp)]
theorem partsOf_cons (m : List Sp) (k : Int) (ks : List Int) (v : Int) (l : List Fc) (n : Int) : (partsOf m ((k :: ks, v) :: l) n).length = (partsOf m l n).length + (if find m k = n then 1 else 0) := by
  unfold partsOf
  by_cases hn : find m k = n
  · rw [List.filter_cons_of_pos (by simpa using hn), if_pos hn]; rfl
  · rw [List.filter_cons_of_neg (by simpa using hn), if_neg hn]; rfl
theorem hasN_nil (v : Int) (l : List Fc) : hasN (([], v) :: l) = hasN l := by unfold hasN; rw [List.filter_cons_of_neg (by simp)]
theorem hasN_cons (k : Int) (ks : List Int) (v : Int) (l : List Fc) : hasN ((k :: ks, v) :: l) = hasN l + (if 0 ≤ k then 1 else 0) := by
  unfold hasN
  by_cases hn : 0 ≤ k
  · rw [List.filter_cons_of_pos (by simpa using hn), if_pos hn]; rfl
  · rw [List.filter_cons_of_neg (by simpa using hn), if_neg hn]; rfl
theorem parts_sum {m : List Sp} (h : Snd m 100 4) (l : List Fc) : (partsOf m l 0).length + (partsOf m l 1).length + (partsOf m l 2).length + (partsOf m l 3).length = hasN l := by
  induction l with
  | nil => rfl
  | cons f l ih =>
    obtain ⟨ks, v⟩ := f
    cases ks with
    | nil => rw [partsOf_nil, partsOf_nil, partsOf_nil, partsOf_nil, hasN_nil]; exact ih
    | cons k ks =>
      rw [partsOf_cons, partsOf_cons, partsOf_cons, partsOf_cons, hasN_cons, ← ih]
      by_cases hk : 0 ≤ k
      · obtain ⟨g1, _, g2⟩ := find_in_range h hk
        have : find m k = 0 ∨ find m k = 1 ∨ find m k = 2 ∨ find m k = 3 := by omega
        rcases this with h | h | h | h <;> simp [h, hk] <;> omega
      · have := find_neg h (v := k) (by omega)
        simp [this, hk]

/-- The parts of the first n nodes. -/
def partsN (m : List Sp) (l : List Fc) : Nat → Nat
  | 0 => 0
  | n + 1 => partsN m l n + (partsOf m l n).length
theorem partsN_le (m : List Sp) (l : List Fc) (n : Nat) : partsN m l n ≤ n * l.length := by
  induction n with
  | zero => simp [partsN]
  | succ n ih =>
    have := partsOf_len m l n
    rw [partsN, Nat.add_mul]; omega
theorem hasN_snoc {l : List Fc} {i : Nat} (h : i < l.length) : hasN (l.take (i + 1)) = hasN (l.take i) + hasN [l[i]] := by
  rw [take_snoc h]; unfold hasN; rw [List.filter_append, List.length_append]
theorem hasN_le (l : List Fc) : hasN l ≤ l.length := List.length_filter_le ..
theorem partsOf_get {m : List Sp} {l : List Fc} {n : Int} {i : Nat} (h : i < (partsOf m l n).length) : ∃ k ks, (partsOf m l n)[i].1 = k :: ks ∧ find m k = n := by
  have := List.getElem_mem h
  unfold partsOf at this
  have := (List.mem_filter.1 this).2
  change _ at this
  generalize hf : (partsOf m l n)[i] = f
  have h2 : f ∈ partsOf m l n := by rw [← hf]; exact List.getElem_mem h
  unfold partsOf at h2
  have h3 := (List.mem_filter.1 h2).2
  obtain ⟨ks, v⟩ := f
  cases ks with
  | nil => cases h3
  | cons k ks => exact ⟨k, ks, rfl, by simpa using h3⟩

theorem f10_ok (cs : List Ct) (fs : List Fc) (hcs : ∀ c ∈ cs, CtOK c) (hfs : fcBulk fs ≤ 1048576) : PC Try.prog 10 [cutS cs, factS fs] fun r => r = .bool true := by
  refine PC.of_vc (fun _ => 0) (fun _ => true) ty_ok mix Try.func10 (by kernel_rfl) rfl (by kernel_rfl) (pur2 (cutS_pur cs) (pur2 (factS_pur fs) pur0)) fun hf => ?_
  have hfc := fc_ok hfs
  conv => whnf
  refine bsp_intro ?_ ?_
  · intro _
    conv => whnf
    refine f21_ok.quiet (Wss.refl _) ?_
    rintro r rfl
    conv => whnf
    exact fin (.bool _) rfl
  intro hl
  have hl : fs.length ≤ 100 := by have := of_decide_eq_false hl; simp at this; omega
  conv => whnf
  refine f21_ok.quiet (Wss.refl _) ?_
  rintro r rfl
  conv => whnf
  refine (f19_ok 100 4 cs ⟨by omega, by omega⟩ ⟨by omega, by omega⟩ hcs).quiet (Wss.refl _) ?_
  rintro r rfl
  obtain ⟨hsnd, _, _⟩ := of_snd (size := 100) (nodes := 4) ⟨by omega, by omega⟩ ⟨by omega, by omega⟩ cs hcs
  generalize (ofMap 100 4 cs).1 = e
  generalize (ofMap 100 4 cs).2 = m at hsnd
  conv => whnf
  refine ⟨Nat, fun i => ⟨79, [(1, factS fs), (5, .lptr 5 0), (6, .int .i64 0), (7, .int .i64 (hasN (fs.take i))), (8, .int .i64 i)], [(5, [.int .u32 e, spS m])], AH.none⟩, fun i => i ≤ fs.length, fun i => fs.length - i, ⟨0, by omega, rfl, ?_, ?_, .refl _⟩, ?_⟩
  · refine leT_cons (Wk.refl _) (leT_cons (Wk.refl _) (leT_cons (Wk.refl _) (leT_cons (Wk.int ?_) (leT_cons (Wk.refl _) (leT_nil)))))
    simp [hasN]
  · refine leL_cons rfl (leC_refl _) (leL_nil)
  intro i hi
  have hh := hasN_le (fs.take i)
  rw [List.length_take] at hh
  conv => whnf
  refine bsp_intro ?_ ?_
  · intro h
    have h : i < fs.length := by have := of_decide_eq_true h; simp at this; exact this
    have hstep : IntKind.i64.wrap ((i : Int) + 1) = ((i + 1 : Nat) : Int) := by rw [IntWalk.i64_in _ (by omega)]; omega
    have hs := hasN_snoc h
    conv => whnf
    refine ⟨_, by omega, rows_get h, ?_⟩
    conv => whnf
    refine bsp_intro ?_ ?_
    · intro h1
      have h1 : 0 < fs[i].1.length := by have := of_decide_eq_true h1; simp at this; omega
      conv => whnf
      refine ⟨_, by omega, rows_get h, ?_⟩
      conv => whnf
      refine ⟨_, by omega, rows_get h1, ?_⟩
      have hone : hasN [fs[i]] = if 0 ≤ fs[i].1[0] then 1 else 0 := by
        generalize fs[i] = f at h1
        obtain ⟨ks, v⟩ := f
        cases ks with
        | nil => simp at h1
        | cons k ks => rw [hasN_cons]; simp [hasN]
      conv => whnf
      refine bsp_intro ?_ ?_
      · intro h2
        have h2 : 0 ≤ fs[i].1[0] := of_decide_eq_true h2
        rw [if_pos h2] at hone
        conv => whnf
        refine ⟨i + 1, by omega, by dsimp only; omega, rfl, ?_, ?_, .refl _⟩
        · refine leT_cons (Wk.refl _) (leT_cons (Wk.refl _) (leT_cons (Wk.refl _) (leT_cons (Wk.int ?_) (leT_cons (Wk.int ?_) (leT_nil)))))
          · rw [hs, hone, IntWalk.i64_in _ (by omega)]; rfl
          · exact hstep
        · refine leL_cons rfl (leC_refl _) (leL_nil)
      · intro h2
        have h2 : ¬ 0 ≤ fs[i].1[0] := of_decide_eq_false h2
        rw [if_neg h2] at hone
        conv => whnf
        refine ⟨i + 1, by omega, by dsimp only; omega, rfl, ?_, ?_, .refl _⟩
        · refine leT_cons (Wk.refl _) (leT_cons (Wk.refl _) (leT_cons (Wk.refl _) (leT_cons (Wk.int ?_) (leT_cons (Wk.int ?_) (leT_nil)))))
          · rw [hs, hone]; rfl
          · exact hstep
        · refine leL_cons rfl (leC_refl _) (leL_nil)
    · intro h1
      have h1 : fs[i].1 = [] := by have := of_decide_eq_false h1; simp at this; exact this
      have hone : hasN [fs[i]] = 0 := by
        generalize fs[i] = f at h1
        obtain ⟨ks, v⟩ := f
        dsimp only at h1
        subst h1
        rw [hasN_nil]; rfl
      conv => whnf
      refine ⟨i + 1, by omega, by dsimp only; omega, rfl, ?_, ?_, .refl _⟩
      · refine leT_cons (Wk.refl _) (leT_cons (Wk.refl _) (leT_cons (Wk.refl _) (leT_cons (Wk.int ?_) (leT_cons (Wk.int ?_) (leT_nil)))))
        · rw [hs, hone]; rfl
        · exact hstep
      · refine leL_cons rfl (leC_refl _) (leL_nil)
  intro h
  have hge : i = fs.length := by have := of_decide_eq_false h; simp at this; omega
  rw [hge, List.take_length]
  clear h hh hi
  conv => whnf
  refine ⟨Nat, fun n => ⟨79, [(1, factS fs), (5, .lptr 5 0), (6, .int .i64 (partsN m fs n)), (7, .int .i64 (hasN fs)), (9, .int .i64 n)], [(5, [.int .u32 e, spS m])], AH.none⟩, fun n => n ≤ 4, fun n => 4 - n, ⟨0, by omega, rfl, ?_, ?_, .refl _⟩, ?_⟩
  · refine leT_cons (Wk.refl _) (leT_cons (Wk.refl _) (leT_cons (Wk.int ?_) (leT_cons (Wk.int ?_) (leT_cons (Wk.refl _) (leT_nil)))))
    · rfl
    · first | rfl | (dsimp only; rw [hge, List.take_length])
  · refine leL_cons rfl (leC_refl _) (leL_nil)
  intro n hn
  have hpl := partsN_le m fs n
  have hpl2 : partsN m fs n ≤ 400 := Nat.le_trans hpl (Nat.le_trans (Nat.mul_le_mul hn hl) (by omega))
  conv => whnf
  refine bsp_intro ?_ ?_
  · intro h
    have h : n < 4 := by have := of_decide_eq_true h; omega
    have hstep : IntKind.i64.wrap ((n : Int) + 1) = ((n + 1 : Nat) : Int) := by rw [IntWalk.i64_in _ (by omega)]; omega
    have hpo := partsOf_len m fs n
    conv => whnf
    refine (f31_ok e m fs n hfc).quiet (Wss.refl _) ?_
    rintro r rfl
    have hp2 : partsN m fs (n + 1) = partsN m fs n + (partsOf m fs n).length := rfl
    have hget := fun i => partsOf_get (m := m) (l := fs) (n := (n : Int)) (i := i)
    generalize partsOf m fs n = p at hpo hp2 hget
    have esum : IntKind.i64.wrap ((partsN m fs n : Int) + (p.length : Int)) = ((partsN m fs (n + 1) : Nat) : Int) := by rw [IntWalk.i64_in _ (by omega), hp2]; omega
    conv => whnf
    refine ⟨Nat, fun i => ⟨79, [(1, factS fs), (5, .lptr 5 0), (6, .int .i64 (partsN m fs (n + 1))), (7, .int .i64 (hasN fs)), (9, .int .i64 n), (10, factS p), (11, .int .i64 i)], [(5, [.int .u32 e, spS m])], AH.none⟩, fun i => i ≤ p.length, fun i => p.length - i, ⟨0, by omega, rfl, ?_, ?_, .refl _⟩, ?_⟩
    · refine leT_cons (Wk.refl _) (leT_cons (Wk.refl _) (leT_cons (Wk.int ?_) (leT_cons (Wk.refl _) (leT_cons (Wk.refl _) (leT_cons (Wk.refl _) (leT_cons (Wk.refl _) (leT_nil)))))))
      simp only [List.length_map]; exact esum
    · refine leL_cons rfl (leC_refl _) (leL_nil)
    intro i hi
    conv => whnf
    refine bsp_intro ?_ ?_
    · intro h
      have h : i < p.length := by have := of_decide_eq_true h; simp at this; exact this
      have hstep : IntKind.i64.wrap ((i : Int) + 1) = ((i + 1 : Nat) : Int) := by rw [IntWalk.i64_in _ (by omega)]; omega
      obtain ⟨k, ks, hk1, hk2⟩ := hget i h
      have hk0 : 0 < p[i].1.length := by rw [hk1]; simp
      have hk3 : p[i].1[0] = k := by simp [hk1]
      conv => whnf
      refine DrawVC.go [0, 1, 2, 3, 4, 5, 6, 7, 9, 8, 10] (by kernel_rfl) ?_
      conv => whnf
      refine ⟨_, by omega, rows_get h, ?_⟩
      conv => whnf
      refine ⟨_, by omega, rows_get hk0, ?_⟩
      conv => whnf
      rw [hk3]
      refine (f27_ok e m k).quiet (Wss.refl _) ?_
      rw [hk2]
      rintro r rfl
      conv => whnf
      refine bsp_intro ?_ ?_
      · intro h3; simp at h3
      intro _
      conv => whnf
      refine ⟨i + 1, by omega, by dsimp only; omega, rfl, ?_, ?_, .refl _⟩
      · refine leT_cons (Wk.refl _) (leT_cons (Wk.refl _) (leT_cons (Wk.refl _) (leT_cons (Wk.refl _) (leT_cons (Wk.refl _) (leT_cons (Wk.refl _) (leT_cons (Wk.int ?_) (leT_nil)))))))
        exact hstep
      · refine leL_cons rfl (leC_refl _) (leL_nil)
    · intro _
      conv => whnf
      refine ⟨n + 1, by omega, by dsimp only; omega, rfl, ?_, ?_, .refl _⟩
      · refine leT_cons (Wk.refl _) (leT_cons (Wk.refl _) (leT_cons (Wk.refl _) (leT_cons (Wk.refl _) (leT_cons (Wk.int ?_) (leT_nil)))))
        exact hstep
      · refine leL_cons rfl (leC_refl _) (leL_nil)
  intro h
  have hn4 : n = 4 := by have := of_decide_eq_false h; omega
  have hsum := parts_sum hsnd fs
  conv => whnf
  refine fin (.bool _) ?_
  rw [hn4]
  have : partsN m fs 4 = hasN fs := by rw [← hsum]; simp [partsN]
  rw [this]
  simp [one?]
end Go.Proofs.Ytecpiplfjmmccaa.AM
