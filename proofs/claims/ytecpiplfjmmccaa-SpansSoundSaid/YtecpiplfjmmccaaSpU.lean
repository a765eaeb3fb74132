/-
  Spans: glued and Split, walked.
  Conditions: none.
-/
import Derived.Test.YtecpiplfjmmccaaSpT
import Derived.Test.YtecpiplfjmmccaaAmFrz
namespace Go.Proofs.Ytecpiplfjmmccaa.AM
open Go
set_option maxRecDepth 20000

theorem f61_ok (H : AH) (id : Nat) (l : List Sp) (hl : H.blks[id]? = some (.rows 2 (l.map spR))) (hb : l.length ≤ 1000000000000) :
    AC Try.prog 61 [.ms 2 id 0 l.length] H fun r H' => r = .ms 2 id 0 (glue l).length ∧ H' = H.upd id (.rows 2 ((glue l).map spR)) := by
  refine AC.of_vc (md := fun | 1000000 => 1 | _ => 0) (qt := fun _ => false) ty_ok mix Try.func61 (by kernel_rfl) rfl (by kernel_rfl) ?_
  conv => whnf
  refine ⟨(f81_ok H id l hl hb).mono ?_⟩
  rintro r H' ⟨rfl, hH⟩
  rw [hH]
  conv => whnf
  exact ⟨rfl, rfl⟩

/-- What a slice under way holds. -/
def Way (H : AH) (id : Nat) (L : List Sp) : Prop := H.blks[id]? = some (.rows 2 (L.map spR))
theorem Way.snoc {H : AH} {id : Nat} {L : List Sp} (s : Sp) : Way ((H.upd id .dead).push (.rows 2 ((L.map spR).take L.length ++ [spR s]))) H.blks.length (L ++ [s]) := by
  unfold Way
  have : (H.upd id .dead).blks.length = H.blks.length := AH.upd_len
  rw [AH.push_at, if_pos this.symm, List.take_of_length_le (by simp)]
  simp
theorem sp_one {L : List Sp} : ∀ i j x, cellAt (L.map spR) i j = some x → x.one = true := by
  intro i j x hx
  obtain ⟨r, h1, h2⟩ := cellAt_some hx
  rw [List.getElem?_map] at h1
  obtain ⟨s, _, rfl⟩ := Option.map_eq_some_iff.1 h1
  match j, h2 with
  | 0, h2 => simp [spR] at h2; subst h2; rfl
  | 1, h2 => simp [spR] at h2; subst h2; rfl
theorem fz_split {id n : Nat} {e k : Int} {L : List Sp} (hn : n = L.length) : Fz id 2 (L.map spR) (.tup [.agg [.int .u32 e, .ms 2 id 0 n], .int .u16 k]) (.tup [mapV e L, .int .u16 k]) := by
  refine .tup _ _ (fun j => if j = 0 then .agg [.int .u32 e, .ms 2 id 0 n] else .int .u16 k) rfl (fun j x hx => ?_) (fun j x hx => ?_) <;> match j, hx with
  | 0, hx => simp at hx; subst hx; first | rfl | (
      refine .agg _ _ (fun j => if j = 0 then .int .u32 e else .ms 2 id 0 n) rfl (fun j x hx => ?_) (fun j x hx => ?_) (fun j x hx => ?_) <;> match j, hx with
      | 0, hx => simp at hx; subst hx; first | rfl | exact .refl _
      | 1, hx =>
        simp at hx; subst hx; first | rfl | (
          have := Fz.ms (id := id) (z := 2) (l := L.map spR) 0 n (by simp [hn])
          have e2 : ((L.map spR).drop 0).take n = L.map spR := by rw [hn, List.drop_zero, List.take_of_length_le (by simp)]
          rw [e2] at this
          exact this))
  | 1, hx => simp at hx; subst hx; first | rfl | exact .refl _

theorem f22_ok (e : Int) (l : List Sp) (size nodes a b node : Int) : PC Try.prog 22 [mapV e l, .int .i64 size, .int .i64 nodes, .int .i64 a, .int .i64 b, .int .i64 node] fun r =>
    r = .tup [mapV (splitOf e l size nodes a b node).1 (splitOf e l size nodes a b node).2.1, .int .u16 (splitOf e l size nodes a b node).2.2] := by
  refine PC.of_frz (fun | 75 => 2 | 82 => 2 | 93 => 2 | 108 => 2 | 1000000 => 1 | _ => 0) (fun | 61 => false | _ => true) ty_ok mix Try.func22 (by kernel_rfl) rfl (by kernel_rfl) (pur2 (mapV_pur e l) (pur2 (.int _ _) (pur2 (.int _ _) (pur2 (.int _ _) (pur2 (.int _ _) (pur2 (.int _ _) pur0)))))) fun hf => ?_
  have bad : ∀ (H' : AH), ¬ (Valid l size nodes a b node ∧ Other l a b node size.toNat) → (fun r H' => (∃ r', Ws r r' ∧ Pur r' ∧ r' = .tup [mapV (splitOf e l size nodes a b node).1 (splitOf e l size nodes a b node).2.1, .int .u16 (splitOf e l size nodes a b node).2.2]) ∨
      ∃ id z L r', H'.blks[id]? = some (.rows z L) ∧ (∀ i j x, cellAt L i j = some x → x.one = true) ∧ Fz id z L r r' ∧ Pur r' ∧ r' = .tup [mapV (splitOf e l size nodes a b node).1 (splitOf e l size nodes a b node).2.1, .int .u16 (splitOf e l size nodes a b node).2.2]) (one? [AV.agg [.int .u32 0, .nils], .int .u16 120]) H' := fun H' h =>
    .inl ⟨_, ws_tup2 (ws_nilV 0) (.refl _), pur_tup2 (mapV_pur _ _) (.int _ _), by unfold splitOf; rw [if_neg h]⟩
  have hla := mapV_len (e := e) (l := l) (hf _ (by simp))
  conv => whnf
  refine (f25_ok e l size nodes).quiet (Wss.refl _) ?_
  rintro r ⟨s, rfl, hs⟩
  conv => whnf
  refine bsp_intro ?_ ?_
  · intro h
    have h : ¬ Snd l size nodes := fun h' => by rw [hs.2 h'] at h; cases h
    conv => whnf
    exact bad _ fun hv => h hv.1.1
  intro h
  have hsnd : Snd l size nodes := hs.1 (by simpa using h)
  conv => whnf
  refine bsp_intro ?_ ?_
  · intro h
    have h := of_decide_eq_true h
    conv => whnf
    exact bad _ fun hv => by have := hv.1.2.2.2.2.2.2.2; omega
  intro h
  have hv6 := of_decide_eq_false h
  conv => whnf
  refine bsp_intro ?_ ?_
  · intro h
    have h := of_decide_eq_true h
    conv => whnf
    exact bad _ fun hv => by have := hv.1.2.1; omega
  intro h
  have hv1 := of_decide_eq_false h
  conv => whnf
  refine bsp_intro ?_ ?_
  · intro h
    have h := of_decide_eq_true h
    conv => whnf
    exact bad _ fun hv => by have := hv.1.2.2.1; omega
  intro h
  have hv2 := of_decide_eq_false h
  conv => whnf
  refine bsp_intro ?_ ?_
  · intro h
    have h := of_decide_eq_true h
    conv => whnf
    exact bad _ fun hv => by have := hv.1.2.2.2.1; omega
  intro h
  have hv3 := of_decide_eq_false h
  conv => whnf
  refine bsp_intro ?_ ?_
  · intro h
    have h := of_decide_eq_true h
    conv => whnf
    exact bad _ fun hv => by have := hv.1.2.2.2.2.1; omega
  intro h
  have hv4 := of_decide_eq_false h
  conv => whnf
  refine bsp_intro ?_ ?_
  · intro h
    have h := min_ge (of_decide_eq_true h)
    conv => whnf
    exact bad _ fun hv => by have := hv.1.2.2.2.2.2; omega
  intro h
  have hv5 := min_lt (of_decide_eq_false h)
  have hvalid : Valid l size nodes a b node := ⟨hsnd, by omega, by omega, by omega, by omega, hv5.1, hv5.2, by omega⟩
  have hll : l.length ≤ 40 := hsnd.2.1
  conv => whnf
  refine (f20_ok e l a b).quiet (Wss.refl _) ?_
  rintro r rfl
  conv => whnf
  refine (f60_ok (nodesOf l a b) [node]).quiet (Wss.refl _) ?_
  rintro r rfl
  have hone := nodes_one (node := node) hsnd (by omega) (by omega : a < b) (by omega : b ≤ size) (by omega)
  conv => whnf
  refine bsp_intro ?_ ?_
  · intro h
    have h := of_decide_eq_true h
    conv => whnf
    exact bad _ fun hv => hone.1 h hv.2
  intro h
  have hoth : Other l a b node size.toNat := by
    have h := of_decide_eq_false h
    exact Classical.byContradiction fun hn => h (hone.2 hn)
  conv => whnf
  refine ⟨Nat × AH × Nat × List Sp, fun p => ⟨121, [(6, .lptr 6 0), (12, .lptr 12 0), (1, .int .i64 size), (3, .int .i64 a), (4, .int .i64 b), (5, .int .i64 node), (13, .int .u16 0), (14, .ms 2 p.2.2.1 0 p.2.2.2.length), (62, spS l), (63, .int .i64 l.length), (64, .int .i64 p.1)],
      [(6, [.int .u32 e, spS l]), (12, [.int .u32 0, .nils])], p.2.1⟩, fun p => p.1 ≤ l.length ∧ p.2.2.2 = ((l.take p.1).filter fun s => decide (s.1 < a)) ∧ Way p.2.1 p.2.2.1 p.2.2.2, fun p => l.length - p.1, ⟨(0, AH.none.push (.rows 2 []), 0, []), ⟨Nat.zero_le _, rfl, rfl⟩, rfl, ?_, ?_, .empty 2 (by omega)⟩, ?_⟩
  · refine leT_cons (Wk.refl _) (leT_cons (Wk.refl _) (leT_cons (Wk.refl _) (leT_cons (Wk.refl _) (leT_cons (Wk.refl _) (leT_cons (Wk.refl _) (leT_cons (Wk.refl _) (leT_cons (.nilms 2 0) (leT_cons (Wk.refl _) (leT_cons (Wk.int ?_) (leT_cons (Wk.refl _) (leT_nil)))))))))))
    simp
  · refine leL_cons rfl (leC_refl _) (leL_cons rfl (leC_refl _) (leL_nil))
  rintro ⟨i, H, id, L⟩ ⟨hi, hL, hw⟩
  dsimp only at hi hL hw
  have hLl : L.length ≤ 40 := by rw [hL]; exact Nat.le_trans (List.length_filter_le _ _) (by simp; omega)
  conv => whnf
  refine bsp_intro ?_ ?_
  · intro h
    have hlt : i < l.length := by have := of_decide_eq_true h; omega
    have hstep : IntKind.i64.wrap ((i : Int) + 1) = ((i + 1 : Nat) : Int) := IntWalk.i64_in _ (by omega)
    conv => whnf
    refine ⟨_, by omega, rows_get hlt, ?_⟩
    conv => whnf
    refine bsp_intro ?_ ?_
    · intro h
      have h1 : l[i].1 < a := of_decide_eq_true h
      have hnx : L ++ [l[i]] = (l.take (i + 1)).filter (fun s => decide (s.1 < a)) := by rw [take_snoc hlt, List.filter_append, hL]; simp [h1]
      conv => whnf
      refine ⟨_, hw, ?_⟩
      conv => whnf
      refine ⟨(by dsimp only; simp; omega), ?_⟩
      conv => whnf
      refine ⟨(i + 1, _, H.blks.length, L ++ [l[i]]), ⟨by omega, hnx, Way.snoc (H := H) (id := id) (L := L) l[i]⟩, by dsimp only; omega, rfl, ?_, ?_, .refl _⟩
      · refine leT_cons (Wk.refl _) (leT_cons (Wk.refl _) (leT_cons (Wk.refl _) (leT_cons (Wk.refl _) (leT_cons (Wk.refl _) (leT_cons (Wk.refl _) (leT_cons (Wk.refl _) (leT_cons (.of ?_) (leT_cons (Wk.refl _) (leT_cons (Wk.refl _) (leT_cons (Wk.int ?_) (leT_nil)))))))))))
        · dsimp only
          rw [List.length_append]; rfl
        · exact hstep
      · refine leL_cons rfl (leC_refl _) (leL_cons rfl (leC_refl _) (leL_nil))
    · intro h
      have h1 : ¬ l[i].1 < a := of_decide_eq_false h
      have hnx : L = (l.take (i + 1)).filter (fun s => decide (s.1 < a)) := by rw [take_snoc hlt, List.filter_append, hL]; simp; omega
      conv => whnf
      refine ⟨(i + 1, H, id, L), ⟨by omega, hnx, hw⟩, by dsimp only; omega, rfl, ?_, ?_, .refl _⟩
      · refine leT_cons (Wk.refl _) (leT_cons (Wk.refl _) (leT_cons (Wk.refl _) (leT_cons (Wk.refl _) (leT_cons (Wk.refl _) (leT_cons (Wk.refl _) (leT_cons (Wk.refl _) (leT_cons (Wk.refl _) (leT_cons (Wk.refl _) (leT_cons (Wk.refl _) (leT_cons (Wk.int ?_) (leT_nil)))))))))))
        exact hstep
      · refine leL_cons rfl (leC_refl _) (leL_cons rfl (leC_refl _) (leL_nil))
  · intro h
    have hge : i = l.length := by have := of_decide_eq_false h; omega
    rw [hge, List.take_length] at hL
    clear hi
    conv => whnf
    refine ⟨_, hw, ?_⟩
    conv => whnf
    refine ⟨(by dsimp only; simp; omega), ?_⟩
    have hw2 := Way.snoc (H := H) (id := id) (L := L) (a, node)
    conv => whnf
    refine bsp_intro ?_ ?_
    · intro h
      have h7 : b < size := of_decide_eq_true h
      conv => whnf
      refine (f27_ok e l b).quiet (Wss.refl _) ?_
      rintro r rfl
      conv => whnf
      refine ⟨_, hw2, ?_⟩
      conv => whnf
      refine ⟨(by dsimp only; simp; omega), ?_⟩
      generalize hB0 : L ++ [(a, node)] = B0 at hw2
      have hw3 := Way.snoc (H := (H.upd id .dead).push (.rows 2 ((L.map spR).take L.length ++ [spR (a, node)]))) (id := H.blks.length) (L := B0) (b, find l b)
      have hB : B0 ++ [(b, find l b)] = (l.filter fun s => decide (s.1 < a)) ++ [(a, node)] ++ (if b < size then [(b, find l b)] else []) := by rw [if_pos h7, ← hB0, hL]
      have hB0l : L.length + 1 = B0.length := by rw [← hB0]; simp
      have hBl : (B0 ++ [(b, find l b)]).length = L.length + 1 + 1 := by rw [List.length_append, ← hB0l]; rfl
      rw [← hB0l] at hw3
      generalize B0 ++ [(b, find l b)] = B at hw3 hB hBl
      clear hw hL hw2
      conv => whnf
      refine ⟨Nat × AH × Nat × List Sp, fun p => ⟨121, [(6, .lptr 6 0), (12, .lptr 12 0), (4, .int .i64 b), (13, .int .u16 0), (14, .ms 2 p.2.2.1 0 p.2.2.2.length), (95, spS l), (96, .int .i64 l.length), (97, .int .i64 p.1)],
        [(6, [.int .u32 e, spS l]), (12, [.int .u32 0, .nils])], p.2.1⟩, fun p => p.1 ≤ l.length ∧ p.2.2.2 = B ++ ((l.take p.1).filter fun s => decide (b < s.1)) ∧ Way p.2.1 p.2.2.1 p.2.2.2, fun p => l.length - p.1, ⟨(0, _, _, B), ⟨Nat.zero_le _, by simp, hw3⟩, rfl, ?_, ?_, .refl _⟩, ?_⟩
      · refine leT_cons (Wk.refl _) (leT_cons (Wk.refl _) (leT_cons (Wk.refl _) (leT_cons (Wk.refl _) (leT_cons (.of ?_) (leT_cons (Wk.refl _) (leT_cons (Wk.int ?_) (leT_cons (Wk.refl _) (leT_nil))))))))
        · simp only [hBl]; rfl
        · simp
      · refine leL_cons rfl (leC_refl _) (leL_cons rfl (leC_refl _) (leL_nil))
      clear hw3
      rintro ⟨i, H, id, L⟩ ⟨hi, hL, hw⟩
      dsimp only at hi hL hw
      have hLl : L.length ≤ 100 := by
        rw [hL, List.length_append]
        have := List.length_filter_le (fun s : Sp => decide (b < s.1)) (l.take i)
        have h2 : (l.take i).length ≤ l.length := by simp; omega
        omega
      conv => whnf
      refine bsp_intro ?_ ?_
      · intro h
        have hlt : i < l.length := by have := of_decide_eq_true h; omega
        have hstep : IntKind.i64.wrap ((i : Int) + 1) = ((i + 1 : Nat) : Int) := IntWalk.i64_in _ (by omega)
        conv => whnf
        refine ⟨_, by omega, rows_get hlt, ?_⟩
        conv => whnf
        refine bsp_intro ?_ ?_
        · intro h
          have h1 : b < l[i].1 := of_decide_eq_true h
          have hnx : L ++ [l[i]] = B ++ (l.take (i + 1)).filter (fun s => decide (b < s.1)) := by rw [take_snoc hlt, List.filter_append, hL, List.append_assoc]; simp [h1]
          conv => whnf
          refine ⟨_, hw, ?_⟩
          conv => whnf
          refine ⟨(by dsimp only; simp; omega), ?_⟩
          conv => whnf
          refine ⟨(i + 1, _, H.blks.length, L ++ [l[i]]), ⟨by omega, hnx, Way.snoc (H := H) (id := id) (L := L) l[i]⟩, by dsimp only; omega, rfl, ?_, ?_, .refl _⟩
          · refine leT_cons (Wk.refl _) (leT_cons (Wk.refl _) (leT_cons (Wk.refl _) (leT_cons (Wk.refl _) (leT_cons (.of ?_) (leT_cons (Wk.refl _) (leT_cons (Wk.refl _) (leT_cons (Wk.int ?_) (leT_nil))))))))
            · dsimp only
              rw [List.length_append]; rfl
            · exact hstep
          · refine leL_cons rfl (leC_refl _) (leL_cons rfl (leC_refl _) (leL_nil))
        · intro h
          have h1 : ¬ b < l[i].1 := of_decide_eq_false h
          have hnx : L = B ++ (l.take (i + 1)).filter (fun s => decide (b < s.1)) := by rw [take_snoc hlt, List.filter_append, hL]; simp; omega
          conv => whnf
          refine ⟨(i + 1, H, id, L), ⟨by omega, hnx, hw⟩, by dsimp only; omega, rfl, ?_, ?_, .refl _⟩
          · refine leT_cons (Wk.refl _) (leT_cons (Wk.refl _) (leT_cons (Wk.refl _) (leT_cons (Wk.refl _) (leT_cons (Wk.refl _) (leT_cons (Wk.refl _) (leT_cons (Wk.refl _) (leT_cons (Wk.int ?_) (leT_nil))))))))
            exact hstep
          · refine leL_cons rfl (leC_refl _) (leL_cons rfl (leC_refl _) (leL_nil))
      · intro h
        have hge : i = l.length := by have := of_decide_eq_false h; omega
        rw [hge, List.take_length] at hL
        have hpre : L = preOf l size a b node := by rw [hL, hB]; rfl
        have hgl : glue L = (runs (ndOf l a b node) size.toNat).1 := by rw [hpre]; exact glue_pre hsnd (by omega) (by omega) (by omega) (by omega)
        clear hi
        conv => whnf
        refine ⟨(f61_ok H id L hw (by omega)).mono ?_⟩
        rintro r H' ⟨rfl, hH⟩
        rw [hH]
        clear hH H'
        conv => whnf
        refine bsp_intro ?_ ?_
        · intro h
          have h5 : 40 < (runs (ndOf l a b node) size.toNat).1.length := by have := of_decide_eq_true h; rw [← hgl]; omega
          conv => whnf
          exact .inl ⟨_, ws_tup2 (ws_nilV 0) (.refl _), pur_tup2 (mapV_pur _ _) (.int _ _), by unfold splitOf; rw [if_pos ⟨hvalid, hoth⟩, if_pos h5]⟩
        · intro h
          have h5 : ¬ 40 < (runs (ndOf l a b node) size.toNat).1.length := by have := of_decide_eq_false h; rw [← hgl]; omega
          conv => whnf
          refine .inr ⟨id, 2, _, _, AH.upd_same hw, sp_one, fz_split rfl, pur_tup2 (mapV_pur _ _) (.int _ _), ?_⟩
          unfold splitOf; rw [if_pos ⟨hvalid, hoth⟩, if_neg h5, hgl]
    · intro h
      have h7 : ¬ b < size := of_decide_eq_false h
      have hw3 := hw2
      have hB : L ++ [(a, node)] = (l.filter fun s => decide (s.1 < a)) ++ [(a, node)] ++ (if b < size then [(b, find l b)] else []) := by rw [if_neg h7, hL]; simp
      have hBl : (L ++ [(a, node)]).length = L.length + 1 := by simp
      generalize L ++ [(a, node)] = B at hw3 hB hBl
      clear hw hL hw2
      conv => whnf
      refine ⟨Nat × AH × Nat × List Sp, fun p => ⟨121, [(6, .lptr 6 0), (12, .lptr 12 0), (4, .int .i64 b), (13, .int .u16 0), (14, .ms 2 p.2.2.1 0 p.2.2.2.length), (95, spS l), (96, .int .i64 l.length), (97, .int .i64 p.1)],
        [(6, [.int .u32 e, spS l]), (12, [.int .u32 0, .nils])], p.2.1⟩, fun p => p.1 ≤ l.length ∧ p.2.2.2 = B ++ ((l.take p.1).filter fun s => decide (b < s.1)) ∧ Way p.2.1 p.2.2.1 p.2.2.2, fun p => l.length - p.1, ⟨(0, _, _, B), ⟨Nat.zero_le _, by simp, hw3⟩, rfl, ?_, ?_, .refl _⟩, ?_⟩
      · refine leT_cons (Wk.refl _) (leT_cons (Wk.refl _) (leT_cons (Wk.refl _) (leT_cons (Wk.refl _) (leT_cons (.of ?_) (leT_cons (Wk.refl _) (leT_cons (Wk.int ?_) (leT_cons (Wk.refl _) (leT_nil))))))))
        · simp only [hBl]; rfl
        · simp
      · refine leL_cons rfl (leC_refl _) (leL_cons rfl (leC_refl _) (leL_nil))
      clear hw3
      rintro ⟨i, H, id, L⟩ ⟨hi, hL, hw⟩
      dsimp only at hi hL hw
      have hLl : L.length ≤ 100 := by
        rw [hL, List.length_append]
        have := List.length_filter_le (fun s : Sp => decide (b < s.1)) (l.take i)
        have h2 : (l.take i).length ≤ l.length := by simp; omega
        omega
      conv => whnf
      refine bsp_intro ?_ ?_
      · intro h
        have hlt : i < l.length := by have := of_decide_eq_true h; omega
        have hstep : IntKind.i64.wrap ((i : Int) + 1) = ((i + 1 : Nat) : Int) := IntWalk.i64_in _ (by omega)
        conv => whnf
        refine ⟨_, by omega, rows_get hlt, ?_⟩
        conv => whnf
        refine bsp_intro ?_ ?_
        · intro h
          have h1 : b < l[i].1 := of_decide_eq_true h
          have hnx : L ++ [l[i]] = B ++ (l.take (i + 1)).filter (fun s => decide (b < s.1)) := by rw [take_snoc hlt, List.filter_append, hL, List.append_assoc]; simp [h1]
          conv => whnf
          refine ⟨_, hw, ?_⟩
          conv => whnf
          refine ⟨(by dsimp only; simp; omega), ?_⟩
          conv => whnf
          refine ⟨(i + 1, _, H.blks.length, L ++ [l[i]]), ⟨by omega, hnx, Way.snoc (H := H) (id := id) (L := L) l[i]⟩, by dsimp only; omega, rfl, ?_, ?_, .refl _⟩
          · refine leT_cons (Wk.refl _) (leT_cons (Wk.refl _) (leT_cons (Wk.refl _) (leT_cons (Wk.refl _) (leT_cons (.of ?_) (leT_cons (Wk.refl _) (leT_cons (Wk.refl _) (leT_cons (Wk.int ?_) (leT_nil))))))))
            · dsimp only
              rw [List.length_append]; rfl
            · exact hstep
          · refine leL_cons rfl (leC_refl _) (leL_cons rfl (leC_refl _) (leL_nil))
        · intro h
          have h1 : ¬ b < l[i].1 := of_decide_eq_false h
          have hnx : L = B ++ (l.take (i + 1)).filter (fun s => decide (b < s.1)) := by rw [take_snoc hlt, List.filter_append, hL]; simp; omega
          conv => whnf
          refine ⟨(i + 1, H, id, L), ⟨by omega, hnx, hw⟩, by dsimp only; omega, rfl, ?_, ?_, .refl _⟩
          · refine leT_cons (Wk.refl _) (leT_cons (Wk.refl _) (leT_cons (Wk.refl _) (leT_cons (Wk.refl _) (leT_cons (Wk.refl _) (leT_cons (Wk.refl _) (leT_cons (Wk.refl _) (leT_cons (Wk.int ?_) (leT_nil))))))))
            exact hstep
          · refine leL_cons rfl (leC_refl _) (leL_cons rfl (leC_refl _) (leL_nil))
      · intro h
        have hge : i = l.length := by have := of_decide_eq_false h; omega
        rw [hge, List.take_length] at hL
        have hpre : L = preOf l size a b node := by rw [hL, hB]; rfl
        have hgl : glue L = (runs (ndOf l a b node) size.toNat).1 := by rw [hpre]; exact glue_pre hsnd (by omega) (by omega) (by omega) (by omega)
        clear hi
        conv => whnf
        refine ⟨(f61_ok H id L hw (by omega)).mono ?_⟩
        rintro r H' ⟨rfl, hH⟩
        rw [hH]
        clear hH H'
        conv => whnf
        refine bsp_intro ?_ ?_
        · intro h
          have h5 : 40 < (runs (ndOf l a b node) size.toNat).1.length := by have := of_decide_eq_true h; rw [← hgl]; omega
          conv => whnf
          exact .inl ⟨_, ws_tup2 (ws_nilV 0) (.refl _), pur_tup2 (mapV_pur _ _) (.int _ _), by unfold splitOf; rw [if_pos ⟨hvalid, hoth⟩, if_pos h5]⟩
        · intro h
          have h5 : ¬ 40 < (runs (ndOf l a b node) size.toNat).1.length := by have := of_decide_eq_false h; rw [← hgl]; omega
          conv => whnf
          refine .inr ⟨id, 2, _, _, AH.upd_same hw, sp_one, fz_split rfl, pur_tup2 (mapV_pur _ _) (.int _ _), ?_⟩
          unfold splitOf; rw [if_pos ⟨hvalid, hoth⟩, if_neg h5, hgl]
end Go.Proofs.Ytecpiplfjmmccaa.AM
