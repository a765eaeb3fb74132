/-
  Texts laid together by program (bundle.py): each part says in its own head what is proved. What is proved here serves the law's row.
  Conditions: as each part says.
-/
import Derived.Test.YtecpiplfjmmccaaCn5
import Derived.Test.YtecpiplfjmmccaaCnShelf
import Derived.Test.YtecpiplfjmmccaaCn6
/-
  The keys of a map of numbers, sorted (slices.Sorted of maps.Keys): by the base's own laws; told without addresses.
  Conditions: the map's keys are numbers of their kind.
-/
namespace Go.Proofs.Ytecpiplfjmmccaa.AM
open Go Go.Proofs Go.RowKit Go.Maps Go.Sort Go.Shelf

/-- slices.Sort's two contracts at this dump, at the fence that asks nothing. -/
theorem sortsA (m : Nat) : AnyZI.SortsIn Try.prog Try.sortedA_ren Fence.wide m :=
  ⟨fun blk off cap ss W hH hblk hsz => callsIn_wide.2 (AnyM.slices_Sort_int Try.sortA blk off cap ss W hH hblk hsz),
   fun p cap W => callsIn_wide.2 (AnyM.slices_Sort_int_none Try.sortA p cap W)⟩

theorem f59_ok (H : AH) (id : Nat) : AC Try.prog 59 [.map id] H fun r H' => r = .fn 80 [] [.ptr H.blks.length 0 0] ∧ H' = H.push (.rows 1 [[.map id]]) := by
  refine AC.of_vc (md := fun | 1 => 2 | 1000000 => 1 | _ => 0) (qt := fun _ => true) ty_ok mix Try.func59 (by kernel_rfl) rfl (by kernel_rfl) ?_
  conv => whnf
  exact ⟨rfl, rfl⟩

set_option maxHeartbeats 1000000 in
theorem f58_ok (H : AH) (id idb : Nat) (es : List (Int × AV)) (pd : Option (Int × Nat)) (hi : H.blks[id]? = some (.map .i64 es pd)) (hib : H.blks[idb]? = some (.rows 1 [[.map id]])) (hw : ∀ p ∈ es, (Lit.int .i64 p.1).wf = true) (hl : es.length ≤ 1000000000000) :
    AC Try.prog 58 [.fn 80 [] [.ptr idb 0 0]] H fun r H' => H' = H ∧ ∃ l : List Int, l.Perm (es.map (·.1)) ∧ l.Pairwise (fun a b => a ≤ b) ∧ ((l = [] ∧ r = .nils) ∨ r = intS l) := by
  refine ⟨⟨_, _, Try.func58, by kernel_rfl, rfl⟩, fun G w vs hH hr => ?_⟩
  obtain ⟨hlv, hr⟩ := hr
  match vs, hlv with
  | [v], _ =>
  have h0 := hr 0 _ rfl
  simp only [List.getD_cons_zero] at h0
  cases h0 with
  | fn _ _ _ fv cv hf hc hfr hcr =>
  have hf0 : fv = #[] := Array.eq_empty_of_size_eq_zero hf
  subst hf0
  obtain ⟨c0, rfl⟩ : ∃ c0, cv = #[c0] := by
    obtain ⟨cl⟩ := cv
    match cl, hc with
    | [c0], _ => exact ⟨c0, rfl⟩
  have h1 : Rep G w (.ptr idb 0 0) c0 := hcr 0 _ rfl
  cases h1 with
  | ptr _ _ _ B z hmb =>
  obtain ⟨rfl, _, us, e, g1, _, g3, g4⟩ := rows_at (S := ⟨0, [], [], H⟩) hH hib hmb
  have g5 := g4 0 0 (.map id) rfl
  simp only [Nat.zero_mul, Nat.add_zero] at g5
  rcases g5 with g5 | ⟨_, g5⟩
  · cases g5
  generalize hu0 : us.getD 0 Go.undef = u0 at g5
  cases g5 with
  | map _ b hmb2 =>
  obtain ⟨en, clock, hat⟩ := map_at (S := ⟨0, [], [], H⟩) hH hi hmb2
  have hk3 : Try.prog.underlying 3 = some (.int .i64) := Try.underlying3
  obtain ⟨D, hown, hDl, hDp⟩ := map_owns (P := Try.prog) hat hk3 hw (by have : maxLen = 9223372036854775807 := rfl; omega)
  have hcB : w.cell? ⟨B, 0, none⟩ = some (.map (some b)) := by
    have := cell_row (w := w) g1 (j := 0) (by simp at g3; omega)
    rw [this, hu0]
  have hseq : SeqGives Fence.wide 2 Try.prog 80 #[.pointer (some ⟨B, 0, none⟩)] encZ (fun ss => ss.Perm (intKeys (.map D))) (Maps.size (.map D)) w :=
    AnyZI.keys_gives (ρ := Try.keysA_ren) { Try.keysA with } Fence.wide _ trivial rfl (by omega) B b es.length (.map D) _ (lt_of_heap g1) hcB hown
  have hsz : Maps.size (.map D) = es.length := hDl
  have cS := AnyZI.sorted_in Try.sortedA Fence.wide 5 trivial trivial trivial trivial rfl (by omega) (sortsA _) (enters_of Try.func79 (by kernel_rfl) rfl) 80 #[.pointer (some ⟨B, 0, none⟩)] trivial (enters_of Try.func80 (by kernel_rfl) rfl) _ _ (by rw [hsz]; have : maxLen = 9223372036854775807 := rfl; omega) (by rw [hsz]; omega) _ hseq
  change CallsIn _ _ Try.prog 58 _ _ _ at cS
  simp only [Nat.zero_mul, Nat.add_zero]
  refine (callsIn_wide.1 cS).mono ?_
  rintro en' w' ⟨v, ss, rfl, hperm, hrow, hnil, hb⟩
  have hkeys : (intKeys (.map D)).Perm (es.map (·.1)) := by
    have := hDp.map Go.intOf
    rw [List.map_map, List.map_map] at this
    exact this
  obtain ⟨G', q1, q2, q3, q4⟩ := owns_rep (q := .i64) (l := ss.mergeSort fun x y => decide (x ≤ y)) hH hb (by rw [List.length_mergeSort]; exact hrow) (by
    rw [hnil]
    constructor
    · rintro rfl; simp
    · intro h
      have := List.length_mergeSort (le := fun x y : Int => decide (x ≤ y)) ss
      rw [h] at this
      exact List.eq_nil_of_length_eq_zero this.symm)
  have hp1 : (ss.mergeSort fun x y => decide (x ≤ y)).Perm (es.map (·.1)) := ((List.mergeSort_perm ss _).trans hperm).trans hkeys
  have hs1 : (ss.mergeSort fun x y => decide (x ≤ y)).Pairwise (fun a b => a ≤ b) := by
    have := List.pairwise_mergeSort (le := fun x y : Int => decide (x ≤ y)) (fun a b c h1 h2 => by simp at *; omega) (fun a b => by simp; omega) ss
    exact this.imp fun h => by simpa using h
  rcases q4 with ⟨q4, q5⟩ | q4
  · exact ⟨.nils, v, G', H, rfl, q5, q3, q1, q2, rfl, _, hp1, hs1, .inl ⟨q4, rfl⟩⟩
  · exact ⟨_, v, G', H, rfl, q4, q3, q1, q2, rfl, _, hp1, hs1, .inr rfl⟩
end Go.Proofs.Ytecpiplfjmmccaa.AM

/-
  Coord: Apply of a start and of a commit, New, Starts, Last, Status, Lacks, Map, walked.
  Conditions: none.
-/
namespace Go.Proofs.Ytecpiplfjmmccaa.AM
open Go
set_option maxRecDepth 20000

theorem apply_start_ok {c : Co} {H : AH} (h : c.In H) (hlen : c.l.length ≤ 1000000000000) (id at_ : Int) : AC Try.prog 16 [.ptr c.id 0 0, recV 5 id at_ .nils 0 .nils] H fun r H' => StartP c id H r H' := by
  refine AC.of_vc (md := mdS) (qt := fun _ => false) ty_ok mix Try.func16 (by kernel_rfl) rfl (by kernel_rfl) ?_
  conv => whnf
  refine ⟨(start_ok h hlen 5 id at_).mono ?_⟩
  intro r H' hp
  have hv : r.val = true := by rcases hp with ⟨_, rfl, _⟩ | ⟨_, _, rfl, _⟩ <;> rfl
  rcases hp with ⟨h1, rfl, h2⟩ | ⟨h1, h2, rfl, h3, h4⟩
  · conv => whnf
    exact .inl ⟨h1, rfl, h2⟩
  · conv => whnf
    exact .inr ⟨h1, h2, rfl, h3, h4⟩
theorem apply_commit_ok {c : Co} {H : AH} (h : c.In H) (id at_ : Int) (ns : List Int) (hn : ns.Nodup) (hl : ns.length ≤ 1000000000000) (hid : 0 ≤ id ∧ id ≤ 4294967295) : AC Try.prog 16 [.ptr c.id 0 0, recV 2 id at_ (intS ns) 0 .nils] H fun r H' => CommitP c id at_ ns H r H' := by
  refine AC.of_vc (md := mdS) (qt := fun _ => false) ty_ok mix Try.func16 (by kernel_rfl) rfl (by kernel_rfl) ?_
  conv => whnf
  refine ⟨(commit_ok h id at_ ns hn hl hid).mono ?_⟩
  intro r H' hp
  rcases hp with ⟨h1, rfl, h2⟩ | ⟨h1, h2, rfl, h3⟩ | ⟨h1, h2, rfl, h3, h4⟩
  · conv => whnf
    exact .inl ⟨h1, rfl, h2⟩
  · conv => whnf
    exact .inr (.inl ⟨h1, h2, rfl, h3⟩)
  · conv => whnf
    exact .inr (.inr ⟨h1, h2, rfl, h3, h4⟩)

theorem new_ok (H : AH) : AC Try.prog 14 [] H fun r H' => ∃ c : Co, r = .ptr c.id 0 0 ∧ c.l = [] ∧ c.last = 0 ∧ c.starts = 0 ∧ c.begun = 0 ∧ c.ep = 1 ∧ c.held = [(0, 0)] ∧ c.In H' ∧ Fr H H' := by
  refine AC.of_vc (md := fun | 1000000 => 1 | 4 => 2 | _ => 0) (qt := fun _ => true) ty_ok mix Try.func14 (by kernel_rfl) rfl (by kernel_rfl) ?_
  conv => whnf
  refine f49_ok.quiet (Wss.refl _) ?_
  rintro r rfl
  conv => whnf
  refine ⟨⟨(H.push (.map .u32 [] none)).blks.length, H.blks.length, [], 0, 0, 0, 1, [(0, 0)]⟩, rfl, rfl, rfl, rfl, rfl, rfl, rfl, ⟨?_, ?_, fun _ h => (by cases h), .nil, .nil, .nil, fun _ h => (by cases h), by dsimp only; omega⟩, Fr.push.trans Fr.push⟩
  · exact AH.push_new
  · exact (AH.push_old (by rw [AH.push_len]; exact Nat.lt_succ_self _)).trans AH.push_new

theorem starts_ok {c : Co} {H : AH} (h : c.In H) : AC Try.prog 17 [.ptr c.id 0 0] H fun r H' => H' = H ∧ r = .int .u32 c.starts := by
  refine AC.of_vc (md := mdS) (qt := fun _ => true) ty_ok mix Try.func17 (by kernel_rfl) rfl (by kernel_rfl) ?_
  conv => whnf
  refine ⟨_, _, _, h.row, rfl, ?_⟩
  conv => whnf
  exact ⟨rfl, rfl⟩
theorem last_ok {c : Co} {H : AH} (h : c.In H) : AC Try.prog 40 [.ptr c.id 0 0] H fun r H' => H' = H ∧ r = .int .u32 c.last := by
  refine AC.of_vc (md := mdS) (qt := fun _ => true) ty_ok mix Try.func40 (by kernel_rfl) rfl (by kernel_rfl) ?_
  conv => whnf
  refine ⟨_, _, _, h.row, rfl, ?_⟩
  conv => whnf
  exact ⟨rfl, rfl⟩
def statV (st at_ : Int) : AV := .agg [.int .u8 st, .int .u32 at_]
def StatP (c : Co) (k : Int) (r : AV) : Prop := (∃ b ∈ c.l, b.key = k ∧ r = statV b.st b.at_) ∨ ((∀ b ∈ c.l, b.key ≠ k) ∧ r = statV 3 0)
theorem status_ok {c : Co} {H : AH} (h : c.In H) (k : Int) : AC Try.prog 38 [.ptr c.id 0 0, .int .u32 k] H fun r H' => H' = H ∧ StatP c k r := by
  refine AC.of_vc (md := mdS) (qt := fun _ => true) ty_ok mix Try.func38 (by kernel_rfl) rfl (by kernel_rfl) ?_
  conv => whnf
  refine ⟨_, _, _, h.row, rfl, ?_⟩
  conv => whnf
  rcases c.find k with ⟨b, hb, hk, hl⟩ | ⟨hn, hl⟩
  · refine ⟨_, _, _, h.map, hl, ?_⟩
    conv => whnf
    refine ⟨_, _, _, (h.bts b hb).row, rfl, ?_⟩
    conv => whnf
    exact ⟨rfl, .inl ⟨b, hb, hk, rfl⟩⟩
  · refine ⟨_, _, _, h.map, hl, ?_⟩
    conv => whnf
    exact ⟨rfl, .inr ⟨hn, rfl⟩⟩
theorem mapC_ok {c : Co} {H : AH} (h : c.In H) (hh : c.held.length * 16 ≤ 140737488355328) : AC Try.prog 50 [.ptr c.id 0 0] H fun r H' => H' = H ∧ r = mapV c.ep c.held := by
  refine AC.of_vc (md := fun | 1000000 => 1 | 2000054 => 3 | _ => 0) (qt := fun _ => true) ty_ok mix Try.func50 (by kernel_rfl) rfl (by kernel_rfl) ?_
  conv => whnf
  refine DrawVC.go [0, 1, 2, 3, 4, 5, 6, 7, 8, 9, 10, 11, 12] (by kernel_rfl) ?_
  conv => whnf
  refine ⟨_, _, _, h.row, rfl, ?_⟩
  conv => whnf
  refine ⟨_, _, _, h.row, rfl, ?_⟩
  conv => whnf
  refine (f54_ok c.held hh).pure (Wss.refl _) ?_
  rintro r rfl
  conv => whnf
  exact ⟨rfl, rfl⟩

/-- Who lacks. -/
def LackP (c : Co) (k : Int) (r : AV) : Prop :=
  (∃ b ∈ c.l, b.key = k ∧ b.ended = false ∧ ∃ l : List Int, l.Perm (b.lk.map (·.1)) ∧ l.Pairwise (fun a b => a ≤ b) ∧ ((l = [] ∧ r = .nils) ∨ r = intS l)) ∨
  ((∀ b ∈ c.l, b.key = k → b.ended = true) ∧ r = .nils)
theorem lacks_ok {c : Co} {H : AH} (h : c.In H) (k : Int) (hw : ∀ b ∈ c.l, ∀ p ∈ b.lk, (Lit.int .i64 p.1).wf = true) (hl : ∀ b ∈ c.l, b.lk.length ≤ 1000000000000) : AC Try.prog 44 [.ptr c.id 0 0, .int .u32 k] H fun r H' => (H' = H ∨ ∃ B, H' = H.push B) ∧ LackP c k r := by
  refine AC.of_vc (md := mdS) (qt := fun _ => false) ty_ok mix Try.func44 (by kernel_rfl) rfl (by kernel_rfl) ?_
  conv => whnf
  refine ⟨_, _, _, h.row, rfl, ?_⟩
  conv => whnf
  rcases c.find k with ⟨b, hb, hk, hlk⟩ | ⟨hn, hlk⟩
  · refine ⟨_, _, _, h.map, hlk, ?_⟩
    conv => whnf
    refine ⟨_, _, _, (h.bts b hb).row, rfl, ?_⟩
    conv => whnf
    cases hend : b.ended
    · conv => whnf
      refine ⟨_, _, _, (h.bts b hb).row, rfl, ?_⟩
      conv => whnf
      refine ⟨(f59_ok H b.idl).mono ?_⟩
      rintro r H' ⟨rfl, hH'⟩
      conv => whnf
      have hg : Grow H H' := by rw [hH']; exact Grow.push
      refine ⟨(f58_ok H' b.idl H.blks.length (lkE b.lk) none (hg _ _ (h.bts b hb).lks) (by rw [hH']; exact AH.push_new) (fun p hp => ?_) (by unfold lkE; rw [List.length_map]; exact hl b hb)).mono ?_⟩
      · obtain ⟨q, hq, rfl⟩ := List.mem_map.1 hp
        exact hw b hb q hq
      rintro r H2 ⟨hH2, l, h1, h2, h3⟩
      have h1' : l.Perm (b.lk.map (·.1)) := by
        refine h1.trans (List.Perm.of_eq ?_)
        unfold lkE; rw [List.map_map]; rfl
      rcases h3 with ⟨h3, rfl⟩ | rfl
      · conv => whnf
        exact ⟨.inr ⟨_, hH2.trans hH'⟩, .inl ⟨b, hb, hk, hend, l, h1', h2, .inl ⟨h3, rfl⟩⟩⟩
      · conv => whnf
        exact ⟨.inr ⟨_, hH2.trans hH'⟩, .inl ⟨b, hb, hk, hend, l, h1', h2, .inr rfl⟩⟩
    · conv => whnf
      refine ⟨.inl rfl, .inr ⟨fun b' hb' hk' => ?_, rfl⟩⟩
      have := Co.uniq h hb hb' (hk.trans hk'.symm)
      subst this
      exact hend
  · refine ⟨_, _, _, h.map, hlk, ?_⟩
    conv => whnf
    exact ⟨.inl rfl, .inr ⟨fun b hb hk => absurd hk (hn b hb), rfl⟩⟩
end Go.Proofs.Ytecpiplfjmmccaa.AM

/-
  Coord: the chapter's example (known), walked.
  Conditions: none.
-/
namespace Go.Proofs.Ytecpiplfjmmccaa.AM
open Go
set_option maxRecDepth 20000

theorem turn_one {c : Co} {b b' : Bt} (h : c.l = [b]) (e : b.id = b'.id) : (c.turn b').l = [b'] := by
  unfold Co.turn
  rw [h]
  simp [e]
theorem Co.In.as {c : Co} {H : AH} (h : c.In H) (l : List Bt) (hl : c.l = l) : (⟨c.id, c.idm, l, c.last, c.starts, c.begun, c.ep, c.held⟩ : Co).In H := by subst hl; exact h

theorem knownC_ok (H : AH) : AC Try.prog 15 [] H fun r H' => r = .bool true ∧ Fr H H' := by
  refine AC.of_vc (md := mdS) (qt := fun f => Nat.beq f 38 || Nat.beq f 50) ty_ok mix Try.func15 (by kernel_rfl) rfl (by kernel_rfl) ?_
  conv => whnf
  refine ⟨(new_ok H).mono ?_⟩
  rintro r H1 ⟨⟨i, m, l, la, st, bg, ep, hd⟩, rfl, hl, hlast, hs, hb, he, hh, hi, hf⟩
  dsimp only at hl hlast hs hb he hh
  subst hl hlast hs hb he hh
  conv => whnf
  refine ⟨(apply_start_ok hi (by simp) 2 0).mono ?_⟩
  rintro r H2 (⟨h1, _, _⟩ | ⟨_, _, rfl, ⟨l', hl', hi2⟩, hf2⟩)
  · exact absurd (show (2 : Int) ≤ 0 ∨ (1000 : Int) < 2 from h1) (by decide)
  have hl'' : l' = [] := List.Perm.eq_nil hl'
  subst hl''
  have hi2 : (⟨i, m, [], 0, 2, 0, 1, [(0, 0)]⟩ : Co).In H2 := hi2
  conv => whnf
  refine ⟨(begin_ok hi2 [0, 1]).mono ?_⟩
  rintro r H3 (⟨h1, _, _⟩ | ⟨_, h1, _, _⟩ | ⟨_, _, ⟨b, hb', _⟩, _⟩ | ⟨_, _, _, rfl, ⟨idb, idl, hi3⟩, hf3⟩)
  · exact absurd h1 (by decide)
  · exact absurd (show (900 : Int) ≤ 0 from h1) (by decide)
  · cases hb'
  have hi3 : (⟨i, m, [ofB idb idl 2001 1 0 [0, 1]], 0, 2, 1, 1, [(0, 0)]⟩ : Co).In H3 := hi3
  conv => whnf
  refine ⟨(vote_ok hi3 2001 0).mono ?_⟩
  rintro r H4 (⟨b, hb4, _, _, hi4, hf4, rfl⟩ | ⟨h1, _, _⟩)
  rotate_left
  · exact absurd rfl (h1 (ofB idb idl 2001 1 0 [0, 1]) (List.mem_singleton.2 rfl) rfl)
  have hb4 : b = ofB idb idl 2001 1 0 [0, 1] := List.mem_singleton.1 hb4
  subst hb4
  have hi4 : (⟨i, m, [⟨idb, 2001, 1, 0, [0, 1], idl, [(1, 1)], false⟩], 0, 2, 1, 1, [(0, 0)]⟩ : Co).In H4 := hi4.as _ (turn_one rfl rfl)
  conv => whnf
  refine ⟨(vote_ok hi4 2001 1).mono ?_⟩
  rintro r H5 (⟨b, hb5, _, _, hi5, hf5, rfl⟩ | ⟨h1, _, _⟩)
  rotate_left
  · exact absurd rfl (h1 _ (List.mem_singleton.2 rfl) rfl)
  have hb5 : b = ⟨idb, 2001, 1, 0, [0, 1], idl, [(1, 1)], false⟩ := List.mem_singleton.1 hb5
  subst hb5
  have hi5 : (⟨i, m, [⟨idb, 2001, 1, 0, [0, 1], idl, [], false⟩], 0, 2, 1, 1, [(0, 0)]⟩ : Co).In H5 := hi5.as _ (turn_one rfl rfl)
  conv => whnf
  refine ⟨(apply_commit_ok hi5 2001 5 [0, 1] (by decide) (by decide) (by decide)).mono ?_⟩
  rintro r H6 (⟨⟨b, hb6, _, hb7⟩, _, _⟩ | ⟨_, h1, _, _⟩ | ⟨_, _, rfl, ⟨idb2, idl2, hi6⟩, hf6⟩)
  · have hb6 := List.mem_singleton.1 hb6
    subst hb6
    exact absurd (show (1 : Int) = 2 from hb7) (by decide)
  · exact absurd (show (5 : Int) ≤ 0 from h1) (by decide)
  have hm6 : putB [⟨idb, 2001, 1, 0, [0, 1], idl, [], false⟩] (ofB idb2 idl2 2001 2 5 [0, 1]) = [ofB idb2 idl2 2001 2 5 [0, 1]] := by
    unfold putB
    rw [if_pos ⟨_, List.mem_singleton.2 rfl, rfl⟩]
    rfl
  have hi6 : (⟨i, m, [ofB idb2 idl2 2001 2 5 [0, 1]], 5, 2, 1, 1, [(0, 0)]⟩ : Co).In H6 := hi6.as _ hm6
  conv => whnf
  refine ⟨fun Hx hg => (status_ok (hi6.grow hg) 2001).mono ?_⟩
  rintro r Hy ⟨hHy, ⟨b, hb8, _, rfl⟩ | ⟨hno, _⟩⟩
  rotate_left
  · exact absurd rfl (hno _ (List.mem_singleton.2 rfl))
  refine ⟨hHy, ?_⟩
  clear hHy Hy hg Hx
  have hb8 := List.mem_singleton.1 hb8
  subst hb8
  conv => whnf
  refine ⟨(lacks_ok hi6 2001 (fun b hb p hp => ?_) (fun b hb => ?_)).mono ?_⟩
  · have hb := List.mem_singleton.1 hb
    subst hb
    rcases List.mem_cons.1 (show p ∈ [((0 : Int), (0 : Int)), (1, 1)] from hp) with rfl | hp
    · rfl
    · rw [List.mem_singleton.1 hp]; rfl
  · have hb := List.mem_singleton.1 hb
    subst hb
    exact (by decide : (2 : Nat) ≤ 1000000000000)
  rintro r H7 ⟨hH7, hL⟩
  have hg7 : Grow H6 H7 ∧ Fr H6 H7 := by
    rcases hH7 with rfl | ⟨B, rfl⟩
    · exact ⟨Grow.refl _, Fr.refl _⟩
    · exact ⟨Grow.push, Fr.push⟩
  clear hH7
  have hi7 := hi6.grow hg7.1
  obtain ⟨l, rfl, hlen⟩ : ∃ l, r = intS l ∧ l.length = 2 := by
    rcases hL with ⟨b, hb, _, _, l, h1, _, h2⟩ | ⟨h1, _⟩
    · have hb := List.mem_singleton.1 hb
      subst hb
      have hlen : l.length = 2 := h1.length_eq
      rcases h2 with ⟨rfl, _⟩ | h2
      · cases hlen
      · exact ⟨l, h2, hlen⟩
    · exact absurd (h1 _ (List.mem_singleton.2 rfl) rfl) (by show ¬ (false = true); decide)
  obtain ⟨x, y, rfl⟩ : ∃ x y, l = [x, y] := by
    match l, hlen with
    | [x, y], _ => exact ⟨x, y, rfl⟩
  conv => whnf
  refine ⟨fun Hx hg => (status_ok (hi7.grow hg) 9).mono ?_⟩
  rintro r Hy ⟨hHy, ⟨b, hb8, hk, _⟩ | ⟨_, rfl⟩⟩
  · have hb8 := List.mem_singleton.1 hb8
    subst hb8
    exact absurd (show (2001 : Int) = 9 from hk) (by decide)
  refine ⟨hHy, ?_⟩
  clear hHy Hy hg Hx
  conv => whnf
  refine ⟨fun Hx hg => (mapC_ok (hi7.grow hg) (by simp)).mono ?_⟩
  rintro r Hy ⟨hHy, rfl⟩
  refine ⟨hHy, ?_⟩
  clear hHy Hy hg Hx
  conv => whnf
  exact ⟨rfl, (((((hf.trans hf2).trans hf3).trans hf4).trans hf5).trans hf6).trans hg7.2⟩
end Go.Proofs.Ytecpiplfjmmccaa.AM

/-
  A tracked slice that never turns again: told by its rows; tracked memory told of less, ahead of a call and behind it.
  No program in sight. Conditions: none.
-/
namespace Go.Proofs.Ytecpiplfjmmccaa.AM
open Go

/-- A value in which the slices of the block id are told by their rows. -/
inductive Fz (id z : Nat) (l : List (List AV)) : AV → AV → Prop where
  | refl (x : AV) : Fz id z l x x
  | ms (off len : Nat) (h : off + len ≤ l.length) : Fz id z l (.ms z id off len) (.sl z ((l.drop off).take len) none)
  | agg (cs cs' : List AV) (f : Nat → AV) (hl : cs'.length = cs.length) (hc : ∀ (j : Nat) x, cs'[j]? = some x → cs[j]? = some (f j)) (h1 : ∀ (j : Nat) x, cs'[j]? = some x → x.one = true) (h : ∀ (j : Nat) x, cs'[j]? = some x → Fz id z l (f j) x) : Fz id z l (.agg cs) (.agg cs')
  | tup (cs cs' : List AV) (f : Nat → AV) (hl : cs'.length = cs.length) (hc : ∀ (j : Nat) x, cs'[j]? = some x → cs[j]? = some (f j)) (h : ∀ (j : Nat) x, cs'[j]? = some x → Fz id z l (f j) x) : Fz id z l (.tup cs) (.tup cs')

theorem Fz.rep {id z : Nat} {l : List (List AV)} {G G' : Gh} {w : World} (hle : Le G w G' w) (hz : 0 < z) (hk : ∀ r ∈ l, r.length = z) (hone : ∀ i j x, cellAt l i j = some x → x.one = true)
    (hmb : ∀ b z', G.mb id = some (b, z') → l.length * z ≤ G'.imm b ∧ ∃ vs e, w.heap[b]? = some (.cells vs e (0, 0)) ∧ l.length * z ≤ vs.size ∧ ∀ i j x, cellAt l i j = some x → RepU G w x (vs.getD (i * z + j) Go.undef)) {x y : AV} (h : Fz id z l x y) : ∀ {v : Value}, Rep G w x v → Rep G' w y v := by
  induction h with
  | refl x => intro v hr; exact hr.mono hle
  | ms off len hlen =>
    intro v hr
    cases hr with
    | ms _ _ _ _ c A hlc hc hsh =>
    have hnl : ((l.drop off).take len).length = len := by simp; omega
    rcases Nat.eq_zero_or_pos len with h0 | h0
    · subst h0
      simp only [List.take_zero]
      exact .sl z [] none A c 0 0 (fun _ _ => Go.undef) hz (Nat.zero_le _) hc (fun r hr => nomatch hr) (.inl ⟨rfl, .inl rfl⟩) (fun i j x hx => by simp [cellAt] at hx) (fun i j x hx => by simp [cellAt] at hx) (fun i j x hx => by simp [cellAt] at hx)
    · rcases hsh with ⟨b, rfl, hm, e, hsh⟩ | hc0
      · obtain ⟨g1, vs, e', g2, g3, g4⟩ := hmb b z hm
        have hk' : ∀ r ∈ (l.drop off).take len, r.length = z := fun r hr => hk r (List.mem_of_mem_drop (List.mem_of_mem_take hr))
        have hsub : ∀ i j x, cellAt ((l.drop off).take len) i j = some x → cellAt l (off + i) j = some x := fun i j x hx => cellAt_sub hx
        have hmul : off * z + len * z ≤ l.length * z := by rw [← Nat.add_mul]; exact Nat.mul_le_mul_right z hlen
        conv => arg 4; rw [← hnl]
        refine .sl z _ none _ c b (off * z) (fun i j => vs.getD ((off + i) * z + j) Go.undef) hz (by rw [hnl]; exact hlc) hc hk' (.inr ⟨rfl, by rw [hnl]; omega, fun t e => nomatch e⟩) (fun i j x hx => ?_) (fun i j x hx => hone _ _ x (hsub i j x hx)) (fun i j x hx => ?_)
        · have hlt := cellAt_lt hk (hsub i j x hx)
          have := row_lt hlt.1 hlt.2
          rw [Nat.add_mul] at this
          have h2 := cell_row g2 (j := off * z + i * z + j) (by omega)
          rw [h2, Nat.add_mul]
        · rcases g4 _ _ x (hsub i j x hx) with rfl | ⟨_, h2⟩
          · have := hone _ _ _ (hsub i j _ hx); cases this
          · exact h2.mono hle
      · omega
  | agg cs cs' f hl hc h1 _ ih =>
    intro v hr
    cases hr with
    | agg _ vs hvl hv1 hvr => exact .agg cs' vs (by rw [hl]; exact hvl) h1 (fun i x hx => ih i x hx (hvr i (f i) (hc i x hx)))
  | tup cs cs' f hl hc _ ih =>
    intro v hr
    cases hr with
    | tup _ vs hvl hvr => exact .tup cs' vs (by rw [hl]; exact hvl) (fun i x hx => ih i x hx (hvr i (f i) (hc i x hx)))

/-- A call's answer, a tracked slice in it told by its rows. -/
theorem AC.frz {P : Program} {f : FuncId} {args : List AV} {H : AH} {Q : AV → AH → Prop} (h : AC P f args H fun r H' => Q r H' ∨ ∃ id z l r', H'.blks[id]? = some (.rows z l) ∧ (∀ i j x, cellAt l i j = some x → x.one = true) ∧ Fz id z l r r' ∧ Q r' (H'.upd id .dead)) : AC P f args H Q := by
  refine ⟨h.1, fun G w vs hH hr => (h.2 G w vs hH hr).mono ?_⟩
  rintro e w' ⟨r, cr, G', H', h1, h2, h3, h4, h5, h6 | ⟨id, z, l, r', g1, g2, g3, g4⟩⟩
  · exact ⟨r, cr, G', H', h1, h2, h3, h4, h5, h6⟩
  · rcases h3.at_ id _ g1 rfl with ⟨b, z', q1, ⟨q2, q3, vs', e', q4, q5, q6, q7⟩, _, _⟩ | ⟨q1, z', q2, q3⟩
    · subst q2
      obtain ⟨a1, a2, a3⟩ := eff_frz h3 g1 rfl q1 (l.length * z')
      refine ⟨r', cr, _, _, h1, ?_, a3, h4.trans a1, h5.trans a2, g4⟩
      refine g3.rep a1 q3 q5 g2 (fun b2 z2 hb2 => ?_) h2
      rw [q1] at hb2
      simp only [Option.some.injEq, Prod.mk.injEq] at hb2
      obtain ⟨rfl, rfl⟩ := hb2
      exact ⟨by simp [Gh.frz], vs', e', q4, q6, q7⟩
    · simp only [ABlk.rows.injEq] at q3
      obtain ⟨rfl, rfl⟩ := q3
      obtain ⟨a1, a2⟩ := eff_dead h3 id
      refine ⟨r', cr, _, _, h1, ?_, a2, h4, h5.trans a1, g4⟩
      exact g3.rep (Le.refl _ _) q2 (by simp) g2 (fun b2 z2 hb2 => by rw [q1] at hb2; cases hb2) h2

/-- Tracked memory told of less behind a call, and ahead of it. -/
theorem AC.leH {P : Program} {f : FuncId} {args : List AV} {H : AH} {Q : AV → AH → Prop} (h : AC P f args H fun r H' => ∃ H'', LeH H' H'' ∧ Q r H'') : AC P f args H Q := by
  refine ⟨h.1, fun G w vs hH hr => (h.2 G w vs hH hr).mono ?_⟩
  rintro e w' ⟨r, cr, G', H', h1, h2, h3, h4, h5, H'', h6, h7⟩
  obtain ⟨a1, a2⟩ := h6.sim h3
  exact ⟨r, cr, G', H'', h1, h2, a2, h4, h5.trans a1, h7⟩
theorem AC.leH_pre {P : Program} {f : FuncId} {args : List AV} {H H0 : AH} {Q : AV → AH → Prop} (hl : LeH H H0) (h : AC P f args H0 Q) : AC P f args H Q := by
  refine ⟨h.1, fun G w vs hH hr => ?_⟩
  obtain ⟨a1, a2⟩ := hl.sim hH
  refine (h.2 G w vs a2 hr).mono ?_
  rintro e w' ⟨r, cr, G', H', h1, h2, h3, h4, h5, h6⟩
  exact ⟨r, cr, G', H', h1, h2, h3, h4, a1.trans h5, h6⟩
/-- A pure function whose answer bears a tracked slice of its own. -/
theorem PC.of_frz {P : Program} {ty : Tr} (md : Nat → Nat) (qt : FuncId → Bool) (hty : TyOK P ty.get) (hmix : P.follows .mixedOrders = true) {f : FuncId} {fn : Func} {c : Code} (hf : P.funcs[f]? = some fn) (hname : (fn.name == "runtime.NumGoroutine") = false) (hb : fn.body = some c) {args : List AV} (hlen : Nat.ble args.length fn.ntmps = true)
    {Q : AV → Prop} (hp : ∀ x ∈ args, Pur x) (h : (∀ x ∈ args, Fit x) → vc P ty md qt c ⟨fn.ntmps, number 0 args, [], AH.none⟩ (retK ty fn fun r H' => (∃ r', Ws r r' ∧ Pur r' ∧ Q r') ∨ ∃ id z l r', H'.blks[id]? = some (.rows z l) ∧ (∀ i j x, cellAt l i j = some x → x.one = true) ∧ Fz id z l r r' ∧ Pur r' ∧ Q r')) : PC P f args Q := by
  refine ⟨hp, AC.given ⟨fn, c, hf, hname, hb⟩ fun hfit => AC.frz ((AC.of_vc hty hmix hf hname hb hlen (h hfit)).mono ?_)⟩
  rintro r H' (h | ⟨id, z, l, r', h1, h2, h3, h4, h5⟩)
  · exact .inl h
  · exact .inr ⟨id, z, l, r', h1, h2, h3, r', .refl _, h4, h5⟩
end Go.Proofs.Ytecpiplfjmmccaa.AM

/-
  Coord: the law CoordNumbers, walked.
  Conditions: the bytes are bytes.
-/
namespace Go.Proofs.Ytecpiplfjmmccaa.AM
open Go
set_option maxRecDepth 20000

def u8R (n : Int) : List AV := [.int .u8 n]
def u8S (l : List Int) : AV := .sl 1 (l.map u8R) none
theorem u8S_pur (l : List Int) : Pur (u8S l) := by
  refine .sl 1 _ fun i j x hx => ?_
  obtain ⟨r, h1, h2⟩ := cellAt_some hx
  rw [List.getElem?_map] at h1
  obtain ⟨s, _, rfl⟩ := Option.map_eq_some_iff.1 h1
  match j, h2 with
  | 0, h2 => simp [u8R] at h2; subst h2; exact .int _ _
def u32R (n : Int) : List AV := [.int .u32 n]
/-- The numbers that a slice under way holds. -/
def WayN (H : AH) (id : Nat) (l : List Int) : Prop := H.blks[id]? = some (.rows 1 (l.map u32R))
theorem WayN.snoc {H : AH} {id : Nat} {L : List Int} (n : Int) : WayN ((H.upd id .dead).push (.rows 1 ((L.map u32R).take L.length ++ [u32R n]))) H.blks.length (L ++ [n]) := by
  unfold WayN
  have : (H.upd id .dead).blks.length = H.blks.length := AH.upd_len
  rw [AH.push_at, if_pos this.symm, List.take_of_length_le (by simp)]
  simp
theorem Co.In.dead {c : Co} {H : AH} (h : c.In H) {id : Nat} {L : List (List AV)} (hid : H.blks[id]? = some (.rows 1 L)) (B : ABlk) : c.In ((H.upd id .dead).push B) := by
  have h1 : id ≠ c.id := fun e => by rw [e, h.row] at hid; cases hid
  have h2 : id ≠ c.idm := fun e => by rw [e, h.map] at hid; cases hid
  have : c.In (H.upd id .dead) := ⟨by rw [AH.upd_other h1]; exact h.row, by rw [AH.upd_other h2]; exact h.map, fun b hb => by
    have hb' := h.bts b hb
    have h3 : id ≠ b.id := fun e => by rw [e, hb'.row] at hid; cases hid
    have h4 : id ≠ b.idl := fun e => by rw [e, hb'.lks] at hid; cases hid
    exact ⟨by rw [AH.upd_other h3]; exact hb'.row, by rw [AH.upd_other h4]; exact hb'.lks, hb'.nod⟩, h.keys, h.ids, h.idls, h.krng, h.rng⟩
  exact this.grow Grow.push
theorem WayN.fr {H H' : AH} {id : Nat} {L : List Int} (h : WayN H id L) (hf : Fr H H') : WayN H' id L := hf.old _ _ h ⟨by decide, fun ⟨_, _, e, _⟩ => by cases e⟩

/-- What holds at a round. -/
structure NumI (l : List Int) (i0 : Nat) (i : Nat) (H : AH) (id : Nat) (ids : List Int) (c : Co) : Prop where
  le : i ≤ l.length
  way : WayN H id ids
  co : c.In H
  cid : c.id = i0
  len : c.l.length ≤ i
  st : c.starts ≤ 3 * i
  bg : c.begun ≤ i
  il : ids.length ≤ i
  ids : ∀ x ∈ ids, x ≤ c.starts * 1000 + c.begun
  keys : ∀ b ∈ c.l, b.key ≤ c.starts * 1000 + c.begun

theorem numbers_ok (l : List Int) (hl : ∀ n ∈ l, 0 ≤ n ∧ n ≤ 255) : PC Try.prog 3 [u8S l] fun r => r = .bool true := by
  refine PC.of_vc (fun | 71 => 2 | 1000000 => 1 | _ => 0) (fun f => Nat.beq f 17) ty_ok mix Try.func3 (by kernel_rfl) rfl (by kernel_rfl) (pur2 (u8S_pur l) pur0) fun hf => ?_
  conv => whnf
  refine ⟨(new_ok _).mono ?_⟩
  rintro r H1 ⟨⟨i0, m, l0, la, st, bg, ep, hd⟩, rfl, hl0, hlast, hs, hb, he, hh, hi, _⟩
  dsimp only at hl0 hlast hs hb he hh
  subst hl0 hlast hs hb he hh
  conv => whnf
  refine bsp_intro ?_ ?_
  · intro _
    conv => whnf
    refine ⟨(knownC_ok _).mono ?_⟩
    rintro r H' ⟨rfl, _⟩
    conv => whnf
    exact fin (.bool _) rfl
  intro h100
  have h100 : l.length ≤ 100 := by have := of_decide_eq_false h100; simp at this; omega
  conv => whnf
  refine ⟨Nat × AH × Nat × List Int × Co, fun p => ⟨73, [(0, u8S l), (3, .ptr i0 0 0), (4, .ms 1 p.2.2.1 0 p.2.2.2.1.length), (5, .int .i64 p.1)], [], p.2.1⟩, fun p => NumI l i0 p.1 p.2.1 p.2.2.1 p.2.2.2.1 p.2.2.2.2, fun p => l.length - p.1,
    ⟨(0, H1.push (.rows 1 []), H1.blks.length, [], ⟨i0, m, [], 0, 0, 0, 1, [(0, 0)]⟩), ⟨Nat.zero_le _, AH.push_new, hi.grow Grow.push, rfl, Nat.le_refl _, by dsimp only; omega, by dsimp only; omega, Nat.le_refl _, fun _ h => (by cases h), fun _ h => (by cases h)⟩, rfl, ?_, ?_, .empty 1 (by omega)⟩, ?_⟩
  · refine leT_cons (Wk.refl _) (leT_cons (Wk.refl _) (leT_cons (.nilms 1 H1.blks.length) (leT_cons (Wk.refl _) (leT_nil))))
  · refine leL_nil
  rintro ⟨i, H, id, ids, c⟩ hI
  dsimp only at hI
  obtain ⟨i1, m1, l1, la1, st1, bg1, ep1, hd1⟩ := c
  have hcid := hI.cid
  dsimp only at hcid
  subst hcid
  have hci := hI.co
  have hway := hI.way
  have hst := hI.st
  have hbg := hI.bg
  have hrng := hI.co.rng
  have hil := hI.il
  have hlen := hI.len
  dsimp only at hst hbg hrng hlen
  conv => whnf
  refine bsp_intro ?_ ?_
  rotate_left
  · intro h
    conv => whnf
    refine ⟨(knownC_ok _).mono ?_⟩
    rintro r H' ⟨rfl, _⟩
    conv => whnf
    exact fin (.bool _) rfl
  intro h
  have hlt : i < l.length := by simpa using h
  have hb8 := hl l[i] (List.getElem_mem hlt)
  conv => whnf
  refine ⟨_, by omega, rows_get hlt, ?_⟩
  conv => whnf
  refine bsp_intro ?_ ?_
  · intro h4
    conv => whnf
    refine DrawVC.go [0, 1, 4, 5, 6, 7, 8, 9, 2, 3, 10, 11, 12, 13] (by kernel_rfl) ?_
    conv => whnf
    refine ⟨_, by omega, rows_get hlt, ?_⟩
    conv => whnf
    refine ⟨fun Hx hg => (starts_ok (hci.grow hg)).mono ?_⟩
    rintro r Hy ⟨hHy, rfl⟩
    refine ⟨hHy, ?_⟩
    clear hHy Hy hg Hx
    have e3 : (l[i]).tmod 3 = l[i] % 3 := Int.tmod_eq_emod_of_nonneg hb8.1
    have e1 : st1 ≤ 300 := by omega
    have ew : IntKind.u32.wrap (IntKind.u32.wrap (st1 + 1) + IntKind.u32.wrap ((l[i]).tmod 3)) = st1 + 1 + l[i] % 3 := by
      rw [e3, u32_in (n := st1 + 1) (by omega) (by omega), u32_in (n := l[i] % 3) (by omega) (by omega), u32_in (by omega) (by omega)]
    conv => whnf
    refine ⟨(apply_start_ok hci (by show l1.length ≤ _; omega) (IntKind.u32.wrap (IntKind.u32.wrap (st1 + 1) + IntKind.u32.wrap ((l[i]).tmod 3))) 0).mono ?_⟩
    intro r H2 hp
    rw [ew] at hp
    generalize hk : st1 + 1 + l[i] % 3 = k at hp
    rcases hp with ⟨h1, _, _⟩ | ⟨_, _, rfl, ⟨l', hl', hi2⟩, hf2⟩
    · have h1 : k ≤ st1 ∨ 1000 < k := h1
      omega
    conv => whnf
    refine ⟨(i + 1, H2, id, ids, ⟨i1, m1, l', la1, k, 0, ep1, hd1⟩), ⟨by omega, hway.fr hf2, hi2, rfl, ?_, by dsimp only; omega, by dsimp only; omega, (by show ids.length ≤ i + 1; omega), fun x hx => ?_, fun b hb => ?_⟩, by dsimp only; omega, rfl, ?_, ?_, .refl _⟩
    · have h1 := hl'.length_eq
      have h2 : (l1.filter fun b => decide (b.st ≠ 1)).length ≤ l1.length := List.length_filter_le _ _
      have h1 : l'.length = (l1.filter fun b => decide (b.st ≠ 1)).length := h1
      show l'.length ≤ i + 1
      omega
    · have h1 : x ≤ st1 * 1000 + bg1 := hI.ids x hx
      show x ≤ k * 1000 + 0
      omega
    · have h1 : b.key ≤ st1 * 1000 + bg1 := hI.keys b (List.mem_filter.1 (hl'.mem_iff.1 hb)).1
      show b.key ≤ k * 1000 + 0
      omega
    · refine leT_cons (Wk.refl _) (leT_cons (Wk.refl _) (leT_cons (Wk.refl _) (leT_cons (Wk.int ?_) (leT_nil))))
      exact IntWalk.i64_in _ (by omega)
    · refine leL_nil
  · intro h4
    conv => whnf
    refine ⟨(begin_ok hci [0]).mono ?_⟩
    rintro r H3 (⟨h1, _, _⟩ | ⟨_, h1, _, _⟩ | ⟨_, _, ⟨b, hb', hk⟩, _⟩ | ⟨_, _, _, rfl, ⟨idb, idl, hi3⟩, hf3⟩)
    · exact absurd h1 (by decide)
    · have h1 : 900 ≤ bg1 := h1
      omega
    · have h1 : b.key ≤ st1 * 1000 + bg1 := hI.keys b hb'
      have hk : b.key = st1 * 1000 + (bg1 + 1) := hk
      omega
    have hw3 := hway.fr hf3
    have hi3 : (⟨i1, m1, l1 ++ [ofB idb idl (st1 * 1000 + (bg1 + 1)) 1 0 [0]], la1, st1, bg1 + 1, ep1, hd1⟩ : Co).In H3 := hi3
    conv => whnf
    refine ⟨Nat, fun j => ⟨73, [(0, u8S l), (3, .ptr i1 0 0), (4, .ms 1 id 0 ids.length), (5, .int .i64 i), (6, .int .u32 (st1 * 1000 + (bg1 + 1))), (8, .int .i64 j)], [], H3⟩, fun j => j ≤ ids.length, fun j => ids.length - j, ⟨0, Nat.zero_le _, rfl, ?_, ?_, .refl _⟩, ?_⟩
    · refine leT_cons (Wk.refl _) (leT_cons (Wk.refl _) (leT_cons (Wk.refl _) (leT_cons (Wk.refl _) (leT_cons (Wk.refl _) (leT_cons (Wk.refl _) (leT_nil))))))
    · refine leL_nil
    intro j hj
    conv => whnf
    refine bsp_intro ?_ ?_
    · intro h
      have hjlt : j < ids.length := by simpa using h
      conv => whnf
      refine ⟨j, rfl, hjlt, ?_⟩
      conv => whnf
      refine ⟨_, _, u32R ids[j], hw3, by rw [Nat.zero_add]; simp [hjlt], ?_⟩
      conv => whnf
      have hx : ids[j] ≤ st1 * 1000 + bg1 := hI.ids _ (List.getElem_mem hjlt)
      refine bsp_intro ?_ ?_
      · intro h
        have h := of_decide_eq_true h
        have h : st1 * 1000 + (bg1 + 1) ≤ ids[j] := h
        omega
      · intro _
        conv => whnf
        refine ⟨j + 1, by omega, by dsimp only; omega, rfl, ?_, ?_, .refl _⟩
        · refine leT_cons (Wk.refl _) (leT_cons (Wk.refl _) (leT_cons (Wk.refl _) (leT_cons (Wk.refl _) (leT_cons (Wk.refl _) (leT_cons (Wk.int ?_) (leT_nil))))))
          exact IntWalk.i64_in _ (by omega)
        · refine leL_nil
    · intro _
      conv => whnf
      refine ⟨_, hw3, ?_⟩
      conv => whnf
      refine ⟨(by simp; omega), ?_⟩
      conv => whnf
      refine ⟨(i + 1, _, H3.blks.length, ids ++ [st1 * 1000 + (bg1 + 1)], ⟨i1, m1, l1 ++ [ofB idb idl (st1 * 1000 + (bg1 + 1)) 1 0 [0]], la1, st1, bg1 + 1, ep1, hd1⟩), ⟨by omega, WayN.snoc (H := H3) (id := id) (L := ids) (st1 * 1000 + (bg1 + 1)), hi3.dead hw3 _, rfl, ?_, by dsimp only; omega, by dsimp only; omega, ?_, fun x hx => ?_, fun b hb => ?_⟩, by dsimp only; omega, rfl, ?_, ?_, .refl _⟩
      · show (l1 ++ [ofB idb idl (st1 * 1000 + (bg1 + 1)) 1 0 [0]]).length ≤ i + 1
        simp; omega
      · show (ids ++ [st1 * 1000 + (bg1 + 1)]).length ≤ i + 1
        simp; omega
      · show x ≤ st1 * 1000 + (bg1 + 1)
        rcases List.mem_append.1 hx with hx | hx
        · have h1 : x ≤ st1 * 1000 + bg1 := hI.ids x hx
          omega
        · rw [List.mem_singleton.1 hx]; omega
      · show b.key ≤ st1 * 1000 + (bg1 + 1)
        rcases List.mem_append.1 hb with hb | hb
        · have h1 : b.key ≤ st1 * 1000 + bg1 := hI.keys b hb
          omega
        · rw [List.mem_singleton.1 hb]; exact Int.le_refl _
      · refine leT_cons (Wk.refl _) (leT_cons (Wk.refl _) (leT_cons (.of ?_) (leT_cons (Wk.int ?_) (leT_nil))))
        · dsimp only
          rw [List.length_append]; rfl
        · exact IntWalk.i64_in _ (by omega)
      · refine leL_nil
end Go.Proofs.Ytecpiplfjmmccaa.AM

/-
  Coord: the arguments' kinds, typed.
  Conditions: none.
-/
namespace Go.Proofs.Ytecpiplfjmmccaa.AM
open Go
theorem fit_u8Row {r : List AV} {m : Nat} (h : FitR [.int .u8] r m) : ∃ n : Int, r = u8R n ∧ 0 ≤ n ∧ n ≤ 255 := by
  cases h with
  | cons h t => cases t; obtain ⟨a, rfl, ha, _⟩ := fit_int h; exact ⟨a, rfl, by have := wf_u8 ha; omega⟩
theorem fit_u8s {x : AV} {m : Nat} (h : FitV false [.sl 1 [.int .u8]] x m) : ∃ l : List Int, x = u8S l ∧ ∀ n ∈ l, 0 ≤ n ∧ n ≤ 255 := by
  obtain ⟨S0, e, h⟩ := h
  simp only [List.cons.injEq, and_true] at e
  subst e
  cases h with
  | sl z fs rows ns n hl hr hn =>
    obtain ⟨l, rfl, h2⟩ := choose_list (f := u8R) (p := fun n => 0 ≤ n ∧ n ≤ 255) (rows := rows) fun r hr' => by
      obtain ⟨i, hi⟩ := List.mem_iff_getElem?.1 hr'
      have hlt := (List.getElem?_eq_some_iff.1 hi).1
      exact fit_u8Row (hr i r _ hi (List.getElem?_eq_getElem (by omega)))
    exact ⟨l, rfl, h2⟩
end Go.Proofs.Ytecpiplfjmmccaa.AM
