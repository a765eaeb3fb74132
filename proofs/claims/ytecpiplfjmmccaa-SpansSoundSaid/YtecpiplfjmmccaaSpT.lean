/-
  Spans: what the program's Split lays comes to the document's runs. Plain.
  Conditions: the map is sound.
-/
import Derived.Test.YtecpiplfjmmccaaSpS
import Derived.Test.YtecpiplfjmmccaaSpR
import Derived.Test.YtecpiplfjmmccaaSpI
namespace Go.Proofs.Ytecpiplfjmmccaa.AM
open Go

/-- The step of find. -/
abbrev fst (v : Int) (n : Int) (s : Sp) : Int := if s.1 ≤ v then s.2 else n
theorem find_append (l l' : List Sp) (v : Int) : find (l ++ l') v = l'.foldl (fst v) (find l v) := by unfold find; rw [List.foldl_append]
theorem fold_none {l : List Sp} {v : Int} (h : ∀ s ∈ l, v < s.1) (n : Int) : l.foldl (fst v) n = n := by
  induction l generalizing n with
  | nil => rfl
  | cons s l ih =>
    have := h s (List.mem_cons_self ..)
    simp only [List.foldl_cons]
    rw [fst, if_neg (by omega)]
    exact ih (fun t ht => h t (List.mem_cons_of_mem _ ht)) n
theorem fold_filter {l : List Sp} {v : Int} {p : Sp → Bool} (h : ∀ s ∈ l, s.1 ≤ v → p s = true) (n : Int) : (l.filter p).foldl (fst v) n = l.foldl (fst v) n := by
  induction l generalizing n with
  | nil => rfl
  | cons s l ih =>
    have ih := fun n => ih (fun t ht => h t (List.mem_cons_of_mem _ ht)) n
    by_cases hp : p s = true
    · rw [List.filter_cons_of_pos hp, List.foldl_cons, List.foldl_cons, ih]
    · rw [List.filter_cons_of_neg hp, List.foldl_cons, ih]
      have : ¬ s.1 ≤ v := fun hs => hp (h s (List.mem_cons_self ..) hs)
      rw [fst, if_neg this]
theorem fold_all {l : List Sp} {v v' : Int} (h : ∀ s ∈ l, s.1 ≤ v ∧ s.1 ≤ v') (n : Int) : l.foldl (fst v) n = l.foldl (fst v') n := by
  induction l generalizing n with
  | nil => rfl
  | cons s l ih =>
    obtain ⟨h1, h2⟩ := h s (List.mem_cons_self ..)
    simp only [List.foldl_cons]
    rw [fst, fst, if_pos h1, if_pos h2]
    exact ih (fun t ht => h t (List.mem_cons_of_mem _ ht)) _
theorem find_mem {l : List Sp} {v : Int} (h : ∃ s ∈ l, s.1 ≤ v) : ∃ s ∈ l, s.1 ≤ v ∧ find l v = s.2 := by
  have key : ∀ (l : List Sp) (n : Int), (l.foldl (fst v) n = n) ∨ ∃ s ∈ l, s.1 ≤ v ∧ l.foldl (fst v) n = s.2 := by
    intro l
    induction l with
    | nil => intro n; exact .inl rfl
    | cons s l ih =>
      intro n
      simp only [List.foldl_cons]
      rcases ih (fst v n s) with h | ⟨t, h1, h2, h3⟩
      · by_cases hs : s.1 ≤ v
        · exact .inr ⟨s, List.mem_cons_self .., hs, by rw [h, fst, if_pos hs]⟩
        · rw [h, fst, if_neg hs]; exact .inl rfl
      · exact .inr ⟨t, List.mem_cons_of_mem _ h1, h2, h3⟩
  obtain ⟨s, h1, h2⟩ := h
  obtain ⟨p, q, rfl⟩ := List.append_of_mem h1
  unfold find
  rw [List.foldl_append, List.foldl_cons]
  have e : (if s.1 ≤ v then s.2 else List.foldl (fun n s => if s.1 ≤ v then s.2 else n) (-1) p) = s.2 := if_pos h2
  rw [e]
  rcases key q s.2 with h | ⟨t, g1, g2, g3⟩
  · exact ⟨s, h1, h2, h⟩
  · exact ⟨t, by simp [g1], g2, g3⟩

/-- Breakpoints: rising, from 0 on, below n, of nodes that are. -/
structure Brk (M : List Sp) (n : Int) : Prop where
  rise : M.Pairwise fun s t => s.1 < t.1
  zero : ∃ x M', M = (0, x) :: M'
  lt : ∀ s ∈ M, s.1 < n
  node : ∀ s ∈ M, s.2 ≠ -1

theorem runs_congr {f g : Nat → Int} : ∀ {n : Nat}, (∀ v, v < n → f v = g v) → runs f n = runs g n
  | 0, _ => rfl
  | n + 1, h => by
    have ih := runs_congr (f := f) (g := g) (n := n) fun v hv => h v (by omega)
    unfold runs
    rw [ih, h n (by omega)]
theorem runs_const {f : Nat → Int} {k : Nat} {x : Int} : ∀ {n : Nat}, k ≤ n → (runs f k).2 = x → (∀ v, k ≤ v → v < n → f v = x) → runs f n = runs f k
  | 0, hk, _, _ => by have : k = 0 := by omega
                      subst this; rfl
  | n + 1, hk, h2, hc => by
    rcases Nat.lt_or_ge n k with h | h
    · have : k = n + 1 := by omega
      subst this; rfl
    · have ih := runs_const (f := f) (k := k) (x := x) (n := n) h h2 fun v h1 h3 => hc v h1 (by omega)
      conv => lhs; unfold runs
      rw [ih, h2, hc n h (by omega), if_neg (by simp)]
theorem glueTo_prefix {l l' : List Sp} : ∀ {i : Nat}, i ≤ l.length → glueTo (l ++ l') i = glueTo l i
  | 0, _ => rfl
  | i + 1, h => by
    have ih := glueTo_prefix (l := l) (l' := l') (i := i) (by omega)
    simp only [glueTo]
    rw [ih, List.getElem?_append_left (by omega), List.getElem?_append_left (by omega)]

theorem runs_glue : ∀ (r : List Sp) (M : List Sp), M = r.reverse → ∀ n : Nat, Brk M n → runs (fun v => find M v) n = (glue M, (M.getLast?.map (·.2)).getD 0)
  | [], M, e, n, h => by
    subst e
    obtain ⟨x, M', h⟩ := h.zero
    cases h
  | s :: r, M, e, n, h => by
    have e : M = r.reverse ++ [s] := by rw [e, List.reverse_cons]
    have hlast : (M.getLast?.map (·.2)).getD 0 = s.2 := by rw [e]; simp
    rw [hlast]
    have hsn : s.2 ≠ -1 := h.node s (by rw [e]; simp)
    have hs0 : 0 ≤ s.1 := by
      obtain ⟨x, M', h0⟩ := h.zero
      have hp := h.rise
      have hm : s ∈ M := by rw [e]; simp
      rw [h0] at hp hm
      rcases List.mem_cons.1 hm with rfl | hm
      · exact Int.le_refl _
      · exact Int.le_of_lt ((List.pairwise_cons.1 hp).1 s hm)
    have hsl := h.lt s (by rw [e]; simp)
    obtain ⟨k, hk⟩ := Int.eq_ofNat_of_zero_le hs0
    have hfind : ∀ v : Int, find M v = if s.1 ≤ v then s.2 else find r.reverse v := fun v => by rw [e, find_append]; rfl
    cases hr : r with
    | nil =>
      subst hr
      have hM : M = [s] := by rw [e]; rfl
      have hs1 : s.1 = 0 := by
        obtain ⟨x, M', h0⟩ := h.zero
        rw [hM] at h0
        simp only [List.cons.injEq] at h0
        rw [h0.1]
      have hf : ∀ v : Nat, find M v = s.2 := fun v => by rw [hfind, if_pos (by omega)]
      have h1 : runs (fun v => find M v) 1 = ([(((0 : Nat) : Int), s.2)], s.2) := by
        have h0 : (fun v : Nat => find M (v : Int)) 0 = s.2 := hf 0
        unfold runs
        have h1 : (fun v : Nat => find M (v : Int)) 0 ≠ (runs (fun v => find M v) 0).2 := by rw [h0]; exact hsn
        rw [if_pos h1]
        simp only [runs, h0, List.nil_append]
      have := runs_const (f := fun v => find M v) (k := 1) (x := s.2) (n := n) (by omega) (by rw [h1]) (fun v _ _ => hf v)
      rw [this, h1, hM]
      have e3 : glue [s] = [s] := by simp [glue, glueTo]
      rw [e3]
      have e4 : ((((0 : Nat) : Int), s.2) : Sp) = s := Prod.ext hs1.symm rfl
      rw [e4]
    | cons t r' =>
      have hne : r ≠ [] := by rw [hr]; simp
      have hb : Brk r.reverse k := by
        refine ⟨(List.pairwise_append.1 (by rw [← e]; exact h.rise)).1, ?_, fun u hu => ?_, fun u hu => h.node u (by rw [e]; simp [List.mem_reverse.1 hu])⟩
        · obtain ⟨x, M', h0⟩ := h.zero
          have hl : 0 < r.reverse.length := by simp [hr]
          cases hrr : r.reverse with
          | nil => rw [hrr] at hl; simp at hl
          | cons u M'' =>
            rw [e, hrr] at h0
            simp only [List.cons_append, List.cons.injEq] at h0
            exact ⟨x, M'', by rw [h0.1]⟩
        · have := (List.pairwise_append.1 (by rw [← e]; exact h.rise)).2.2 u hu s (by simp)
          omega
      have ih := runs_glue r r.reverse rfl k hb
      have hk1 : runs (fun v => find M v) k = (glue r.reverse, ((r.reverse.getLast?).map (·.2)).getD 0) := by
        rw [← ih]
        exact runs_congr fun v hv => by rw [hfind, if_neg (by omega)]
      have hlr : (r.reverse.getLast?).map (·.2) = some t.2 := by rw [hr]; simp
      have hfk : find M (k : Int) = s.2 := by rw [hfind, if_pos (by omega)]
      have hlen : M.length = r.length + 1 := by rw [e]; simp
      have hgl : glue M = if s.2 = t.2 then glue r.reverse else glue r.reverse ++ [s] := by
        unfold glue
        rw [hlen]
        have i1 : r.length < M.length := by omega
        have i2 : r.length - 1 < M.length := by omega
        have g1 : M[r.length] = s := by simp only [e]; rw [List.getElem_append_right (by simp)]; simp
        have hrl : 0 < r.length := by rw [hr]; simp
        have g2 : M[r.length - 1] = t := by
          simp only [e]
          rw [List.getElem_append_left (by simp; omega)]
          simp [hr]
        have g3 : glueTo M r.length = glueTo r.reverse r.reverse.length := by
          rw [e, glueTo_prefix (by simp)]; simp
        split
        · rename_i he
          rw [glueTo_skip i1 hrl (by rw [g1, g2]; exact he), g3]
        · rename_i he
          rw [glueTo_keep i1 hrl (by rw [g1, g2]; exact he), g3, g1]
      have hk2 : runs (fun v => find M v) (k + 1) = (glue M, s.2) := by
        conv => lhs; unfold runs
        simp only [hk1, hfk, hlr, Option.getD_some]
        rw [hgl]
        by_cases he : s.2 = t.2
        · rw [if_neg (by simpa using he), if_pos he, he]
        · rw [if_pos he, if_neg he]
          have : ((k : Int), s.2) = s := Prod.ext hk.symm rfl
          rw [this]
      have := runs_const (f := fun v => find M v) (k := k + 1) (x := s.2) (n := n) (by omega) (by rw [hk2]) (fun v h1 _ => by show find M (v : Int) = _; rw [hfind, if_pos (by omega)])
      rw [this, hk2]

/-! ### the program's breakpoints -/
def preOf (l : List Sp) (size a b node : Int) : List Sp := l.filter (fun s => decide (s.1 < a)) ++ [(a, node)] ++ (if b < size then [(b, find l b)] else []) ++ l.filter (fun s => decide (b < s.1))
theorem snd_rise {l : List Sp} {size nodes : Int} (h : Snd l size nodes) : l.Pairwise fun s t => s.1 < t.1 := by
  have key : ∀ (i j : Nat) (hi : i < l.length) (hj : j < l.length), i < j → l[i].1 < l[j].1 := by
    intro i j hi hj hij
    induction j with
    | zero => omega
    | succ j ih =>
      have h1 := ((h.2.2 (j + 1) hj).2.2.2.2.2 (by omega)).1
      simp only [Nat.add_sub_cancel] at h1
      rcases Nat.lt_or_ge i j with h2 | h2
      · have := ih (by omega) h2; omega
      · have : i = j := by omega
        subst this; exact h1
  rw [List.pairwise_iff_getElem]
  exact fun i j hi hj hij => key i j hi hj hij
theorem snd_mem {l : List Sp} {size nodes : Int} (h : Snd l size nodes) {s : Sp} (hs : s ∈ l) : 0 ≤ s.1 ∧ s.1 < size ∧ 0 ≤ s.2 ∧ s.2 < nodes ∧ s.2 < 6 := by
  obtain ⟨i, hi, rfl⟩ := List.mem_iff_getElem.1 hs
  have h1 := h.2.2 i hi
  have h0 := (h.2.2 0 (by omega)).2.2.2.2.1 rfl
  refine ⟨?_, h1.2.2.2.1, h1.1, h1.2.1, h1.2.2.1⟩
  rcases Nat.eq_zero_or_pos i with h2 | h2
  · subst h2; omega
  · have := List.pairwise_iff_getElem.1 (snd_rise h) 0 i (by omega) hi h2
    omega
theorem snd_zero {l : List Sp} {size nodes : Int} (h : Snd l size nodes) : ∃ x M, l = (0, x) :: M := by
  have h0 := h.1
  match l, h0 with
  | s :: M, _ =>
    have := (h.2.2 0 (by simp)).2.2.2.2.1 rfl
    exact ⟨s.2, M, by rw [show s = (0, s.2) from Prod.ext this rfl]⟩
theorem find_in_range {l : List Sp} {size nodes v : Int} (h : Snd l size nodes) (hv : 0 ≤ v) : 0 ≤ find l v ∧ find l v < 6 ∧ find l v < nodes := by
  obtain ⟨x, M, e⟩ := snd_zero h
  obtain ⟨s, h1, _, h2⟩ := find_mem (l := l) (v := v) ⟨(0, x), by rw [e]; simp, hv⟩
  obtain ⟨_, _, g1, g2, g3⟩ := snd_mem h h1
  rw [h2]
  exact ⟨g1, g3, g2⟩
theorem rise_split {l : List Sp} (h : l.Pairwise fun s t => s.1 < t.1) (b : Int) : l = l.filter (fun s => decide (s.1 ≤ b)) ++ l.filter (fun s => decide (b < s.1)) := by
  induction l with
  | nil => rfl
  | cons s l ih =>
    obtain ⟨h1, h2⟩ := List.pairwise_cons.1 h
    by_cases hs : s.1 ≤ b
    · rw [List.filter_cons_of_pos (by simpa using hs), List.filter_cons_of_neg (by simp; omega), List.cons_append, ← ih h2]
    · have e1 : l.filter (fun s => decide (s.1 ≤ b)) = [] := by
        rw [List.filter_eq_nil_iff]
        intro t ht
        have := h1 t ht
        simp; omega
      have e2 : l.filter (fun s => decide (b < s.1)) = l := by
        rw [List.filter_eq_self]
        intro t ht
        have := h1 t ht
        simp; omega
      rw [List.filter_cons_of_neg (by simpa using hs), List.filter_cons_of_pos (by simp; omega), e1, e2]; rfl
theorem find_pre {l : List Sp} {size nodes a b node : Int} (h : Snd l size nodes) (hab : a < b) {v : Nat} (hv : (v : Int) < size) : find (preOf l size a b node) v = ndOf l a b node v := by
  unfold preOf
  rw [find_append, find_append, find_append]
  have hlate : ∀ {v : Int} (n : Int), v ≤ b → (l.filter (fun s => decide (b < s.1))).foldl (fst v) n = n := fun {v} n hvb => fold_none (fun s hs => by have := (List.mem_filter.1 hs).2; simp at this; omega) n
  by_cases h1 : (v : Int) < a
  · rw [show ndOf l a b node v = find l v from if_neg (by omega), hlate _ (by omega)]
    have e1 : ∀ n : Int, (if b < size then [(b, find l b)] else []).foldl (fst (v : Int)) n = n := fun n => by
      split
      · simp only [List.foldl_cons, List.foldl_nil, fst]; rw [if_neg (by omega)]
      · rfl
    rw [e1]
    simp only [List.foldl_cons, List.foldl_nil, fst]
    rw [if_neg (by omega)]
    exact fold_filter (fun s _ hs => by simp; omega) _
  · by_cases h2 : (v : Int) < b
    · rw [show ndOf l a b node v = node from if_pos ⟨by omega, h2⟩, hlate _ (by omega)]
      have e1 : ∀ n : Int, (if b < size then [(b, find l b)] else []).foldl (fst (v : Int)) n = n := fun n => by
        split
        · simp only [List.foldl_cons, List.foldl_nil, fst]; rw [if_neg (by omega)]
        · rfl
      rw [e1]
      simp only [List.foldl_cons, List.foldl_nil, fst]
      rw [if_pos (by omega)]
    · rw [show ndOf l a b node v = find l v from if_neg (by omega), if_pos (by omega)]
      simp only [List.foldl_cons, List.foldl_nil]
      have e0 : fst (v : Int) (fst (v : Int) (find (l.filter fun s => decide (s.1 < a)) v) (a, node)) (b, find l b) = find l b := by simp only [fst]; rw [if_pos (by omega)]
      rw [e0]
      have hs := rise_split (snd_rise h) b
      have e2 : find l v = (l.filter (fun s => decide (b < s.1))).foldl (fst (v : Int)) (find (l.filter (fun s => decide (s.1 ≤ b))) v) := by
        conv => lhs; rw [hs]
        rw [find_append]
      rw [e2]
      congr 1
      have e3 : find (l.filter (fun s => decide (s.1 ≤ b))) (v : Int) = find (l.filter (fun s => decide (s.1 ≤ b))) b := fold_all (fun s hs => by have := (List.mem_filter.1 hs).2; simp at this; omega) _
      rw [e3]
      exact (fold_filter (fun s _ hs => by simpa using hs) _).symm
theorem pre_brk {l : List Sp} {size nodes a b node : Int} (h : Snd l size nodes) (ha : 0 ≤ a) (hab : a < b) (hb : b ≤ size) (hn : 0 ≤ node) : Brk (preOf l size a b node) size := by
  have hr := snd_rise h
  refine ⟨?_, ?_, fun s hs => ?_, fun s hs => ?_⟩
  · unfold preOf
    refine List.pairwise_append.2 ⟨List.pairwise_append.2 ⟨List.pairwise_append.2 ⟨hr.filter _, by simp, fun s hs t ht => ?_⟩, ?_, fun s hs t ht => ?_⟩, hr.filter _, fun s hs t ht => ?_⟩
    · have := (List.mem_filter.1 hs).2
      simp at this ht; subst ht; exact this
    · split <;> simp
    · split at ht
      · simp at ht; subst ht
        rcases List.mem_append.1 hs with hs | hs
        · have := (List.mem_filter.1 hs).2; simp at this; dsimp only; omega
        · simp at hs; subst hs; exact hab
      · simp at ht
    · have ht := (List.mem_filter.1 ht).2
      simp at ht
      rcases List.mem_append.1 hs with hs | hs
      · rcases List.mem_append.1 hs with hs | hs
        · have := (List.mem_filter.1 hs).2; simp at this; omega
        · simp at hs; subst hs; dsimp only; omega
      · split at hs
        · simp at hs; subst hs; exact ht
        · simp at hs
  · unfold preOf
    obtain ⟨x, M, e⟩ := snd_zero h
    by_cases h0 : 0 < a
    · rw [e, List.filter_cons_of_pos (by simpa using h0)]
      exact ⟨x, _, rfl⟩
    · have ha0 : a = 0 := by omega
      subst ha0
      have e1 : l.filter (fun s => decide (s.1 < 0)) = [] := by
        rw [List.filter_eq_nil_iff]
        intro t ht
        have := (snd_mem h ht).1
        simp; omega
      rw [e1]
      exact ⟨node, _, rfl⟩
  · unfold preOf at hs
    rcases List.mem_append.1 hs with hs | hs
    · rcases List.mem_append.1 hs with hs | hs
      · rcases List.mem_append.1 hs with hs | hs
        · exact (snd_mem h (List.mem_filter.1 hs).1).2.1
        · simp at hs; subst hs; dsimp only; omega
      · split at hs
        · simp at hs; subst hs; assumption
        · simp at hs
    · exact (snd_mem h (List.mem_filter.1 hs).1).2.1
  · have hz : ∀ s ∈ l, s.2 ≠ -1 := fun s hs => by have := (snd_mem h hs).2.2.1; omega
    unfold preOf at hs
    rcases List.mem_append.1 hs with hs | hs
    · rcases List.mem_append.1 hs with hs | hs
      · rcases List.mem_append.1 hs with hs | hs
        · exact hz s (List.mem_filter.1 hs).1
        · simp at hs; subst hs; dsimp only; omega
      · split at hs
        · simp at hs; subst hs; have := (find_in_range (v := b) h (by omega)).1; dsimp only; omega
        · simp at hs
    · exact hz s (List.mem_filter.1 hs).1
/-- What the program lays, those side by side of one node as one, are the runs of the document's. -/
theorem glue_pre {l : List Sp} {size nodes a b node : Int} (h : Snd l size nodes) (ha : 0 ≤ a) (hab : a < b) (hb : b ≤ size) (hn : 0 ≤ node) : glue (preOf l size a b node) = (runs (ndOf l a b node) size.toNat).1 := by
  have hsz : ((size.toNat : Nat) : Int) = size := Int.toNat_of_nonneg (by omega)
  have hbk := pre_brk h ha hab hb hn
  rw [← hsz] at hbk
  have := runs_glue _ _ (List.reverse_reverse _).symm size.toNat hbk
  have hc := runs_congr (f := fun v => find (preOf l ↑size.toNat a b node) v) (g := ndOf l a b node) (n := size.toNat) (fun v hv => by
    rw [hsz]; exact find_pre h hab (by omega))
  rw [← hc, this, hsz]
/-- Are they the node's alone? -/
theorem nodes_one {l : List Sp} {size nodes a b node : Int} (h : Snd l size nodes) (ha : 0 ≤ a) (hab : a < b) (hb : b ≤ size) (hs : size ≤ 10000) : nodesOf l a b = [node] ↔ ¬ Other l a b node size.toNat := by
  have hlo : lo0 a = a := by unfold lo0; split <;> omega
  have hhi : hi0 b = b := by unfold hi0; split <;> omega
  have hmem : ∀ x, x ∈ nodesOf l a b ↔ ∃ v : Nat, v < size.toNat ∧ a ≤ (v : Int) ∧ (v : Int) < b ∧ find l v = x := by
    intro x
    unfold nodesOf
    rw [nodesTo_mem, hlo, hhi]
    unfold anyN
    simp only [List.any_eq_true, List.mem_range, beq_iff_eq]
    constructor
    · rintro ⟨_, _, k, hk, he⟩
      exact ⟨(a + k).toNat, by omega, by omega, by omega, by rw [Int.toNat_of_nonneg (by omega)]; exact he⟩
    · rintro ⟨v, h1, h2, h3, rfl⟩
      obtain ⟨g1, g2, _⟩ := find_in_range (v := (v : Int)) h (by omega)
      exact ⟨g1, by omega, (v - a).toNat, by omega, by congr 1; omega⟩
  constructor
  · rintro he ⟨v, h1, h2, h3, h4⟩
    have := (hmem (find l v)).2 ⟨v, h1, h2, h3, rfl⟩
    rw [he] at this
    simp at this
    exact h4 this
  · intro hno
    have hall : ∀ x ∈ nodesOf l a b, x = node := by
      intro x hx
      obtain ⟨v, h1, h2, h3, rfl⟩ := (hmem x).1 hx
      exact Decidable.byContradiction fun h4 => hno ⟨v, h1, h2, h3, h4⟩
    have hin : node ∈ nodesOf l a b := by
      refine (hmem node).2 ⟨a.toNat, by omega, by omega, by omega, ?_⟩
      exact Decidable.byContradiction fun h4 => hno ⟨a.toNat, by omega, by omega, by omega, h4⟩
    have hsrt := nodesTo_sorted l a b 6
    change (nodesOf l a b).Pairwise _ at hsrt
    match hL : nodesOf l a b with
    | [] => rw [hL] at hin; cases hin
    | [x] => rw [hall x (by rw [hL]; simp)]
    | x :: y :: r =>
      rw [hL] at hsrt
      have h1 := (List.pairwise_cons.1 hsrt).1 y (by simp)
      have h2 := hall x (by rw [hL]; simp)
      have h3 := hall y (by rw [hL]; simp)
      omega
end Go.Proofs.Ytecpiplfjmmccaa.AM
