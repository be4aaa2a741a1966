import Derived.Test.YtgphohkofmgdfaaCy4
namespace Go.Proofs.Ytgphohkofmgdfaa
set_option linter.unusedVariables false
/-! The search by levels, and what it finds. T: the turned graph's rows. -/
/-- There is a way of j steps from k to the goal. -/
def Wk (T : List (List Int)) (to : Nat) : Nat → Nat → Prop
  | 0, k => k = to
  | j + 1, k => ∃ i, i < T.length ∧ (k : Int) ∈ T.getD i [] ∧ Wk T to j i
/-- What far answers: the least number of steps, -1: there is no way. -/
def FarIs (T : List (List Int)) (to : Nat) (o : Nat → Int) : Prop :=
  ∀ k, k < T.length → (o k = -1 ∧ ∀ j, ¬ Wk T to j k) ∨ ∃ j : Nat, o k = (j : Int) ∧ Wk T to j k ∧ ∀ j', j' < j → ¬ Wk T to j' k
def setI (o : Nat → Int) (k : Nat) (v : Int) : Nat → Int := fun j => if j = k then v else o j
def visit (i : Nat) (s : (Nat → Int) × List Int) (k : Int) : (Nat → Int) × List Int :=
  if s.1 k.toNat < 0 then (setI s.1 k.toNat (s.1 i + 1), s.2 ++ [k]) else s
def rowS (T : List (List Int)) (s : (Nat → Int) × List Int) (i : Int) : (Nat → Int) × List Int := (T.getD i.toNat []).foldl (visit i.toNat) s
def levelS (T : List (List Int)) (o : Nat → Int) (row : List Int) : (Nat → Int) × List Int := row.foldl (rowS T) (o, [])
/-- How many are not reached. -/
def cnt (o : Nat → Int) (n : Nat) : Nat := ((List.range n).filter fun k => decide (o k < 0)).length
theorem cnt_le (o : Nat → Int) (n : Nat) : cnt o n ≤ n := by
  unfold cnt
  exact Nat.le_trans (List.length_filter_le _ _) (by simp)
theorem cnt_succ (o : Nat → Int) (n : Nat) : cnt o (n + 1) = cnt o n + (if o n < 0 then 1 else 0) := by
  unfold cnt
  rw [List.range_succ, List.filter_append]
  by_cases h : o n < 0 <;> simp [h]
theorem cnt_set (o : Nat → Int) (k : Nat) (v : Int) (hv : 0 ≤ v) (hk : o k < 0) : ∀ n, cnt (setI o k v) n + (if k < n then 1 else 0) = cnt o n
  | 0 => by simp [cnt]
  | n + 1 => by
    have ih := cnt_set o k v hv hk n
    rw [cnt_succ, cnt_succ, ← ih]
    by_cases e : n = k
    · subst e
      have h1 : setI o n v n = v := by simp [setI]
      have h2 : ¬ v < 0 := by omega
      simp [h1, h2, hk]
    · have h1 : setI o k v n = o n := by simp [setI, e]
      have h3 : (k < n + 1) = (k < n) := by
        apply propext
        omega
      simp only [h1, h3]
      omega
theorem visit_cnt {i n : Nat} {s : (Nat → Int) × List Int} {k : Int} (hk : 0 ≤ k) (hkn : k < (n : Int)) (hi : -1 ≤ s.1 i) : cnt (visit i s k).1 n + (visit i s k).2.length = cnt s.1 n + s.2.length := by
  unfold visit
  split
  · rename_i h
    have := cnt_set s.1 k.toNat (s.1 i + 1) (by omega) h n
    rw [if_pos (by omega)] at this
    simp only [List.length_append, List.length_cons, List.length_nil]
    omega
  · rfl
/-- The states while a level is gone through: o0 the numbers ahead of it, lev its own; Q: who was met. -/
structure Lev (n : Nat) (o0 : Nat → Int) (lev : Nat) (s : (Nat → Int) × List Int) (Q : Nat → Prop) : Prop where
  old : ∀ k, 0 ≤ o0 k → s.1 k = o0 k
  met : ∀ k, o0 k < 0 → Q k → s.1 k = (lev : Int) + 1
  not : ∀ k, o0 k < 0 → ¬ Q k → s.1 k = o0 k
  next : ∀ x, x ∈ s.2 ↔ ∃ k : Nat, x = (k : Int) ∧ o0 k < 0 ∧ Q k
  sum : cnt s.1 n + s.2.length = cnt o0 n
theorem lev_start (n : Nat) (o0 : Nat → Int) (lev : Nat) : Lev n o0 lev (o0, []) (fun _ => False) :=
  ⟨fun _ _ => rfl, fun _ _ h => h.elim, fun _ _ _ => rfl, fun x => by simp, rfl⟩
theorem Lev.visit {n : Nat} {o0 : Nat → Int} {lev : Nat} {s : (Nat → Int) × List Int} {Q : Nat → Prop} (h : Lev n o0 lev s Q) {i : Nat} (hi : o0 i = (lev : Int)) {x : Int} (hx : 0 ≤ x) (hxn : x < (n : Int)) :
    Lev n o0 lev (visit i s x) (fun k => Q k ∨ (k : Int) = x) := by
  obtain ⟨m, rfl⟩ := Int.eq_ofNat_of_zero_le hx
  have hsi : s.1 i = (lev : Int) := by rw [h.old i (by omega), hi]
  have hsum := visit_cnt (i := i) (n := n) (s := s) hx hxn (by omega)
  rw [h.sum] at hsum
  unfold Go.Proofs.Ytgphohkofmgdfaa.visit at hsum ⊢
  simp only [Int.toNat_natCast] at hsum ⊢
  split at hsum
  · rename_i hneg
    rw [if_pos hneg]
    have hm0 : o0 m < 0 := by
      by_cases e : 0 ≤ o0 m
      · rw [h.old m e] at hneg; omega
      · omega
    have hmQ : ¬ Q m := fun hq => by rw [h.met m hm0 hq] at hneg; omega
    refine ⟨fun k hk => ?_, fun k hk hq => ?_, fun k hk hq => ?_, fun x => ?_, hsum⟩
    · have e : k ≠ m := fun e => by subst e; omega
      simp only [setI, if_neg e]; exact h.old k hk
    · by_cases e : k = m
      · subst e; simp only [setI, if_true]; rw [hsi]
      · simp only [setI, if_neg e]
        rcases hq with hq | hq
        · exact h.met k hk hq
        · exact absurd (by omega) e
    · have e : k ≠ m := fun e => hq (.inr (by rw [e]))
      simp only [setI, if_neg e]
      exact h.not k hk fun hq2 => hq (.inl hq2)
    · rw [List.mem_append, h.next x, List.mem_singleton]
      constructor
      · rintro (⟨k, h1, h2, h3⟩ | rfl)
        · exact ⟨k, h1, h2, .inl h3⟩
        · exact ⟨m, rfl, hm0, .inr rfl⟩
      · rintro ⟨k, h1, h2, h3 | h3⟩
        · exact .inl ⟨k, h1, h2, h3⟩
        · right; rw [h1, h3]
  · rename_i hpos
    rw [if_neg hpos]
    have hmm : o0 m < 0 → Q m := fun h0 => Classical.byContradiction fun hq => by
      rw [h.not m h0 hq] at hpos; omega
    refine ⟨h.old, fun k hk hq => ?_, fun k hk hq => h.not k hk fun hq2 => hq (.inl hq2), fun x => ?_, hsum⟩
    · rcases hq with hq | hq
      · exact h.met k hk hq
      · obtain rfl : k = m := by omega
        exact h.met k hk (hmm hk)
    · rw [h.next x]
      constructor
      · rintro ⟨k, h1, h2, h3⟩
        exact ⟨k, h1, h2, .inl h3⟩
      · rintro ⟨k, h1, h2, h3 | h3⟩
        · exact ⟨k, h1, h2, h3⟩
        · obtain rfl : k = m := by omega
          exact ⟨k, h1, h2, hmm h2⟩
theorem Lev.congr {n : Nat} {o0 : Nat → Int} {lev : Nat} {s : (Nat → Int) × List Int} {Q R : Nat → Prop} (h : Lev n o0 lev s Q) (e : ∀ k, Q k ↔ R k) : Lev n o0 lev s R := by
  have : Q = R := funext fun k => propext (e k)
  rw [← this]; exact h
theorem Lev.row {n : Nat} {o0 : Nat → Int} {lev : Nat} {i : Nat} (hi : o0 i = (lev : Int)) : ∀ {l : List Int} {s : (Nat → Int) × List Int} {Q : Nat → Prop}, Lev n o0 lev s Q → (∀ x ∈ l, 0 ≤ x ∧ x < (n : Int)) →
    Lev n o0 lev (l.foldl (Go.Proofs.Ytgphohkofmgdfaa.visit i) s) (fun k => Q k ∨ (k : Int) ∈ l)
  | [], s, Q, h, _ => h.congr fun k => by simp
  | x :: l, s, Q, h, hx => by
    have h1 := h.visit hi (hx x (List.mem_cons_self ..)).1 (hx x (List.mem_cons_self ..)).2
    have h2 := Lev.row hi h1 fun y hy => hx y (List.mem_cons_of_mem _ hy)
    refine Lev.congr h2 fun k => ?_
    rw [List.mem_cons, or_assoc]
theorem Lev.rows {n : Nat} {T : List (List Int)} {o0 : Nat → Int} {lev : Nat} (hT : ∀ i, ∀ x ∈ T.getD i [], 0 ≤ x ∧ x < (n : Int)) : ∀ {row : List Int} {s : (Nat → Int) × List Int} {Q : Nat → Prop}, Lev n o0 lev s Q → (∀ x ∈ row, 0 ≤ x ∧ o0 x.toNat = (lev : Int)) →
    Lev n o0 lev (row.foldl (rowS T) s) (fun k => Q k ∨ ∃ i ∈ row, (k : Int) ∈ T.getD i.toNat [])
  | [], s, Q, h, _ => h.congr fun k => by simp
  | x :: row, s, Q, h, hx => by
    obtain ⟨_, h0⟩ := hx x (List.mem_cons_self ..)
    have h1 := Lev.row h0 h (hT x.toNat)
    have h2 := Lev.rows hT (s := rowS T s x) h1 fun y hy => hx y (List.mem_cons_of_mem _ hy)
    refine Lev.congr h2 fun k => ?_
    rw [or_assoc]
    constructor
    · rintro (h | h | ⟨i, hi, h⟩)
      · exact .inl h
      · exact .inr ⟨x, List.mem_cons_self .., h⟩
      · exact .inr ⟨i, List.mem_cons_of_mem _ hi, h⟩
    · rintro (h | ⟨i, hi, h⟩)
      · exact .inl h
      · rcases List.mem_cons.1 hi with rfl | hi
        · exact .inr (.inl h)
        · exact .inr (.inr ⟨i, hi, h⟩)
theorem Lev.low {n : Nat} {o0 : Nat → Int} {lev : Nat} {s : (Nat → Int) × List Int} {Q : Nat → Prop} (h : Lev n o0 lev s Q) (h0 : ∀ k, -1 ≤ o0 k ∧ o0 k ≤ (lev : Int)) (k : Nat) : -1 ≤ s.1 k ∧ s.1 k ≤ (lev : Int) + 1 := by
  have h1 := h0 k
  by_cases hk : 0 ≤ o0 k
  · rw [h.old k hk]; omega
  · by_cases hq : Q k
    · rw [h.met k (by omega) hq]; omega
    · rw [h.not k (by omega) hq]; omega
theorem nodes_row {n : Nat} {T : List (List Int)} (hT : Nodes n T) : ∀ i, ∀ x ∈ T.getD i [], 0 ≤ x ∧ x < (n : Int) := fun i x hx => by
  by_cases hi : i < T.length
  · have e : T.getD i [] = T[i] := by simp [List.getD, hi]
    rw [e] at hx
    exact (hT.2 _ (List.getElem_mem hi)).2 x hx
  · have e : T.getD i [] = [] := by simp [List.getD, hi]
    rw [e] at hx; cases hx
/-- Ahead of a level. -/
structure FarInv (T : List (List Int)) (to n lev : Nat) (o : Nat → Int) (row : List Int) : Prop where
  low : ∀ k, -1 ≤ o k ∧ o k ≤ (lev : Int)
  out : ∀ k, ¬ k < n → o k < 0
  dist : ∀ k, 0 ≤ o k → Wk T to (o k).toNat k ∧ ∀ j', j' < (o k).toNat → ¬ Wk T to j' k
  all : ∀ k j, j ≤ lev → Wk T to j k → 0 ≤ o k
  row : ∀ x, x ∈ row ↔ ∃ k : Nat, x = (k : Int) ∧ o k = (lev : Int)
theorem farInv_start {T : List (List Int)} {to n : Nat} (hto : to < n) : FarInv T to n 0 (setI (fun _ => -1) to 0) [(to : Int)] := by
  refine ⟨fun k => ?_, fun k hk => ?_, fun k hk => ?_, fun k j hj hw => ?_, fun x => ?_⟩
  · simp only [setI]; split <;> omega
  · have : k ≠ to := by omega
    simp [setI, this]
  · have e : k = to := Classical.byContradiction fun e => by simp [setI, e] at hk
    subst e
    refine ⟨by simp [setI, Wk], fun j' hj' => ?_⟩
    simp [setI] at hj'
  · obtain rfl : j = 0 := by omega
    have e : k = to := hw
    subst e
    simp [setI]
  · rw [List.mem_singleton]
    constructor
    · rintro rfl; exact ⟨to, rfl, by simp [setI]⟩
    · rintro ⟨k, rfl, h⟩
      have e : k = to := Classical.byContradiction fun e => by simp [setI, e] at h
      rw [e]
theorem farInv_step {T : List (List Int)} {to n lev : Nat} {o : Nat → Int} {row : List Int} (hT : Nodes n T) (h : FarInv T to n lev o row) : FarInv T to n (lev + 1) (levelS T o row).1 (levelS T o row).2 := by
  have hT0 := nodes_row hT
  have hrow : ∀ x ∈ row, 0 ≤ x ∧ o x.toNat = (lev : Int) := fun x hx => by
    obtain ⟨k, rfl, hk⟩ := (h.row x).1 hx
    exact ⟨by omega, by simpa using hk⟩
  have hL := Lev.rows (lev := lev) hT0 (lev_start n o lev) hrow
  have hL2 : Lev n o lev (levelS T o row) (fun k => ∃ i ∈ row, (k : Int) ∈ T.getD i.toNat []) := hL.congr fun k => by simp
  obtain ⟨s, hs⟩ : ∃ s, s = levelS T o row := ⟨_, rfl⟩
  rw [← hs] at hL2 ⊢
  -- who is met is one step from the level
  have hmet : ∀ k : Nat, (∃ i ∈ row, (k : Int) ∈ T.getD i.toNat []) → Wk T to (lev + 1) k := fun k ⟨i, hi, hk⟩ => by
    obtain ⟨m, rfl, hm⟩ := (h.row i).1 hi
    have hmn : m < n := Classical.byContradiction fun hn => by have := h.out m hn; omega
    refine ⟨m, by rw [hT.1]; exact hmn, by simpa using hk, ?_⟩
    have := (h.dist m (by omega)).1
    rw [hm] at this
    simpa using this
  have hcases : ∀ k : Nat, (0 ≤ o k ∧ s.1 k = o k) ∨ (o k < 0 ∧ (∃ i ∈ row, (k : Int) ∈ T.getD i.toNat []) ∧ s.1 k = (lev : Int) + 1) ∨ (o k < 0 ∧ ¬ (∃ i ∈ row, (k : Int) ∈ T.getD i.toNat []) ∧ s.1 k = o k) := fun k => by
    by_cases h0 : 0 ≤ o k
    · exact .inl ⟨h0, hL2.old k h0⟩
    · by_cases hq : ∃ i ∈ row, (k : Int) ∈ T.getD i.toNat []
      · exact .inr (.inl ⟨by omega, hq, hL2.met k (by omega) hq⟩)
      · exact .inr (.inr ⟨by omega, hq, hL2.not k (by omega) hq⟩)
  have hnew : ∀ k, o k < 0 → ∀ j', j' ≤ lev → ¬ Wk T to j' k := fun k hk j' hj' hw => by have := h.all k j' hj' hw; omega
  refine ⟨fun k => ?_, fun k hk => ?_, fun k hk => ?_, fun k j hj hw => ?_, fun x => ?_⟩
  · have := h.low k
    rcases hcases k with ⟨_, e⟩ | ⟨_, _, e⟩ | ⟨_, _, e⟩ <;> rw [e] <;> omega
  · have h0 := h.out k hk
    rcases hcases k with ⟨h1, _⟩ | ⟨_, ⟨i, _, h2⟩, _⟩ | ⟨_, _, e⟩
    · omega
    · have := (hT0 _ _ h2).2; omega
    · rw [e]; exact h0
  · rcases hcases k with ⟨h1, e⟩ | ⟨h1, h2, e⟩ | ⟨h1, _, e⟩
    · rw [e]; exact h.dist k h1
    · rw [e]
      have e2 : ((lev : Int) + 1).toNat = lev + 1 := by omega
      rw [e2]
      exact ⟨hmet k h2, fun j' hj' => hnew k h1 j' (by omega)⟩
    · rw [e] at hk; omega
  · by_cases hjl : j ≤ lev
    · have h1 := h.all k j hjl hw
      rw [hL2.old k h1]; exact h1
    · obtain rfl : j = lev + 1 := by omega
      obtain ⟨i, hi, hki, hwi⟩ := hw
      have hoi := h.all i lev (Nat.le_refl _) hwi
      have hd := h.dist i hoi
      by_cases hlt : (o i).toNat < lev
      · have hk2 : 0 ≤ o k := h.all k ((o i).toNat + 1) (by omega) ⟨i, hi, hki, hd.1⟩
        rw [hL2.old k hk2]; exact hk2
      · have hil : o i = (lev : Int) := by have := (h.low i).2; omega
        rcases hcases k with ⟨h1, e⟩ | ⟨_, _, e⟩ | ⟨_, h2, _⟩
        · rw [e]; exact h1
        · rw [e]; omega
        · exact absurd ⟨(i : Int), (h.row _).2 ⟨i, rfl, hil⟩, by simpa using hki⟩ h2
  · rw [hL2.next x]
    constructor
    · rintro ⟨k, rfl, h1, h2⟩
      exact ⟨k, rfl, by rw [hL2.met k h1 h2]; omega⟩
    · rintro ⟨k, rfl, h1⟩
      have := (h.low k).2
      rcases hcases k with ⟨_, e⟩ | ⟨h2, h3, _⟩ | ⟨h2, _, e⟩
      · omega
      · exact ⟨k, rfl, h2, h3⟩
      · omega
theorem FarInv.rows {T : List (List Int)} {tg n lev : Nat} {o : Nat → Int} {row : List Int} (h : FarInv T tg n lev o row) : ∀ x ∈ row, 0 ≤ x ∧ x < (n : Int) ∧ o x.toNat = (lev : Int) := fun x hx => by
  obtain ⟨k, rfl, hk⟩ := (h.row x).1 hx
  have hkn : k < n := Classical.byContradiction fun hn => by have := h.out k hn; omega
  exact ⟨by omega, by omega, by simpa using hk⟩
/-- What is so while a level is gone through. -/
theorem FarInv.mid {T : List (List Int)} {tg n lev : Nat} {o : Nat → Int} {row r1 l1 : List Int} {i : Int} (hT : Nodes n T) (h : FarInv T tg n lev o row) (hr : ∀ x ∈ r1, x ∈ row) (hi : i ∈ row) (hl : ∀ x ∈ l1, x ∈ T.getD i.toNat []) :
    (∀ k, -1 ≤ (l1.foldl (visit i.toNat) (r1.foldl (rowS T) (o, []))).1 k ∧ (l1.foldl (visit i.toNat) (r1.foldl (rowS T) (o, []))).1 k ≤ (lev : Int) + 1) ∧ cnt (l1.foldl (visit i.toNat) (r1.foldl (rowS T) (o, []))).1 n + (l1.foldl (visit i.toNat) (r1.foldl (rowS T) (o, []))).2.length = cnt o n := by
  have h1 := Lev.rows (nodes_row hT) (lev_start n o lev) fun x hx => ⟨(h.rows x (hr x hx)).1, (h.rows x (hr x hx)).2.2⟩
  have h2 := Lev.row (h.rows i hi).2.2 h1 fun x hx => nodes_row hT _ x (hl x hx)
  exact ⟨h2.low h.low, h2.sum⟩
theorem FarInv.level {T : List (List Int)} {tg n lev : Nat} {o : Nat → Int} {row : List Int} (hT : Nodes n T) (h : FarInv T tg n lev o row) : cnt (levelS T o row).1 n + (levelS T o row).2.length = cnt o n :=
  (Lev.rows (nodes_row hT) (lev_start n o lev) fun x hx => ⟨(h.rows x hx).1, (h.rows x hx).2.2⟩).sum
theorem farInv_end {T : List (List Int)} {to n lev : Nat} {o : Nat → Int} (hT : Nodes n T) (h : FarInv T to n lev o []) : FarIs T to o := by
  have key : ∀ j k, Wk T to j k → 0 ≤ o k := fun j => by
    induction j with
    | zero => exact fun k hw => h.all k 0 (Nat.zero_le _) hw
    | succ j ih =>
      rintro k ⟨i, hi, hki, hw⟩
      have h1 := ih i hw
      have h2 := h.dist i h1
      have h3 := (h.low i).2
      have h4 : o i ≠ (lev : Int) := fun e => by have := (h.row (i : Int)).2 ⟨i, rfl, e⟩; cases this
      exact h.all k ((o i).toNat + 1) (by omega) ⟨i, hi, hki, h2.1⟩
  intro k _
  by_cases h0 : 0 ≤ o k
  · right
    refine ⟨(o k).toNat, by omega, h.dist k h0⟩
  · left
    exact ⟨by have := (h.low k).1; omega, fun j hw => h0 (key j k hw)⟩
end Go.Proofs.Ytgphohkofmgdfaa
