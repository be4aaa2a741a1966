import Derived.Test.YtgphohkofmgdfaaCyC
namespace Go.Proofs.Ytgphohkofmgdfaa
set_option linter.unusedVariables false
/-! At least one step. -/
open Classical in
noncomputable def farN (T : List (List Int)) (tg k : Nat) : Int := if h : ∃ j, Wk T tg (j + 1) k ∧ ∀ j', j' < j → ¬ Wk T tg (j' + 1) k then ((Classical.choose h : Nat) : Int) + 1 else 0
theorem wk1_least {T : List (List Int)} {tg k : Nat} : ∀ j, Wk T tg (j + 1) k → ∃ j, Wk T tg (j + 1) k ∧ ∀ j', j' < j → ¬ Wk T tg (j' + 1) k := by
  intro j
  induction j using Nat.strongRecOn with
  | _ j ih =>
    intro h
    by_cases h2 : ∃ j', j' < j ∧ Wk T tg (j' + 1) k
    · obtain ⟨j', h3, h4⟩ := h2
      exact ih j' h3 h4
    · exact ⟨j, h, fun j' h3 h4 => h2 ⟨j', h3, h4⟩⟩
theorem farN_some {T : List (List Int)} {tg k j : Nat} (h1 : Wk T tg (j + 1) k) (h2 : ∀ j', j' < j → ¬ Wk T tg (j' + 1) k) : farN T tg k = (j : Int) + 1 := by
  have h : ∃ j, Wk T tg (j + 1) k ∧ ∀ j', j' < j → ¬ Wk T tg (j' + 1) k := ⟨j, h1, h2⟩
  unfold farN
  rw [dif_pos h]
  obtain ⟨h3, h4⟩ := Classical.choose_spec h
  have : Classical.choose h = j := by
    rcases Nat.lt_trichotomy (Classical.choose h) j with h5 | h5 | h5
    · exact absurd h3 (h2 _ h5)
    · exact h5
    · exact absurd h1 (h4 _ h5)
  rw [this]
theorem farN_none {T : List (List Int)} {tg k : Nat} (h : ∀ j, ¬ Wk T tg (j + 1) k) : farN T tg k = 0 := by
  unfold farN
  rw [dif_neg fun ⟨j, h1, _⟩ => h j h1]
theorem farN_cases (T : List (List Int)) (tg k : Nat) : (farN T tg k = 0 ∧ ∀ j, ¬ Wk T tg (j + 1) k) ∨ ∃ j : Nat, farN T tg k = (j : Int) + 1 ∧ Wk T tg (j + 1) k ∧ ∀ j', j' < j → ¬ Wk T tg (j' + 1) k := by
  by_cases h : ∃ j, Wk T tg (j + 1) k
  · obtain ⟨j, hj⟩ := h
    obtain ⟨j, h1, h2⟩ := wk1_least j hj
    exact .inr ⟨j, farN_some h1 h2, h1, h2⟩
  · have h' : ∀ j, ¬ Wk T tg (j + 1) k := fun j hj => h ⟨j, hj⟩
    exact .inl ⟨farN_none h', h'⟩
theorem farN_low (T : List (List Int)) (tg k : Nat) : 0 ≤ farN T tg k := by
  rcases farN_cases T tg k with ⟨e, _⟩ | ⟨j, e, _⟩ <;> omega
theorem farN_le {T : List (List Int)} {tg k j : Nat} (h : Wk T tg (j + 1) k) : 1 ≤ farN T tg k ∧ farN T tg k ≤ (j : Int) + 1 := by
  rcases farN_cases T tg k with ⟨_, h1⟩ | ⟨j', e, _, h2⟩
  · exact absurd h (h1 j)
  · have : j' ≤ j := Classical.byContradiction fun hn => h2 j (by omega) h
    omega
theorem farN_one {T : List (List Int)} {tg k : Nat} (htg : tg < T.length) : farN T tg k = 1 ↔ (k : Int) ∈ T.getD tg [] := by
  constructor
  · intro h
    rcases farN_cases T tg k with ⟨e, _⟩ | ⟨j, e, h1, _⟩
    · omega
    · obtain rfl : j = 0 := by omega
      obtain ⟨i, _, hk, hw⟩ := h1
      have : i = tg := hw
      subst this
      exact hk
  · intro h
    have := farN_some (T := T) (tg := tg) (k := k) (j := 0) ⟨tg, htg, h, rfl⟩ (fun j' h => by omega)
    omega
/-- One step more. -/
theorem farN_step {T : List (List Int)} {tg k m : Nat} (hm : 1 ≤ m) (h : farN T tg k = (m : Int) + 1) : ∃ i, i < T.length ∧ (k : Int) ∈ T.getD i [] ∧ farN T tg i = (m : Int) := by
  rcases farN_cases T tg k with ⟨e, _⟩ | ⟨j, e, h1, h2⟩
  · omega
  · obtain rfl : j = m := by omega
    obtain ⟨p, rfl⟩ : ∃ p, j = p + 1 := ⟨j - 1, by omega⟩
    obtain ⟨i, hi, hk, hw⟩ := h1
    have hf := farN_some (T := T) (tg := tg) (k := i) (j := p) hw fun j' h3 h4 => h2 (j' + 1) (by omega) ⟨i, hi, hk, h4⟩
    exact ⟨i, hi, hk, by omega⟩
theorem farN_near {T : List (List Int)} {tg k i m : Nat} (hm : 1 ≤ m) (hi : i < T.length) (hk : (k : Int) ∈ T.getD i []) (h : farN T tg i = (m : Int)) : 1 ≤ farN T tg k ∧ farN T tg k ≤ (m : Int) + 1 := by
  rcases farN_cases T tg i with ⟨e, _⟩ | ⟨j, e, h1, _⟩
  · omega
  · obtain rfl : m = j + 1 := by omega
    have := farN_le (T := T) (tg := tg) (k := k) (j := j + 1) ⟨i, hi, hk, h1⟩
    omega
/-- Off the goal: as far as it is. -/
theorem farN_off {T : List (List Int)} {tg k : Nat} (h : k ≠ tg) : farN T tg k = if distI T tg k < 0 then 0 else distI T tg k := by
  rcases distI_cases T tg k with ⟨e, h1⟩ | ⟨j, e, h1, h2⟩
  · rw [if_pos (by omega)]
    exact farN_none fun j => h1 (j + 1)
  · rw [if_neg (by omega), e]
    cases j with
    | zero => exact absurd h1 h
    | succ j => exact farN_some h1 fun j' h3 => h2 (j' + 1) (by omega)
/-- No more numbers than places. -/
theorem onto_le : ∀ (n j : Nat) (f : Nat → Nat), (∀ v, v < j → ∃ k, k < n ∧ f k = v) → j ≤ n
  | 0, j, f, h => by
    cases j with
    | zero => exact Nat.le_refl _
    | succ j => obtain ⟨k, hk, _⟩ := h 0 (by omega); omega
  | n + 1, j, f, h => by
    cases j with
    | zero => omega
    | succ j =>
      have := onto_le n j (fun k => if f n < f k then f k - 1 else f k) fun v hv => by
        by_cases hv2 : v < f n
        · obtain ⟨k, hk, e⟩ := h v (by omega)
          have hkn : k ≠ n := fun e2 => by subst e2; omega
          exact ⟨k, by omega, by rw [if_neg (by omega)]; exact e⟩
        · obtain ⟨k, hk, e⟩ := h (v + 1) (by omega)
          by_cases hkn : k = n
          · subst hkn
            obtain ⟨k2, hk2, e2⟩ := h v (by omega)
            have hne : k2 ≠ k := fun e3 => by subst e3; omega
            exact ⟨k2, by omega, by rw [if_neg (by omega)]; exact e2⟩
          · exact ⟨k, by omega, by rw [if_pos (by omega)]; omega⟩
      omega
theorem farN_all {T : List (List Int)} {tg : Nat} : ∀ (d m k : Nat), k < T.length → farN T tg k = (m : Int) + d → 1 ≤ m → ∃ i, i < T.length ∧ farN T tg i = (m : Int)
  | 0, m, k, hk, h, _ => ⟨k, hk, by omega⟩
  | d + 1, m, k, hk, h, hm => by
    obtain ⟨i, hi, _, e⟩ := farN_step (T := T) (tg := tg) (k := k) (m := m + d) (by omega) (by omega)
    exact farN_all d m i hi (by omega) hm
theorem farN_few {T : List (List Int)} {tg k : Nat} (hk : k < T.length) : farN T tg k ≤ (T.length : Int) := by
  have hlow := farN_low T tg k
  obtain ⟨F, hF⟩ := Int.eq_ofNat_of_zero_le hlow
  have := onto_le T.length F (fun i => (farN T tg i - 1).toNat) fun v hv => by
    obtain ⟨i, hi, e⟩ := farN_all (T := T) (tg := tg) (F - (v + 1)) (v + 1) k hk (by omega) (by omega)
    exact ⟨i, hi, by omega⟩
  omega
/-- What the reference's Far has behind m rounds. -/
noncomputable def cutN (T : List (List Int)) (tg m k : Nat) : Int := if farN T tg k ≤ (m : Int) then farN T tg k else 0
noncomputable def rndN (X T : List (List Int)) (tg m i k : Nat) : Int :=
  if m = 0 then (if onX X i tg = true then 1 else 0) else (if (List.range k).any (fun k => decide (cutN T tg m k = (m : Int)) && onX X i k) = true then (m : Int) + 1 else 0)
theorem cutN_zero (T : List (List Int)) (tg k : Nat) : cutN T tg 0 k = 0 := by
  have := farN_low T tg k
  unfold cutN
  split <;> omega
theorem cutN_kept {T : List (List Int)} {tg m k : Nat} (h : 0 < cutN T tg m k) : cutN T tg (m + 1) k = cutN T tg m k := by
  unfold cutN at *
  split at h
  · rename_i h1
    rw [if_pos h1, if_pos (by omega)]
  · omega
theorem cutN_range (T : List (List Int)) (tg m k : Nat) : 0 ≤ cutN T tg m k ∧ cutN T tg m k ≤ (m : Int) := by
  have := farN_low T tg k
  unfold cutN
  split <;> omega
theorem cutN_end {T : List (List Int)} {tg k : Nat} (hk : k < T.length) : cutN T tg T.length k = farN T tg k := by
  unfold cutN
  rw [if_pos (farN_few hk)]
theorem cutN_round {X : List (List Int)} {n tg m i : Nat} (hX : Nodes n X) (hT : Nodes n (turnX X)) (htg : tg < n) (hi : i < n) (h : ¬ 0 < cutN (turnX X) tg m i) : cutN (turnX X) tg (m + 1) i = rndN X (turnX X) tg m i n := by
  have hlow := farN_low (turnX X) tg i
  have hon : ∀ k, k < n → (onX X i k = true ↔ (i : Int) ∈ (turnX X).getD k []) := fun k hk => by
    unfold onX
    rw [decide_eq_true_eq]
    exact (turnX_iff hX hk).symm
  unfold rndN
  by_cases hm : m = 0
  · subst hm
    rw [if_pos rfl]
    have h1 := (farN_one (T := turnX X) (tg := tg) (k := i) (by rw [hT.1]; exact htg)).trans (hon tg htg).symm
    unfold cutN
    by_cases ho : onX X i tg = true
    · rw [if_pos ho, if_pos (by have := h1.2 ho; omega)]
      exact h1.2 ho
    · rw [if_neg ho]
      have : farN (turnX X) tg i ≠ 1 := fun e => ho (h1.1 e)
      split <;> omega
  · rw [if_neg hm]
    have hnot : ¬ (farN (turnX X) tg i ≤ (m : Int) ∧ farN (turnX X) tg i ≠ 0) := fun ⟨h1, h2⟩ => h (by unfold cutN; rw [if_pos h1]; omega)
    by_cases ha : (List.range n).any (fun k => decide (cutN (turnX X) tg m k = (m : Int)) && onX X i k) = true
    · rw [if_pos ha]
      obtain ⟨k, hk, h2⟩ := List.any_eq_true.1 ha
      rw [Bool.and_eq_true, decide_eq_true_eq] at h2
      have hkn : k < n := List.mem_range.1 hk
      have hfk : farN (turnX X) tg k = (m : Int) := by
        have h3 := h2.1
        unfold cutN at h3
        split at h3 <;> omega
      have := farN_near (T := turnX X) (tg := tg) (k := i) (i := k) (m := m) (by omega) (by rw [hT.1]; exact hkn) ((hon k hkn).1 h2.2) hfk
      unfold cutN
      rw [if_pos (by omega)]
      omega
    · rw [if_neg ha]
      have hne : farN (turnX X) tg i ≠ (m : Int) + 1 := fun e => by
        obtain ⟨k, hk, h2, h3⟩ := farN_step (T := turnX X) (tg := tg) (k := i) (m := m) (by omega) e
        rw [hT.1] at hk
        refine ha (List.any_eq_true.2 ⟨k, List.mem_range.2 hk, ?_⟩)
        rw [Bool.and_eq_true, decide_eq_true_eq]
        exact ⟨by unfold cutN; rw [if_pos (by omega)]; exact h3, (hon k hk).2 h2⟩
      unfold cutN
      split <;> omega
noncomputable def farL (T : List (List Int)) (n tg : Nat) : List Int := (List.range n).map (farN T tg)
end Go.Proofs.Ytgphohkofmgdfaa
