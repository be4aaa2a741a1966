import Derived.Test.YtgphohkofmgdfaaCy9
namespace Go.Proofs.Ytgphohkofmgdfaa
set_option linter.unusedVariables false
/-! Rows that rise. -/
theorem compact_mem2 {zs : List Int} {x : Int} (h : x ∈ zs) : x ∈ Lib.compact zs := by
  have hex : ∃ j : Nat, j < zs.length ∧ zs.toArray[j]! = x := by
    obtain ⟨j, hj, e⟩ := List.getElem_of_mem h
    exact ⟨j, hj, by rw [getElem!_pos zs.toArray j (by simpa using hj)]; simpa using e⟩
  have key : ∀ m j : Nat, j ≤ m → j < zs.length → zs.toArray[j]! = x → ∃ j, j < zs.length ∧ zs.toArray[j]! = x ∧ Lib.keeps zs.toArray j = true := by
    intro m
    induction m with
    | zero =>
      intro j hj hl e
      obtain rfl : j = 0 := by omega
      exact ⟨0, hl, e, by simp [Lib.keeps]⟩
    | succ m ih =>
      intro j hj hl e
      by_cases hk : Lib.keeps zs.toArray j = true
      · exact ⟨j, hl, e, hk⟩
      · have h0 : j ≠ 0 := fun e0 => hk (by subst e0; simp [Lib.keeps])
        have h1 : zs.toArray[j]! = zs.toArray[j - 1]! := Classical.byContradiction fun h1 => hk (decide_eq_true (.inr h1))
        exact ih (j - 1) (by omega) (by omega) (by rw [← h1]; exact e)
  obtain ⟨j0, hj0, e0⟩ := hex
  obtain ⟨j, hj, e, hk⟩ := key j0 j0 (Nat.le_refl _) hj0 e0
  simp only [Lib.compact, Lib.compactUpTo, List.mem_map, List.mem_filter, List.mem_range]
  exact ⟨j, ⟨hj, hk⟩, e⟩
theorem compact_lt {zs : List Int} (h : zs.Pairwise (· ≤ ·)) : (Lib.compact zs).Pairwise (· < ·) := by
  simp only [Lib.compact, Lib.compactUpTo, List.pairwise_map]
  have hle : ∀ i j, i ≤ j → j < zs.length → zs.toArray[i]! ≤ zs.toArray[j]! := fun i j hij hj => by
    rw [getElem!_pos zs.toArray i (by simp; omega), getElem!_pos zs.toArray j (by simpa using hj)]
    by_cases e : i = j
    · subst e; exact Int.le_refl _
    · have := List.pairwise_iff_getElem.1 h i j (by omega) hj (by omega)
      simpa using this
  refine ((List.pairwise_lt_range (n := zs.length)).filter (Lib.keeps zs.toArray)).imp_of_mem fun {i j} hi hj hij => ?_
  obtain ⟨hj1, hj2⟩ := List.mem_filter.1 hj
  have hjl : j < zs.length := List.mem_range.1 hj1
  have hne : zs.toArray[j]! ≠ zs.toArray[j - 1]! := by
    simp only [Lib.keeps] at hj2
    have h0 : j ≠ 0 := by omega
    simpa [h0] using hj2
  have h1 := hle i (j - 1) (by omega) (by omega)
  have h2 := hle (j - 1) j (by omega) hjl
  omega
theorem srt_le (l : List Int) : (srt l).Pairwise (· ≤ ·) := by
  have h := List.pairwise_mergeSort (le := fun x y : Int => decide (x ≤ y)) (fun a b c h1 h2 => by simp at *; omega) (fun a b => by simp; omega) l
  exact h.imp fun h => by simpa using h
theorem rowO_iff {n : Nat} {l : List Int} {x : Int} : x ∈ rowO n l ↔ x ∈ l ∧ 0 ≤ x ∧ x < (n : Int) := by
  refine ⟨rowO_mem, fun ⟨h1, h2, h3⟩ => compact_mem2 ?_⟩
  have : x ∈ rowF n l := by simp [rowF, h1, h2, h3]
  simpa [srt] using this
theorem rowO_lt (n : Nat) (l : List Int) : (rowO n l).Pairwise (· < ·) := compact_lt (srt_le _)
/-- All rows rise. -/
def Rising (X : List (List Int)) : Prop := ∀ l ∈ X, l.Pairwise (· < ·)
theorem ofX_rising (G : List (List Int)) : Rising (ofX G) := fun l hl => by
  obtain ⟨l0, _, rfl⟩ := List.mem_map.1 hl
  exact rowO_lt _ _
theorem getD_row {X : List (List Int)} {i : Nat} (h : X.getD i [] ≠ []) : i < X.length := Classical.byContradiction fun hn => h (by simp [List.getD, hn])
theorem getD_mem {X : List (List Int)} {i : Nat} (h : i < X.length) : X.getD i [] ∈ X := by
  have e : X.getD i [] = X[i] := by simp [List.getD, h]
  rw [e]; exact List.getElem_mem h
theorem hits_mem {l : List Int} {k i : Nat} {x : Int} : x ∈ hits l k i ↔ x = (i : Int) ∧ (k : Int) ∈ l := by
  simp only [hits, List.mem_map, List.mem_filter, decide_eq_true_eq]
  constructor
  · rintro ⟨a, ⟨h1, rfl⟩, rfl⟩; exact ⟨rfl, h1⟩
  · rintro ⟨rfl, h⟩; exact ⟨(k : Int), ⟨h, rfl⟩, rfl⟩
theorem turnUp_mem {X : List (List Int)} {k : Nat} {x : Int} : ∀ {m : Nat}, x ∈ turnUp X k m ↔ ∃ i : Nat, i < m ∧ x = (i : Int) ∧ (k : Int) ∈ X.getD i []
  | 0 => by simp [turnUp]
  | m + 1 => by
    rw [turnUp, List.mem_append, turnUp_mem, hits_mem]
    constructor
    · rintro (⟨i, h1, h2, h3⟩ | ⟨h1, h2⟩)
      · exact ⟨i, by omega, h2, h3⟩
      · exact ⟨m, by omega, h1, h2⟩
    · rintro ⟨i, h1, h2, h3⟩
      by_cases e : i = m
      · subst e; exact .inr ⟨h2, h3⟩
      · exact .inl ⟨i, by omega, h2, h3⟩
theorem hits_one {l : List Int} (hl : l.Pairwise (· < ·)) (k i : Nat) : (hits l k i).length ≤ 1 := by
  simp only [hits, List.length_map]
  induction l with
  | nil => simp
  | cons a l ih =>
    rw [List.pairwise_cons] at hl
    by_cases h : a = (k : Int)
    · have h0 : l.filter (fun x => decide (x = (k : Int))) = [] := List.filter_eq_nil_iff.2 fun x hx => by
        have := hl.1 x hx
        simp; omega
      rw [List.filter_cons]
      simp [h, h0]
    · rw [List.filter_cons]
      simpa [h] using ih hl.2
theorem turnUp_few {X : List (List Int)} (hX : Rising X) (k : Nat) : ∀ m, (turnUp X k m).length ≤ m
  | 0 => by simp [turnUp]
  | m + 1 => by
    have h1 := turnUp_few hX k m
    have h2 : (hits (X.getD m []) k m).length ≤ 1 := by
      by_cases h : m < X.length
      · exact hits_one (hX _ (getD_mem h)) k m
      · have e : X.getD m [] = [] := by simp [List.getD, h]
        rw [e]; simp [hits]
    simp only [turnUp, List.length_append]
    omega
theorem turnX_getD {X : List (List Int)} {i : Nat} (hi : i < X.length) : (turnX X).getD i [] = turnUp X i X.length := by
  simp [turnX, List.getD, hi]
theorem turnX_nodes {X : List (List Int)} {n : Nat} (hn : n ≤ 1000) (hX : Nodes n X) (hr : Rising X) : Nodes n (turnX X) := by
  refine ⟨by simp [turnX, hX.1], fun l hl => ?_⟩
  obtain ⟨k, hk, rfl⟩ := List.mem_map.1 hl
  refine ⟨Nat.le_trans (turnUp_few hr k _) (by rw [hX.1]; omega), fun x hx => ?_⟩
  obtain ⟨i, h1, rfl, _⟩ := turnUp_mem.1 hx
  rw [hX.1] at h1
  omega
theorem turnX_iff {X : List (List Int)} {n : Nat} (hX : Nodes n X) {i k : Nat} (hi : i < n) : (k : Int) ∈ (turnX X).getD i [] ↔ (i : Int) ∈ X.getD k [] := by
  rw [turnX_getD (by rw [hX.1]; exact hi), turnUp_mem]
  constructor
  · rintro ⟨m, _, e, h⟩
    obtain rfl : k = m := by omega
    exact h
  · intro h
    have hk : k < X.length := getD_row fun e => by rw [e] at h; cases h
    exact ⟨k, hk, rfl, h⟩
/-! How far it is. -/
open Classical in
noncomputable def distI (T : List (List Int)) (tg k : Nat) : Int := if h : ∃ j, Wk T tg j k ∧ ∀ j', j' < j → ¬ Wk T tg j' k then (Classical.choose h : Nat) else -1
theorem wk_least {T : List (List Int)} {tg k : Nat} : ∀ j, Wk T tg j k → ∃ j, Wk T tg j k ∧ ∀ j', j' < j → ¬ Wk T tg j' k := by
  intro j
  induction j using Nat.strongRecOn with
  | _ j ih =>
    intro h
    by_cases h2 : ∃ j', j' < j ∧ Wk T tg j' k
    · obtain ⟨j', h3, h4⟩ := h2
      exact ih j' h3 h4
    · exact ⟨j, h, fun j' h3 h4 => h2 ⟨j', h3, h4⟩⟩
theorem distI_some {T : List (List Int)} {tg k j : Nat} (h1 : Wk T tg j k) (h2 : ∀ j', j' < j → ¬ Wk T tg j' k) : distI T tg k = (j : Int) := by
  have h : ∃ j, Wk T tg j k ∧ ∀ j', j' < j → ¬ Wk T tg j' k := ⟨j, h1, h2⟩
  unfold distI
  rw [dif_pos h]
  obtain ⟨h3, h4⟩ := Classical.choose_spec h
  have : Classical.choose h = j := by
    rcases Nat.lt_trichotomy (Classical.choose h) j with h5 | h5 | h5
    · exact absurd h3 (h2 _ h5)
    · exact h5
    · exact absurd h1 (h4 _ h5)
  rw [this]
theorem distI_none {T : List (List Int)} {tg k : Nat} (h : ∀ j, ¬ Wk T tg j k) : distI T tg k = -1 := by
  unfold distI
  rw [dif_neg fun ⟨j, h1, _⟩ => h j h1]
theorem distI_cases (T : List (List Int)) (tg k : Nat) : (distI T tg k = -1 ∧ ∀ j, ¬ Wk T tg j k) ∨ ∃ j : Nat, distI T tg k = (j : Int) ∧ Wk T tg j k ∧ ∀ j', j' < j → ¬ Wk T tg j' k := by
  by_cases h : ∃ j, Wk T tg j k
  · obtain ⟨j, hj⟩ := h
    obtain ⟨j, h1, h2⟩ := wk_least j hj
    exact .inr ⟨j, distI_some h1 h2, h1, h2⟩
  · have h' : ∀ j, ¬ Wk T tg j k := fun j hj => h ⟨j, hj⟩
    exact .inl ⟨distI_none h', h'⟩
theorem farIs_eq {T : List (List Int)} {tg : Nat} {o : Nat → Int} (h : FarIs T tg o) {k : Nat} (hk : k < T.length) : o k = distI T tg k := by
  rcases h k hk with ⟨e, h1⟩ | ⟨j, e, h1, h2⟩
  · rw [e, distI_none h1]
  · rw [e, distI_some h1 h2]
theorem distI_zero (T : List (List Int)) (tg k : Nat) : distI T tg k = 0 ↔ k = tg := by
  constructor
  · intro h
    rcases distI_cases T tg k with ⟨e, _⟩ | ⟨j, e, h1, _⟩
    · omega
    · obtain rfl : j = 0 := by omega
      exact h1
  · rintro rfl
    exact distI_some (j := 0) rfl fun j' h => by omega
/-- One step nearer. -/
theorem distI_step {T : List (List Int)} {tg k j : Nat} (h : distI T tg k = (j : Int) + 1) : ∃ i, i < T.length ∧ (k : Int) ∈ T.getD i [] ∧ distI T tg i = (j : Int) := by
  rcases distI_cases T tg k with ⟨e, _⟩ | ⟨j', e, h1, h2⟩
  · omega
  · obtain rfl : j' = j + 1 := by omega
    obtain ⟨i, hi, hk, hw⟩ := h1
    refine ⟨i, hi, hk, distI_some hw fun j'' h3 h4 => h2 (j'' + 1) (by omega) ⟨i, hi, hk, h4⟩⟩
theorem distI_near {T : List (List Int)} {tg k i j : Nat} (hi : i < T.length) (hk : (k : Int) ∈ T.getD i []) (h : distI T tg i = (j : Int)) : 0 ≤ distI T tg k ∧ distI T tg k ≤ (j : Int) + 1 := by
  rcases distI_cases T tg i with ⟨e, _⟩ | ⟨j', e, h1, _⟩
  · omega
  · obtain rfl : j' = j := by omega
    rcases distI_cases T tg k with ⟨_, h3⟩ | ⟨m, e2, _, h4⟩
    · exact absurd ⟨i, hi, hk, h1⟩ (h3 (j' + 1))
    · rw [e2]
      refine ⟨by omega, ?_⟩
      by_cases hm : m ≤ j' + 1
      · omega
      · exact absurd ⟨i, hi, hk, h1⟩ (h4 (j' + 1) (by omega))
noncomputable def stepsS (T : List (List Int)) (n tg : Nat) : List Int := (List.range n).map (distI T tg)
theorem stepsS_at {T : List (List Int)} {n tg k : Nat} (hk : k < n) : (stepsS T n tg).getD k 0 = distI T tg k := by
  simp [stepsS, List.getD, hk]
theorem leads {X : List (List Int)} {n tg : Nat} (hX : Nodes n X) (hT : Nodes n (turnX X)) : Leads X (stepsS (turnX X) n tg) n tg (distI (turnX X) tg) := by
  refine ⟨fun a _ => distI_zero _ _ _, fun a ha j h => ?_⟩
  obtain ⟨b, hb, hk, hd⟩ := distI_step h
  rw [hT.1] at hb
  have hmem : (b : Int) ∈ X.getD a [] := (turnX_iff hX hb).1 hk
  have hp : nearB (stepsS (turnX X) n tg) a (b : Int) = true := by
    unfold nearB
    rw [Int.toNat_natCast, stepsS_at hb, stepsS_at ha, hd, h]
    simp
  have hany : (X.getD a []).any (nearB (stepsS (turnX X) n tg) a) = true := List.any_eq_true.2 ⟨_, hmem, hp⟩
  have hge : 0 ≤ idxB (nearB (stepsS (turnX X) n tg) a) (X.getD a []) := by
    have := idxB_any (nearB (stepsS (turnX X) n tg) a) (X.getD a [])
    rw [hany] at this
    simpa using this
  obtain ⟨i, hi, hidx, hpi⟩ : ∃ i, ∃ h : i < (X.getD a []).length, idxB (nearB (stepsS (turnX X) n tg) a) (X.getD a []) = (i : Int) ∧ nearB (stepsS (turnX X) n tg) a (X.getD a [])[i] = true := by
    revert hge
    generalize X.getD a [] = l
    generalize nearB (stepsS (turnX X) n tg) a = p
    induction l with
    | nil => intro h; simp [idxB] at h
    | cons x l ih =>
      intro h
      by_cases hpx : p x = true
      · exact ⟨0, by simp, by rw [idxB, if_pos hpx]; rfl, hpx⟩
      · rw [idxB, if_neg hpx] at h ⊢
        by_cases h2 : idxB p l < 0
        · rw [if_pos h2] at h; omega
        · obtain ⟨i, hi, e, h3⟩ := ih (by omega)
          exact ⟨i + 1, by simpa using hi, by rw [if_neg h2, e]; rfl, by simpa using h3⟩
  have hr := nodes_row hX a (X.getD a [])[i] (List.getElem_mem hi)
  obtain ⟨c, hc⟩ := Int.eq_ofNat_of_zero_le hr.1
  have hcn : c < n := by omega
  refine ⟨i, c, hi, hidx, hc, hcn, ?_⟩
  rw [hc] at hpi
  unfold nearB at hpi
  rw [Int.toNat_natCast] at hpi
  have h4 := of_decide_eq_true hpi
  rw [stepsS_at hcn, stepsS_at ha, h] at h4
  omega
end Go.Proofs.Ytgphohkofmgdfaa
