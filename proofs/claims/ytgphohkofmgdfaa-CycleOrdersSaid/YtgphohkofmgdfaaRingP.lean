import Derived.Test.YtgphohkofmgdfaaCyF
namespace Go.Proofs.Ytgphohkofmgdfaa
set_option linter.unusedVariables false
/-! The plain law of the ring, and of the way. -/
theorem idxB_spec {p : Int → Bool} : ∀ {l : List Int} {i : Nat}, idxB p l = (i : Int) → ∃ h : i < l.length, p l[i] = true ∧ ∀ j (hj : j < i), p (l[j]'(by omega)) = false
  | [], i, h => absurd h (by rw [idxB]; omega)
  | x :: l, i, h => by
    rw [idxB] at h
    by_cases hp : p x = true
    · rw [if_pos hp] at h
      obtain rfl : i = 0 := by omega
      exact ⟨by simp, hp, fun j hj => by omega⟩
    · rw [if_neg hp] at h
      by_cases h2 : idxB p l < 0
      · rw [if_pos h2] at h; omega
      · rw [if_neg h2] at h
        obtain ⟨m, rfl⟩ : ∃ m, i = m + 1 := ⟨i - 1, by omega⟩
        obtain ⟨h3, h4, h5⟩ := idxB_spec (p := p) (l := l) (i := m) (by omega)
        refine ⟨by simpa using h3, by simpa using h4, fun j hj => ?_⟩
        cases j with
        | zero => simpa using hp
        | succ j => simpa using h5 j (by omega)
theorem onX_iff {X : List (List Int)} {i k : Nat} : onX X i k = true ↔ (k : Int) ∈ X.getD i [] := by
  unfold onX
  rw [decide_eq_true_eq]
/-- The way, without its last node. -/
theorem wayS_drop {X : List (List Int)} {n tg : Nat} (hX : Nodes n X) (hr : Rising X) (hT : Nodes n (turnX X)) (htg : tg < n) : ∀ (j a : Nat), a < n → distI (turnX X) tg a = (j : Int) + 1 → (wayS X (stepsS (turnX X) n tg) (j + 1) a).dropLast = wayN X (turnX X) n tg j a
  | 0, a, _, _ => rfl
  | j + 1, a, ha, hd => by
    obtain ⟨i, b, hi, hidx, hrow, hbn, hdb⟩ := (leads (tg := tg) hX hT).step a ha (j + 1) hd
    have hnx : nextW X (stepsS (turnX X) n tg) a = (b : Int) := by
      unfold nextW
      rw [hidx, Int.toNat_natCast]
      simp only [List.getD_eq_getElem?_getD]
      simp only [List.getD_eq_getElem?_getD] at hi hrow
      rw [List.getElem?_eq_getElem hi, Option.getD_some]
      exact hrow
    have hmem : (b : Int) ∈ X.getD a [] := by rw [← hrow]; exact List.getElem_mem hi
    have hbt : b ≠ tg := fun e => by
      subst e
      have := (distI_zero (turnX X) b b).2 rfl
      omega
    have hpb : stepN X (turnX X) tg j a b = true := by
      unfold stepN
      rw [onX_iff.2 hmem, Bool.true_and, decide_eq_true_eq, farN_off hbt, if_neg (by omega), hdb]
      omega
    have hleast : nextN X (turnX X) n tg j a = (b : Int) := leastB_some hbn hpb fun k hk => Bool.eq_false_iff.2 fun h => by
      unfold stepN at h
      rw [Bool.and_eq_true, decide_eq_true_eq] at h
      have hkm := onX_iff.1 h.1
      have hkn : k < n := by omega
      by_cases hkt : k = tg
      · subst hkt
        have := distI_near (T := turnX X) (tg := k) (k := a) (i := k) (j := 0) (by rw [hT.1]; exact hkn) ((turnX_iff hX hkn).2 hkm) ((distI_zero _ _ _).2 rfl)
        omega
      · have hdk : distI (turnX X) tg k = (j : Int) + 1 := by
          have h2 := h.2
          rw [farN_off hkt] at h2
          split at h2 <;> omega
        obtain ⟨_, _, hno⟩ := idxB_spec hidx
        obtain ⟨m, hm, hmk⟩ := List.getElem_of_mem hkm
        have hsrt := hr _ (getD_mem (X := X) (i := a) (by rw [hX.1]; exact ha))
        have hmi : m < i := by
          rcases Nat.lt_trichotomy m i with h3 | h3 | h3
          · exact h3
          · subst h3; omega
          · have := List.pairwise_iff_getElem.1 hsrt i m hi hm h3
            omega
        have h4 := hno m hmi
        rw [hmk] at h4
        unfold nearB at h4
        rw [Int.toNat_natCast, stepsS_at hkn, stepsS_at ha, hdk, hd] at h4
        have h5 := of_decide_eq_false h4
        omega
    rw [wayN, hleast, wayS, hnx, Int.toNat_natCast, List.dropLast_cons_of_ne_nil (by rw [wayS]; simp), wayS_drop hX hr hT htg j b hbn (by omega)]
/-- A shortest ring by its first node. -/
noncomputable def ringN (X T : List (List Int)) (n i : Nat) : List Int := (i : Int) :: wayN X T n i (farN T i i - 1).toNat i
theorem far_ring_le {X : List (List Int)} {n i k : Nat} (hX : Nodes n X) (hk : k < n) (hi : i < n) (hm : (k : Int) ∈ X.getD i []) (hd : 0 ≤ distI (turnX X) i k) (hT : Nodes n (turnX X)) : 1 ≤ farN (turnX X) i i ∧ farN (turnX X) i i ≤ distI (turnX X) i k + 1 := by
  rcases distI_cases (turnX X) i k with ⟨e, _⟩ | ⟨j, e, h1, _⟩
  · omega
  · rw [e]
    exact farN_le (T := turnX X) ⟨k, by rw [hT.1]; exact hk, (turnX_iff hX hk).2 hm, h1⟩
theorem far_ring_ex {X : List (List Int)} {n i : Nat} (hX : Nodes n X) (hT : Nodes n (turnX X)) (hi : i < n) (h : 0 < farN (turnX X) i i) : ∃ k : Nat, k < n ∧ (k : Int) ∈ X.getD i [] ∧ distI (turnX X) i k = farN (turnX X) i i - 1 := by
  rcases farN_cases (turnX X) i i with ⟨e, _⟩ | ⟨j, e, h1, h2⟩
  · omega
  · obtain ⟨k, hk, hm, hw⟩ := h1
    rw [hT.1] at hk
    have hmk := (turnX_iff hX hk).1 hm
    have hd : distI (turnX X) i k = (j : Int) := distI_some hw fun j' h3 h4 => h2 j' h3 ⟨k, by rw [hT.1]; exact hk, hm, h4⟩
    exact ⟨k, hk, hmk, by omega⟩
theorem ringOf_len {X : List (List Int)} {n i k : Nat} (hd : 0 ≤ distI (turnX X) i k) : ((ringOf X (turnX X) n i k).length : Int) = distI (turnX X) i k + 1 := by
  unfold ringOf
  split
  · rename_i h
    rw [(distI_zero _ _ _).2 h]
    rfl
  · rw [List.length_dropLast, List.length_cons, List.length_cons, wayS_len]
    omega
/-- The first of the nearest: its ring is the node's. -/
theorem ringOf_eq {X : List (List Int)} {n i k : Nat} (hX : Nodes n X) (hr : Rising X) (hT : Nodes n (turnX X)) (hi : i < n) (hk : k < n) (hm : (k : Int) ∈ X.getD i []) (hF : farN (turnX X) i i = distI (turnX X) i k + 1) (hd : 0 ≤ distI (turnX X) i k) (hfirst : ∀ k' : Nat, (k' : Int) ∈ X.getD i [] → k' < k → 0 ≤ distI (turnX X) i k' → distI (turnX X) i k < distI (turnX X) i k') : ringOf X (turnX X) n i k = ringN X (turnX X) n i := by
  obtain ⟨j, hj⟩ := Int.eq_ofNat_of_zero_le hd
  unfold ringN ringOf
  rw [hF, hj, show ((j : Int) + 1 - 1).toNat = j by omega]
  cases j with
  | zero =>
    rw [if_pos ((distI_zero _ _ _).1 (by omega))]
    rfl
  | succ j =>
    have hki : k ≠ i := fun e => by
      have := (distI_zero (turnX X) i k).2 e
      omega
    rw [if_neg hki, List.dropLast_cons_of_ne_nil (by simp), List.dropLast_cons_of_ne_nil (by rw [Int.toNat_natCast, wayS]; simp), Int.toNat_natCast, wayS_drop hX hr hT hi j k hk (by omega)]
    have hleast : nextN X (turnX X) n i j i = (k : Int) := leastB_some hk (by
      unfold stepN
      rw [onX_iff.2 hm, Bool.true_and, decide_eq_true_eq, farN_off hki, if_neg (by omega)]
      omega) fun k' hk' => Bool.eq_false_iff.2 fun h => by
      unfold stepN at h
      rw [Bool.and_eq_true, decide_eq_true_eq] at h
      have hki' : k' ≠ i := fun e => by
        rw [e] at h
        omega
      have h2 := h.2
      rw [farN_off hki'] at h2
      have hdk : distI (turnX X) i k' = (j : Int) + 1 := by split at h2 <;> omega
      have := hfirst k' (onX_iff.1 h.1) hk' (by omega)
      omega
    rw [wayN, hleast, Int.toNat_natCast]
/-! One row. -/
def RowInv (D : Int → Int) (O : Int → List Int) (best l R : List Int) : Prop :=
  (R = best ∧ ∀ k ∈ l, 0 ≤ D k → 0 < best.length ∧ (best.length : Int) ≤ D k + 1) ∨
  ∃ k, k ∈ l ∧ 0 ≤ D k ∧ R = O k ∧ (best.length = 0 ∨ D k + 1 < (best.length : Int)) ∧ (∀ k' ∈ l, 0 ≤ D k' → D k ≤ D k') ∧ ∀ k' ∈ l, k' < k → 0 ≤ D k' → D k < D k'
theorem rowInv_snoc {D : Int → Int} {O : Int → List Int} {best l R : List Int} (h : RowInv D O best l R) {k : Int} (hO : ∀ k, 0 ≤ D k → ((O k).length : Int) = D k + 1) (hl : ∀ x ∈ l, x < k) :
    RowInv D O best (l ++ [k]) (if D k < 0 ∨ (0 < R.length ∧ (R.length : Int) ≤ D k + 1) then R else O k) := by
  have hmem : ∀ {p : Int → Prop}, (∀ x ∈ l, p x) → p k → ∀ x ∈ l ++ [k], p x := fun h1 h2 x hx => by
    rcases List.mem_append.1 hx with hx | hx
    · exact h1 x hx
    · rw [List.mem_singleton.1 hx]; exact h2
  rcases h with ⟨rfl, h1⟩ | ⟨k0, hk0, hd0, rfl, hb0, hle, hlt⟩
  · by_cases hc : D k < 0 ∨ (0 < R.length ∧ (R.length : Int) ≤ D k + 1)
    · rw [if_pos hc]
      exact .inl ⟨rfl, hmem h1 fun h2 => by rcases hc with hc | hc; omega; exact hc⟩
    · rw [if_neg hc]
      refine .inr ⟨k, by simp, by omega, rfl, by omega, hmem (fun x hx hdx => ?_) (fun _ => by omega), hmem (fun x hx _ hdx => ?_) (fun _ => by omega)⟩
      · have := h1 x hx hdx; omega
      · have := h1 x hx hdx; omega
  · have hlen := hO k0 hd0
    by_cases hc : D k < 0 ∨ (0 < (O k0).length ∧ ((O k0).length : Int) ≤ D k + 1)
    · rw [if_pos hc]
      refine .inr ⟨k0, by simp [hk0], hd0, rfl, hb0, hmem hle (fun h => by omega), hmem hlt (fun h => ?_)⟩
      have := hl k0 hk0
      omega
    · rw [if_neg hc]
      refine .inr ⟨k, by simp, by omega, rfl, by omega, hmem (fun x hx hdx => ?_) (fun _ => by omega), hmem (fun x hx _ hdx => ?_) (fun _ => by omega)⟩
      · have := hle x hx hdx; omega
      · have := hle x hx hdx; omega
theorem rowInv_fold {D : Int → Int} {O : Int → List Int} {best : List Int} (hO : ∀ k, 0 ≤ D k → ((O k).length : Int) = D k + 1) : ∀ (l2 l1 : List Int) (R : List Int), RowInv D O best l1 R → (l1 ++ l2).Pairwise (· < ·) →
    RowInv D O best (l1 ++ l2) (l2.foldl (fun R k => if D k < 0 ∨ (0 < R.length ∧ (R.length : Int) ≤ D k + 1) then R else O k) R)
  | [], l1, R, h, _ => by simpa using h
  | k :: l2, l1, R, h, hp => by
    have hp2 : ((l1 ++ [k]) ++ l2).Pairwise (· < ·) := by simpa using hp
    have hl : ∀ x ∈ l1, x < k := fun x hx => (List.pairwise_append.1 hp).2.2 x hx k (by simp)
    have := rowInv_fold hO l2 (l1 ++ [k]) _ (rowInv_snoc h hO hl) hp2
    simpa using this
theorem ringRow_eq {X : List (List Int)} {n i : Nat} (hX : Nodes n X) (hr : Rising X) (hT : Nodes n (turnX X)) (hi : i < n) (best : List Int) :
    ringRow X (turnX X) n best i = if 0 < farN (turnX X) i i ∧ (best.length = 0 ∨ farN (turnX X) i i < (best.length : Int)) then ringN X (turnX X) n i else best := by
  have hsrt := hr _ (getD_mem (X := X) (i := i) (by rw [hX.1]; exact hi))
  have hinv := rowInv_fold (D := fun k => distI (turnX X) i k.toNat) (O := fun k => ringOf X (turnX X) n i k.toNat) (best := best) (fun k hk => ringOf_len hk) (X.getD i []) [] best (.inl ⟨rfl, by simp⟩) (by simpa using hsrt)
  rw [List.nil_append] at hinv
  have hfold : (X.getD i []).foldl (fun R k => if distI (turnX X) i k.toNat < 0 ∨ (0 < R.length ∧ (R.length : Int) ≤ distI (turnX X) i k.toNat + 1) then R else ringOf X (turnX X) n i k.toNat) best = ringRow X (turnX X) n best i := rfl
  rw [hfold] at hinv
  rcases hinv with ⟨h1, h2⟩ | ⟨k, hk, hd, h1, hb, hle, hlt⟩
  · rw [if_neg, h1]
    rintro ⟨h3, h4⟩
    obtain ⟨k, hkn, hm, hd⟩ := far_ring_ex hX hT hi h3
    have h2' : ∀ k ∈ X.getD i [], 0 ≤ distI (turnX X) i k.toNat → 0 < best.length ∧ (best.length : Int) ≤ distI (turnX X) i k.toNat + 1 := h2
    have := h2' _ hm (by rw [Int.toNat_natCast]; omega)
    rw [Int.toNat_natCast] at this
    omega
  · have hrg := nodes_row hX i k hk
    obtain ⟨q, rfl⟩ := Int.eq_ofNat_of_zero_le hrg.1
    have hqn : q < n := by omega
    simp only [Int.toNat_natCast] at hd h1 hb hle hlt
    have hF := far_ring_le hX hqn hi hk hd hT
    have hF2 : farN (turnX X) i i = distI (turnX X) i q + 1 := by
      obtain ⟨k2, hkn2, hm2, hd2⟩ := far_ring_ex hX hT hi (by omega)
      have := hle _ hm2 (by rw [Int.toNat_natCast]; omega)
      rw [Int.toNat_natCast] at this
      omega
    rw [if_pos ⟨by omega, by omega⟩, h1]
    refine ringOf_eq hX hr hT hi hqn hk hF2 hd fun k' hk' hlt' hd' => ?_
    have := hlt _ hk' (by omega) (by rw [Int.toNat_natCast]; exact hd')
    rw [Int.toNat_natCast] at this
    exact this
theorem ringS_up {X : List (List Int)} {n : Nat} (hX : Nodes n X) (hr : Rising X) (hT : Nodes n (turnX X)) : ∀ i, i ≤ n →
    (List.range i).foldl (ringRow X (turnX X) n) [] = if (bestN (fun i => farN (turnX X) i i) i).1 < 0 then [] else ringN X (turnX X) n (bestN (fun i => farN (turnX X) i i) i).1.toNat
  | 0, _ => rfl
  | i + 1, hi => by
    have ih := ringS_up hX hr hT i (by omega)
    rw [List.range_succ, List.foldl_append, ih]
    show ringRow X (turnX X) n _ i = _
    rw [ringRow_eq hX hr hT (by omega), bestN]
    have hrg := bestN_range (fun i => farN (turnX X) i i) i
    obtain ⟨B, hB⟩ : ∃ B, B = bestN (fun i => farN (turnX X) i i) i := ⟨_, rfl⟩
    rw [← hB] at hrg ⊢
    rcases hrg with ⟨h1, h2⟩ | ⟨b, h1, h2, h3, h4⟩
    · have e1 : (if B.1 < 0 then [] else ringN X (turnX X) n B.1.toNat) = [] := if_pos (by omega)
      rw [e1]
      by_cases hc : 0 < farN (turnX X) i i
      · have e2 : (if 0 < farN (turnX X) i i ∧ (B.1 < 0 ∨ farN (turnX X) i i < B.2) then ((i : Int), farN (turnX X) i i) else B) = ((i : Int), farN (turnX X) i i) := if_pos ⟨hc, .inl (by omega)⟩
        rw [e2, if_pos ⟨hc, .inl rfl⟩, if_neg (by show ¬ (i : Int) < 0; omega)]
        rfl
      · have e2 : (if 0 < farN (turnX X) i i ∧ (B.1 < 0 ∨ farN (turnX X) i i < B.2) then ((i : Int), farN (turnX X) i i) else B) = B := if_neg fun h => hc h.1
        rw [e2, if_neg (fun h => hc h.1), e1]
    · have hln : ((ringN X (turnX X) n b).length : Int) = farN (turnX X) b b := by
        unfold ringN
        rw [List.length_cons, wayN_len]
        have h5 : 0 < farN (turnX X) b b := h4
        omega
      have h3' : B.2 = farN (turnX X) b b := h3
      have h5 : 0 < farN (turnX X) b b := h4
      have e1 : (if B.1 < 0 then [] else ringN X (turnX X) n B.1.toNat) = ringN X (turnX X) n b := by rw [if_neg (by omega), h1, Int.toNat_natCast]
      rw [e1]
      by_cases hc : 0 < farN (turnX X) i i ∧ farN (turnX X) i i < farN (turnX X) b b
      · have e2 : (if 0 < farN (turnX X) i i ∧ (B.1 < 0 ∨ farN (turnX X) i i < B.2) then ((i : Int), farN (turnX X) i i) else B) = ((i : Int), farN (turnX X) i i) := if_pos ⟨hc.1, .inr (by omega)⟩
        rw [e2, if_pos ⟨hc.1, .inr (by omega)⟩, if_neg (by show ¬ (i : Int) < 0; omega)]
        rfl
      · have e2 : (if 0 < farN (turnX X) i i ∧ (B.1 < 0 ∨ farN (turnX X) i i < B.2) then ((i : Int), farN (turnX X) i i) else B) = B := if_neg fun h => hc ⟨h.1, by omega⟩
        rw [e2, if_neg (fun h => hc ⟨h.1, by omega⟩), e1]
/-- The ring is the reference's. -/
theorem ringS_eq {X : List (List Int)} {n : Nat} (hX : Nodes n X) (hr : Rising X) (hT : Nodes n (turnX X)) : ringS X (turnX X) n = ringR X (turnX X) n := by
  unfold ringS
  rw [ringS_up hX hr hT n (Nat.le_refl _)]
  unfold ringR ringN
  rcases bestN_range (fun i => farN (turnX X) i i) n with ⟨h1, h2⟩ | ⟨b, h1, h2, h3, h4⟩
  · rw [h1]
    rfl
  · rw [h1, h3, Int.toNat_natCast]
end Go.Proofs.Ytgphohkofmgdfaa
