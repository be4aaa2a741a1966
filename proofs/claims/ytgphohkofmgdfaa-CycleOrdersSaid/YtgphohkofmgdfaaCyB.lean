import Derived.Test.YtgphohkofmgdfaaCyA
namespace Go.Proofs.Ytgphohkofmgdfaa
open Go.RowKit
set_option linter.unusedVariables false
/-! The reference: ready, Order; the law's great. -/
def allDone (X : List (List Int)) (d : Nat → Bool) (i : Nat) : Bool := !((X.getD i []).any fun x => !d x.toNat)
set_option maxRecDepth 100000 in
set_option maxHeartbeats 2000000 in
theorem rready_any (va : Value) (G : List (List Int)) (hn : G.length ≤ 1000) (hr : ∀ l ∈ G, l.length ≤ 100000) (n : Nat) (hnl : n = G.length) (D : Nat) (d : Nat → Bool) (i : Nat) (hi : i < n) (w : World) (hG : GraphR w va G) (hd : MarksAt w D n d) :
    Calls Try.prog 26 #[va, .int .i64 i, .slice (some ⟨D, 0, none⟩) n n] w fun e w' => e = .returned (.bool (allDone (ofX G) d i)) ∧ w = w' := by
  have hon := fun k (hk : k < n) => on_any va G hn hr i k (by omega) (by rw [← hnl]; exact hk) w hG
  have hnod := ofX_nodes hr
  obtain ⟨X, hX⟩ : ∃ X, X = ofX G := ⟨_, rfl⟩
  rw [← hX] at hon hnod ⊢
  obtain ⟨a, c, rfl, _, _⟩ := hG
  rw [← hnl] at hon hn hnod ⊢
  have hyes : (∀ k, k < n → onX X i k = true → d k = true) → allDone X d i = true := fun h => by
    unfold allDone
    rw [Bool.not_eq_true', List.any_eq_false]
    intro x hx
    obtain ⟨x0, x1⟩ := nodes_row hnod i x hx
    obtain ⟨k, hk⟩ := Int.eq_ofNat_of_zero_le x0
    rw [hk, Int.toNat_natCast, h k (by omega) (by unfold onX; rw [hk] at hx; exact decide_eq_true hx)]
    simp
  have hnot : ∀ k, onX X i k = true → d k = false → allDone X d i = false := fun k h1 h2 => by
    unfold allDone
    rw [Bool.not_eq_false', List.any_eq_true]
    exact ⟨_, of_decide_eq_true h1, by rw [Int.toNat_natCast, h2]; rfl⟩
  have HON := Lib.hid hon
  have HYES := Lib.hid hyes
  have HNOT := Lib.hid hnot
  have HD := Lib.hid hd
  clear hon hyes hnot hd hr hnl hX hnod
  go_enter Try.func26, Try.ntmps26
  go_wp2_with fail
  go_loopw [10] (fun kv wr => ∃ k : Nat, k ≤ n ∧ kv = .int .i64 k ∧ (∀ j, j < k → onX X i j = true → d j = true) ∧ wr = w) (fun kv _ => n - (intOf kv).toNat)
  case atStart => exact ⟨0, by omega, rfl, fun j hj => by omega, rfl⟩
  case round =>
    obtain ⟨k, hk, rfl, hno, rfl⟩ := hrel
    by_cases hlt : k < n
    · have ho := HON.out k hlt
      obtain ⟨d1, _⟩ := HD.out k hlt
      have HNO := Lib.hid hno
      clear hno
      cases hb : onX X i k with
      | false =>
        rw [hb] at ho
        have HO := Lib.hid ho
        have HB := Lib.hid hb
        clear ho hb
        go_wp2_with (go_at_call 15; refine (HO.out).mono ?_; rintro e w1 ⟨rfl, rfl⟩)
        go_roundw
        case measure => simp [intOf]; omega
        case rel =>
          refine ⟨k + 1, by omega, by go_num, fun j hj hjo => ?_, by first | rfl | trivial⟩
          by_cases e : j = k
          · subst e; rw [HB.out] at hjo; cases hjo
          · exact HNO.out j (by omega) hjo
      | true =>
        rw [hb] at ho
        have HO := Lib.hid ho
        have HB := Lib.hid hb
        clear ho hb
        cases hdk : d k with
        | true =>
          rw [hdk] at d1
          have HDK := Lib.hid hdk
          clear hdk
          go_wp2_with (go_at_call 15; refine (HO.out).mono ?_; rintro e w1 ⟨rfl, rfl⟩)
          go_roundw
          case measure => simp [intOf]; omega
          case rel =>
            refine ⟨k + 1, by omega, by go_num, fun j hj hjo => ?_, by first | rfl | trivial⟩
            by_cases e : j = k
            · subst e; exact HDK.out
            · exact HNO.out j (by omega) hjo
        | false =>
          rw [hdk] at d1
          have HRES := Lib.hid (HNOT.out k HB.out hdk)
          clear hdk
          go_wp2_with (go_at_call 15; refine (HO.out).mono ?_; rintro e w1 ⟨rfl, rfl⟩)
          go_ret
          exact ⟨by rw [HRES.out]; rfl, rfl⟩
    · obtain rfl : k = n := by omega
      have HRES := Lib.hid (HYES.out hno)
      clear hno
      go_wp2_with fail
      go_ret
      exact ⟨by rw [HRES.out]; rfl, rfl⟩
/-- The least from m on that p holds of, downward. -/
def LeastAt (p : Nat → Bool) (n m : Nat) (v : Int) : Prop :=
  (v = -1 ∧ ∀ j, m ≤ j → j < n → p j = false) ∨ ∃ j : Nat, v = (j : Int) ∧ m ≤ j ∧ j < n ∧ p j = true ∧ ∀ j', m ≤ j' → j' < j → p j' = false
theorem leastAt_start (p : Nat → Bool) (n : Nat) : LeastAt p n n (-1) := .inl ⟨rfl, fun j h1 h2 => by omega⟩
theorem LeastAt.yes {p : Nat → Bool} {n m : Nat} (hm : m < n) (h : p m = true) : LeastAt p n m (m : Int) := .inr ⟨m, rfl, Nat.le_refl _, hm, h, fun j h1 h2 => by omega⟩
theorem LeastAt.no {p : Nat → Bool} {n m : Nat} {v : Int} (h : LeastAt p n (m + 1) v) (hp : p m = false) : LeastAt p n m v := by
  have key : ∀ j, m ≤ j → (m + 1 ≤ j → p j = false) → p j = false := fun j h1 h2 => by
    by_cases e : j = m
    · subst e; exact hp
    · exact h2 (by omega)
  rcases h with ⟨h1, h2⟩ | ⟨j, h1, h2, h3, h4, h5⟩
  · exact .inl ⟨h1, fun j h3 h4 => key j h3 fun h5 => h2 j h5 h4⟩
  · exact .inr ⟨j, h1, by omega, h3, h4, fun j' h6 h7 => key j' h6 fun h8 => h5 j' h8 h7⟩
theorem leastB_none {p : Nat → Bool} : ∀ {n : Nat}, (∀ j, j < n → p j = false) → leastB p n = -1
  | 0, _ => rfl
  | n + 1, h => by
    rw [leastB, leastB_none fun j hj => h j (by omega), h n (by omega)]
    rfl
theorem leastB_some {p : Nat → Bool} : ∀ {n j : Nat}, j < n → p j = true → (∀ j', j' < j → p j' = false) → leastB p n = (j : Int)
  | n + 1, j, hj, h1, h2 => by
    by_cases e : j = n
    · subst e
      rw [leastB, leastB_none h2, h1]
      rfl
    · have ih := leastB_some (n := n) (j := j) (by omega) h1 h2
      rw [leastB, ih, if_neg (by omega)]
theorem LeastAt.end {p : Nat → Bool} {n : Nat} {v : Int} (h : LeastAt p n 0 v) : leastB p n = v := by
  rcases h with ⟨h1, h2⟩ | ⟨j, h1, _, h3, h4, h5⟩
  · rw [h1]; exact leastB_none fun j hj => h2 j (by omega) hj
  · rw [h1]; exact leastB_some h3 h4 fun j' h => h5 j' (by omega) h
theorem LeastAt.range {p : Nat → Bool} {n m : Nat} {v : Int} (h : LeastAt p n m v) : -1 ≤ v ∧ v < (n : Int) ∧ v < 9000000000000000000 ∨ 1000000 < n := by
  by_cases hn : 1000000 < n
  · exact .inr hn
  · left
    rcases h with ⟨h1, h2⟩ | ⟨j, h1, _, h3, _⟩ <;> omega
/-- Great. -/
theorem great_any (va : Value) (G : List (List Int)) (hn : G.length ≤ 140737488351232) (hr : ∀ l ∈ G, l.length ≤ 140737488351232) (w : World) (hG : GraphR w va G) :
    Calls Try.prog 9 #[va] w fun e w' => (∃ b, e = .returned (.bool b) ∧ (b = false → G.length ≤ 25 ∧ ∀ l ∈ G, l.length ≤ 300)) ∧ w = w' := by
  obtain ⟨a, c, rfl, _, hc⟩ := hG
  obtain ⟨n, hnl⟩ : ∃ n, n = G.length := ⟨_, rfl⟩
  rw [← hnl] at hn ⊢
  have HC := Lib.hid hc
  have HR := Lib.hid hr
  have HNL := Lib.hid hnl
  clear hc hr hnl
  go_enter Try.func9, Try.ntmps9
  go_wp2_with fail
  go_loopw [3, 8] (fun sv kv wr => ∃ s k : Nat, k ≤ n ∧ s ≤ 300 ∧ sv = .int .i64 s ∧ kv = .int .i64 k ∧ (∀ l ∈ G.take k, l.length ≤ 300) ∧ wr = w) (fun _ kv _ => n - (intOf kv).toNat)
  case atStart => exact ⟨0, 0, by omega, by omega, rfl, rfl, by simp, rfl⟩
  case round =>
    obtain ⟨s, k, hk, hs, rfl, rfl, hok, rfl⟩ := hrel
    by_cases hlt : k < n
    · have hAk : k < G.length := by rw [← HNL.out]; exact hlt
      rcases HC.out with h0 | ⟨b1, o1, rfl, hc1⟩
      · rw [← HNL.out] at h0; omega
      obtain ⟨u, hu, la, lc, rfl, hlc, _⟩ := hc1 k hAk
      have hlen := HR.out G[k] (List.getElem_mem hAk)
      have htk := List.take_succ_eq_append_getElem hAk
      obtain ⟨l, hl⟩ : ∃ l, l = G[k] := ⟨_, rfl⟩
      rw [← hl] at hu hlc hlen htk
      obtain ⟨ln, hln⟩ : ∃ ln, ln = l.length := ⟨_, rfl⟩
      rw [← hln] at hu hlc hlen
      have HOK := Lib.hid hok
      have HTK := Lib.hid htk
      have HLN := Lib.hid hln
      clear hc1 hok htk hln hl
      by_cases hgt : 300 < s + ln
      · have hgi : (300 : Int) < (s : Int) + (ln : Int) := by omega
        go_wp2_with fail
        go_ret
        exact ⟨⟨true, rfl, fun h => by cases h⟩, rfl⟩
      · have hgi : ¬ (300 : Int) < (s : Int) + (ln : Int) := by omega
        go_wp2_with fail
        go_roundw
        case measure => simp [intOf]; omega
        case rel =>
          refine ⟨s + ln, k + 1, by omega, by omega, by go_num, by go_num, fun y hy => ?_, by first | rfl | trivial⟩
          rw [HTK.out] at hy
          rcases List.mem_append.1 hy with hy | hy
          · exact HOK.out y hy
          · rw [List.mem_singleton.1 hy, ← HLN.out]; omega
    · obtain rfl : k = n := by omega
      have htk : G.take k = G := List.take_of_length_le (by rw [← HNL.out]; omega)
      rw [htk] at hok
      have HOK := Lib.hid hok
      clear hok htk
      go_wp2_with fail
      go_ret
      exact ⟨⟨_, rfl, fun h => ⟨by simp at h; omega, HOK.out⟩⟩, rfl⟩
end Go.Proofs.Ytgphohkofmgdfaa
