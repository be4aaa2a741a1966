import Derived.Test.YtgphohkofmgdfaaCyG
namespace Go.Proofs.Ytgphohkofmgdfaa
open Go.RowKit
set_option linter.unusedVariables false
theorem orderOut_ex (X : List (List Int)) (n : Nat) : ∃ ok L, OrderOut X n ok L := by
  cases h : orderS X n n (fun _ => false) [] with
  | none => exact ⟨false, [], .inr ⟨rfl, rfl, h⟩⟩
  | some L => exact ⟨true, L, .inl ⟨rfl, h⟩⟩
theorem orderS_len {X : List (List Int)} {n : Nat} : ∀ (r : Nat) (d : Nat → Bool) (l L : List Int), orderS X n r d l = some L → L.length = l.length + r
  | 0, d, l, L, h => by
    rw [orderS] at h
    obtain rfl := Option.some.inj h
    rfl
  | r + 1, d, l, L, h => by
    rw [orderS] at h
    split at h
    · cases h
    · have := orderS_len r _ _ L h
      rw [List.length_append, List.length_singleton] at this
      omega
theorem OrderOut.len {X : List (List Int)} {n : Nat} {ok : Bool} {L : List Int} (h : OrderOut X n ok L) : L.length ≤ n := by
  rcases h with ⟨_, h⟩ | ⟨_, rfl, _⟩
  · have := orderS_len _ _ _ _ h
    simp at this
    omega
  · exact Nat.zero_le _
theorem ringR_len {X : List (List Int)} {n : Nat} (hT : Nodes n (turnX X)) : (ringR X (turnX X) n).length ≤ n := by
  unfold ringR
  rcases bestN_range (fun i => farN (turnX X) i i) n with ⟨h1, h2⟩ | ⟨b, h1, h2, h3, h4⟩
  · rw [h1]; exact Nat.zero_le _
  · rw [h1, h3, if_neg (by omega), List.length_cons, wayN_len]
    have h5 := farN_few (T := turnX X) (tg := b) (k := b) (by rw [hT.1]; exact h2)
    rw [hT.1] at h5
    have h6 : 0 < farN (turnX X) b b := h4
    show (farN (turnX X) b b - 1).toNat + 1 ≤ n
    omega
def sumL : List (List Int) → Nat
  | [] => 0
  | l :: G => l.length + sumL G
theorem sumL_snoc (l : List Int) : ∀ G, sumL (G ++ [l]) = sumL G + l.length
  | [] => by simp [sumL]
  | x :: G => by
    rw [List.cons_append, sumL, sumL_snoc l G, sumL]
    omega
theorem sumL_take : ∀ (G : List (List Int)) (k : Nat), sumL (G.take k) ≤ sumL G
  | [], k => by simp [sumL]
  | x :: G, 0 => by simp [sumL]
  | x :: G, k + 1 => by
    have := sumL_take G k
    rw [List.take_succ_cons, sumL, sumL]
    omega
theorem sumL_mem {l : List Int} : ∀ {G : List (List Int)}, l ∈ G → l.length ≤ sumL G
  | x :: G, h => by
    rw [sumL]
    rcases List.mem_cons.1 h with rfl | h
    · omega
    · have := sumL_mem h
      omega
def greatB (G : List (List Int)) : Bool := decide (300 < sumL G) || decide (25 < G.length)
theorem greatB_not {G : List (List Int)} (h : greatB G = false) : G.length ≤ 25 ∧ ∀ l ∈ G, l.length ≤ 300 := by
  unfold greatB at h
  rw [Bool.or_eq_false_iff, decide_eq_false_iff_not, decide_eq_false_iff_not] at h
  exact ⟨by omega, fun l hl => Nat.le_trans (sumL_mem hl) (by omega)⟩
set_option maxRecDepth 100000 in
set_option maxHeartbeats 2000000 in
theorem great2_any (va : Value) (G : List (List Int)) (hn : G.length ≤ 140737488351232) (hr : ∀ l ∈ G, l.length ≤ 140737488351232) (w : World) (hG : GraphR w va G) :
    Calls Try.prog 9 #[va] w fun e w' => e = .returned (.bool (greatB G)) ∧ w = w' := by
  obtain ⟨a, c, rfl, _, hc⟩ := hG
  obtain ⟨n, hnl⟩ : ∃ n, n = G.length := ⟨_, rfl⟩
  rw [← hnl] at hn ⊢
  have HC := Lib.hid hc
  have HR := Lib.hid hr
  have HNL := Lib.hid hnl
  clear hc hr hnl
  go_enter Try.func9, Try.ntmps9
  go_wp2_with fail
  go_loopw [3, 8] (fun sv kv wr => ∃ s k : Nat, k ≤ n ∧ s ≤ 300 ∧ sv = .int .i64 s ∧ kv = .int .i64 k ∧ sumL (G.take k) = s ∧ wr = w) (fun _ kv _ => n - (intOf kv).toNat)
  case atStart => exact ⟨0, 0, by omega, by omega, rfl, rfl, rfl, rfl⟩
  case round =>
    obtain ⟨s, k, hk, hs, rfl, rfl, hok, rfl⟩ := hrel
    by_cases hlt : k < n
    · have hAk : k < G.length := by rw [← HNL.out]; exact hlt
      rcases HC.out with h0 | ⟨b1, o1, rfl, hc1⟩
      · rw [← HNL.out] at h0; omega
      obtain ⟨u, hu, la, lc, rfl, hlc, _⟩ := hc1 k hAk
      have hlen := HR.out G[k] (List.getElem_mem hAk)
      have htk : sumL (G.take (k + 1)) = s + G[k].length := by rw [List.take_succ_eq_append_getElem hAk, sumL_snoc, hok]
      have hle := sumL_take G (k + 1)
      have hgb : 300 < sumL (G.take (k + 1)) → greatB G = true := fun h => by unfold greatB; rw [decide_eq_true (by omega : 300 < sumL G), Bool.true_or]
      rw [htk] at hgb
      obtain ⟨l, hl⟩ : ∃ l, l = G[k] := ⟨_, rfl⟩
      rw [← hl] at hu hlc hlen htk hgb
      obtain ⟨ln, hln⟩ : ∃ ln, ln = l.length := ⟨_, rfl⟩
      rw [← hln] at hu hlc hlen htk hgb
      have HOK := Lib.hid hok
      have HTK := Lib.hid htk
      have HGB := Lib.hid hgb
      clear hc1 hok htk hln hl hgb hle
      by_cases hgt : 300 < s + ln
      · have hgi : (300 : Int) < (s : Int) + (ln : Int) := by omega
        go_wp2_with fail
        go_ret
        exact ⟨by rw [HGB.out hgt]; rfl, rfl⟩
      · have hgi : ¬ (300 : Int) < (s : Int) + (ln : Int) := by omega
        go_wp2_with fail
        go_roundw
        case measure => simp [intOf]; omega
        case rel =>
          exact ⟨s + ln, k + 1, by omega, by omega, by go_num, by go_num, HTK.out, by first | rfl | trivial⟩
    · obtain rfl : k = n := by omega
      have htk : G.take k = G := List.take_of_length_le (by rw [← HNL.out]; omega)
      rw [htk] at hok
      have hgb : greatB G = decide (25 < k) := by
        unfold greatB
        rw [decide_eq_false (by omega : ¬ 300 < sumL G), Bool.false_or, HNL.out]
      have HGB := Lib.hid hgb
      clear hok htk hgb
      go_wp2_with fail
      go_ret
      exact ⟨by rw [HGB.out]; first | rfl | (simp; done) | (simp; omega), rfl⟩
set_option maxRecDepth 100000 in
set_option maxHeartbeats 4000000 in
theorem cycleOrders_any (va : Value) (G : List (List Int)) (hG1 : G.length ≤ 140737488351232) (hG2 : ∀ l ∈ G, l.length ≤ 140737488351232) (w : World) (hG : GraphR w va G) :
    Calls Try.prog 3 #[va] w fun e w' => e = .returned (.bool true) ∧ Below w.heap.size w w' := by
  have hal := fun W => alive_any W
  have hgr := fun W h => great2_any va G hG1 hG2 W h
  obtain ⟨b, hb⟩ : ∃ b, b = greatB G := ⟨_, rfl⟩
  rw [← hb] at hgr
  have HBG := Lib.hid (fun h : b = false => greatB_not (hb.symm.trans h))
  have hgo : (G.length ≤ 25 ∧ ∀ l ∈ G, l.length ≤ 300) → ∃ ok L R, L.length ≤ 1000 ∧ R.length ≤ 1000 ∧
      (∀ W, GraphR W va G → Calls Try.prog 10 #[va] W fun e w' => ∃ v, e = .returned (.tuple #[v, .bool ok]) ∧ NumsR w' v L ∧ Below W.heap.size W w') ∧
      (∀ W, GraphR W va G → Calls Try.prog 11 #[va] W fun e w' => ∃ v, e = .returned (.tuple #[v, .bool ok]) ∧ NumsR w' v L ∧ Below W.heap.size W w') ∧
      (∀ W, GraphR W va G → Calls Try.prog 13 #[va] W fun e w' => ∃ v, e = .returned v ∧ NumsR w' v R ∧ Below W.heap.size W w') ∧
      (∀ W, GraphR W va G → Calls Try.prog 14 #[va] W fun e w' => ∃ v, e = .returned v ∧ NumsR w' v R ∧ Below W.heap.size W w') := fun ⟨h1, h2⟩ => by
    have hn : G.length ≤ 1000 := by omega
    have hr : ∀ l ∈ G, l.length ≤ 100000 := fun l hl => Nat.le_trans (h2 l hl) (by omega)
    obtain ⟨ok, L, hout⟩ := orderOut_ex (ofX G) G.length
    have hnod := ofX_nodes hr
    have htn := turnX_nodes hn hnod (ofX_rising G)
    have hre := ringS_eq hnod (ofX_rising G) htn
    refine ⟨ok, L, ringR (ofX G) (turnX (ofX G)) G.length, Nat.le_trans hout.len hn, Nat.le_trans (ringR_len htn) hn, fun W h => order_any va G hn hr ok L hout W h, fun W h => rorder_any va G hn hr ok L hout W h, fun W h => ?_, fun W h => rring_any va G hn hr W h⟩
    have := ring_any va G hn hr W h
    rw [hre] at this
    exact this
  have HAL := Lib.hid hal
  have HGRE := Lib.hid hgr
  have HGO := Lib.hid hgo
  have HG := Lib.hid hG
  clear hal hgr hgo hG hG1 hG2 hb
  cases b with
  | true =>
    go_enter Try.func3, Try.ntmps3
    go_wp2_with (first
    | (go_at_call 8; refine (HAL.out _).mono ?_; rintro e w1 ⟨rfl, hb1⟩; have B1 := Lib.hid hb1; clear hb1)
    | (go_at_call 9; refine (HGRE.out _ (HG.out.below B1.out)).mono ?_; rintro e w2 ⟨rfl, rfl⟩))
    go_ret
    exact ⟨rfl, B1.out⟩
  | false =>
    obtain ⟨ok, L, R, hL, hR, ho, hro, hri, hrri⟩ := HGO.out (HBG.out rfl)
    have hs1 := fun va vb W h1 h2 => same_any va vb L L (by omega) (by omega) W h1 h2
    have hs2 := fun va vb W h1 h2 => same_any va vb R R (by omega) (by omega) W h1 h2
    rw [show decide (L = L) = true by simp] at hs1
    rw [show decide (R = R) = true by simp] at hs2
    have H1 := Lib.hid ho
    have H2 := Lib.hid hro
    have H3 := Lib.hid hri
    have H4 := Lib.hid hrri
    have S1 := Lib.hid hs1
    have S2 := Lib.hid hs2
    clear ho hro hri hrri hs1 hs2
    cases ok <;> (
      go_enter Try.func3, Try.ntmps3
      go_wp2_with (first
        | (go_at_call 8; refine (HAL.out _).mono ?_; rintro e w1 ⟨rfl, hb1⟩; have B1 := Lib.hid hb1; clear hb1)
        | (go_at_call 9; refine (HGRE.out _ (HG.out.below B1.out)).mono ?_; rintro e w2 ⟨rfl, rfl⟩)
        | (go_at_call 12; have N4g := N4.out; clear N4g; refine (S2.out _ _ _ N3.out N4.out).mono ?_; rintro e w8 ⟨rfl, hb8⟩; have B8 := Lib.hid (below_cat B7.out hb8); clear hb8)
        | (go_at_call 14; refine (H4.out _ (HG.out.below B6.out)).mono ?_; rintro e w7 ⟨v7, rfl, hn7, hb7⟩; have N4 := Lib.hid hn7; have N3 := Lib.hid (N3.out.below hb7); have B7 := Lib.hid (below_cat B6.out hb7); clear hb7 hn7)
        | (go_at_call 13; refine (H3.out _ (HG.out.below B5.out)).mono ?_; rintro e w6 ⟨v6, rfl, hn6, hb6⟩; have N3 := Lib.hid hn6; have B6 := Lib.hid (below_cat B5.out hb6); clear hb6 hn6)
        | (go_at_call 12; have N2g := N2.out; clear N2g; refine (S1.out _ _ _ N1.out N2.out).mono ?_; rintro e w5 ⟨rfl, hb5⟩; have B5 := Lib.hid (below_cat B4.out hb5); clear hb5)
        | (go_at_call 11; refine (H2.out _ (HG.out.below B3.out)).mono ?_; rintro e w4 ⟨v4, rfl, hn4, hb4⟩; have N2 := Lib.hid hn4; have N1 := Lib.hid (N1.out.below hb4); have B4 := Lib.hid (below_cat B3.out hb4); clear hb4 hn4)
        | (go_at_call 10; refine (H1.out _ (HG.out.below B1.out)).mono ?_; rintro e w3 ⟨v3, rfl, hn3, hb3⟩; have N1 := Lib.hid hn3; have B3 := Lib.hid (below_cat B1.out hb3); clear hb3 hn3))
      go_ret
      exact ⟨rfl, B8.out⟩)
end Go.Proofs.Ytgphohkofmgdfaa
