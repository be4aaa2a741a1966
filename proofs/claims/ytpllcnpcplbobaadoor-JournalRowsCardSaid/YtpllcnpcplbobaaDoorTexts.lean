import Derived.Test.YtpllcnpcplbobaaDoorJour5
import Derived.BigQuiet
import Derived.Deep.QuietTactic
import Derived.Deep.LoopGhost
namespace Go.Proofs.YtpllcnpcplbobaaDoor
open Go.RowKit
/-- A slice of texts, as it can be read. -/
def TextsAt (w : World) (v : Value) (l : List ByteArray) : Prop :=
  ∃ (a : Option Addr) (c : Nat), v = .slice a l.length c ∧ (l.length = 0 ∨ ∃ b o, a = some ⟨b, o, none⟩ ∧ ∀ i (h : i < l.length), w.cell? ⟨b, o + i, none⟩ = some (.string l[i]))
theorem TextsAt.cells {w w' : World} {v : Value} {l : List ByteArray} (h : TextsAt w v l) (hk : ∀ p u, w.cell? p = some u → w'.cell? p = some u) : TextsAt w' v l := by
  obtain ⟨a, c, hv, h0 | ⟨b, o, ha, hc⟩⟩ := h
  · exact ⟨a, c, hv, .inl h0⟩
  · exact ⟨a, c, hv, .inr ⟨b, o, ha, fun i hi => hk _ _ (hc i hi)⟩⟩
theorem TextsAt.below {w w' : World} {v : Value} {l : List ByteArray} (h : TextsAt w v l) (hb : Below w.heap.size w w') : TextsAt w' v l :=
  h.cells fun _ _ hp => (hb.cell (World.block_lt_of_cell? w _ hp)).trans hp
theorem textsAt_owned {w : World} {base : Nat} {v : Value} {l : List ByteArray} (h : w.ownsRow base 9 1 v l.length (strs l)) : TextsAt w v l := by
  by_cases h0 : l.length = 0
  · rcases h.2 with ⟨rfl, _⟩ | ⟨g, cap, cur, rfl, _⟩
    · exact ⟨none, 0, by rw [h0], .inl h0⟩
    · exact ⟨_, cap, rfl, .inl h0⟩
  · obtain ⟨g, cap, rfl, _, _⟩ := World.ownsRow.form h (by omega)
    refine ⟨_, cap, rfl, .inr ⟨g, 0, rfl, fun i hi => ?_⟩⟩
    rw [Nat.zero_add, h.cellAt i (by omega)]
    simp [strs, hi]
theorem textsAt_nil (w : World) : TextsAt w (.slice none 0 0) [] := ⟨none, 0, rfl, .inl rfl⟩
set_option maxRecDepth 100000 in
set_option maxHeartbeats 1000000 in
theorem same08_any (va vb : Value) (A B : List ByteArray) (hAm : A.length ≤ 1099511627776) (w : World) (hA : TextsAt w va A) (hB : TextsAt w vb B) :
    Calls Tryd.prog 12 #[va, vb] w fun e w' => e = .returned (.bool (decide (A = B))) ∧ ∃ m, w' = w.drewN m := by
  obtain ⟨a, ca, rfl, ha⟩ := hA
  obtain ⟨b, cb, rfl, hb⟩ := hB
  by_cases hl : A.length = B.length
  · have HAB := Lib.hid (show (A = B ↔ ∀ k, k < A.length → A[k]? = B[k]?) from ⟨fun h => by subst h; simp, fun h => List.ext_getElem? fun i => by
      by_cases hi : i < A.length
      · exact h i hi
      · rw [List.getElem?_eq_none (by omega), List.getElem?_eq_none (by omega)]⟩)
    have HA := Lib.hid ha
    have HB := Lib.hid hb
    have HL := Lib.hid hl
    rw [← hl]
    obtain ⟨n, hn⟩ : ∃ n, n = A.length := ⟨_, rfl⟩
    rw [← hn] at hAm ⊢
    have HN := Lib.hid hn
    clear ha hb hl hn
    go_enter Tryd.func12, Tryd.ntmps12
    go_wp2_with fail
    go_loopw [13] (fun i wr => ∃ k : Nat, k ≤ n ∧ i = .int .i64 k ∧ (∀ j, j < k → A[j]? = B[j]?) ∧ ∃ m, wr = w.drewN m) (fun i _ => n - (intOf i).toNat)
    case atStart => exact ⟨0, by omega, rfl, fun j hj => by omega, 0, rfl⟩
    case round =>
      obtain ⟨k, hk, rfl, hsame, m, hm⟩ := hrel
      have HM := Lib.hid hm
      by_cases hlt : k < n
      · have hAk : k < A.length := by rw [← HN.out]; exact hlt
        have hBk : k < B.length := by rw [← HL.out]; exact hAk
        rcases HA.out with h0 | ⟨b1, o1, rfl, hc1⟩
        · omega
        rcases HB.out with h0 | ⟨b2, o2, rfl, hc2⟩
        · omega
        have d1 : wr.cell? ⟨b1, o1 + k, none⟩ = some (.string A[k]) := by rw [hm]; exact hc1 k hAk
        have d2 : wr.cell? ⟨b2, o2 + k, none⟩ = some (.string B[k]) := by rw [hm]; exact hc2 k hBk
        obtain ⟨x, hx⟩ : ∃ x, x = A[k] := ⟨_, rfl⟩
        obtain ⟨y, hy⟩ : ∃ y, y = B[k] := ⟨_, rfl⟩
        rw [← hx] at d1
        rw [← hy] at d2
        have HS := Lib.hid hsame
        have HX := Lib.hid hx
        have HY := Lib.hid hy
        clear hsame hc1 hc2 HA HB hx hy hm
        by_cases hxy : x = y
        · have ht : (x.toList == y.toList) = true := by rw [text_beq]; exact decide_eq_true hxy
          have HXY := Lib.hid hxy
          clear hxy
          go_wp2_with fail
          go_quiet (fail)
          go_wp2
          go_roundw
          case measure => simp [intOf]; omega
          case rel =>
            refine ⟨k + 1, by omega, by go_num, fun j hj => ?_, m + nq, by rw [HM.out]; simp [World.drewN, Nat.add_assoc]⟩
            by_cases hjk : j < k
            · exact HS.out j hjk
            · obtain rfl : j = k := by omega
              rw [List.getElem?_eq_getElem hAk, List.getElem?_eq_getElem hBk, ← HX.out, ← HY.out, HXY.out]
        · have ht : (x.toList == y.toList) = false := by rw [text_beq]; exact decide_eq_false hxy
          have hne : decide (A = B) = false := decide_eq_false fun e => hxy (by
            have := HAB.out.1 e k hAk
            rw [List.getElem?_eq_getElem hAk, List.getElem?_eq_getElem hBk] at this
            rw [HX.out, HY.out]
            exact Option.some.inj this)
          have HXY := Lib.hid hxy
          clear hxy
          go_wp2_with fail
          go_quiet (fail)
          go_wp2
          go_ret
          exact ⟨by rw [hne]; rfl, m + nq, by rw [HM.out]; simp [World.drewN, Nat.add_assoc]⟩
      · have heq : decide (A = B) = true := decide_eq_true (HAB.out.2 fun j hj => hsame j (by rw [← HN.out] at hj; omega))
        clear hsame hm
        go_wp2
        go_ret
        exact ⟨by rw [heq]; rfl, m, HM.out⟩
  · have hne : decide (A = B) = false := decide_eq_false fun e => hl (by rw [e])
    clear ha hb
    go_enter Tryd.func12, Tryd.ntmps12
    go_wp2_with fail
    go_ret
    exact ⟨by rw [hne]; rfl, 0, rfl⟩
/-- More than twelve texts, or one of more than 100 bytes? -/
def greatL (l : List ByteArray) : Bool := l.any (fun x => decide (100 < x.size)) || decide (12 < l.length)
set_option maxRecDepth 100000 in
set_option maxHeartbeats 1000000 in
theorem great_any (va : Value) (A : List ByteArray) (hAm : A.length ≤ 9223372036854775807) (w : World) (hA : TextsAt w va A) :
    Calls Tryd.prog 7 #[va] w fun e w' => e = .returned (.bool (greatL A)) ∧ w = w' := by
  obtain ⟨a, ca, rfl, ha⟩ := hA
  have HA := Lib.hid ha
  obtain ⟨n, hn⟩ : ∃ n, n = A.length := ⟨_, rfl⟩
  rw [← hn] at hAm ⊢
  have HN := Lib.hid hn
  clear ha hn
  go_enter Tryd.func7, Tryd.ntmps7
  go_wp2_with fail
  go_loopw [6] (fun i wr => ∃ k : Nat, k ≤ n ∧ i = .int .i64 k ∧ (∀ j, j < k → ∀ x, A[j]? = some x → x.size ≤ 100) ∧ wr = w) (fun i _ => n - (intOf i).toNat)
  case atStart => exact ⟨0, by omega, rfl, fun j hj => by omega, rfl⟩
  case round =>
    obtain ⟨k, hk, rfl, hsmall, rfl⟩ := hrel
    by_cases hlt : k < n
    · have hAk : k < A.length := by rw [← HN.out]; exact hlt
      rcases HA.out with h0 | ⟨b1, o1, rfl, hc1⟩
      · omega
      have d1 : wr.cell? ⟨b1, o1 + k, none⟩ = some (.string A[k]) := hc1 k hAk
      obtain ⟨x, hx⟩ : ∃ x, x = A[k] := ⟨_, rfl⟩
      rw [← hx] at d1
      have HS := Lib.hid hsmall
      have HX := Lib.hid hx
      clear hsmall hc1 HA hx
      by_cases hx1 : 100 < x.size
      · have hg : greatL A = true := by
          rw [greatL, Bool.or_eq_true]
          left
          rw [List.any_eq_true]
          exact ⟨x, by rw [HX.out]; exact List.getElem_mem hAk, by simpa using hx1⟩
        go_wp2
        go_ret
        exact ⟨by rw [hg]; rfl, rfl⟩
      · go_wp2
        go_roundw
        case measure => simp [intOf]; omega
        case rel =>
          refine ⟨k + 1, by omega, by go_num, fun j hj z hz => ?_, by first | rfl | trivial⟩
          by_cases hjk : j < k
          · exact HS.out j hjk z hz
          · obtain rfl : j = k := by omega
            rw [List.getElem?_eq_getElem hAk, ← HX.out] at hz
            rw [← Option.some.inj hz]; omega
    · have hg : greatL A = decide (12 < n) := by
        have h0 : A.any (fun x => decide (100 < x.size)) = false := by
          rw [List.any_eq_false]
          intro x hx
          obtain ⟨j, hj, rfl⟩ := List.getElem_of_mem hx
          have := hsmall j (by rw [← HN.out] at hj; omega) _ (List.getElem?_eq_getElem hj)
          simp; omega
        rw [greatL, h0, HN.out]
        rfl
      clear hsmall
      go_wp2
      go_ret
      exact ⟨by rw [hg]; simp; omega, rfl⟩
end Go.Proofs.YtpllcnpcplbobaaDoor
