import Derived.Test.YtgphohkofmgdfaaCy7
import Derived.BigQuiet
import Derived.Deep.RegionHeld3
namespace Go.Proofs.Ytgphohkofmgdfaa
open Go.RowKit
set_option linter.unusedVariables false
/-- Is a node one step nearer than another? -/
def nearB (S : List Int) (at_ : Nat) (x : Int) : Bool := decide (S.getD x.toNat 0 = S.getD at_ 0 - 1)
set_option maxRecDepth 100000 in
set_option maxHeartbeats 1000000 in
theorem near_any (b7 b10 : Nat) (vs : Value) (S : List Int) (k at_ : Nat) (hk : k < S.length) (ha : at_ < S.length) (hS : ∀ x ∈ S, -1 ≤ x ∧ x ≤ 1000000) (w : World) (hb7 : BoxAt w b7 vs) (hvs : NumsR w vs S) (hb10 : BoxAt w b10 (.int .i64 (at_ : Int))) :
    Calls Try.prog 35 #[.int .i64 k, .pointer (some ⟨b7, 0, none⟩), .pointer (some ⟨b10, 0, none⟩)] w fun e w' => e = .returned (.bool (nearB S at_ (k : Int))) ∧ ∃ m, w' = w.drewN m := by
  obtain ⟨a, c, rfl, _, h0 | ⟨b, o, rfl, hc⟩⟩ := hvs
  · omega
  have h1 := hc k hk
  have h2 := hc at_ ha
  have h3 := hS S[at_] (List.getElem_mem ha)
  have e1 : S.getD k 0 = S[k] := by simp [List.getD, hk]
  have e2 : S.getD at_ 0 = S[at_] := by simp [List.getD, ha]
  have hv : nearB S at_ (k : Int) = decide (S[k] = S[at_] - 1) := by
    unfold nearB
    simp only [Int.toNat_natCast, e1, e2]
  rw [hv]
  obtain ⟨vk, hvk⟩ : ∃ vk, vk = S[k] := ⟨_, rfl⟩
  obtain ⟨va, hva⟩ : ∃ va, va = S[at_] := ⟨_, rfl⟩
  obtain ⟨n, hn⟩ : ∃ n, n = S.length := ⟨_, rfl⟩
  rw [← hvk] at h1
  rw [← hva] at h2 h3
  simp only [← hvk, ← hva]
  unfold BoxAt at hb7 hb10
  rw [← hn] at hb7 hk ha
  clear hc hS e1 e2 hvk hva hn hv
  go_enter Try.func35, Try.ntmps35
  go_upto_region 1 with fail
  go_quiet (fail)
  go_wp2_with fail
  go_ret
  exact ⟨by first | rfl | simp, _, rfl⟩
set_option maxRecDepth 100000 in
set_option maxHeartbeats 2000000 in
theorem indexW_any (va : Value) (l : List Int) (b7 b10 : Nat) (vs : Value) (S : List Int) (at_ : Nat) (hlm : l.length ≤ 1000000) (hx : ∀ x ∈ l, 0 ≤ x ∧ x < (S.length : Int)) (ha : at_ < S.length) (hS : ∀ x ∈ S, -1 ≤ x ∧ x ≤ 1000000) (w : World) (hl : NumsR w va l) (hb7 : BoxAt w b7 vs) (hvs : NumsR w vs S) (hb10 : BoxAt w b10 (.int .i64 (at_ : Int))) :
    Calls Try.prog 34 #[va, .func (.func 35) #[] #[.pointer (some ⟨b7, 0, none⟩), .pointer (some ⟨b10, 0, none⟩)]] w fun e w' => e = .returned (.int .i64 (idxB (nearB S at_) l)) ∧ ∃ m, w' = w.drewN m := by
  obtain ⟨a, c, rfl, _, hc⟩ := hl
  obtain ⟨ln, hln⟩ : ∃ ln, ln = l.length := ⟨_, rfl⟩
  rw [← hln] at hlm ⊢
  have HC := Lib.hid hc
  have HLN := Lib.hid hln
  have HX := Lib.hid hx
  have hun := fun q k hk => near_any b7 b10 vs S k at_ hk ha hS (w.drewN q) hb7 (hvs.below (below_drewN (Below.refl _ _) q)) hb10
  have HUN := Lib.hid hun
  obtain ⟨p, hp⟩ : ∃ p : Int → Bool, p = nearB S at_ := ⟨_, rfl⟩
  rw [← hp] at HUN ⊢
  clear hc hln hx hun hb7 hvs hb10 hp hS
  go_enter Try.func34, Try.ntmps34
  go_wp2_with fail
  go_loopw [8] (fun iv wr => ∃ i q : Nat, i ≤ ln ∧ iv = .int .i64 i ∧ (∀ x ∈ l.take i, p x = false) ∧ wr = w.drewN q) (fun iv _ => ln - (intOf iv).toNat)
  case atStart => exact ⟨0, 0, by omega, rfl, by simp, rfl⟩
  case round =>
    obtain ⟨i, q, hi, rfl, hno, rfl⟩ := hrel
    by_cases hlt : i < ln
    · have hAi : i < l.length := by rw [← HLN.out]; exact hlt
      rcases HC.out with h0 | ⟨b1, o1, rfl, hc1⟩
      · rw [← HLN.out] at h0; omega
      have d1 : (w.drewN q).cell? ⟨b1, o1 + i, none⟩ = some (.int .i64 l[i]) := hc1 i hAi
      obtain ⟨x0, x1⟩ := HX.out l[i] (List.getElem_mem hAi)
      obtain ⟨k, hk⟩ := Int.eq_ofNat_of_zero_le x0
      have hun := HUN.out q k (by omega)
      have hpk : p l[i] = p (k : Int) := by rw [hk]
      rw [hk] at d1
      have HNO := Lib.hid hno
      have HPK := Lib.hid hpk
      obtain ⟨Wq, hWq⟩ : ∃ Wq, Wq = w.drewN q := ⟨_, rfl⟩
      rw [← hWq] at d1 hun ⊢
      have HWQ := Lib.hid hWq
      clear hc1 x0 x1 hk hno hpk hWq
      cases hdk : p (k : Int) with
      | false =>
        rw [hdk] at hun
        have HU := Lib.hid hun
        have HD := Lib.hid hdk
        clear hun hdk
        go_wp2_with (go_at_call 35; refine (HU.out).mono ?_; rintro e w1 ⟨rfl, m1, hw1⟩; have HW1 := Lib.hid hw1; clear hw1)
        go_roundw
        case measure => simp [intOf]; omega
        case rel =>
          refine ⟨i + 1, q + m1, by omega, by go_num, fun x hx => ?_, by rw [HW1.out, HWQ.out, World.drewN_drewN]⟩
          rw [List.take_succ_eq_append_getElem hAi] at hx
          rcases List.mem_append.1 hx with hx | hx
          · exact HNO.out x hx
          · rw [List.mem_singleton.1 hx, HPK.out, HD.out]
      | true =>
        rw [hdk] at hun
        have HU := Lib.hid hun
        have hix := idxB_some hAi HNO.out (by rw [HPK.out, hdk])
        have HIX := Lib.hid hix
        clear hun hdk hix
        go_wp2_with (go_at_call 35; refine (HU.out).mono ?_; rintro e w1 ⟨rfl, m1, hw1⟩; have HW1 := Lib.hid hw1; clear hw1)
        go_ret
        exact ⟨by rw [HIX.out]; first | rfl | simp, q + m1, by rw [HW1.out, HWQ.out, World.drewN_drewN]⟩
    · have htk : l.take i = l := List.take_of_length_le (by rw [← HLN.out]; omega)
      rw [htk] at hno
      have hix := idxB_none hno
      have HIX := Lib.hid hix
      clear htk hno hix
      go_wp2_with fail
      go_ret
      exact ⟨by rw [HIX.out]; first | rfl | simp, q, rfl⟩
end Go.Proofs.Ytgphohkofmgdfaa
