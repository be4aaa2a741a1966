import Derived.Test.YtgphohkofmgdfaaCyR
namespace Go.Proofs.Ytgphohkofmgdfaa
open Go.RowKit
set_option linter.unusedVariables false
/-! The reference: On, ready, Same; the law's great. -/
def onX (X : List (List Int)) (i k : Nat) : Bool := decide ((k : Int) ∈ X.getD i [])
theorem onX_of {G : List (List Int)} {i k : Nat} (hi : i < G.length) (hk : k < G.length) : onX (ofX G) i k = decide ((k : Int) ∈ G[i]) := by
  have e : (ofX G).getD i [] = rowO G.length G[i] := by simp [ofX, List.getD, hi]
  unfold onX
  rw [e]
  congr 1
  apply propext
  rw [rowO_iff]
  constructor
  · exact fun h => h.1
  · exact fun h => ⟨h, by omega, by omega⟩
set_option maxRecDepth 100000 in
set_option maxHeartbeats 2000000 in
theorem on_any (va : Value) (G : List (List Int)) (hn : G.length ≤ 1000) (hr : ∀ l ∈ G, l.length ≤ 100000) (i k : Nat) (hi : i < G.length) (hk : k < G.length) (w : World) (hG : GraphR w va G) :
    Calls Try.prog 15 #[va, .int .i64 i, .int .i64 k] w fun e w' => e = .returned (.bool (onX (ofX G) i k)) ∧ w = w' := by
  rw [onX_of hi hk]
  obtain ⟨a, c, rfl, _, h0 | ⟨b1, o1, rfl, hc⟩⟩ := hG
  · omega
  obtain ⟨u, hu, hnu⟩ := hc i hi
  have hlen := hr G[i] (List.getElem_mem hi)
  obtain ⟨l, hl⟩ : ∃ l, l = G[i] := ⟨_, rfl⟩
  rw [← hl] at hnu hlen ⊢
  obtain ⟨n, hnl⟩ : ∃ n, n = G.length := ⟨_, rfl⟩
  rw [← hnl] at hn hi hk ⊢
  obtain ⟨la, lc, rfl, hlc, hcell⟩ := hnu
  obtain ⟨ln, hln⟩ : ∃ ln, ln = l.length := ⟨_, rfl⟩
  rw [← hln] at hu hlen hlc
  have HL := Lib.hid hcell
  have HLN := Lib.hid hln
  clear hcell hln hl hnl hc hr
  go_enter Try.func15, Try.ntmps15
  go_wp2_with fail
  go_loopw [32] (fun mv wr => ∃ m : Nat, m ≤ ln ∧ mv = .int .i64 m ∧ (∀ x ∈ l.take m, x ≠ (k : Int)) ∧ wr = w) (fun mv _ => ln - (intOf mv).toNat)
  case atStart => exact ⟨0, by omega, rfl, by simp, rfl⟩
  case round =>
    obtain ⟨m, hm, rfl, hno, rfl⟩ := hrel
    by_cases hlm : m < ln
    · have hAm : m < l.length := by rw [← HLN.out]; exact hlm
      rcases HL.out with h0 | ⟨b2, o2, rfl, hc2⟩
      · rw [← HLN.out] at h0; omega
      have d1 := hc2 m hAm
      have hmem : l[m] ∈ l := List.getElem_mem hAm
      have htk := List.take_succ_eq_append_getElem hAm
      obtain ⟨x, hx⟩ : ∃ x, x = l[m] := ⟨_, rfl⟩
      rw [← hx] at d1 hmem htk
      have HNO := Lib.hid hno
      have HTK := Lib.hid htk
      clear hc2 hno hx htk
      by_cases hxk : x = (k : Int)
      · have hres : decide ((k : Int) ∈ l) = true := by rw [← hxk]; simpa using hmem
        subst hxk
        have HRES := Lib.hid hres
        clear hres hmem
        go_wp2_with fail
        go_ret
        exact ⟨by rw [HRES.out]; rfl, rfl⟩
      · have hb : (x == (k : Int)) = false := by simp [hxk]
        clear hmem
        go_wp2_with fail
        go_roundw
        case measure => simp [intOf]; omega
        case rel =>
          refine ⟨m + 1, by omega, by go_num, fun y hy => ?_, by first | rfl | trivial⟩
          rw [HTK.out] at hy
          rcases List.mem_append.1 hy with hy | hy
          · exact HNO.out y hy
          · rw [List.mem_singleton.1 hy]; exact hxk
    · have htk : l.take m = l := List.take_of_length_le (by rw [← HLN.out]; omega)
      rw [htk] at hno
      have hres : decide ((k : Int) ∈ l) = false := by
        simp only [decide_eq_false_iff_not]
        exact fun h => hno _ h rfl
      have HRES := Lib.hid hres
      clear htk hno hres
      go_wp2_with fail
      go_ret
      exact ⟨by rw [HRES.out]; rfl, rfl⟩
set_option maxRecDepth 100000 in
set_option maxHeartbeats 2000000 in
theorem same_any (va vb : Value) (A B : List Int) (hA : A.length ≤ 1000000) (hB : B.length ≤ 1000000) (w : World) (ha : NumsR w va A) (hb : NumsR w vb B) :
    Calls Try.prog 12 #[va, vb] w fun e w' => e = .returned (.bool (decide (A = B))) ∧ Below w.heap.size w w' := by
  obtain ⟨aa, ca, rfl, _, hca⟩ := ha
  obtain ⟨ab, cb, rfl, _, hcb⟩ := hb
  obtain ⟨la, hla⟩ : ∃ la, la = A.length := ⟨_, rfl⟩
  obtain ⟨lb, hlb⟩ : ∃ lb, lb = B.length := ⟨_, rfl⟩
  rw [← hla] at hA ⊢
  rw [← hlb] at hB ⊢
  have HCA := Lib.hid hca
  have HCB := Lib.hid hcb
  have HLA := Lib.hid hla
  have HLB := Lib.hid hlb
  clear hca hcb hla hlb
  go_enter Try.func12, Try.ntmps12
  by_cases hlen : la = lb
  · subst hlen
    go_wp2_with fail
    go_loopw [13] (fun mv wr => ∃ m : Nat, m ≤ la ∧ mv = .int .i64 m ∧ A.take m = B.take m ∧ Below w.heap.size w wr) (fun mv _ => la - (intOf mv).toNat)
    case atStart => exact ⟨0, by omega, rfl, by simp, Below.refl _ _⟩
    case round =>
      obtain ⟨m, hm, rfl, heq, hbw⟩ := hrel
      by_cases hlm : m < la
      · have hAm : m < A.length := by rw [← HLA.out]; exact hlm
        have hBm : m < B.length := by rw [← HLB.out]; exact hlm
        rcases HCA.out with h0 | ⟨b1, o1, rfl, hc1⟩
        · rw [← HLA.out] at h0; omega
        rcases HCB.out with h0 | ⟨b2, o2, rfl, hc2⟩
        · rw [← HLB.out] at h0; omega
        have d10 := hc1 m hAm
        have d20 := hc2 m hBm
        have d1 := (hbw.cell (World.block_lt_of_cell? _ _ d10)).trans d10
        have d2 := (hbw.cell (World.block_lt_of_cell? _ _ d20)).trans d20
        clear d10 d20
        have t1 := List.take_succ_eq_append_getElem hAm
        have t2 := List.take_succ_eq_append_getElem hBm
        have hne : A[m] ≠ B[m] → decide (A = B) = false := fun h => by
          simp only [decide_eq_false_iff_not]
          intro e
          subst e
          exact h rfl
        obtain ⟨x, hx⟩ : ∃ x, x = A[m] := ⟨_, rfl⟩
        obtain ⟨y, hy⟩ : ∃ y, y = B[m] := ⟨_, rfl⟩
        rw [← hx] at d1 t1 hne
        rw [← hy] at d2 t2 hne
        have HT := Lib.hid (And.intro t1 t2)
        have HE := Lib.hid heq
        clear hc1 hc2 t1 t2 hx hy heq
        by_cases hxy : x = y
        · subst hxy
          clear hne
          go_wp2_with fail
          go_region
          go_wp2_with fail
          go_roundw
          case measure => simp [intOf]; omega
          case rel => exact ⟨m + 1, by omega, by go_num, by rw [HT.out.1, HT.out.2, HE.out], hbw.drew⟩
        · have hbq : (x == y) = false := by simp [hxy]
          have HRES := Lib.hid (hne hxy)
          clear hne
          go_wp2_with fail
          go_region
          go_wp2_with fail
          go_ret
          exact ⟨by rw [HRES.out]; rfl, by first | exact hbw.drew | exact hbw⟩
      · have t1 : A.take m = A := List.take_of_length_le (by rw [← HLA.out]; omega)
        have t2 : B.take m = B := List.take_of_length_le (by rw [← HLB.out]; omega)
        rw [t1, t2] at heq
        have hres : decide (A = B) = true := by simpa using heq
        have HRES := Lib.hid hres
        clear t1 t2 heq hres
        go_wp2_with fail
        go_ret
        exact ⟨by rw [HRES.out]; rfl, by first | exact hbw.drew | exact hbw⟩
  · have hres : decide (A = B) = false := by
      simp only [decide_eq_false_iff_not]
      intro e
      subst e
      exact hlen (by rw [HLA.out, HLB.out])
    rw [hres]
    have hb : ((la : Int) == (lb : Int)) = false := by simp; omega
    clear hres
    go_wp2_with fail
    go_ret
    exact ⟨rfl, Below.refl _ _⟩
end Go.Proofs.Ytgphohkofmgdfaa
