import Derived.Test.YtgphohkofmgdfaaCyE
namespace Go.Proofs.Ytgphohkofmgdfaa
open Go.RowKit
set_option linter.unusedVariables false
/-- The first node whose ring is shortest, and how long that is; -1: there is none. -/
def bestN (F : Nat → Int) : Nat → Int × Int
  | 0 => (-1, 0)
  | i + 1 => if 0 < F i ∧ ((bestN F i).1 < 0 ∨ F i < (bestN F i).2) then ((i : Int), F i) else bestN F i
theorem bestN_range (F : Nat → Int) : ∀ i, ((bestN F i).1 = -1 ∧ (bestN F i).2 = 0) ∨ ∃ b : Nat, (bestN F i).1 = (b : Int) ∧ b < i ∧ (bestN F i).2 = F b ∧ 0 < F b
  | 0 => .inl ⟨rfl, rfl⟩
  | i + 1 => by
    rw [bestN]
    split
    · rename_i h
      exact .inr ⟨i, rfl, by omega, rfl, h.1⟩
    · rcases bestN_range F i with h | ⟨b, h1, h2, h3⟩
      · exact .inl h
      · exact .inr ⟨b, h1, by omega, h3⟩
noncomputable def ringR (X T : List (List Int)) (n : Nat) : List Int :=
  if (bestN (fun i => farN T i i) n).1 < 0 then [] else (bestN (fun i => farN T i i) n).1 :: wayN X T n (bestN (fun i => farN T i i) n).1.toNat ((bestN (fun i => farN T i i) n).2 - 1).toNat (bestN (fun i => farN T i i) n).1.toNat
set_option maxRecDepth 100000 in
set_option maxHeartbeats 4000000 in
theorem rring_any (va : Value) (G : List (List Int)) (hn : G.length ≤ 1000) (hr : ∀ l ∈ G, l.length ≤ 100000) (w : World) (hG : GraphR w va G) :
    Calls Try.prog 14 #[va] w fun e w' => ∃ v, e = .returned v ∧ NumsR w' v (ringR (ofX G) (turnX (ofX G)) G.length) ∧ Below w.heap.size w w' := by
  have hfar := fun i h W hW => rfar_any va G hn hr i h W hW
  have hwalk := fun i h J hJ W hW => rwalk_any va G hn hr i i h h J hJ W hW
  have hnod := ofX_nodes hr
  have htn := turnX_nodes hn hnod (ofX_rising G)
  have hfew := fun i (h : i < G.length) => farN_few (T := turnX (ofX G)) (tg := i) (k := i) (by rw [htn.1]; exact h)
  have hlow := fun i => farN_low (turnX (ofX G)) i i
  rw [htn.1] at hfew
  have HGR := Lib.hid hG
  obtain ⟨a, c, rfl, hac, hcs⟩ := hG
  obtain ⟨n, hnl⟩ : ∃ n, n = G.length := ⟨_, rfl⟩
  obtain ⟨X, hX⟩ : ∃ X, X = ofX G := ⟨_, rfl⟩
  rw [← hnl] at hn hac HGR hfar hwalk hfew ⊢
  rw [← hX] at hfar hwalk hfew hlow ⊢
  obtain ⟨T, hT⟩ : ∃ T, T = turnX X := ⟨_, rfl⟩
  rw [← hT] at hfar hwalk hfew hlow ⊢
  unfold ringR
  obtain ⟨F, hF⟩ : ∃ F, F = fun i => farN T i i := ⟨_, rfl⟩
  have hFi : ∀ i, farN T i i = F i := fun i => by rw [hF]
  rw [← hF]
  obtain ⟨RR, hRR⟩ : ∃ RR, RR = (if (bestN F n).1 < 0 then [] else (bestN F n).1 :: wayN X T n (bestN F n).1.toNat ((bestN F n).2 - 1).toNat (bestN F n).1.toNat) := ⟨_, rfl⟩
  rw [← hRR]
  have HRR := Lib.hid hRR
  simp only [hFi] at hfew hlow hwalk
  have HFAR := Lib.hid hfar
  have HWALK := Lib.hid hwalk
  have HFEW := Lib.hid hfew
  have HLOW := Lib.hid hlow
  have HFI := Lib.hid hFi
  clear hcs hr hnl hX hT hF hRR hfar hwalk hfew hlow hFi hnod htn
  go_enter Try.func14, Try.ntmps14
  go_wp2_with fail
  go_loopw [3, 4, 9] (fun bv fv iv wr => ∃ (i : Nat) (b f : Int), i ≤ n ∧ iv = .int .i64 i ∧ bv = .int .i64 b ∧ fv = .int .i64 f ∧ bestN F i = (b, f) ∧ Below w.heap.size w wr) (fun _ _ iv _ => n - (intOf iv).toNat)
  case atStart => exact ⟨0, -1, 0, by omega, rfl, rfl, rfl, rfl, Below.refl _ _⟩
  case round =>
    obtain ⟨i, b, f, hi, rfl, rfl, rfl, hbest, hb⟩ := hrel
    have hrg := bestN_range F i
    rw [hbest] at hrg
    simp only at hrg
    by_cases hlt : i < n
    · have hnx : bestN F (i + 1) = if 0 < F i ∧ (b < 0 ∨ F i < f) then ((i : Int), F i) else (b, f) := by rw [bestN, hbest]
      have hfi := HFEW.out i hlt
      have hfl := HLOW.out i
      have hft := HFI.out i
      obtain ⟨x, hx⟩ : ∃ x, x = F i := ⟨_, rfl⟩
      rw [← hx] at hnx hfi hfl hft
      have hfar := HFAR.out i hlt wr (HGR.out.below hb)
      have hLne : farL T n i ≠ [] := fun e => by
        have := farL_len T n i
        rw [e] at this
        simp at this
        omega
      have hbr : -1 ≤ b ∧ b < (n : Int) := by
        rcases hrg with ⟨h1, _⟩ | ⟨q, h1, h2, _⟩ <;> omega
      have hfr2 : 0 ≤ f ∧ f ≤ 1000 := by
        rcases hrg with ⟨_, h1⟩ | ⟨q, h1, h2, h3, h4⟩
        · omega
        · have := HFEW.out q (by omega)
          omega
      have HFA := Lib.hid hfar
      have HFL := Lib.hid (farL_len T n i)
      have HNX := Lib.hid hnx
      have HFT := Lib.hid hft
      have HB := Lib.hid hb
      clear hfar hnx hft hb hbest hrg hx
      by_cases hcond : 0 < x ∧ (b < 0 ∨ x < f)
      · rw [if_pos hcond] at HNX
        obtain ⟨c1, c2⟩ := hcond
        by_cases c3 : b < 0
        · clear c2
          go_wp2_with (go_at_call 29; refine (HFA.out).mono ?_; rintro e w1 ⟨v1, rfl, hn1, hb1⟩; have B1 := Lib.hid (HB.out.trans (hb1.mono HB.out.size)); obtain ⟨b1, o1, c1, hv1, hcell1⟩ := hn1.some hLne; rw [HFL.out] at hv1; subst hv1; have q1 := hcell1 i (Nat.lt_of_lt_of_eq hlt HFL.out.symm); rw [farL_at, HFT.out] at q1; clear hb1 hcell1 hn1)
          go_roundw
          case measure => first | (simp [intOf]; done) | (simp [intOf]; omega)
          case rel => exact ⟨i + 1, _, _, by omega, by go_num, rfl, rfl, HNX.out, B1.out⟩
        · have c4 : x < f := by omega
          clear c2
          go_wp2_with (go_at_call 29; refine (HFA.out).mono ?_; rintro e w1 ⟨v1, rfl, hn1, hb1⟩; have B1 := Lib.hid (HB.out.trans (hb1.mono HB.out.size)); obtain ⟨b1, o1, c1, hv1, hcell1⟩ := hn1.some hLne; rw [HFL.out] at hv1; subst hv1; have q1 := hcell1 i (Nat.lt_of_lt_of_eq hlt HFL.out.symm); rw [farL_at, HFT.out] at q1; clear hb1 hcell1 hn1)
          go_roundw
          case measure => first | (simp [intOf]; done) | (simp [intOf]; omega)
          case rel => exact ⟨i + 1, _, _, by omega, by go_num, rfl, rfl, HNX.out, B1.out⟩
      · rw [if_neg hcond] at HNX
        by_cases c1 : 0 < x
        · have c3 : ¬ b < 0 := fun h => hcond ⟨c1, .inl h⟩
          have c4 : ¬ x < f := fun h => hcond ⟨c1, .inr h⟩
          clear hcond
          go_wp2_with (go_at_call 29; refine (HFA.out).mono ?_; rintro e w1 ⟨v1, rfl, hn1, hb1⟩; have B1 := Lib.hid (HB.out.trans (hb1.mono HB.out.size)); obtain ⟨b1, o1, c1, hv1, hcell1⟩ := hn1.some hLne; rw [HFL.out] at hv1; subst hv1; have q1 := hcell1 i (Nat.lt_of_lt_of_eq hlt HFL.out.symm); rw [farL_at, HFT.out] at q1; clear hb1 hcell1 hn1)
          go_roundw
          case measure => first | (simp [intOf]; done) | (simp [intOf]; omega)
          case rel => exact ⟨i + 1, b, f, by omega, by go_num, rfl, rfl, HNX.out, B1.out⟩
        · clear hcond
          go_wp2_with (go_at_call 29; refine (HFA.out).mono ?_; rintro e w1 ⟨v1, rfl, hn1, hb1⟩; have B1 := Lib.hid (HB.out.trans (hb1.mono HB.out.size)); obtain ⟨b1, o1, c1, hv1, hcell1⟩ := hn1.some hLne; rw [HFL.out] at hv1; subst hv1; have q1 := hcell1 i (Nat.lt_of_lt_of_eq hlt HFL.out.symm); rw [farL_at, HFT.out] at q1; clear hb1 hcell1 hn1)
          go_roundw
          case measure => first | (simp [intOf]; done) | (simp [intOf]; omega)
          case rel => exact ⟨i + 1, b, f, by omega, by go_num, rfl, rfl, HNX.out, B1.out⟩
    · obtain rfl : i = n := by omega
      have hrr := HRR.out
      rw [hbest] at hrr
      simp only at hrr
      by_cases hb0 : b < 0
      · rw [if_pos hb0] at hrr
        have HB := Lib.hid hb
        have hb1 : -1 ≤ b := by rcases hrg with ⟨h1, _⟩ | ⟨q, h1, h2, _⟩ <;> omega
        have HRL := Lib.hid hrr
        clear hrg hb hbest hrr
        go_wp2_with fail
        go_ret
        exact ⟨_, rfl, by rw [HRL.out]; exact numsR_nil _, HB.out⟩
      · rw [if_neg hb0] at hrr
        rcases hrg with ⟨h1, _⟩ | ⟨q, rfl, h2, rfl, h4⟩
        · omega
        have hw2 := HWALK.out q h2 (F q - 1).toNat (by omega) wr (HGR.out.below hb)
        obtain ⟨J, hJ⟩ : ∃ J, J = (F q - 1).toNat := ⟨_, rfl⟩
        rw [← hJ, Int.toNat_natCast] at hrr
        rw [← hJ] at hw2
        have HW2 := Lib.hid hw2
        have HB := Lib.hid hb
        obtain ⟨x, hx⟩ : ∃ x, x = F q := ⟨_, rfl⟩
        rw [← hx] at h4
        have hfi := HFEW.out q h2
        rw [← hx] at hfi
        have HRL := Lib.hid hrr
        rw [← hx]
        clear hw2 hb hbest hJ hx hrr
        go_wp2_with (go_at_call 30; refine (HW2.out).mono ?_; rintro e w1 ⟨v1, rfl, hown1, hb1⟩; have B1 := Lib.hid (HB.out.trans (hb1.mono HB.out.size)); have OWN1 := Lib.hid hown1; obtain ⟨a3, n3, c3, rfl⟩ := owns_slice hown1; clear hown1 hb1)
        go_ret
        refine ⟨_, rfl, ?_, B1.out⟩
        rw [HRL.out]
        have h5 : ((q : Int) :: wayN X T i q J q).length = J + 1 := by rw [List.length_cons, wayN_len]
        have h6 := OWN1.out
        rw [← h5] at h6
        exact numsR_owned h6
end Go.Proofs.Ytgphohkofmgdfaa
