import Derived.Test.YtgphohkofmgdfaaCy4
import Derived.Deep.DeepCutAuto
namespace Go.Proofs.Ytgphohkofmgdfaa
open Go.RowKit
set_option linter.unusedVariables false
/-- The place of the first that p holds of; -1: there is none. -/
def idxB (p : Int → Bool) : List Int → Int
  | [] => -1
  | x :: l => if p x = true then 0 else (if idxB p l < 0 then -1 else idxB p l + 1)
theorem idxB_none {p : Int → Bool} : ∀ {l : List Int}, (∀ x ∈ l, p x = false) → idxB p l = -1
  | [], _ => rfl
  | x :: l, h => by
    have h1 := h x (List.mem_cons_self ..)
    have h2 := idxB_none (l := l) fun y hy => h y (List.mem_cons_of_mem _ hy)
    rw [idxB, h1, h2]; rfl
theorem idxB_some {p : Int → Bool} : ∀ {l : List Int} {i : Nat} (hi : i < l.length), (∀ x ∈ l.take i, p x = false) → p l[i] = true → idxB p l = (i : Int)
  | x :: l, 0, _, _, h => by
    have h1 : p x = true := h
    rw [idxB, if_pos h1]; rfl
  | x :: l, i + 1, hi, h, h2 => by
    have h1 : p x = false := h x (by simp)
    have h3 := idxB_some (l := l) (i := i) (by simpa using hi) (fun y hy => h y (by simp [hy])) (by simpa using h2)
    rw [idxB, h1, h3]
    simp
    omega
theorem idxB_any (p : Int → Bool) (l : List Int) : decide (0 ≤ idxB p l) = l.any p := by
  induction l with
  | nil => rfl
  | cons x l ih =>
    rw [idxB, List.any_cons]
    cases hp : p x with
    | true => simp
    | false =>
      rw [← ih]
      by_cases h : idxB p l < 0
      · simp [h]
      · have h2 : 0 ≤ idxB p l := by omega
        simp [h, h2]
        omega
/-- Marks in memory. -/
def MarksAt (W : World) (D n : Nat) (d : Nat → Bool) : Prop := ∀ j, j < n → W.cell? ⟨D, j, none⟩ = some (.bool (d j)) ∧ W.frozen? ⟨D, j, none⟩ = false
def BoxAt (W : World) (b : Nat) (v : Value) : Prop := W.cell? ⟨b, 0, none⟩ = some v
set_option maxRecDepth 100000 in
/-- The inner test of Order: is a node not done? -/
theorem undone_any (bd D n : Nat) (d : Nat → Bool) (k : Nat) (hk : k < n) (w : World) (hb : BoxAt w bd (.slice (some ⟨D, 0, none⟩) n n)) (hd : MarksAt w D n d) :
    Calls Try.prog 25 #[.int .i64 k, .pointer (some ⟨bd, 0, none⟩)] w fun e w' => e = .returned (.bool (!d k)) ∧ w = w' := by
  obtain ⟨h1, _⟩ := hd k hk
  unfold BoxAt at hb
  obtain ⟨b, hbb⟩ : ∃ b, b = d k := ⟨_, rfl⟩
  rw [← hbb] at h1 ⊢
  clear hbb hd
  go_enter Try.func25, Try.ntmps25
  go_wp2_with fail
  go_ret
  exact ⟨rfl, rfl⟩
set_option maxRecDepth 100000 in
set_option maxHeartbeats 2000000 in
theorem indexU_any (va : Value) (l : List Int) (bd D n : Nat) (d : Nat → Bool) (hlm : l.length ≤ 1000000) (hx : ∀ x ∈ l, 0 ≤ x ∧ x < (n : Int)) (w : World) (hl : NumsR w va l) (hb : BoxAt w bd (.slice (some ⟨D, 0, none⟩) n n)) (hd : MarksAt w D n d) :
    Calls Try.prog 34 #[va, .func (.func 25) #[] #[.pointer (some ⟨bd, 0, none⟩)]] w fun e w' => e = .returned (.int .i64 (idxB (fun x => !d x.toNat) l)) ∧ w = w' := by
  obtain ⟨a, c, rfl, _, hc⟩ := hl
  obtain ⟨ln, hln⟩ : ∃ ln, ln = l.length := ⟨_, rfl⟩
  rw [← hln] at hlm ⊢
  have HC := Lib.hid hc
  have HLN := Lib.hid hln
  have HX := Lib.hid hx
  have hun := fun k hk => undone_any bd D n d k hk w hb hd
  have HUN := Lib.hid hun
  obtain ⟨p, hp⟩ : ∃ p : Int → Bool, p = fun x => !d x.toNat := ⟨_, rfl⟩
  rw [← hp]
  have HP := Lib.hid hp
  clear hc hln hx hun hb hd hp
  go_enter Try.func34, Try.ntmps34
  go_wp2_with fail
  go_loopw [8] (fun iv wr => ∃ i : Nat, i ≤ ln ∧ iv = .int .i64 i ∧ (∀ x ∈ l.take i, p x = false) ∧ wr = w) (fun iv _ => ln - (intOf iv).toNat)
  case atStart => exact ⟨0, by omega, rfl, by simp, rfl⟩
  case round =>
    obtain ⟨i, hi, rfl, hno, rfl⟩ := hrel
    by_cases hlt : i < ln
    · have hAi : i < l.length := by rw [← HLN.out]; exact hlt
      rcases HC.out with h0 | ⟨b1, o1, rfl, hc1⟩
      · rw [← HLN.out] at h0; omega
      have d1 := hc1 i hAi
      obtain ⟨x0, x1⟩ := HX.out l[i] (List.getElem_mem hAi)
      obtain ⟨k, hk⟩ := Int.eq_ofNat_of_zero_le x0
      have hkn : k < n := by omega
      have hun := HUN.out k hkn
      have hpk : p l[i] = !d k := by rw [HP.out, hk]; rfl
      rw [hk] at d1
      have HNO := Lib.hid hno
      have HPK := Lib.hid hpk
      clear hc1 x0 x1 hk hno hpk
      cases hdk : d k with
      | true =>
        rw [hdk] at hun
        have HU := Lib.hid hun
        have HD := Lib.hid hdk
        clear hun hdk
        go_wp2_with (go_at_call 25; refine (HU.out).mono ?_; rintro e w1 ⟨rfl, rfl⟩)
        go_roundw
        case measure => simp [intOf]; omega
        case rel =>
          refine ⟨i + 1, by omega, by go_num, fun x hx => ?_, by first | rfl | trivial⟩
          rw [List.take_succ_eq_append_getElem hAi] at hx
          rcases List.mem_append.1 hx with hx | hx
          · exact HNO.out x hx
          · rw [List.mem_singleton.1 hx, HPK.out, HD.out]; rfl
      | false =>
        rw [hdk] at hun
        have HU := Lib.hid hun
        have hix := idxB_some hAi HNO.out (by rw [HPK.out, hdk]; rfl)
        have HIX := Lib.hid hix
        clear hun hdk hix
        go_wp2_with (go_at_call 25; refine (HU.out).mono ?_; rintro e w1 ⟨rfl, rfl⟩)
        go_ret
        exact ⟨by rw [HIX.out]; first | rfl | simp, rfl⟩
    · have htk : l.take i = l := List.take_of_length_le (by rw [← HLN.out]; omega)
      rw [htk] at hno
      have hix := idxB_none hno
      have HIX := Lib.hid hix
      clear htk hno hix
      go_wp2_with fail
      go_ret
      exact ⟨by rw [HIX.out]; first | rfl | simp, rfl⟩
set_option maxRecDepth 100000 in
theorem containsU_any (va : Value) (l : List Int) (bd D n : Nat) (d : Nat → Bool) (hlm : l.length ≤ 1000000) (hx : ∀ x ∈ l, 0 ≤ x ∧ x < (n : Int)) (w : World) (hl : NumsR w va l) (hb : BoxAt w bd (.slice (some ⟨D, 0, none⟩) n n)) (hd : MarksAt w D n d) :
    Calls Try.prog 24 #[va, .func (.func 25) #[] #[.pointer (some ⟨bd, 0, none⟩)]] w fun e w' => e = .returned (.bool (l.any fun x => !d x.toNat)) ∧ w = w' := by
  have hix := indexU_any va l bd D n d hlm hx w hl hb hd
  have hany := idxB_any (fun x => !d x.toNat) l
  obtain ⟨i, hi⟩ : ∃ i, i = idxB (fun x => !d x.toNat) l := ⟨_, rfl⟩
  rw [← hi] at hix hany
  rw [← hany]
  have HIX := Lib.hid hix
  clear hix hany hi hl hb hd hx
  go_enter Try.func24, Try.ntmps24
  go_wp2_with (go_at_call 34; refine (HIX.out).mono ?_; rintro e w1 ⟨rfl, rfl⟩)
  go_ret
  exact ⟨by first | rfl | simp, rfl⟩
/-- Is a node ready: not done, and all that it leans on is. -/
def readyB (X : List (List Int)) (d : Nat → Bool) (i : Nat) : Bool := !d i && !((X.getD i []).any fun x => !d x.toNat)
set_option maxRecDepth 100000 in
set_option maxHeartbeats 2000000 in
theorem ready_any (X : List (List Int)) (n : Nat) (hX : Nodes n X) (bd bx D : Nat) (d : Nat → Bool) (vx : Value) (i : Nat) (hi : i < n) (w : World) (hb : BoxAt w bd (.slice (some ⟨D, 0, none⟩) n n)) (hbx : BoxAt w bx vx) (hgx : GraphR w vx X) (hd : MarksAt w D n d) :
    Calls Try.prog 23 #[.int .i64 i, .pointer (some ⟨bd, 0, none⟩), .pointer (some ⟨bx, 0, none⟩)] w fun e w' => e = .returned (.bool (readyB X d i)) ∧ w = w' := by
  obtain ⟨hXl, hXr⟩ := hX
  obtain ⟨a, c, rfl, _, h0 | ⟨b1, o1, rfl, hc⟩⟩ := hgx
  · omega
  have hi2 : i < X.length := by omega
  obtain ⟨u, hu, hnu⟩ := hc i hi2
  have hgd : X.getD i [] = X[i] := by simp [List.getD, hi2]
  have hrow := hXr X[i] (List.getElem_mem hi2)
  have hcon := containsU_any u X[i] bd D n d (by omega) hrow.2 w hnu hb hd
  obtain ⟨h1, _⟩ := hd i hi
  obtain ⟨la, lc, hul, _, _⟩ := id hnu
  subst hul
  unfold readyB
  rw [hgd]
  rw [hXl] at hbx
  unfold BoxAt at hb hbx
  obtain ⟨t, ht⟩ : ∃ t, t = (X[i].any fun x => !d x.toNat) := ⟨_, rfl⟩
  rw [← ht] at hcon ⊢
  obtain ⟨ln, hln⟩ : ∃ ln, ln = X[i].length := ⟨_, rfl⟩
  rw [← hln] at hu hcon
  have HCON := Lib.hid hcon
  clear hcon ht hln hrow hnu hc hgd hXr hd hXl
  cases hdi : d i with
  | true =>
    rw [hdi] at h1
    clear hdi
    go_enter Try.func23, Try.ntmps23
    go_wp2_with (go_at_call 24; refine (HCON.out).mono ?_; rintro e w1 ⟨rfl, rfl⟩)
    go_ret
    exact ⟨by first | rfl | simp, rfl⟩
  | false =>
    rw [hdi] at h1
    clear hdi
    go_enter Try.func23, Try.ntmps23
    go_wp2_with (go_at_call 24; refine (HCON.out).mono ?_; rintro e w1 ⟨rfl, rfl⟩)
    go_ret
    exact ⟨by first | rfl | simp, rfl⟩
end Go.Proofs.Ytgphohkofmgdfaa
