/-
  For any budget and any number of calls the statement's function answers true: just as many writing calls pass as there are left, and what does not pass changes nothing.
  Conditions: none.
-/
import Derived.Test.YtpllcnpcplbobaaDisk7
import Derived.Test.YtpllcnpcplbobaaPost2
import Derived.Test.YtpllcnpcplbobaaRows
import Derived.WalkKit
import Derived.ProofKit
import Derived.OpenShut
import Derived.ShutString
namespace Go.Proofs.Ytpllcnpcplbobaa
open Go.RowKit Go.Maps
def nF : ByteArray := ⟨#[102]⟩
def nNone : ByteArray := ⟨#[110, 111, 110, 101]⟩
def xs : Nat → ByteArray
  | 0 => ⟨#[]⟩
  | m + 1 => xs m ++ ⟨#[120]⟩
theorem size_xs : ∀ m, (xs m).size = m
  | 0 => rfl
  | m + 1 => by rw [xs, ByteArray.size_append, size_xs m]; rfl
/-- One file, of so many bytes, if of any. -/
def GB (m : Nat) : FS := fun x => if x = nF ∧ 0 < m then some (xs m, 0) else none
theorem gb_zero : GB 0 = fun _ => none := by
  funext x
  simp [GB]
theorem gb_get (m : Nat) : ((GB m nF).getD noFile) = (xs m, 0) := by
  unfold GB
  by_cases h : 0 < m
  · simp [h]
  · have : m = 0 := by omega
    subst this
    rfl
theorem gb_append (m : Nat) : appendG 0 (GB m) nF ⟨#[120]⟩ = GB (m + 1) := by
  rw [appendG, if_pos rfl, gb_get]
  funext x
  unfold FS.put GB
  by_cases h : x = nF
  · simp [h]; rfl
  · simp [h]
theorem gb_none (m : Nat) : isB (GB m) nNone = false := by
  have : nNone ≠ nF := by decide
  simp [isB, GB, this]
theorem gb_read (m : Nat) : readV (GB m) nF = if 0 < m then .tuple #[.string (xs m), .int .i64 0] else .tuple #[.string ⟨#[]⟩, .int .i64 10] := by
  unfold readV GB
  by_cases h : 0 < m <;> simp [h]
theorem begin_f (g : FS) (left : Int) : beginE false g left nF [nF] = if left = 0 then 18 else 0 := by
  have : memB ⟨#[]⟩ [nF] = false := by decide
  rw [beginE, this]; simp
theorem begin_none (m : Nat) (left : Int) : beginE true (GB m) left nNone [nNone] = 10 := by
  have : memB ⟨#[]⟩ [nNone] = false := by decide
  rw [beginE, this, gb_none]; simp
set_option maxRecDepth 100000 in
set_option maxHeartbeats 1000000 in
theorem dbudget_any (n many : Nat) (hn : n < 256) (hm : many < 256) (w : World) :
    Calls Try.prog 6 #[.int .u8 (n : Int), .int .u8 (many : Int)] w fun e w' => e = .returned (.bool true) ∧ Below w.heap.size w w' := by
  go_enter Try.func6, Try.ntmps6
  go_wp2_with (first | (go_at_call 20; refine (alive_any _).mono ?_; rintro e w0 ⟨rfl, hb0⟩; have B0 := Lib.hid hb0; clear hb0) | (go_at_call 21; refine (new_disk _).mono ?_; rintro e w1 ⟨p, b, rfl, hd1, hb1, hp, hb, _⟩; have D1 := Lib.hid hd1; have B1 := Lib.hid hb1; clear hd1 hb1) | (go_at_call 22; refine (budget_disk p b 0 _ (-1) n _ D1.out).mono ?_; rintro e w2 ⟨rfl, hd2, ht2⟩; have D2 := Lib.hid hd2; have T2 := Lib.hid ht2; clear hd2 ht2))
  have hmax : max (n : Int) (-1) = n := by omega
  have hd2 := D2.out
  rw [hmax] at hd2
  have D2 := Lib.hid hd2
  have hs0 := B0.out.size
  have hs1 := B1.out.size
  have hs2 := T2.out.size
  clear hd2 hmax
  go_loopw [20] (fun i wr => ∃ k : Nat, k ≤ many ∧ i = .int .i64 k ∧ DiskAt wr p b (GB (min k n)) ((n : Int) - (min k n : Nat)) (2 * k) ∧ Turned w2 wr p b) (fun i _ => many - (intOf i).toNat)
  case atStart => exact ⟨0, by omega, rfl, by rw [Nat.zero_min, gb_zero]; simpa using D2.out, turned_of_below (Below.refl _ _) p b⟩
  case round =>
    obtain ⟨k, hk, rfl, hd, ht⟩ := hrel
    have hszr := ht.size
    by_cases hlt : k < many
    · have a1 := fun (W : World) h => append_disk p b (2 * k) (GB (min k n)) ((n : Int) - (min k n : Nat)) (by omega) (by omega) (by simp only [maxLen]; omega) nF ⟨#[120]⟩ (by decide) (by rw [gb_get, size_xs]; show min k n + 1 ≤ _; omega) W h
      rw [begin_f] at a1
      by_cases hkn : k < n
      · have e1 : min k n = k := by omega
        have e2 : min (k + 1) n = k + 1 := by omega
        rw [e1] at hd a1
        rw [if_neg (by omega), gb_append, leftE, if_pos ⟨rfl, by omega⟩] at a1
        have a2 := fun (W : World) h => sync_disk p b (2 * k + 1) (GB (k + 1)) ((n : Int) - (k : Nat) - 1) (by omega) (by omega) (by simp only [maxLen]; omega) nNone (by decide) W h
        rw [begin_none] at a2
        unfold nF at a1
        unfold nNone at a2
        have A1 := Lib.hid a1
        have A2 := Lib.hid a2
        have HD := Lib.hid hd
        have HT := Lib.hid ht
        have E2 := Lib.hid e2
        clear a1 a2 hd ht e1 e2
        go_wp2_with (first | (go_at_call 23; refine (A1.out _ HD.out).mono ?_; rintro e w3 ⟨rfl, hd3, ht3⟩; have D3 := Lib.hid hd3; have T3 := Lib.hid ht3; clear hd3 ht3) | (go_at_call 24; refine (A2.out _ D3.out).mono ?_; rintro e w4 ⟨rfl, hd4, ht4⟩; have D4 := Lib.hid hd4; have T4 := Lib.hid ht4; clear hd4 ht4))
        go_roundw
        case measure => simp [intOf]; omega
        case rel =>
          refine ⟨k + 1, by omega, by go_num, ?_, (HT.out.trans T3.out).trans T4.out⟩
          have h := D4.out
          rw [E2.out, show ((n : Int) - ((k + 1 : Nat) : Int)) = (n : Int) - (k : Nat) - 1 by omega]
          exact h
      · have e1 : min k n = n := by omega
        have e2 : min (k + 1) n = n := by omega
        rw [e1] at hd a1
        rw [if_pos (by omega)] at a1
        have a2 := fun (W : World) h => sync_disk p b (2 * k + 1) (GB n) ((n : Int) - (n : Nat)) (by omega) (by omega) (by simp only [maxLen]; omega) nNone (by decide) W h
        rw [begin_none] at a2
        rw [show appendG 18 (GB n) nF ⟨#[120]⟩ = GB n from if_neg (by decide), show leftE 18 ((n : Int) - (n : Nat)) = (n : Int) - (n : Nat) from if_neg (by omega)] at a1
        rw [show syncG 10 (GB n) nNone = GB n from if_neg (by decide), show leftE 10 ((n : Int) - (n : Nat)) = (n : Int) - (n : Nat) from if_neg (by omega)] at a2
        unfold nF at a1
        unfold nNone at a2
        have A1 := Lib.hid a1
        have A2 := Lib.hid a2
        have HD := Lib.hid hd
        have HT := Lib.hid ht
        have E2 := Lib.hid e2
        clear a1 a2 hd ht e1 e2
        go_wp2_with (first | (go_at_call 23; refine (A1.out _ HD.out).mono ?_; rintro e w3 ⟨rfl, hd3, ht3⟩; have D3 := Lib.hid hd3; have T3 := Lib.hid ht3; clear hd3 ht3) | (go_at_call 24; refine (A2.out _ D3.out).mono ?_; rintro e w4 ⟨rfl, hd4, ht4⟩; have D4 := Lib.hid hd4; have T4 := Lib.hid ht4; clear hd4 ht4))
        go_roundw
        case measure => simp [intOf]; omega
        case rel =>
          refine ⟨k + 1, by omega, by go_num, ?_, (HT.out.trans T3.out).trans T4.out⟩
          have h := D4.out
          rw [E2.out]
          exact h
    · obtain ⟨j, hj⟩ : ∃ j, j = min k n := ⟨_, rfl⟩
      have hmin : (min (n : Int) (many : Int)) = (j : Int) := by omega
      rw [← hj] at hd
      have hjn : j ≤ n := by omega
      have hsx := size_xs j
      have hr := fun (W : World) h => read_disk p b (2 * k) (GB j) ((n : Int) - (j : Nat)) nF (by decide) W h
      rw [gb_read] at hr
      have hbd := fun (W : World) h => budget_disk p b (2 * k) (GB j) ((n : Int) - (j : Nat)) (-1) W h
      rw [show max (-1 : Int) (-1) = -1 from rfl] at hbd
      have a3 := fun (W : World) h => append_disk p b (2 * k) (GB j) (-1) (by omega) (by omega) (by simp only [maxLen]; omega) nF ⟨#[121]⟩ (by decide) (by rw [gb_get, size_xs]; show j + 1 ≤ _; omega) W h
      rw [begin_f, if_neg (by omega), show leftE 0 (-1) = -1 from rfl] at a3
      obtain ⟨GA, hGA⟩ : ∃ GA, GA = appendG 0 (GB j) nF ⟨#[121]⟩ := ⟨_, rfl⟩
      rw [← hGA] at a3
      have hga : ∀ x, x ≠ nF → GA x = none := fun x hx => by
        rw [hGA, appendG, if_pos rfl]; simp [FS.put, GB, hx]
      have hgf : isB GA nF = true := by
        rw [hGA, appendG, if_pos rfl]; simp [isB, FS.put]
      have a4 := fun (W : World) h => remove_disk p b (2 * k + 1) GA (-1) (by omega) (by omega) nF (by decide) W h
      rw [show beginE true GA (-1) nF [nF] = 0 by
        have : memB ⟨#[]⟩ [nF] = false := by decide
        rw [beginE, this, hgf]; rfl, show leftE 0 (-1) = -1 from rfl] at a4
      have hnn : ∀ x, ((removeG 0 GA nF) x).isSome = false := fun x => by
        rw [removeG, if_pos rfl]
        by_cases hx : x = nF
        · simp [FS.del, hx]
        · simp [FS.del, hx, hga x hx]
      unfold nF at hr a3 a4
      have A3 := Lib.hid a3
      have A4 := Lib.hid a4
      have HR := Lib.hid hr
      have HBD := Lib.hid hbd
      have HD := Lib.hid hd
      have HT := Lib.hid ht
      have HNN := Lib.hid hnn
      have HJ := Lib.hid hj
      clear a3 a4 hr hbd hd ht hnn hgf hga hGA hj
      obtain ⟨y, hy⟩ : ∃ y, y = xs j := ⟨_, rfl⟩
      rw [← hy] at hsx HR
      clear hy
      have hkm : k = many := by omega
      have hfin : ∀ W3 W4 W5 W6 W7 : World, Below wr.heap.size wr W3 → Turned W3 W4 p b → Turned W4 W5 p b → Turned W5 W6 p b → Below W6.heap.size W6 W7 → Below w.heap.size w W7 := fun W3 W4 W5 W6 W7 h3 h4 h5 h6 h7 => by
        have b1 := B0.out.trans (B1.out.mono hs0)
        have t := ((((T2.out.trans HT.out).trans (turned_of_below h3 p b)).trans h4).trans h5).trans h6
        have b2 := b1.trans (t.below (B := w.heap.size) (by omega) (by omega) (by omega))
        exact b2.trans (h7.mono b2.size)
      have HFIN := Lib.hid hfin
      clear hfin
      by_cases hj0 : 0 < j
      · rw [if_pos hj0] at HR
        have hje : (n ≤ many ∧ j = n) ∨ (many < n ∧ j = many) := by have := HJ.out; omega
        rcases hje with ⟨hle, rfl⟩ | ⟨hle, rfl⟩
        all_goals
          go_wp2_with (first | (go_at_call 25; refine (HR.out _ HD.out).mono ?_; rintro e w3 ⟨rfl, hb3⟩; have B3 := Lib.hid hb3; clear hb3) | (go_at_call 22; refine (HBD.out _ (HD.out.below B3.out)).mono ?_; rintro e w4 ⟨rfl, hd4, ht4⟩; have D4 := Lib.hid hd4; have T4 := Lib.hid ht4; clear hd4 ht4) | (go_at_call 23; refine (A3.out _ D4.out).mono ?_; rintro e w5 ⟨rfl, hd5, ht5⟩; have D5 := Lib.hid hd5; have T5 := Lib.hid ht5; clear hd5 ht5) | (go_at_call 26; refine (A4.out _ D5.out).mono ?_; rintro e w6 ⟨rfl, hd6, ht6⟩; have D6 := Lib.hid hd6; have T6 := Lib.hid ht6; clear hd6 ht6) | (go_at_call 27; refine (names_disk p b _ _ _ (by omega) _ D6.out).mono ?_; rintro e w7 ⟨v, l, rfl, hnm, _, hrow, hb7⟩; obtain rfl := names_none hnm HNN.out; obtain ⟨a9, c9, rfl, _⟩ := textsAt_owned hrow; have B7 := Lib.hid hb7; clear hnm hrow hb7))
          go_ret
          exact ⟨rfl, HFIN.out _ _ _ _ _ B3.out T4.out T5.out T6.out B7.out⟩
      · rw [if_neg hj0] at HR
        have hje : (n ≤ many ∧ j = n) ∨ (many < n ∧ j = many) := by have := HJ.out; omega
        rcases hje with ⟨hle, rfl⟩ | ⟨hle, rfl⟩
        all_goals
          go_wp2_with (first | (go_at_call 25; refine (HR.out _ HD.out).mono ?_; rintro e w3 ⟨rfl, hb3⟩; have B3 := Lib.hid hb3; clear hb3) | (go_at_call 22; refine (HBD.out _ (HD.out.below B3.out)).mono ?_; rintro e w4 ⟨rfl, hd4, ht4⟩; have D4 := Lib.hid hd4; have T4 := Lib.hid ht4; clear hd4 ht4) | (go_at_call 23; refine (A3.out _ D4.out).mono ?_; rintro e w5 ⟨rfl, hd5, ht5⟩; have D5 := Lib.hid hd5; have T5 := Lib.hid ht5; clear hd5 ht5) | (go_at_call 26; refine (A4.out _ D5.out).mono ?_; rintro e w6 ⟨rfl, hd6, ht6⟩; have D6 := Lib.hid hd6; have T6 := Lib.hid ht6; clear hd6 ht6) | (go_at_call 27; refine (names_disk p b _ _ _ (by omega) _ D6.out).mono ?_; rintro e w7 ⟨v, l, rfl, hnm, _, hrow, hb7⟩; obtain rfl := names_none hnm HNN.out; obtain ⟨a9, c9, rfl, _⟩ := textsAt_owned hrow; have B7 := Lib.hid hb7; clear hnm hrow hb7))
          go_ret
          exact ⟨rfl, HFIN.out _ _ _ _ _ B3.out T4.out T5.out T6.out B7.out⟩
end Go.Proofs.Ytpllcnpcplbobaa
namespace Go.Proofs.Ytpllcnpcplbobaa.diskBudget
open Go.RowKit
theorem walk (w : World) (a0 : Int) (w0 : (Lit.int .u8 a0).wf = true) (a1 : Int) (w1 : (Lit.int .u8 a1).wf = true) :
    Calls Try.prog 6 #[.int .u8 a0, .int .u8 a1] w fun e w' => e = .returned (.bool true) ∧ Below w.heap.size w w' := by
  have h0 := bounds_u8 w0
  have h1 := bounds_u8 w1
  obtain ⟨k, rfl⟩ := Int.eq_ofNat_of_zero_le h0.1
  obtain ⟨m, rfl⟩ := Int.eq_ofNat_of_zero_le h1.1
  exact dbudget_any k m (by omega) (by omega) w
end Go.Proofs.Ytpllcnpcplbobaa.diskBudget
namespace Go.Proofs.Ytpllcnpcplbobaa.diskBudget
open Go.ChangeShapes Go.WideShapes Go.ChangeAt Go.RowKit
open Go.ChangeMaps (open_string shut_string)
set_option linter.unusedVariables false
theorem own : ownKnob Try.prog.godebug = none := by kernel_rfl
theorem laidOut : laidOutB Try.prog = true := by kernel_rfl
theorem readable : ∀ t ∈ Try.f6.params.toList, Try.prog.readableRec t = true ∧ t < Try.prog.types.size := by
  have h : (Try.f6.params.toList.all fun t => Try.prog.readableRec t && decide (t < Try.prog.types.size)) = true := by kernel_rfl
  intro t ht
  have := List.all_eq_true.1 h t ht
  simpa using this
set_option maxRecDepth 100000 in
theorem lifted (os : Os) (started : os.Started) (H : Type) (enc : TypeId × Value → H) :
    ReturnsInHanded {} Try.checked os 6 .any (Rows.diskBudgetSpec.pre6 enc Try.prog Try.f6 Rows.diskBudgetRow.domain false) (Rows.diskBudgetSpec.post enc Try.prog Try.f6 false true false false) := by
  refine returnsInHanded_of_change (C := Try.checked) own started (by kernel_rfl) Try.func6
    (ChangeSpec.witness6 (enc := enc) (C := Try.checked) false ⟨#[], #[.int .u8 0, .int .u8 0], []⟩ 8 (by kernel_rfl) (by kernel_rfl) (by kernel_rfl) (by kernel_rfl)) ?_
  intro W base args ds gs before hval0 hW hcnd _
  have hval : ∀ (j : Nat) t v, Try.f6.params[j]? = some t → args[j]? = some v → Value.okWide Try.prog W .any base t v := hval0
  have hW' := hW
  obtain ⟨p, q, hA0, hV, rfl, hfz, hnd⟩ := hW
  have hA : DataW.TrodAll enc Try.prog W 0 (fun _ => true) true Try.f6.params.toList args.toList ds p := hA0
  have hAk := hA
  rw [Try.params6] at hA hval
  obtain ⟨v0, vs0, d0, ds0, p0, q0, hargs, rfl, rfl, h0, r0⟩ := trodAll_cons hA
  obtain ⟨v1, vs1, d1, ds1, p1, q1, rfl, rfl, rfl, h1, r1⟩ := trodAll_cons r0
  obtain ⟨rfl, rfl, rfl⟩ := trodAll_nil r1
  obtain rfl : args = #[v0, v1] := by cases args; simp_all
  obtain ⟨rfl, rfl⟩ := trodVars_none hV
  obtain ⟨a0, rfl, rfl, rfl, w0⟩ := open_int Try.underlying5 (hval 0 5 v0 rfl rfl) h0
  obtain ⟨a1, rfl, rfl, rfl, w1⟩ := open_int Try.underlying5 (hval 1 5 v1 rfl rfl) h1
  clear hA0 hval0
  simp only [List.append_nil] at hW'
  refine (walk W a0 w0 a1 w1).mono fun e W' ⟨he, hb⟩ => ?_
  subst he
  exact ⟨_, rfl, post_below (pa := _) (pv := []) hW' (fun _ _ _ => (trodAll_cons_mk (shut_bool Try.underlying4 _) trodAll_mk0)) (fun sp hsp => trodAll_stays laidOut hb readable hAk (fun x hx => hW'.lt x (by simp at hx)) (fun x hx => hsp x (by simp at hx))) (fun _ _ => rfl) (by simp)
    hb (ok_one (by kernel_rfl) rfl (okWide_bool_mk Try.underlying4 _))⟩
theorem over : Rows.diskBudgetRow.holds Try.pinned (OpenSpec.ofChange Rows.diskBudgetSpec) :=
  OpenClaim.holds_of_wide 6 Try.f6 rfl rfl rfl rfl rfl rfl rfl ⟨rfl, rfl, rfl, rfl, rfl⟩ rfl rfl rfl rfl rfl (by kernel_rfl) Try.func6 (by kernel_rfl)
    (of_decide_eq_true (by kernel_rfl)) (by unfold Func.isWrapper; first | (rw [if_pos (by decide +kernel)]; kernel_rfl) | (rw [if_neg (by decide +kernel)]; exact ⟨rfl, rfl⟩))
    (fun os started H enc _ => lifted os started H enc)
/-- The statement. -/
theorem proved : Rows.DiskBudgetSaid :=
  over
end Go.Proofs.Ytpllcnpcplbobaa.diskBudget
