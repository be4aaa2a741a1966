/-
  For any records, one more record and any number, the statement's function answers true: of the records' frames, and of the front of one more frame behind them, the program reads just the records.
  Conditions: none besides the function's own guard (more than 12 records, or one of more than 100 bytes, are answered by the fixed example).
-/
import Derived.Test.YtpllcnpcplbobaaJour5
import Derived.Test.YtpllcnpcplbobaaJour3
import Derived.Test.YtpllcnpcplbobaaTailsPure
import Derived.Test.YtpllcnpcplbobaaTexts
import Derived.Test.YtpllcnpcplbobaaText
import Derived.Test.YtpllcnpcplbobaaPost2
import Derived.Test.YtpllcnpcplbobaaRows
import Derived.WalkKit
import Derived.ProofKit
import Derived.OpenShut
import Derived.ShutString
namespace Go.Proofs.Ytpllcnpcplbobaa
open Go.RowKit
theorem size_framesL_le : ∀ l : List ByteArray, (∀ x ∈ l, x.size ≤ 100) → (framesL l).size ≤ 112 * l.length
  | [], _ => Nat.le_refl _
  | r :: l, h => by
    have h1 := h r (List.mem_cons_self ..)
    have h2 := size_framesL_le l fun x hx => h x (List.mem_cons_of_mem _ hx)
    rw [framesL, ByteArray.size_append, size_frameS]; simp; omega
set_option maxRecDepth 100000 in
set_option maxHeartbeats 1000000 in
theorem rframes_any (va : Value) (A : List ByteArray) (hAm : A.length ≤ 12) (hs : ∀ x ∈ A, x.size ≤ 100) (w : World) (hA : TextsAt w va A) :
    Calls Try.prog 19 #[va] w fun e w' => e = .returned (.tuple #[.string (framesL A), .int .i64 0]) ∧ Below w.heap.size w w' := by
  obtain ⟨a, ca, rfl, ha⟩ := hA
  have HA := Lib.hid ha
  have HS := Lib.hid hs
  obtain ⟨n, hn⟩ : ∃ n, n = A.length := ⟨_, rfl⟩
  rw [← hn] at hAm ⊢
  have HN := Lib.hid hn
  clear ha hn hs
  go_enter Try.func19, Try.ntmps19
  go_wp2_with fail
  go_loopw [4, 10] (fun s i wr => ∃ k : Nat, k ≤ n ∧ i = .int .i64 k ∧ s = .string (framesL (A.take k)) ∧ Below w.heap.size w wr) (fun _ i _ => n - (intOf i).toNat)
  case atStart => exact ⟨0, by omega, rfl, rfl, Below.refl _ _⟩
  case round =>
    obtain ⟨k, hk, rfl, rfl, hbel⟩ := hrel
    by_cases hlt : k < n
    · have hAk : k < A.length := by rw [← HN.out]; exact hlt
      rcases HA.out with h0 | ⟨b1, o1, rfl, hc1⟩
      · omega
      have d1 : wr.cell? ⟨b1, o1 + k, none⟩ = some (.string A[k]) := (hbel.cell (World.block_lt_of_cell? _ _ (hc1 k hAk))).trans (hc1 k hAk)
      have hx0 : A[k].size ≤ 100 := HS.out _ (List.getElem_mem hAk)
      have htk : framesL (A.take (k + 1)) = framesL (A.take k) ++ frameS A[k] := by rw [List.take_succ_eq_append_getElem hAk, framesL_snoc]
      have hsz : (framesL (A.take k)).size ≤ 112 * 12 := by
        have := size_framesL_le (A.take k) fun x hx => HS.out x (List.mem_of_mem_take hx)
        rw [List.length_take] at this; omega
      obtain ⟨x, hx⟩ : ∃ x, x = A[k] := ⟨_, rfl⟩
      rw [← hx] at d1 hx0 htk
      have hfx := size_frameS x
      have hf := fun W => rframe_any x W
      rw [show rframeV x = .tuple #[.string (frameS x), .int .i64 0] from if_pos (by omega)] at hf
      have HF := Lib.hid hf
      have HX := Lib.hid hx
      have HT := Lib.hid htk
      clear hc1 HA hx hf htk
      go_wp2_with (go_at_call 14; refine (HF.out _).mono ?_; rintro e w1 ⟨rfl, hb1⟩)
      go_roundw
      case measure => simp [intOf]; omega
      case rel => exact ⟨k + 1, by omega, by go_num, by rw [HT.out], hbel.trans (hb1.mono hbel.size)⟩
    · have hkn : A.take k = A := List.take_of_length_le (by rw [← HN.out]; omega)
      rw [hkn]
      go_wp2
      go_ret2
      exact ⟨rfl, hbel⟩
theorem greatL_false {A : List ByteArray} (h : greatL A = false) : A.length ≤ 12 ∧ ∀ x ∈ A, x.size ≤ 100 := by
  simp only [greatL, Bool.or_eq_false_iff, List.any_eq_false, decide_eq_true_eq, decide_eq_false_iff_not] at h
  exact ⟨by omega, fun x hx => by have := h.1 x hx; omega⟩
set_option maxRecDepth 100000 in
set_option maxHeartbeats 1000000 in
theorem jtails_any (va : Value) (A : List ByteArray) (hAm : A.length ≤ maxLen) (rec : ByteArray) (k : Nat) (hk : k < 65536) (w : World) (hA : TextsAt w va A) :
    Calls Try.prog 5 #[va, .string rec, .int .u16 (k : Int)] w fun e w' => e = .returned (.bool true) ∧ Below w.heap.size w w' := by
  have hg := great_any va A (by unfold maxLen at hAm; omega) w hA
  cases hgr : greatL A with
  | true =>
    rw [hgr] at hg
    have HG := Lib.hid hg
    clear hg
    go_enter Try.func5, Try.ntmps5
    go_wp2_with (first | (go_at_call 18; refine (HG.out).mono ?_; rintro e w1 ⟨rfl, rfl⟩) | (go_at_call 12; refine (fixed_any _).mono ?_; rintro e w4 ⟨rfl, hb4⟩))
    go_ret
    exact ⟨rfl, hb4⟩
  | false =>
    rw [hgr] at hg
    have HG := Lib.hid hg
    clear hg
    by_cases hrec : rec.size ≤ 100
    · obtain ⟨hA12, hA100⟩ := greatL_false hgr
      have hF := rframes_any va A hA12 hA100 w hA
      have hfr := fun W => frame_any rec W
      rw [show frameV rec = .tuple #[.string (frameS rec), .int .i64 0] from if_pos (by omega)] at hfr
      have hsz := size_frameS rec
      have hbs := size_framesL_le A hA100
      have hmod : k % (12 + rec.size) < 12 + rec.size := Nat.mod_lt _ (by omega)
      have hcut := run_cut_high (P := Try.prog) 9 Try.underlying9 (frameS rec) (k % (12 + rec.size)) (by rw [hsz]; omega) ((k : Int) % (12 + (rec.size : Int))) (by rw [Int.natCast_emod, Int.natCast_add]; rfl)
      have hscan := scan_frames A (fun x hx => by have := hA100 x hx; omega) rec (by omega) (k % (12 + rec.size)) hmod
      obtain ⟨y, hy⟩ : ∃ y, y = (frameS rec).extract 0 (k % (12 + rec.size)) := ⟨_, rfl⟩
      have hys : y.size ≤ 112 := by rw [hy, ByteArray.size_extract]; omega
      rw [← hy] at hcut hscan
      obtain ⟨b, hb⟩ : ∃ b, b = framesL A := ⟨_, rfl⟩
      rw [← hb] at hF hscan hbs
      obtain ⟨f, hf⟩ : ∃ f, f = frameS rec := ⟨_, rfl⟩
      rw [← hf] at hfr hsz hcut
      have hsc := fun W => scan_any (b ++ y) (by rw [ByteArray.size_append]; omega) W
      rw [hscan] at hsc
      have HF := Lib.hid hF
      have HFR := Lib.hid hfr
      have HSC := Lib.hid hsc
      have HTA := Lib.hid hA
      clear hF hfr hsc hscan hmod hy hb hf hA hA100
      go_enter Try.func5, Try.ntmps5
      go_wp2_with (first | (go_at_call 18; refine (HG.out).mono ?_; rintro e w1 ⟨rfl, rfl⟩) | (go_at_call 19; refine (HF.out).mono ?_; rintro e w1 ⟨rfl, hb1⟩; have B1 := Lib.hid hb1; clear hb1) | (go_at_call 13; refine (HFR.out _).mono ?_; rintro e w2 ⟨rfl, hb2⟩; have B2 := Lib.hid hb2; clear hb2) | (go_at_call 15; refine (HSC.out _).mono ?_; rintro e w3 ⟨v3, rfl, o3, b3⟩; have O3 := Lib.hid o3; have B3 := Lib.hid b3; clear o3 b3) | (go_at_call 17; refine (same08_any _ _ A A (by omega) _ (textsAt_owned O3.out) (((HTA.out.below B1.out).below B2.out).below B3.out)).mono ?_; rintro e w4 ⟨rfl, m, rfl⟩; rw [decide_eq_true rfl]) | (go_at_call 12; refine (fixed_any _).mono ?_; rintro e w5 ⟨rfl, b5⟩; have B5 := Lib.hid b5; clear b5))
      go_ret
      have b1 := B1.out
      have b12 := b1.trans (B2.out.mono b1.size)
      have b13 := b12.trans (B3.out.mono b12.size)
      exact ⟨rfl, (below_drewN b13 _).trans (B5.out.mono b13.size)⟩
    · go_enter Try.func5, Try.ntmps5
      go_wp2_with (first | (go_at_call 18; refine (HG.out).mono ?_; rintro e w1 ⟨rfl, rfl⟩) | (go_at_call 12; refine (fixed_any _).mono ?_; rintro e w4 ⟨rfl, hb4⟩))
      go_ret
      exact ⟨rfl, hb4⟩
end Go.Proofs.Ytpllcnpcplbobaa
namespace Go.Proofs.Ytpllcnpcplbobaa.journalTails
open Go.RowKit
theorem walk (w : World) (v0 : Value) (l0 : List ByteArray) (n0 : l0.length ≤ maxLen) (t0 : TextsAt w v0 l0) (a1 : ByteArray) (_ : a1.size ≤ maxLen) (a2 : Int) (w2 : (Lit.int .u16 a2).wf = true) :
    Calls Try.prog 5 #[v0, .string a1, .int .u16 a2] w fun e w' => e = .returned (.bool true) ∧ Below w.heap.size w w' := by
  have := bounds_u16 w2
  obtain ⟨k, rfl⟩ := Int.eq_ofNat_of_zero_le this.1
  exact jtails_any v0 l0 n0 a1 k (by omega) w t0
end Go.Proofs.Ytpllcnpcplbobaa.journalTails
namespace Go.Proofs.Ytpllcnpcplbobaa.journalTails
open Go.ChangeShapes Go.WideShapes Go.ChangeAt Go.RowKit
open Go.ChangeMaps (open_string shut_string)
set_option linter.unusedVariables false
theorem own : ownKnob Try.prog.godebug = none := by kernel_rfl
theorem laidOut : laidOutB Try.prog = true := by kernel_rfl
theorem readable : ∀ t ∈ Try.f5.params.toList, Try.prog.readableRec t = true ∧ t < Try.prog.types.size := by
  have h : (Try.f5.params.toList.all fun t => Try.prog.readableRec t && decide (t < Try.prog.types.size)) = true := by kernel_rfl
  intro t ht
  have := List.all_eq_true.1 h t ht
  simpa using this
set_option maxRecDepth 100000 in
theorem lifted (os : Os) (started : os.Started) (H : Type) (enc : TypeId × Value → H) :
    ReturnsInHanded {} Try.checked os 5 .any (Rows.journalTailsSpec.pre6 enc Try.prog Try.f5 Rows.journalTailsRow.domain false) (Rows.journalTailsSpec.post enc Try.prog Try.f5 false true false false) := by
  refine returnsInHanded_of_change (C := Try.checked) own started (by kernel_rfl) Try.func5
    (ChangeSpec.witness6 (enc := enc) (C := Try.checked) false ⟨#[], #[.slice none 0 0, .string ByteArray.empty, .int .u16 0], []⟩ 8 (by kernel_rfl) (by kernel_rfl) (by kernel_rfl) (by kernel_rfl)) ?_
  intro W base args ds gs before hval0 hW hcnd _
  have hval : ∀ (j : Nat) t v, Try.f5.params[j]? = some t → args[j]? = some v → Value.okWide Try.prog W .any base t v := hval0
  have hW' := hW
  obtain ⟨p, q, hA0, hV, rfl, hfz, hnd⟩ := hW
  have hA : DataW.TrodAll enc Try.prog W 0 (fun _ => true) true Try.f5.params.toList args.toList ds p := hA0
  have hAk := hA
  rw [Try.params5] at hA hval
  obtain ⟨v0, vs0, d0, ds0, p0, q0, hargs, rfl, rfl, h0, r0⟩ := trodAll_cons hA
  obtain ⟨v1, vs1, d1, ds1, p1, q1, rfl, rfl, rfl, h1, r1⟩ := trodAll_cons r0
  obtain ⟨v2, vs2, d2, ds2, p2, q2, rfl, rfl, rfl, h2, r2⟩ := trodAll_cons r1
  obtain ⟨rfl, rfl, rfl⟩ := trodAll_nil r2
  obtain rfl : args = #[v0, v1, v2] := by cases args; simp_all
  obtain ⟨rfl, rfl⟩ := trodVars_none hV
  obtain ⟨l0, t0, n0, _⟩ := open_texts Try.underlying30 Try.underlying9 (by kernel_rfl) (hval 0 30 v0 rfl rfl) h0
  obtain ⟨a1, rfl, rfl, rfl, w1⟩ := open_string Try.underlying9 (hval 1 9 v1 rfl rfl) h1
  obtain ⟨a2, rfl, rfl, rfl, w2⟩ := open_int Try.underlying35 (hval 2 35 v2 rfl rfl) h2
  clear hA0 hval0
  simp only [List.append_nil] at hW'
  refine (walk W v0 l0 n0 t0 a1 w1 a2 w2).mono fun e W' ⟨he, hb⟩ => ?_
  subst he
  exact ⟨_, rfl, post_below (pa := _) (pv := []) hW' (fun _ _ _ => (trodAll_cons_mk (shut_bool Try.underlying4 _) trodAll_mk0)) (fun sp hsp => trodAll_stays laidOut hb readable hAk (fun x hx => hW'.lt x (by simpa using hx)) (fun x hx => hsp x (by simpa using hx))) (fun _ _ => rfl) (by simp)
    hb (ok_one (by kernel_rfl) rfl (okWide_bool_mk Try.underlying4 _))⟩
theorem over : Rows.journalTailsRow.holds Try.pinned (OpenSpec.ofChange Rows.journalTailsSpec) :=
  OpenClaim.holds_of_wide 5 Try.f5 rfl rfl rfl rfl rfl rfl rfl ⟨rfl, rfl, rfl, rfl, rfl⟩ rfl rfl rfl rfl rfl (by kernel_rfl) Try.func5 (by kernel_rfl)
    (of_decide_eq_true (by kernel_rfl)) (by unfold Func.isWrapper; first | (rw [if_pos (by decide +kernel)]; kernel_rfl) | (rw [if_neg (by decide +kernel)]; exact ⟨rfl, rfl⟩))
    (fun os started H enc _ => lifted os started H enc)
/-- The statement. -/
theorem proved : Rows.JournalTailsSaid :=
  over
end Go.Proofs.Ytpllcnpcplbobaa.journalTails
