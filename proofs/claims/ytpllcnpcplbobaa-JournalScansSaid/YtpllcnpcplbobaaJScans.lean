/-
  For any bytes the statement's function answers true: the records that the program reads out of bytes, and how many bytes these have, are the document's.
  Conditions: none besides the function's own guard (more than 500 bytes are answered by the fixed example).
-/
import Derived.Test.YtpllcnpcplbobaaJour6
import Derived.Test.YtpllcnpcplbobaaTexts
import Derived.Test.YtpllcnpcplbobaaPost
import Derived.Test.YtpllcnpcplbobaaRows
import Derived.WalkKit
import Derived.ProofKit
import Derived.OpenShut
import Derived.ShutString
namespace Go.Proofs.Ytpllcnpcplbobaa
open Go.RowKit
theorem length_scanF : ∀ (f : Nat) (s : ByteArray) (p : Nat), (scanF f s p).1.length ≤ f
  | 0, _, _ => Nat.le_refl _
  | f + 1, s, p => by
    cases h : stepAt s p with
    | none => rw [scanF_none h]; exact Nat.zero_le _
    | some r => rw [scanF_some h]; exact Nat.succ_le_succ (length_scanF f s _)
set_option maxRecDepth 100000 in
set_option maxHeartbeats 1000000 in
theorem jscans_any (s : ByteArray) (w : World) :
    Calls Try.prog 4 #[.string s] w fun e w' => e = .returned (.bool true) ∧ Below w.heap.size w w' := by
  by_cases h500 : s.size ≤ 500
  · have hlen : (scan s).1.length ≤ 1000 := Nat.le_trans (length_scanF _ _ _) (by omega)
    have f1 := fun W => scan_any s (by omega) W
    have f2 := fun W => rscan_any s (by omega) W
    obtain ⟨L, hL⟩ : ∃ L, L = scan s := ⟨_, rfl⟩
    rw [← hL] at f1 f2 hlen
    have F1 := Lib.hid f1
    have F2 := Lib.hid f2
    clear f1 f2 hL
    go_enter Try.func4, Try.ntmps4
    go_wp2_with (first | (go_at_call 15; refine (F1.out _).mono ?_; rintro e w1 ⟨v1, rfl, o1, b1⟩; have O1 := Lib.hid o1; have B1 := Lib.hid b1; clear o1 b1) | (go_at_call 16; refine (F2.out _).mono ?_; rintro e w2 ⟨v2, rfl, o2, b2⟩; have O2 := Lib.hid o2; have B2 := Lib.hid b2; clear o2 b2) | (go_at_call 17; refine (same08_any _ _ L.1 L.1 (by omega) _ ((textsAt_owned O1.out).below B2.out) (textsAt_owned O2.out)).mono ?_; rintro e w3 ⟨rfl, m, rfl⟩; rw [decide_eq_true rfl]) | (go_at_call 12; refine (fixed_any _).mono ?_; rintro e w4 ⟨rfl, b4⟩; have B4 := Lib.hid b4; clear b4))
    go_ret
    have b1 := B1.out
    have b2 := B2.out
    have b12 := b1.trans (b2.mono b1.size)
    exact ⟨rfl, (below_drewN b12 _).trans (B4.out.mono b12.size)⟩
  · go_enter Try.func4, Try.ntmps4
    go_wp2_with (go_at_call 12; refine (fixed_any _).mono ?_; rintro e w4 ⟨rfl, hb4⟩)
    go_ret
    exact ⟨rfl, hb4⟩
end Go.Proofs.Ytpllcnpcplbobaa
namespace Go.Proofs.Ytpllcnpcplbobaa.journalScans
open Go.RowKit
theorem walk (a0 : ByteArray) (_ : a0.size ≤ maxLen) (w : World) :
    Calls Try.prog 4 #[.string a0] w fun e w' => e = .returned (.bool true) ∧ Below w.heap.size w w' := jscans_any a0 w
end Go.Proofs.Ytpllcnpcplbobaa.journalScans
namespace Go.Proofs.Ytpllcnpcplbobaa.journalScans
open Go.ChangeShapes Go.WideShapes Go.ChangeAt Go.RowKit
open Go.ChangeMaps (open_string shut_string)
set_option linter.unusedVariables false
theorem own : ownKnob Try.prog.godebug = none := by kernel_rfl
set_option maxRecDepth 100000 in
theorem lifted (os : Os) (started : os.Started) (H : Type) (enc : TypeId × Value → H) :
    ReturnsInHanded {} Try.checked os 4 .any (Rows.journalScansSpec.pre6 enc Try.prog Try.f4 Rows.journalScansRow.domain false) (Rows.journalScansSpec.post enc Try.prog Try.f4 false true false false) := by
  refine returnsInHanded_of_change (C := Try.checked) own started (by kernel_rfl) Try.func4
    (ChangeSpec.witness6 (enc := enc) (C := Try.checked) false ⟨#[], #[.string ByteArray.empty], []⟩ 8 (by kernel_rfl) (by kernel_rfl) (by kernel_rfl) (by kernel_rfl)) ?_
  intro W base args ds gs before hval0 hW hcnd _
  have hval : ∀ (j : Nat) t v, Try.f4.params[j]? = some t → args[j]? = some v → Value.okWide Try.prog W .any base t v := hval0
  have hW' := hW
  obtain ⟨p, q, hA0, hV, rfl, hfz, hnd⟩ := hW
  have hA : DataW.TrodAll enc Try.prog W 0 (fun _ => true) true Try.f4.params.toList args.toList ds p := hA0
  rw [Try.params4] at hA hval
  obtain ⟨v0, vs0, d0, ds0, p0, q0, hargs, rfl, rfl, h0, r0⟩ := trodAll_cons hA
  obtain ⟨rfl, rfl, rfl⟩ := trodAll_nil r0
  obtain rfl : args = #[v0] := by cases args; simp_all
  obtain ⟨rfl, rfl⟩ := trodVars_none hV
  obtain ⟨a0, rfl, rfl, rfl, w0⟩ := open_string Try.underlying9 (hval 0 9 v0 rfl rfl) h0
  clear hA0 hval0
  simp only [List.append_nil] at hW'
  refine (walk a0 w0 W).mono fun e W' ⟨he, hb⟩ => ?_
  subst he
  exact ⟨_, rfl, post_below (pa := []) (pv := []) hW' (fun _ _ _ => (trodAll_cons_mk (shut_bool Try.underlying4 _) trodAll_mk0)) (fun sp _ => (trodAll_cons_mk (shut_string Try.underlying9 w0) trodAll_mk0)) (fun _ _ => rfl) rfl
    hb (ok_one (by kernel_rfl) rfl (okWide_bool_mk Try.underlying4 _))⟩
theorem over : Rows.journalScansRow.holds Try.pinned (OpenSpec.ofChange Rows.journalScansSpec) :=
  OpenClaim.holds_of_wide 4 Try.f4 rfl rfl rfl rfl rfl rfl rfl ⟨rfl, rfl, rfl, rfl, rfl⟩ rfl rfl rfl rfl rfl (by kernel_rfl) Try.func4 (by kernel_rfl)
    (of_decide_eq_true (by kernel_rfl)) (by unfold Func.isWrapper; first | (rw [if_pos (by decide +kernel)]; kernel_rfl) | (rw [if_neg (by decide +kernel)]; exact ⟨rfl, rfl⟩))
    (fun os started H enc _ => lifted os started H enc)
/-- The statement. -/
theorem proved : Rows.JournalScansSaid :=
  over
end Go.Proofs.Ytpllcnpcplbobaa.journalScans
