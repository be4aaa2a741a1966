/-
  For any two lists of records, any budget of writing calls and any picks of a crash the statement's function answers true: opened again, the journal has all that it had, or just what was to be put in place; the latter, if that was answered OK.
  Conditions: none besides the function's own guard.
-/
import Derived.Test.YtpllcnpcplbobaaJSwaps
import Derived.Test.YtpllcnpcplbobaaActs3
import Derived.Test.YtpllcnpcplbobaaPost2
import Derived.Test.YtpllcnpcplbobaaRows
import Derived.WalkKit
import Derived.ProofKit
import Derived.OpenShut
import Derived.ShutString
import Derived.SizedLaws
namespace Go.Proofs.Ytpllcnpcplbobaa.journalSwaps
open Go.RowKit
theorem walk (w : World) (v0 : Value) (l0 : List ByteArray) (n0 : l0.length ≤ maxLen) (t0 : TextsAt w v0 l0) (v1 : Value) (l1 : List ByteArray) (n1 : l1.length ≤ maxLen) (t1 : TextsAt w v1 l1) (a2 : Int) (w2 : (Lit.int .u8 a2).wf = true) (v3 : Value) (l3 : List Int) (n3 : l3.length ≤ 140737488351232) (t3 : NumsAt w v3 l3) :
    Calls Try.prog 11 #[v0, v1, .int .u8 a2, v3] w fun e w' => e = .returned (.bool true) ∧ Below w.heap.size w w' := by
  have := bounds_u8 w2
  obtain ⟨k, rfl⟩ := Int.eq_ofNat_of_zero_le this.1
  exact jswaps_any v0 v1 v3 l0 l1 l3 n0 n1 (by simp only [maxLen]; omega) k (by omega) w t0 t1 t3
end Go.Proofs.Ytpllcnpcplbobaa.journalSwaps
namespace Go.Proofs.Ytpllcnpcplbobaa.journalSwaps
open Go.ChangeShapes Go.WideShapes Go.ChangeAt Go.RowKit
open Go.ChangeMaps (open_string shut_string)
set_option linter.unusedVariables false
theorem own : ownKnob Try.prog.godebug = none := by kernel_rfl
theorem laidOut : laidOutB Try.prog = true := by kernel_rfl
theorem readable : ∀ t ∈ Try.f11.params.toList, Try.prog.readableRec t = true ∧ t < Try.prog.types.size := by
  have h : (Try.f11.params.toList.all fun t => Try.prog.readableRec t && decide (t < Try.prog.types.size)) = true := by kernel_rfl
  intro t ht
  have := List.all_eq_true.1 h t ht
  simpa using this
set_option maxRecDepth 100000 in
theorem lifted (os : Os) (started : os.Started) (H : Type) (enc : TypeId × Value → H) :
    ReturnsInHanded {} Try.checked os 11 .any (Rows.journalSwapsSpec.pre6 enc Try.prog Try.f11 Rows.journalSwapsRow.domain false) (Rows.journalSwapsSpec.post enc Try.prog Try.f11 false true false false) := by
  refine returnsInHanded_of_change_sized (C := Try.checked) own started (by kernel_rfl) Try.func11
    (ChangeSpec.witness6 (enc := enc) (C := Try.checked) false ⟨#[], #[.slice none 0 0, .slice none 0 0, .int .u8 0, .slice none 0 0], []⟩ 8 (by kernel_rfl) (by kernel_rfl) (by kernel_rfl) (by kernel_rfl)) ?_
  intro W base args ds gs before hval0 hW hcnd hsz0 _
  have hsz : (DataW.weightsEach Try.prog (Try.f11.params.toList ++ Rows.journalSwapsSpec.plain.varTypes Try.prog) (ds ++ gs)).all (· ≤ reachBytes) = true := hsz0
  have hval : ∀ (j : Nat) t v, Try.f11.params[j]? = some t → args[j]? = some v → Value.okWide Try.prog W .any base t v := hval0
  have hW' := hW
  obtain ⟨p, q, hA0, hV, rfl, hfz, hnd⟩ := hW
  have hA : DataW.TrodAll enc Try.prog W 0 (fun _ => true) true Try.f11.params.toList args.toList ds p := hA0
  have hAk := hA
  rw [Try.params11] at hA hval
  obtain ⟨v0, vs0, d0, ds0, p0, q0, hargs, rfl, rfl, h0, r0⟩ := trodAll_cons hA
  obtain ⟨v1, vs1, d1, ds1, p1, q1, rfl, rfl, rfl, h1, r1⟩ := trodAll_cons r0
  obtain ⟨v2, vs2, d2, ds2, p2, q2, rfl, rfl, rfl, h2, r2⟩ := trodAll_cons r1
  obtain ⟨v3, vs3, d3, ds3, p3, q3, rfl, rfl, rfl, h3, r3⟩ := trodAll_cons r2
  obtain ⟨rfl, rfl, rfl⟩ := trodAll_nil r3
  obtain rfl : args = #[v0, v1, v2, v3] := by cases args; simp_all
  obtain ⟨rfl, rfl⟩ := trodVars_none hV
  obtain ⟨l0, t0, n0, _⟩ := open_texts Try.underlying30 Try.underlying9 (by kernel_rfl) (hval 0 30 v0 rfl rfl) h0
  obtain ⟨l1, t1, n1, _⟩ := open_texts Try.underlying30 Try.underlying9 (by kernel_rfl) (hval 1 30 v1 rfl rfl) h1
  obtain ⟨a2, rfl, rfl, rfl, w2⟩ := open_int Try.underlying5 (hval 2 5 v2 rfl rfl) h2
  obtain ⟨l3, t3, n3⟩ := open_nums (hval 3 48 v3 rfl rfl) h3 (small_arg hsz (j := 3) rfl rfl)
  clear hA0 hval0
  simp only [List.append_nil] at hW'
  refine (walk W v0 l0 n0 t0 v1 l1 n1 t1 a2 w2 v3 l3 n3 t3).mono fun e W' ⟨he, hb⟩ => ?_
  subst he
  exact ⟨_, rfl, post_below (pa := _) (pv := []) hW' (fun _ _ _ => (trodAll_cons_mk (shut_bool Try.underlying4 _) trodAll_mk0)) (fun sp hsp => trodAll_stays laidOut hb readable hAk (fun x hx => hW'.lt x (by simpa using hx)) (fun x hx => hsp x (by simpa using hx))) (fun _ _ => rfl) (by simp)
    hb (ok_one (by kernel_rfl) rfl (okWide_bool_mk Try.underlying4 _))⟩
theorem over : Rows.journalSwapsRow.holds Try.pinned (OpenSpec.ofChange Rows.journalSwapsSpec) :=
  OpenClaim.holds_of_wide 11 Try.f11 rfl rfl rfl rfl rfl rfl rfl ⟨rfl, rfl, rfl, rfl, rfl⟩ rfl rfl rfl rfl rfl (by kernel_rfl) Try.func11 (by kernel_rfl)
    (of_decide_eq_true (by kernel_rfl)) (by unfold Func.isWrapper; first | (rw [if_pos (by decide +kernel)]; kernel_rfl) | (rw [if_neg (by decide +kernel)]; exact ⟨rfl, rfl⟩))
    (fun os started H enc _ => lifted os started H enc)
/-- The statement. -/
theorem proved : Rows.JournalSwapsSaid :=
  over
end Go.Proofs.Ytpllcnpcplbobaa.journalSwaps
