/-
  For any record and any number of further bytes the statement's function answers true: the program's frame is the document's frame, byte by byte.
  Conditions: none besides the function's own guard (a record of more than 300 bytes is answered by the fixed example).
-/
import Derived.Test.YtpllcnpcplbobaaJour3
import Derived.Test.YtpllcnpcplbobaaPost
import Derived.Test.YtpllcnpcplbobaaRows
import Derived.WalkKit
import Derived.ProofKit
import Derived.OpenShut
import Derived.ShutString
import Derived.Laws.OwnMore
namespace Go.Proofs.Ytpllcnpcplbobaa
open Go.RowKit
theorem rframeV_eq (rec : ByteArray) : rframeV rec = frameV rec := rfl
theorem frameV_small {rec : ByteArray} (h : rec.size ≤ 1048576) : frameV rec = .tuple #[.string (frameS rec), .int .i64 0] := if_pos h
theorem frameV_great {rec : ByteArray} (h : 1048576 < rec.size) : frameV rec = .tuple #[.string ⟨#[]⟩, .int .i64 6] := if_neg (by omega)
theorem make_zeros (n : Nat) (hn : n ≤ 2097152) (k : Int) (hk : k = (n : Int)) (W : World) :
    (Instr.makeSlice 28 (.int .i64 k) (.int .i64 k)).run Try.prog W = .ok (.slice (some ⟨W.heap.size, 0, none⟩) n n) (W.alloc (.cells (madeCells #[.int .u8 0] n) 5)) := by
  subst hk
  exact run_make_row' (P := Try.prog) 28 5 (.int .u8 0) 1 Try.underlying28 (by kernel_rfl) rfl .i64 .i64 n (by omega) (by omega) W
theorem conv_zeros (n : Nat) (W : World) :
    (convert 28 9 (.slice (some ⟨W.heap.size, 0, none⟩) n n)).run Try.prog (W.alloc (.cells (madeCells #[.int .u8 0] n) 5)) = .ok (.string (strOfNums (List.replicate n 0))) (W.alloc (.cells (madeCells #[.int .u8 0] n) 5)) := by
  have h := conv_new W (List.replicate n 0) n n (by simp) 5
  have e : (Sha.u8s (List.replicate n 0)).toArray = madeCells #[.int .u8 0] n := by
    apply Array.ext'
    rw [toList_madeCells_one]
    simp [Sha.u8s]
  rw [e, List.take_of_length_le (by simp)] at h
  exact h
set_option maxRecDepth 100000 in
set_option maxHeartbeats 1000000 in
theorem jframes_any (a0 : ByteArray) (k : Nat) (hk : k < 256) (w : World) :
    Calls Try.prog 3 #[.string a0, .int .u8 (k : Int)] w fun e w' => e = .returned (.bool true) ∧ Below w.heap.size w w' := by
  by_cases h300 : a0.size ≤ 300
  · have f1 := fun W => frame_any a0 W
    have f2 := fun W => rframe_any a0 W
    rw [rframeV_eq, frameV_small (by omega)] at f2
    rw [frameV_small (by omega)] at f1
    obtain ⟨n, hn⟩ : ∃ n, n = 1048577 + k := ⟨_, rfl⟩
    have hm := make_zeros n (by omega) (1048577 + (k : Int)) (by omega)
    have hc := conv_zeros n
    have hsz : (strOfNums (List.replicate n 0)).size = n := by rw [strOfNums_size, List.length_replicate]
    have f3 := fun W => frame_any (strOfNums (List.replicate n 0)) W
    rw [frameV_great (by omega)] at f3
    obtain ⟨z, hz⟩ : ∃ z, z = strOfNums (List.replicate n 0) := ⟨_, rfl⟩
    obtain ⟨y, hy⟩ : ∃ y, y = frameS a0 := ⟨_, rfl⟩
    rw [← hz] at hc f3
    rw [← hy] at f1 f2
    have F1 := Lib.hid f1
    have F2 := Lib.hid f2
    have F3 := Lib.hid f3
    clear f1 f2 f3 hz hy hsz hn
    go_enter Try.func3, Try.ntmps3
    go_wp2_with (first | (go_at_call_of 13 (Value.string a0); refine (F1.out _).mono ?_; rintro e w1 ⟨rfl, hb1⟩; have B1 := Lib.hid hb1; clear hb1) | (go_at_call_of 13 (Value.string z); refine (F3.out _).mono ?_; rintro e w3 ⟨rfl, hb3⟩; have B3 := Lib.hid hb3; clear hb3) | (go_at_call 14; refine (F2.out _).mono ?_; rintro e w2 ⟨rfl, hb2⟩; have B2 := Lib.hid hb2; clear hb2) | (go_at_call 12; refine (fixed_any _).mono ?_; rintro e w4 ⟨rfl, hb4⟩; have B4 := Lib.hid hb4; clear hb4))
    go_ret
    refine ⟨rfl, ?_⟩
    have b1 := B1.out
    have b2 := B2.out
    have b3 := B3.out
    have b4 := B4.out
    have b12 := b1.trans (b2.mono b1.size)
    have b13 := (b12.alloc b12.size _).trans (b3.mono (by have := b12.size; simp; omega))
    exact b13.trans (b4.mono (by have := b12.size; have := b3.size; simp at *; omega))
  · go_enter Try.func3, Try.ntmps3
    go_wp2_with (go_at_call 12; refine (fixed_any _).mono ?_; rintro e w4 ⟨rfl, hb4⟩)
    go_ret
    exact ⟨rfl, hb4⟩
end Go.Proofs.Ytpllcnpcplbobaa
namespace Go.Proofs.Ytpllcnpcplbobaa.journalFrames
open Go.ChangeShapes Go.WideShapes Go.ChangeAt Go.RowKit
open Go.ChangeMaps (open_string shut_string)
set_option linter.unusedVariables false
theorem own : ownKnob Try.prog.godebug = none := by kernel_rfl
theorem walk (a0 : ByteArray) (a1 : Int) (w0 : a0.size ≤ maxLen) (w1 : (Lit.int .u8 a1).wf = true) (w : World) :
    Calls Try.prog 3 #[.string a0, .int .u8 a1] w fun e w' => e = .returned (.bool true) ∧ Below w.heap.size w w' := by
  have h : 0 ≤ a1 ∧ a1 < 256 := by
    have := bounds_u8 w1
    omega
  obtain ⟨k, rfl⟩ := Int.eq_ofNat_of_zero_le h.1
  exact jframes_any a0 k (by omega) w
set_option maxRecDepth 100000 in
theorem lifted (os : Os) (started : os.Started) (H : Type) (enc : TypeId × Value → H) :
    ReturnsInHanded {} Try.checked os 3 .any (Rows.journalFramesSpec.pre6 enc Try.prog Try.f3 Rows.journalFramesRow.domain false) (Rows.journalFramesSpec.post enc Try.prog Try.f3 false true false false) := by
  refine returnsInHanded_of_change (C := Try.checked) own started (by kernel_rfl) Try.func3
    (ChangeSpec.witness6 (enc := enc) (C := Try.checked) false ⟨#[], #[.string ByteArray.empty, .int .u8 0], []⟩ 8 (by kernel_rfl) (by kernel_rfl) (by kernel_rfl) (by kernel_rfl)) ?_
  intro W base args ds gs before hval0 hW hcnd _
  have hval : ∀ (j : Nat) t v, Try.f3.params[j]? = some t → args[j]? = some v → Value.okWide Try.prog W .any base t v := hval0
  have hW' := hW
  obtain ⟨p, q, hA0, hV, rfl, hfz, hnd⟩ := hW
  have hA : DataW.TrodAll enc Try.prog W 0 (fun _ => true) true Try.f3.params.toList args.toList ds p := hA0
  rw [Try.params3] at hA hval
  obtain ⟨v0, vs0, d0, ds0, p0, q0, hargs, rfl, rfl, h0, r0⟩ := trodAll_cons hA
  obtain ⟨v1, vs1, d1, ds1, p1, q1, rfl, rfl, rfl, h1, r1⟩ := trodAll_cons r0
  obtain ⟨rfl, rfl, rfl⟩ := trodAll_nil r1
  obtain rfl : args = #[v0, v1] := by cases args; simp_all
  obtain ⟨rfl, rfl⟩ := trodVars_none hV
  obtain ⟨a0, rfl, rfl, rfl, w0⟩ := open_string Try.underlying9 (hval 0 9 v0 rfl rfl) h0
  obtain ⟨a1, rfl, rfl, rfl, w1⟩ := open_int Try.underlying5 (hval 1 5 v1 rfl rfl) h1
  clear hA0 hval0
  simp only [List.append_nil] at hW'
  refine (walk a0 a1 w0 w1 W).mono fun e W' ⟨he, hb⟩ => ?_
  subst he
  exact ⟨_, rfl, post_below (pa := []) (pv := []) hW' (fun _ _ _ => (trodAll_cons_mk (shut_bool Try.underlying4 _) trodAll_mk0)) (fun sp _ => (trodAll_cons_mk (shut_string Try.underlying9 w0) (trodAll_cons_mk (shut_int Try.underlying5 w1) trodAll_mk0))) (fun _ _ => rfl) rfl
    hb (ok_one (by kernel_rfl) rfl (okWide_bool_mk Try.underlying4 _))⟩
theorem over : Rows.journalFramesRow.holds Try.pinned (OpenSpec.ofChange Rows.journalFramesSpec) :=
  OpenClaim.holds_of_wide 3 Try.f3 rfl rfl rfl rfl rfl rfl rfl ⟨rfl, rfl, rfl, rfl, rfl⟩ rfl rfl rfl rfl rfl (by kernel_rfl) Try.func3 (by kernel_rfl)
    (of_decide_eq_true (by kernel_rfl)) (by unfold Func.isWrapper; first | (rw [if_pos (by decide +kernel)]; kernel_rfl) | (rw [if_neg (by decide +kernel)]; exact ⟨rfl, rfl⟩))
    (fun os started H enc _ => lifted os started H enc)
/-- The statement. -/
theorem proved : Rows.JournalFramesSaid :=
  over
end Go.Proofs.Ytpllcnpcplbobaa.journalFrames
