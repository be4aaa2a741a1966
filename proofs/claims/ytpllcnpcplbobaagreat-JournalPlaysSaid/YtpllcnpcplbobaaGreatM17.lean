import Derived.Test.YtpllcnpcplbobaaGreatM15
import Derived.Test.YtpllcnpcplbobaaGreatM16
namespace Go.Proofs.YtpllcnpcplbobaaGreat
open Go.RowKit Go.Maps
set_option linter.unusedVariables false
attribute [local go_sem ↓] Go.wp_at_zero Go.wp_at_succ
theorem sufx_ne (name : ByteArray) : name ++ sufx ≠ ⟨#[]⟩ := fun e => by
  have hx4 : (name ++ sufx).size = name.size + 4 := by rw [ByteArray.size_append]; rfl
  rw [e] at hx4
  exact absurd hx4 (by show ¬ (0 = name.size + 4); omega)
theorem run_sufx (name : ByteArray) (hn : name.size ≤ 1099511627776) (W : World) : (Op.stringOp .add name ⟨#[46, 110, 101, 119]⟩).run Tryz.prog W = .ok (.string (name ++ ⟨#[46, 110, 101, 119]⟩)) W :=
  run_string_add_sum W _ _ (by have : ((⟨#[46, 110, 101, 119]⟩ : ByteArray).size : Int) = 4 := rfl; omega)
/-- A block in which no text stands. -/
def NoText (w : World) (q : Nat) : Prop := ∀ i s, w.cell? ⟨q, i, none⟩ ≠ some (.string s)
theorem noText_disk {w : World} {q n c : Nat} {a : Option Addr} {m : Int} {t : TypeId} (h : w.heap[q]? = some (.cells #[.slice a n c, .int .i64 m] t (0, 0))) : NoText w q := fun i s e => by
  rw [cell_of_row _ _ _ _ _ _ h] at e
  match i with
  | 0 => cases e
  | 1 => cases e
  | i + 2 => cases e
theorem NoText.set {w : World} {q i : Nat} {u0 u : Value} (h : NoText w q) (hc : w.cell? ⟨q, i, none⟩ = some u0) (hu : ∀ s, u ≠ .string s) : NoText (w.setCell ⟨q, i, none⟩ u) q := fun j s e => by
  by_cases hj : j = i
  · subst hj
    rw [World.cell?_setCell_same _ _ _ hc] at e
    exact hu s (Option.some.inj e)
  · rw [World.cell?_setCell_other _ _ _ _ (by intro e; injection e with _ e; exact hj e.symm)] at e
    exact h j s e
theorem FilesAt.set {w : World} {v : Value} {l : List RF} {q i : Nat} (u : Value) (h : FilesAt w v l) (hq : NoText w q) : FilesAt (w.setCell ⟨q, i, none⟩ u) v l := by
  obtain ⟨a, c, hv, h0 | ⟨b, o, ha, hc⟩⟩ := h
  · exact ⟨a, c, hv, .inl h0⟩
  · refine ⟨a, c, hv, ?_⟩
    by_cases h0 : l.length = 0
    · exact .inl h0
    · have hb : b ≠ q := fun e => by
        have := hc 0 (by omega) 0 (.string (l[0]'(by omega)).1) rfl
        rw [e] at this
        exact hq _ _ this
      exact .inr ⟨b, o, ha, fun j hj k x hx => (World.cell?_setCell_other _ _ _ _ (by intro e; injection e with e; exact hb e.symm)).trans (hc j hj k x hx)⟩
theorem RefAt.set {w : World} {v : Value} {g : FS} {N q i : Nat} (u : Value) (h : RefAt w v g N) (hq : NoText w q) : RefAt (w.setCell ⟨q, i, none⟩ u) v g N := by
  obtain ⟨l, h1, h2, h3⟩ := h
  exact ⟨l, h1.set u hq, h2, h3⟩
/-- The result's block written, the row stays. -/
theorem RefAt.last {w : World} {v : Value} {g : FS} {N q n c n2 c2 : Nat} {a a2 : Option Addr} {m m2 : Int} {t : TypeId} (h : RefAt w v g N) (hb : w.heap[q]? = some (.cells #[.slice a n c, .int .i64 m] t (0, 0))) :
    RefAt ((w.setCell ⟨q, 0, none⟩ (.slice a2 n2 c2)).setCell ⟨q, 1, none⟩ (.int .i64 m2)) v g N :=
  (h.set _ (noText_disk hb)).set _ ((noText_disk hb).set (blk2 hb).1 (fun _ e => by cases e))
set_option maxRecDepth 100000 in
set_option maxHeartbeats 2000000 in
theorem rclear_any (va : Value) (g : FS) (N : Nat) (hN : N ≤ 1099511627775) (left : Int) (h1 : -1 ≤ left) (h2 : left ≤ 9223372036854775807) (name : ByteArray) (hn : name.size ≤ 1099511627776) (w : World) (hA : RefAt w va g N) :
    Calls Tryz.prog 30 #[.agg #[va, .int .i64 left], .string name] w fun e w' => ∃ v', e = .returned (.tuple #[.agg #[v', .int .i64 (tidyL g left (name ++ sufx))], .int .i64 (tidyE g left (name ++ sufx))]) ∧
      RefAt w' v' (tidyG g left (name ++ sufx)) N ∧ Below w.heap.size w w' := by
  have hsn := sufx_ne name
  have hmem := mem_one hsn
  have hrm := fun W h => rremove_any va g N hN left h1 h2 (name ++ sufx) W h
  have hcc := fun W => run_sufx name hn W
  have hRA := hA
  obtain ⟨l, hF, hL, hln⟩ := hA
  have hF2 := hF
  obtain ⟨a, c, rfl, ha⟩ := hF
  have HF := Lib.hid hF2
  have HL := Lib.hid hL
  have HRA := Lib.hid hRA
  obtain ⟨n, hnl⟩ : ∃ n, n = l.length := ⟨_, rfl⟩
  rw [← hnl] at hln HF HRA hrm ⊢
  have HNL := Lib.hid hnl
  have HED := Lib.hid (endsD_new w a n c left)
  clear hF2 hL ha hnl hRA hsn
  unfold sufx at *
  cases hg : g (name ++ ⟨#[46, 110, 101, 119]⟩) with
  | none =>
    have hib : isB g (name ++ ⟨#[46, 110, 101, 119]⟩) = false := by rw [isB, hg]; rfl
    have e1 : tidyE g left (name ++ ⟨#[46, 110, 101, 119]⟩) = 0 := by rw [tidyE, hib]; simp
    have e2 : tidyG g left (name ++ ⟨#[46, 110, 101, 119]⟩) = g := by rw [tidyG, hib]; simp
    have e3 : tidyL g left (name ++ ⟨#[46, 110, 101, 119]⟩) = left := by rw [tidyL, hib]; simp
    rw [e1, e2, e3]
    have hat := fun W h => rat_none HL.out (by rw [← HNL.out]; omega) hg (.slice a n c) left W h
    have HAT := Lib.hid hat
    clear hat hg hib e1 e2 e3 hrm hmem
    go_enter Tryz.func30, Tryz.ntmps30
    go_wp2_with (go_at_call 44; refine (HAT.out _ (HF.out.below (((Below.refl _ _).alloc (Nat.le_refl _) _).alloc (by simp) _))).mono ?_; rintro e w1 ⟨rfl, hb1⟩; have E1 := Lib.hid (HED.out w1 (hb1.mono (by simp))); clear hb1; obtain ⟨c00, c01, c10, c11, f10, f11⟩ := E1.out.cells)
    obtain ⟨r0, r1, r2⟩ := last_cells E1.out.2.1 (.slice a n c) (.int .i64 left)
    refine bodyPost_ret (v := .tuple #[.agg #[.slice a n c, .int .i64 left], .int .i64 0]) (by simp [results, Tryz.results30, go_sem, r1, r2]) rfl ⟨_, rfl, HRA.out.below (E1.out.last _ _), E1.out.last _ _⟩
  | some v =>
    obtain ⟨vd, vs⟩ := v
    have hib : isB g (name ++ ⟨#[46, 110, 101, 119]⟩) = true := by rw [isB, hg]; rfl
    obtain ⟨k, hk, hlk, hat⟩ := rat_some HL.out (by rw [← HNL.out]; omega) hg
    have hat := fun W h => hat (.slice a n c) left W h
    obtain ⟨code, hcode⟩ : ∃ code, code = tidyE g left (name ++ ⟨#[46, 110, 101, 119]⟩) := ⟨_, rfl⟩
    have hc2 : beginE true g left (name ++ ⟨#[46, 110, 101, 119]⟩) [name ++ ⟨#[46, 110, 101, 119]⟩] = code := by
      rw [hcode, beginE, hmem, hib, tidyE, hib]; simp
    have e2 : removeG code g (name ++ ⟨#[46, 110, 101, 119]⟩) = tidyG g left (name ++ ⟨#[46, 110, 101, 119]⟩) := by
      rw [hcode, removeG, tidyG, tidyE, hib]
      by_cases hz : left = 0 <;> simp [hz]
    have e3 : leftE code left = tidyL g left (name ++ ⟨#[46, 110, 101, 119]⟩) := by
      rw [hcode, tidyL, tidyE, hib]
      by_cases hz : left = 0 <;> simp [hz, leftE]
    rw [hc2, e2, e3] at hrm
    rw [← hcode]
    generalize tidyG g left (name ++ ⟨#[46, 110, 101, 119]⟩) = G2, tidyL g left (name ++ ⟨#[46, 110, 101, 119]⟩) = L2 at hrm ⊢
    have HAT := Lib.hid hat
    have HRM := Lib.hid hrm
    clear hat hg hlk hib hrm hcode hc2 e2 e3 hmem
    go_enter Tryz.func30, Tryz.ntmps30
    go_wp2_with (first | (go_at_call 44; refine (HAT.out _ (HF.out.below (((Below.refl _ _).alloc (Nat.le_refl _) _).alloc (by simp) _))).mono ?_; rintro e w1 ⟨rfl, hb1⟩; have E1 := Lib.hid (HED.out w1 (hb1.mono (by simp))); clear hb1; obtain ⟨c00, c01, c10, c11, f10, f11⟩ := E1.out.cells) | (go_at_call 56; refine (HRM.out _ (HRA.out.below E1.out.2.2.1)).mono ?_; rintro e w2 ⟨v2, rfl, hr2, hb2⟩; have E2 := Lib.hid (E1.out.below hb2); have R2 := Lib.hid hr2; obtain ⟨l2, ⟨a2, k2, rfl, _⟩, _⟩ := hr2; clear hb2; obtain ⟨_, _, z10, z11, y10, y11⟩ := E2.out.cells))
    obtain ⟨r0, r1, r2⟩ := last_cells E2.out.2.1 (.slice a2 l2.length k2) (.int .i64 L2)
    refine bodyPost_ret (v := .tuple #[.agg #[.slice a2 l2.length k2, .int .i64 L2], .int .i64 code]) (by simp [results, Tryz.results30, go_sem, r1, r2]) rfl ⟨_, rfl, ?_, E2.out.last _ _⟩
    exact R2.out.last E2.out.2.1
end Go.Proofs.YtpllcnpcplbobaaGreat
