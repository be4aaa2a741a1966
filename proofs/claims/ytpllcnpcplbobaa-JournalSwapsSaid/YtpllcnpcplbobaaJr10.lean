import Derived.Test.YtpllcnpcplbobaaJr9
namespace Go.Proofs.Ytpllcnpcplbobaa
open Go.RowKit Go.Maps
set_option linter.unusedVariables false
/-- tidy without an error leaves no other file. -/
theorem LogIs.tidy {g : FS} {d : ByteArray} {s : Int} (h : LogIs g d s) (left : Int) : LogIs (oG1 g left logN) d s ∧ (oT g left logN = 0 → oG1 g left logN newN = none) := by
  constructor
  · unfold oG1 tidyG
    split
    · refine ⟨?_, fun x h1 h2 => ?_, ?_, h.ok.del _⟩
      · have : logN ≠ logN ++ sufx := fun e => logN_new e.symm
        simp only [FS.del, if_neg this]; exact h.log
      · simp only [FS.del]; split; rfl; exact h.other x h1 h2
      · simp [FS.del, newN]; decide
    · exact h
  · intro h0
    unfold oT tidyE at h0
    unfold oG1 tidyG
    change _ = none at *
    by_cases hb : isB g (logN ++ sufx) = true
    · have hl : left ≠ 0 := fun e => by rw [if_pos ⟨hb, e⟩] at h0; cases h0
      rw [if_pos ⟨hb, hl⟩]
      simp [FS.del, newN]
    · rw [if_neg (fun h => hb h.1)]
      cases hq : g newN with
      | none => rfl
      | some f => exact absurd (show isB g newN = true by rw [isB, hq]; rfl) hb
/-- What anew does to the files: all or nothing. -/
theorem LogIs.anew {g : FS} {d : ByteArray} {s : Int} (h : LogIs g d s) (hno : g newN = none) (left : Int) (fa : ByteArray) (hfa : fa.size ≤ 20000000) :
    (nCode g left newN fa logN ≠ 0 ∧ LogIs (nG g left newN fa logN) d s) ∨ (nCode g left newN fa logN = 0 ∧ LogIs (nG g left newN fa logN) fa (fa.size : Int)) := by
  have hne : logN ≠ newN := fun e => logN_new e.symm
  have k0 : n0 g left newN = 0 → LogIs (nG0 g left newN fa) d s ∧ nG0 g left newN fa newN = some (fa, 0) := fun h0 => by
    unfold nG0
    rw [h0]
    have hv : appendG 0 g newN fa newN = some (fa, 0) := by
      simp [appendG, FS.put, hno, moreF, noFile]
      apply ByteArray.ext; simp
    refine ⟨⟨?_, fun x h1 h2 => ?_, ?_, FilesOk.append h.ok 0 newN fa (by rw [hno]; show 0 + fa.size ≤ _; omega)⟩, hv⟩
    · simp only [appendG, if_true, FS.put, if_neg hne]; exact h.log
    · simp only [appendG, if_true, FS.put, if_neg h2]; exact h.other x h1 h2
    · rw [hv]; exact hfa
  by_cases h0 : n0 g left newN = 0
  · obtain ⟨k1, k2⟩ := k0 h0
    by_cases h1 : n1 g left newN fa = 0
    · have e1 : nG1 g left newN fa newN = some (fa, (fa.size : Int)) := by
        unfold nG1; rw [h1]; simp [syncG, FS.put, k2, sureF]
      have k3 : LogIs (nG1 g left newN fa) d s := by
        refine ⟨?_, fun x h1' h2 => ?_, by rw [e1]; exact hfa, ?_⟩
        · unfold nG1; rw [h1]; simp only [syncG, if_true, FS.put, if_neg hne]; exact k1.log
        · unfold nG1; rw [h1]; simp only [syncG, if_true, FS.put, if_neg h2]; exact k1.other x h1' h2
        · unfold nG1; exact FilesOk.sync k1.ok _ _
      by_cases h2 : n2 g left newN fa logN = 0
      · right
        have ec : nCode g left newN fa logN = 0 := by unfold nCode; rw [h0, h1, h2]; simp
        have eg : nG g left newN fa logN = nG2 g left newN fa logN := by unfold nG; rw [if_neg (fun h => h h0), if_neg (fun h => h h1)]
        refine ⟨ec, ?_⟩
        rw [eg]
        have hx : newN ≠ logN := logN_new
        refine ⟨?_, fun x h1' h2' => ?_, ?_, ?_⟩
        · unfold nG2; rw [h2]; simp only [renameG, true_and, hx, ne_eq, not_false_eq_true, if_true, FS.del, if_neg hne, FS.put, e1]; rfl
        · unfold nG2; rw [h2]; simp only [renameG, true_and, hx, ne_eq, not_false_eq_true, if_true, FS.del, if_neg h2', FS.put, if_neg h1']; exact k3.other x h1' h2'
        · unfold nG2; rw [h2]; simp [renameG, hx, FS.del]; decide
        · unfold nG2; exact FilesOk.rename k3.ok _ _ _
      · left
        refine ⟨by unfold nCode; rw [h0, h1]; simpa using h2, ?_⟩
        have eg : nG g left newN fa logN = nG2 g left newN fa logN := by unfold nG; rw [if_neg (fun h => h h0), if_neg (fun h => h h1)]
        rw [eg]; unfold nG2 renameG; rw [if_neg (fun h => h2 h.1)]; exact k3
    · left
      refine ⟨by unfold nCode; rw [h0]; simp [h1], ?_⟩
      have eg : nG g left newN fa logN = nG1 g left newN fa := by unfold nG; rw [if_neg (fun h => h h0), if_pos h1]
      rw [eg]; unfold nG1 syncG; rw [if_neg h1]; exact k1
  · left
    refine ⟨by unfold nCode; rw [if_pos h0]; exact h0, ?_⟩
    have eg : nG g left newN fa logN = nG0 g left newN fa := by unfold nG; rw [if_pos h0]
    rw [eg]; unfold nG0 appendG; rw [if_neg h0]; exact h
/-- Swap of the journal's records. -/
theorem swap_log (j p b N : Nat) (hN : N ≤ 1099511627000) (g : FS) (left : Int) (h1 : -1 ≤ left) (h2 : left ≤ 9223372036854775807) (d : ByteArray) (s : Int) (hL : LogIs g d s) (va : Value) (A : List ByteArray) (h12 : A.length ≤ 12) (h100 : ∀ x ∈ A, x.size ≤ 100) (w : World) (hD : DiskAt w p b g left N) (hJ : JBlk w j p logN false) (hA : TextsAt w va A) :
    Calls Try.prog 39 #[.pointer (some ⟨j, 0, none⟩), va] w fun e w' => ∃ code, e = .returned (.int .i64 code) ∧
      (∃ g' left', DiskAt w' p b g' left' (N + 4) ∧ ((code = 0 ∧ LogIs g' (framesL A) ((framesL A).size : Int)) ∨ (code ≠ 0 ∧ LogIs g' d s))) ∧ Turned3 w w' p b j := by
  obtain ⟨k1, k2⟩ := hL.tidy left
  have hfs := framesL_le A h100
  refine (swap_any j p b N g left h1 h2 hN logN (by decide) va A h12 h100 (by have := k1.new; have hx : logN ++ sufx = newN := rfl; rw [hx]; omega) w hD hJ hA).mono ?_
  rintro e w' ⟨code, rfl, ⟨h0, rfl, hd, _⟩ | ⟨h0, rfl, hd, _⟩, hT⟩
  · exact ⟨_, rfl, ⟨_, _, hd, .inr ⟨h0, k1⟩⟩, hT⟩
  · refine ⟨_, rfl, ⟨_, _, hd, ?_⟩, hT⟩
    rcases k1.anew (k2 h0) (oL1 g left logN) (framesL A) (by omega) with ⟨h3, h4⟩ | ⟨h3, h4⟩
    · exact .inr ⟨h3, h4⟩
    · exact .inl ⟨h3, h4⟩
/-- Add in the loop, on a disk without a budget. -/
theorem add_ok (j p b N : Nat) (hN : N ≤ 1099511627000) (g : FS) (A : List ByteArray) (h12 : A.length ≤ 12) (h100 : ∀ x ∈ A, x.size ≤ 100) (k : Nat) (hk : k < A.length) (hL : LogIs g (framesL (A.take k)) ((framesL (A.take k)).size : Int)) (w : World) (hD : DiskAt w p b g (-1) N) (hJ : JBlk w j p logN false) :
    Calls Try.prog 38 #[.pointer (some ⟨j, 0, none⟩), .string A[k]] w fun e w' => e = .returned (.int .i64 0) ∧
      (∃ g', LogIs g' (framesL (A.take (k + 1))) ((framesL (A.take (k + 1))).size : Int) ∧ DiskAt w' p b g' (-1) (N + 2)) ∧ JBlk w' j p logN false ∧ Turned3 w w' p b j := by
  refine (add_next j p b N hN g (-1) (by omega) (by omega) A h12 h100 k hk hL w hD hJ).mono ?_
  rintro e w' ⟨code, rfl, ⟨g', left', _, _, hd, ⟨rfl, hl, hj, hle⟩ | ⟨_, h, _⟩⟩, hT⟩
  · rw [hle rfl] at hd
    exact ⟨rfl, ⟨g', hl, hd⟩, hj, hT⟩
  · exact absurd rfl h
theorem swap_split {w' : World} {p b N : Nat} {A B : List ByteArray} {code : Int}
    (h : ∃ g' left', DiskAt w' p b g' left' N ∧ ((code = 0 ∧ LogIs g' (framesL B) ((framesL B).size : Int)) ∨ (code ≠ 0 ∧ LogIs g' (framesL A) ((framesL A).size : Int)))) :
    ∃ g' left' D, DiskAt w' p b g' left' N ∧ LogIs g' D (D.size : Int) ∧ ((code = 0 ∧ D = framesL B) ∨ (code ≠ 0 ∧ D = framesL A)) := by
  obtain ⟨g', left', hd, ⟨h0, hl⟩ | ⟨h0, hl⟩⟩ := h
  · exact ⟨g', left', _, hd, hl, .inl ⟨h0, rfl⟩⟩
  · exact ⟨g', left', _, hd, hl, .inr ⟨h0, rfl⟩⟩
theorem swap_rows {A B : List ByteArray} {D : ByteArray} {code : Int} (h : (code = 0 ∧ D = framesL B) ∨ (code ≠ 0 ∧ D = framesL A)) (a12 : A.length ≤ 12) (a100 : ∀ x ∈ A, x.size ≤ 100) (b12 : B.length ≤ 12) (b100 : ∀ x ∈ B, x.size ≤ 100) :
    ∃ l, (scan D).1 = l ∧ (D.size ≤ 20000 ∧ l.length ≤ 12) ∧ ((code = 0 ∧ l = B) ∨ (code ≠ 0 ∧ l = A)) := by
  have h1 := framesL_le A a100
  have h2 := framesL_le B b100
  rcases h with ⟨h0, rfl⟩ | ⟨h0, rfl⟩
  · exact ⟨B, by rw [scan_all B fun x hx => by have := b100 x hx; omega], ⟨by omega, by omega⟩, .inl ⟨h0, rfl⟩⟩
  · exact ⟨A, by rw [scan_all A fun x hx => by have := a100 x hx; omega], ⟨by omega, by omega⟩, .inr ⟨h0, rfl⟩⟩
end Go.Proofs.Ytpllcnpcplbobaa
