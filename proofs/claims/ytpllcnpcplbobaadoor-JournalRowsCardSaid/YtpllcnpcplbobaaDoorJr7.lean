import Derived.Test.YtpllcnpcplbobaaDoorJr6
import Derived.Test.YtpllcnpcplbobaaDoorSure1
import Derived.Test.YtpllcnpcplbobaaDoorTailsPure
namespace Go.Proofs.YtpllcnpcplbobaaDoor
open Go.RowKit Go.Maps
set_option linter.unusedVariables false
/-! The plain law of a journal on a disk of its own. -/
def logN : ByteArray := ⟨#[108, 111, 103]⟩
def newN : ByteArray := logN ++ sufx
theorem logN_new : newN ≠ logN := by decide
theorem logN_ne : logN ≠ ⟨#[]⟩ := by decide
theorem newN_ne : newN ≠ ⟨#[]⟩ := by decide
/-- The journal's file has these bytes, of which so many are sure; of other files there is at most the other one. -/
structure LogIs (g : FS) (d : ByteArray) (s : Int) : Prop where
  log : (g logN).getD noFile = (d, s)
  other : ∀ x, x ≠ logN → x ≠ newN → g x = none
  new : ((g newN).getD noFile).1.size ≤ 20000000
  ok : FilesOk g
theorem LogIs.fresh : LogIs (fun _ => none) ⟨#[]⟩ 0 := ⟨rfl, fun _ _ _ => rfl, by decide, FilesOk.none⟩
theorem begin_append (g : FS) (left : Int) (x : ByteArray) (hx : x ≠ ⟨#[]⟩) : beginE false g left x [x] = if left = 0 then 18 else 0 := by
  have : memB ⟨#[]⟩ [x] = false := by simp [memB, hx]
  simp [beginE, this]
theorem begin_there (g : FS) (left : Int) (x : ByteArray) (hx : x ≠ ⟨#[]⟩) (h : isB g x = true) : beginE true g left x [x] = if left = 0 then 18 else 0 := by
  have : memB ⟨#[]⟩ [x] = false := by simp [memB, hx]
  simp [beginE, this, h]
theorem begin_two (g : FS) (left : Int) (x y : ByteArray) (hx : x ≠ ⟨#[]⟩) (hy : y ≠ ⟨#[]⟩) (h : isB g x = true) : beginE true g left x [x, y] = if left = 0 then 18 else 0 := by
  have : memB ⟨#[]⟩ [x, y] = false := by simp [memB, hx, hy]
  simp [beginE, this, h]
theorem isB_append (g : FS) (x d : ByteArray) : isB (appendG 0 g x d) x = true := by simp [isB, appendG, FS.put]
/-- What one Add does to the files. -/
theorem LogIs.add {g : FS} {d : ByteArray} {s : Int} (h : LogIs g d s) (left : Int) (f : ByteArray) (hsz : d.size + f.size ≤ 1099511627776) :
    (a0 g left logN ≠ 0 → LogIs (aG0 g left logN f) d s) ∧
    (a0 g left logN = 0 → a1 g left logN f ≠ 0 → LogIs (aG1 g left logN f) (d ++ f) s) ∧
    (a0 g left logN = 0 → a1 g left logN f = 0 → LogIs (aG1 g left logN f) (d ++ f) ((d ++ f).size : Int)) := by
  have key : a0 g left logN = 0 → LogIs (aG0 g left logN f) (d ++ f) s := fun h0 => by
    unfold aG0
    rw [h0]
    refine ⟨?_, fun x h1 h2 => ?_, ?_, FilesOk.append h.ok 0 logN f (by rw [h.log]; exact hsz)⟩
    · simp [appendG, FS.put, h.log, moreF]
    · simp [appendG, FS.put, h1, h.other x h1 h2]
    · simp [appendG, FS.put, logN_new]; exact h.new
  refine ⟨fun h0 => ?_, fun h0 h1 => ?_, fun h0 h1 => ?_⟩
  · unfold aG0 appendG; rw [if_neg h0]; exact h
  · unfold aG1 syncG; rw [if_neg h1]; exact key h0
  · have k := key h0
    unfold aG1
    rw [h1]
    refine ⟨?_, fun x h1 h2 => ?_, ?_, FilesOk.sync k.ok 0 logN⟩
    · simp [syncG, FS.put, k.log, sureF]
    · simp [syncG, FS.put, h1, k.other x h1 h2]
    · simp [syncG, FS.put, logN_new]; exact k.new
/-- What a crash leaves of it. -/
theorem LogIs.crash {g : FS} {d : ByteArray} {s : Int} (h : LogIs g d s) (l : List ByteArray) (hl : NamesOf g l) (P : List Int) :
    ∃ n : Nat, s ≤ n ∧ n ≤ d.size ∧ LogIs (crashG g l P).1 (d.extract 0 n) n := by
  have hlog := crash_get g h.ok P l logN
  have hnew := crash_get g h.ok P l newN
  have hfo : FileOk (d, s) := h.log ▸ h.ok.get logN
  have hothers : ∀ x, x ≠ logN → x ≠ newN → (crashG g l P).1 x = none := fun x h1 h2 => (crash_get g h.ok P l x).2 fun hx => by
    have := (hl.all x).1 hx
    rw [h.other x h1 h2] at this
    cases this
  have hnewsz : (((crashG g l P).1 newN).getD noFile).1.size ≤ 20000000 := by
    by_cases hx : newN ∈ l
    · obtain ⟨n, _, _, h3⟩ := hnew.1 hx
      rw [h3]
      have := h.new
      simp only [Option.getD_some, cutF, ByteArray.size_extract]
      omega
    · rw [hnew.2 hx]; decide
  by_cases hx : logN ∈ l
  · obtain ⟨n, h1, h2, h3⟩ := hlog.1 hx
    rw [h.log] at h1 h2 h3
    have hs0 : 0 ≤ s := hfo.1
    have hn : (n.toNat : Int) = n := Int.toNat_of_nonneg (by omega)
    refine ⟨n.toNat, by omega, by simp only at h2; omega, ⟨by rw [h3, hn]; rfl, hothers, hnewsz, crash_ok h.ok⟩⟩
  · have hg : g logN = none := by
      cases hq : g logN with
      | none => rfl
      | some f => exact absurd ((hl.all logN).2 (by rw [hq]; rfl)) hx
    have := h.log
    rw [hg] at this
    obtain ⟨rfl, rfl⟩ := Prod.mk.inj this
    exact ⟨0, by decide, Nat.zero_le _, ⟨by rw [hlog.2 hx]; rfl, hothers, hnewsz, crash_ok h.ok⟩⟩
theorem stepAt_empty : stepAt ⟨#[]⟩ 0 = none := by
  unfold stepAt
  rw [if_neg (by intro h; exact absurd h.1 (by decide))]
theorem scan_empty : scan ⟨#[]⟩ = ([], 0) := by
  show scanF _ _ _ = _
  exact scanF_none stepAt_empty _
/-- What Open finds, on a disk without a budget. -/
theorem LogIs.open {g : FS} {d : ByteArray} {s : Int} (h : LogIs g d s) :
    oT g (-1) logN = 0 ∧ LogIs (oG1 g (-1) logN) d s ∧ isB (oG1 g (-1) logN) newN = false ∧ oL1 g (-1) logN = -1 ∧ oData g (-1) logN = d ∧ oRecs g (-1) logN = (scan d).1 ∧ oCode g (-1) logN = 0 ∧
      oL g (-1) logN = -1 ∧ ((scan d).2 = d.size → oG g (-1) logN = oG1 g (-1) logN) := by
  have e0 : oT g (-1) logN = 0 := by unfold oT tidyE; rw [if_neg (by omega)]
  have e1 : LogIs (oG1 g (-1) logN) d s := by
    unfold oG1 tidyG
    split
    · refine ⟨?_, fun x h1 h2 => ?_, ?_, h.ok.del _⟩
      · have : logN ≠ logN ++ sufx := fun e => logN_new e.symm
        simp only [FS.del, if_neg this]; exact h.log
      · simp only [FS.del]; split; rfl; exact h.other x h1 h2
      · simp [FS.del, newN]; decide
    · exact h
  have e2 : isB (oG1 g (-1) logN) newN = false := by
    unfold oG1 tidyG
    split
    · simp [FS.del, isB, newN]
    · rename_i hb
      cases hq : isB g (logN ++ sufx) with
      | false => exact hq
      | true => exact absurd ⟨hq, by omega⟩ hb
  have e3 : oL1 g (-1) logN = -1 := by unfold oL1 tidyL leftE; split <;> simp
  have e4 : oData g (-1) logN = d := by unfold oData; rw [e1.log]
  have e5 : oRecs g (-1) logN = (scan d).1 := by
    unfold oRecs
    rw [e4]
    split
    · rfl
    · rename_i hb
      have := e1.log
      cases hq : oG1 g (-1) logN logN with
      | none => rw [hq] at this; obtain ⟨rfl, _⟩ := Prod.mk.inj this; rw [scan_empty]
      | some f => rw [isB, hq] at hb; exact absurd rfl hb
  have c0 : ∀ G, n0 G (-1) newN = 0 := fun G => (begin_append G (-1) newN newN_ne).trans (if_neg (by omega))
  have l0 : ∀ G, nL0 G (-1) newN = -1 := fun G => by unfold nL0 leftE; rw [if_neg (by omega)]
  have b0 : ∀ G x, isB (nG0 G (-1) newN x) newN = true := fun G x => by unfold nG0; rw [c0]; exact isB_append _ _ _
  have c1 : ∀ G x, n1 G (-1) newN x = 0 := fun G x => by unfold n1; rw [l0]; exact (begin_there _ _ _ newN_ne (b0 G x)).trans (if_neg (by omega))
  have l1 : ∀ G x, nL1 G (-1) newN x = -1 := fun G x => by unfold nL1 leftE; rw [l0, if_neg (by omega)]
  have b1 : ∀ G x, isB (nG1 G (-1) newN x) newN = true := fun G x => by unfold nG1; rw [c1]; simp [syncG, FS.put, isB]
  have c2 : ∀ G x, n2 G (-1) newN x logN = 0 := fun G x => by unfold n2; rw [l1]; exact (begin_two _ _ _ _ newN_ne logN_ne (b1 G x)).trans (if_neg (by omega))
  have l2 : ∀ G x, nL2 G (-1) newN x logN = -1 := fun G x => by unfold nL2 leftE; rw [l1, if_neg (by omega)]
  refine ⟨e0, e1, e2, e3, e4, e5, ?_, ?_, fun hs => ?_⟩
  · unfold oCode
    rw [e0, e3, if_neg (fun h => h rfl)]
    split
    · change nCode _ (-1) newN _ logN = 0
      unfold nCode
      rw [c0, c1, c2]; simp
    · rfl
  · unfold oL
    rw [e0, e3, if_neg (fun h => h rfl)]
    split
    · change nL _ (-1) newN _ logN = -1
      unfold nL
      rw [c0, c1]; simp [l2]
    · rfl
  · unfold oG
    rw [e0, if_neg (fun h => h rfl), if_neg]
    rintro ⟨_, hlt⟩
    rw [e4, hs] at hlt
    omega
theorem extract_all' (a : ByteArray) (n : Nat) (h : a.size ≤ n) : a.extract 0 n = a := by
  apply ByteArray.ext
  have : a.data.size ≤ n := h
  simp; exact .inr h
/-- What a scan finds of sure records and the front of one more. -/
theorem scan_front (l : List ByteArray) (hl : ∀ x ∈ l, x.size ≤ 1048576) (r : ByteArray) (hr : r.size ≤ 1048576) (n : Nat) (h1 : (framesL l).size ≤ n) (h2 : n ≤ (framesL l ++ frameS r).size) :
    (scan ((framesL l ++ frameS r).extract 0 n)).1 = l ∨ (scan ((framesL l ++ frameS r).extract 0 n)).1 = l ++ [r] := by
  rw [ByteArray.size_append, size_frameS] at h2
  have hx : (framesL l ++ frameS r).extract 0 n = framesL l ++ (frameS r).extract 0 (n - (framesL l).size) := by
    rw [ByteArray.extract_append]
    congr 1
    · exact extract_all' _ _ h1
    · congr 1; omega
  by_cases hj : n - (framesL l).size < 12 + r.size
  · left
    rw [hx, scan_frames l hl r hr _ hj]
  · right
    have hall : (frameS r).extract 0 (n - (framesL l).size) = frameS r := extract_all _ _ (by rw [size_frameS]; omega)
    rw [hx, hall, ← framesL_snoc]
    have := scan_frames (l ++ [r]) (by intro x hx; rcases List.mem_append.1 hx with h | h; exact hl x h; simp at h; rw [h]; exact hr) r hr 0 (by omega)
    have he : (frameS r).extract 0 0 = ⟨#[]⟩ := by
      apply ByteArray.ext; simp
    rw [he] at this
    have happ : framesL (l ++ [r]) ++ ⟨#[]⟩ = framesL (l ++ [r]) := ByteArray.append_empty
    rw [happ] at this
    rw [this]
theorem scan_all (l : List ByteArray) (hl : ∀ x ∈ l, x.size ≤ 1048576) : scan (framesL l) = (l, (framesL l).size) := by
  have := scan_frames l hl ⟨#[]⟩ (by decide) 0 (by decide)
  have he : (frameS ⟨#[]⟩).extract 0 0 = ⟨#[]⟩ := by apply ByteArray.ext; simp
  rw [he] at this
  have happ : framesL l ++ ⟨#[]⟩ = framesL l := ByteArray.append_empty
  rw [happ] at this
  exact this
end Go.Proofs.YtpllcnpcplbobaaDoor
