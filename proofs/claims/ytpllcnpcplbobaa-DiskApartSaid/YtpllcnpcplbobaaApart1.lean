import Derived.Test.YtpllcnpcplbobaaDoB
import Derived.Test.YtpllcnpcplbobaaRuns1
namespace Go.Proofs.Ytpllcnpcplbobaa
open Go.RowKit Go.Maps
set_option linter.unusedVariables false
def nM : ByteArray := ⟨#[109, 105, 110, 101]⟩
theorem empty_app (d : ByteArray) : (⟨#[]⟩ : ByteArray) ++ d = d := WideShapes.bytes_inj (by simp)
theorem filesA_other {x : ActL} {g : FS} {left : Int} (h1 : x.name ≠ nM) (h2 : x.to_ ≠ nM) : filesA x g left nM = g nM := by
  have e1 : nM ≠ x.name := fun e => h1 e.symm
  have e2 : nM ≠ x.to_ := fun e => h2 e.symm
  have hp : ∀ (G : FS) (c : Prop) [Decidable c] (y : ByteArray) (f : ByteArray × Int), nM ≠ y → (if c then G.put y f else G) nM = G nM := fun G c _ y f hy => by
    split
    · exact if_neg hy
    · rfl
  have hd : ∀ (G H : FS) (c : Prop) [Decidable c] (y : ByteArray), nM ≠ y → H nM = G nM → (if c then H.del y else G) nM = G nM := fun G H c _ y hy hh => by
    split
    · exact (if_neg hy).trans hh
    · rfl
  unfold filesA
  split
  · exact hp g _ _ _ e1
  · split
    · exact hp g _ _ _ e1
    · split
      · exact hd g _ _ _ e1 (if_neg e2)
      · split
        · exact hd g g _ _ e1 rfl
        · rfl
theorem leftA_never {x : ActL} {g : FS} (h4 : x.kind ≠ 4) : leftA x g (-1) = -1 := by
  unfold leftA leftE
  split
  · rw [if_neg (by omega)]
  · first | rfl | rw [if_neg h4]
/-- What the disk has of the file ahead of the acts. -/
def startG (d0 d1 : ByteArray) : FS := appendG 0 (syncG 0 (appendG 0 (fun _ => none) nM d0) nM) nM d1
theorem startG_at (d0 d1 : ByteArray) : startG d0 d1 nM = some (d0 ++ d1, (d0.size : Int)) := by
  unfold startG appendG syncG
  simp only [if_true]
  unfold FS.put
  simp [moreF, sureF, noFile, empty_app]
theorem startG_bnd (d0 d1 : ByteArray) : Bnd (startG d0 d1) (0 + d0.size + d1.size) := ((Bnd.none.append 0 nM d0).sync 0 nM).append 0 nM d1
theorem crash_nil_step (g : FS) (hg : FilesOk g) (s : FS) (y : ByteArray) : crashStep g (s, []) y = (s.put y (cutF ((g y).getD noFile) ((g y).getD noFile).2), []) := by
  obtain ⟨h0, h1, h2⟩ := hg.get y
  unfold crashStep
  simp only [List.headD_nil, List.tail_nil]
  split
  · have h : stays ((g y).getD noFile) 0 = ((g y).getD noFile).2 := by
      unfold stays
      simp only [Int.zero_tmod, Int.zero_add, Int.tmod_self, Int.add_zero]
    rw [h]
  · have h : ((g y).getD noFile).2 = (((g y).getD noFile).1.size : Int) := by omega
    rw [h]
theorem crash_nil (g : FS) (hg : FilesOk g) (l : List ByteArray) (x : ByteArray) (hx : x ∈ l) : (crashG g l []).1 x = some (cutF ((g x).getD noFile) ((g x).getD noFile).2) ∧ (crashG g l []).2 = [] := by
  have key : ∀ m : List ByteArray, (x ∈ m.reverse → (crashG g m.reverse []).1 x = some (cutF ((g x).getD noFile) ((g x).getD noFile).2)) ∧ (crashG g m.reverse []).2 = [] := by
    intro m
    induction m with
    | nil => exact ⟨fun h => by simp at h, rfl⟩
    | cons y m ih =>
      obtain ⟨i1, i2⟩ := ih
      rw [List.reverse_cons, crashG_snoc]
      generalize crashG g m.reverse [] = q at i1 i2
      obtain ⟨q1, q2⟩ := q
      simp only at i1 i2
      subst i2
      rw [crash_nil_step g hg]
      refine ⟨fun h => ?_, rfl⟩
      by_cases hxy : x = y
      · subst hxy; simp [FS.put]
      · simp only [FS.put, if_neg hxy]
        exact i1 (by simpa [hxy] using h)
  have := key l.reverse
  rw [List.reverse_reverse] at this
  exact ⟨this.1 hx, this.2⟩
theorem read_at {g : FS} {d : ByteArray} {s : Int} (h : g nM = some (d, s)) : readV g nM = .tuple #[.string d, .int .i64 0] := by rw [readV, h]
theorem crash_read {g : FS} (hg : FilesOk g) {d0 d1 : ByteArray} (h : g nM = some (d0 ++ d1, (d0.size : Int))) {l : List ByteArray} (hl : NamesOf g l) : readV (crashG g l []).1 nM = .tuple #[.string d0, .int .i64 0] := by
  have hm : nM ∈ l := (hl.all nM).2 (by rw [h]; rfl)
  have h1 := (crash_nil g hg l nM hm).1
  rw [h] at h1
  rw [readV, h1]
  simp only [Option.getD_some, cutF, Int.toNat_natCast]
  have : (d0 ++ d1).extract 0 d0.size = d0 := by
    apply WideShapes.bytes_inj
    rw [ByteArray.data_extract]
    simp
    exact List.take_of_length_le (Nat.le_of_eq (Array.length_toList))
  rw [this]
end Go.Proofs.Ytpllcnpcplbobaa
