import Derived.Test.YtpllcnpcplbobaaDoorDisk6
namespace Go.Proofs.YtpllcnpcplbobaaDoor
open Go.RowKit Go.Maps
theorem FilesOk.none : FilesOk (fun _ => none) := fun _ _ h => by cases h
theorem FilesOk.append {g : FS} (h : FilesOk g) (code : Int) (name data : ByteArray) (hs : ((g name).getD noFile).1.size + data.size ≤ 1099511627776) : FilesOk (appendG code g name data) := by
  unfold appendG
  split
  · obtain ⟨h0, h1, h2⟩ := h.get name
    refine h.put name ⟨h0, ?_, ?_⟩
    · simp only [moreF, ByteArray.size_append]; omega
    · simp only [moreF, ByteArray.size_append]; omega
  · exact h
theorem FilesOk.sync {g : FS} (h : FilesOk g) (code : Int) (name : ByteArray) : FilesOk (syncG code g name) := by
  unfold syncG
  split
  · obtain ⟨h0, h1, h2⟩ := h.get name
    exact h.put name ⟨by simp only [sureF]; omega, by simp only [sureF]; omega, h2⟩
  · exact h
theorem FilesOk.del {g : FS} (h : FilesOk g) (name : ByteArray) : FilesOk (g.del name) := fun y f hf => by
  unfold FS.del at hf
  split at hf
  · cases hf
  · exact h y f hf
theorem FilesOk.remove {g : FS} (h : FilesOk g) (code : Int) (name : ByteArray) : FilesOk (removeG code g name) := by
  unfold removeG
  split
  · exact h.del name
  · exact h
theorem FilesOk.rename {g : FS} (h : FilesOk g) (code : Int) (x y : ByteArray) : FilesOk (renameG code g x y) := by
  unfold renameG
  split
  · exact (h.put y (h.get x)).del x
  · exact h
theorem names_one {g : FS} {l : List ByteArray} (h : NamesOf g l) (a : ByteArray) (ha : ∀ x, (g x).isSome = true ↔ x = a) : l = [a] := by
  have h1 : ∀ x, x ∈ l ↔ x = a := fun x => (h.all x).trans (ha x)
  have hn := h.once
  match l, h1, hn with
  | [], h1, _ => exact absurd ((h1 a).2 rfl) (by simp)
  | [x], h1, _ => rw [(h1 x).1 (by simp)]
  | x :: y :: l, h1, hn =>
    have e1 := (h1 x).1 (by simp)
    have e2 := (h1 y).1 (by simp)
    rw [e1, e2] at hn
    simp at hn
theorem names_none {g : FS} {l : List ByteArray} (h : NamesOf g l) (ha : ∀ x, (g x).isSome = false) : l = [] := by
  cases l with
  | nil => rfl
  | cons x l =>
    have := (h.all x).1 (by simp)
    rw [ha x] at this
    cases this
def nA : ByteArray := ⟨#[97]⟩
def G1 : FS := appendG 0 (fun _ => none) nA ⟨#[120, 121, 122]⟩
def G2 : FS := syncG 0 G1 nA
def G3 : FS := appendG 0 G2 nA ⟨#[117, 118]⟩
theorem g3_eq (x : ByteArray) : G3 x = if x = nA then some (⟨#[120, 121, 122, 117, 118]⟩, 3) else none := by
  unfold G3 G2 G1 appendG syncG
  by_cases h : x = nA
  · subst h; rfl
  · simp [FS.put, h]
theorem g3_ok : FilesOk G3 := fun x f h => by
  rw [g3_eq] at h
  split at h
  · rw [← Option.some.inj h]; exact ⟨by decide, by decide, by decide⟩
  · cases h
theorem crash3 {l : List ByteArray} (h : NamesOf G3 l) : readV (crashG G3 l [1]).1 nA = .tuple #[.string ⟨#[120, 121, 122, 117]⟩, .int .i64 0] := by
  rw [names_one h nA (fun x => by rw [g3_eq]; by_cases hx : x = nA <;> simp [hx])]
  rfl
theorem nums_one (w : World) (x : Int) (t : TypeId) : NumsAt (w.alloc (.cells #[.int .i64 x] t)) (.slice (some ⟨w.heap.size, 0, none⟩) 1 1) [x] :=
  ⟨_, 1, rfl, Nat.le_refl _, .inr ⟨_, 0, rfl, fun i hi => by
    have : i = 0 := by simp at hi; omega
    subst this
    exact cell_new1 w (.int .i64 x) t⟩⟩
end Go.Proofs.YtpllcnpcplbobaaDoor
