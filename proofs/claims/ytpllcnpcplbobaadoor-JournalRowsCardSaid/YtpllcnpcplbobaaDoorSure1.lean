import Derived.Test.YtpllcnpcplbobaaDoorDisk7
namespace Go.Proofs.YtpllcnpcplbobaaDoor
open Go.RowKit Go.Maps
theorem names_unique {g h : FS} {l m : List ByteArray} (hl : NamesOf g l) (hm : NamesOf h m) (he : ∀ x, (g x).isSome = (h x).isSome) : l = m := by
  refine List.Perm.eq_of_pairwise (le := fun a b : ByteArray => a.data.toList ≤ b.data.toList) (fun a b _ _ h1 h2 => WideShapes.bytes_inj (List.le_antisymm h1 h2)) hl.rising hm.rising
    ((List.perm_ext_iff_of_nodup hl.once hm.once).2 fun x => by rw [hl.all, hm.all, he])
theorem crashG_snoc (g : FS) (l : List ByteArray) (y : ByteArray) (P : List Int) : crashG g (l ++ [y]) P = crashStep g (crashG g l P) y := by
  simp [crashG, List.foldl_append]
theorem crashStep_get (g : FS) (hg : FilesOk g) (s : FS × List Int) (y : ByteArray) : ∃ n : Int, ((g y).getD noFile).2 ≤ n ∧ n ≤ (((g y).getD noFile).1.size : Int) ∧ (crashStep g s y).1 = s.1.put y (cutF ((g y).getD noFile) n) := by
  have hok := hg.get y
  unfold crashStep
  split
  · exact ⟨_, (stays_ok hok _).1, (stays_ok hok _).2, rfl⟩
  · exact ⟨_, hok.2.1, Int.le_refl _, rfl⟩
theorem crash_get (g : FS) (hg : FilesOk g) (P : List Int) (l : List ByteArray) (x : ByteArray) :
    (x ∈ l → ∃ n : Int, ((g x).getD noFile).2 ≤ n ∧ n ≤ (((g x).getD noFile).1.size : Int) ∧ (crashG g l P).1 x = some (cutF ((g x).getD noFile) n)) ∧ (x ∉ l → (crashG g l P).1 x = none) := by
  have key : ∀ m : List ByteArray, (x ∈ m.reverse → ∃ n : Int, ((g x).getD noFile).2 ≤ n ∧ n ≤ (((g x).getD noFile).1.size : Int) ∧ (crashG g m.reverse P).1 x = some (cutF ((g x).getD noFile) n)) ∧ (x ∉ m.reverse → (crashG g m.reverse P).1 x = none) := by
    intro m
    induction m with
    | nil => exact ⟨fun h => by simp at h, fun _ => rfl⟩
    | cons y m ih =>
      rw [List.reverse_cons, crashG_snoc]
      obtain ⟨n, h1, h2, h3⟩ := crashStep_get g hg (crashG g m.reverse P) y
      rw [h3]
      by_cases hx : x = y
      · subst hx
        exact ⟨fun _ => ⟨n, h1, h2, by simp [FS.put]⟩, fun h => absurd (by simp) h⟩
      · have e : ∀ f, ((crashG g m.reverse P).1.put y f) x = (crashG g m.reverse P).1 x := fun f => by simp [FS.put, hx]
        rw [e]
        constructor
        · intro h
          refine ih.1 ?_
          simpa [hx] using h
        · intro h
          refine ih.2 fun h' => h ?_
          simp at h' ⊢
          exact .inl h'
  have := key l.reverse
  rwa [List.reverse_reverse] at this
theorem crash_names {g : FS} (hg : FilesOk g) {P : List Int} {l : List ByteArray} (hl : NamesOf g l) (x : ByteArray) : ((crashG g l P).1 x).isSome = (g x).isSome := by
  obtain ⟨h1, h2⟩ := crash_get g hg P l x
  by_cases hx : x ∈ l
  · obtain ⟨n, _, _, h⟩ := h1 hx
    rw [h, (hl.all x).1 hx]; rfl
  · rw [h2 hx]
    cases hs : (g x).isSome with
    | false => rfl
    | true => exact absurd ((hl.all x).2 hs) hx
theorem crash_ok {g : FS} (hg : FilesOk g) {P : List Int} {l : List ByteArray} : FilesOk (crashG g l P).1 := fun x f hf => by
  obtain ⟨h1, h2⟩ := crash_get g hg P l x
  by_cases hx : x ∈ l
  · obtain ⟨n, ha, hb, h⟩ := h1 hx
    rw [h] at hf
    rw [← Option.some.inj hf]
    exact cutF_ok (hg.get x) (by have := (hg.get x).1; omega) hb
  · rw [h2 hx] at hf; cases hf
end Go.Proofs.YtpllcnpcplbobaaDoor
