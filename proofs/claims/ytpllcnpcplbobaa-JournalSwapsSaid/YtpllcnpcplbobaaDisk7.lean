import Derived.Test.YtpllcnpcplbobaaDisk6
namespace Go.Proofs.Ytpllcnpcplbobaa
open Go.RowKit Go.Maps
theorem FilesOk.none : FilesOk (fun _ => none) := fun _ _ h => by cases h
theorem FilesOk.append {g : FS} (h : FilesOk g) (code : Int) (name data : ByteArray) (hs : ((g name).getD noFile).1.size + data.size ≤ 1099511627776) : FilesOk (appendG code g name data) := by
  unfold appendG
  split
  · obtain ⟨h0, h1, h2⟩ := h.get name
    refine h.put name ⟨h0, ?_, ?_⟩
    · simp only [moreF, ByteArray.size_append]; omega
    · simp only [moreF, ByteArray.size_append]; omega
  · exact h
theorem FilesOk.sync {g : FS} (h : FilesOk g) (code : Int) (name : ByteArray) : FilesOk (syncG code g name) := by
  unfold syncG
  split
  · obtain ⟨h0, h1, h2⟩ := h.get name
    exact h.put name ⟨by simp only [sureF]; omega, by simp only [sureF]; omega, h2⟩
  · exact h
theorem FilesOk.del {g : FS} (h : FilesOk g) (name : ByteArray) : FilesOk (g.del name) := fun y f hf => by
  unfold FS.del at hf
  split at hf
  · cases hf
  · exact h y f hf
theorem FilesOk.remove {g : FS} (h : FilesOk g) (code : Int) (name : ByteArray) : FilesOk (removeG code g name) := by
  unfold removeG
  split
  · exact h.del name
  · exact h
theorem FilesOk.rename {g : FS} (h : FilesOk g) (code : Int) (x y : ByteArray) : FilesOk (renameG code g x y) := by
  unfold renameG
  split
  · exact (h.put y (h.get x)).del x
  · exact h
theorem names_one {g : FS} {l : List ByteArray} (h : NamesOf g l) (a : ByteArray) (ha : ∀ x, (g x).isSome = true ↔ x = a) : l = [a] := by
  have h1 : ∀ x, x ∈ l ↔ x = a := fun x => (h.all x).trans (ha x)
  have hn := h.once
  match l, h1, hn with
  | [], h1, _ => exact absurd ((h1 a).2 rfl) (by simp)
  | [x], h1, _ => rw [(h1 x).1 (by simp)]
  | x :: y :: l, h1, hn =>
    have e1 := (h1 x).1 (by simp)
    have e2 := (h1 y).1 (by simp)
    rw [e1, e2] at hn
    simp at hn
theorem names_none {g : FS} {l : List ByteArray} (h : NamesOf g l) (ha : ∀ x, (g x).isSome = false) : l = [] := by
  cases l with
  | nil => rfl
  | cons x l =>
    have := (h.all x).1 (by simp)
    rw [ha x] at this
    cases this
def nA : ByteArray := ⟨#[97]⟩
def G1 : FS := appendG 0 (fun _ => none) nA ⟨#[120, 121, 122]⟩
def G2 : FS := syncG 0 G1 nA
def G3 : FS := appendG 0 G2 nA ⟨#[117, 118]⟩
theorem g3_eq (x : ByteArray) : G3 x = if x = nA then some (⟨#[120, 121, 122, 117, 118]⟩, 3) else none := by
  unfold G3 G2 G1 appendG syncG
  by_cases h : x = nA
  · subst h; rfl
  · simp [FS.put, h]
theorem g3_ok : FilesOk G3 := fun x f h => by
  rw [g3_eq] at h
  split at h
  · rw [← Option.some.inj h]; exact ⟨by decide, by decide, by decide⟩
  · cases h
theorem crash3 {l : List ByteArray} (h : NamesOf G3 l) : readV (crashG G3 l [1]).1 nA = .tuple #[.string ⟨#[120, 121, 122, 117]⟩, .int .i64 0] := by
  rw [names_one h nA (fun x => by rw [g3_eq]; by_cases hx : x = nA <;> simp [hx])]
  rfl
theorem nums_one (w : World) (x : Int) (t : TypeId) : NumsAt (w.alloc (.cells #[.int .i64 x] t)) (.slice (some ⟨w.heap.size, 0, none⟩) 1 1) [x] :=
  ⟨_, 1, rfl, Nat.le_refl _, .inr ⟨_, 0, rfl, fun i hi => by
    have : i = 0 := by simp at hi; omega
    subst this
    exact cell_new1 w (.int .i64 x) t⟩⟩
set_option maxRecDepth 100000 in
set_option maxHeartbeats 1000000 in
theorem alive_any (w : World) : Calls Try.prog 20 #[] w fun e w' => e = .returned (.bool true) ∧ Below w.heap.size w w' := by
  have a1 := fun p b (W : World) h => append_disk p b 0 (fun _ => none) (-1) (by omega) (by omega) (by decide) nA ⟨#[120, 121, 122]⟩ (by decide) (by decide) W h
  have a2 := fun p b (W : World) h => sync_disk p b 1 G1 (-1) (by omega) (by omega) (by decide) nA (by decide) W h
  have a3 := fun p b (W : World) h => append_disk p b 2 G2 (-1) (by omega) (by omega) (by decide) nA ⟨#[117, 118]⟩ (by decide) (by decide) W h
  rw [show beginE false (fun _ => none) (-1) nA [nA] = 0 from rfl, show leftE 0 (-1) = -1 from rfl] at a1
  rw [show beginE true G1 (-1) nA [nA] = 0 from rfl, show leftE 0 (-1) = -1 from rfl] at a2
  rw [show beginE false G2 (-1) nA [nA] = 0 from rfl, show leftE 0 (-1) = -1 from rfl] at a3
  unfold nA at a1 a2 a3
  have A1 := Lib.hid a1
  have A2 := Lib.hid a2
  have A3 := Lib.hid a3
  clear a1 a2 a3
  go_enter Try.func20, Try.ntmps20
  go_wp2_with (first | (go_at_call 21; refine (new_disk _).mono ?_; rintro e w1 ⟨p, b, rfl, hd1, hb1, hp, hb, _⟩; have D1 := Lib.hid hd1; have B1 := Lib.hid hb1; clear hd1 hb1) | (go_at_call_of 23 (Value.string ⟨#[120, 121, 122]⟩); refine (A1.out p b _ D1.out).mono ?_; rintro e w2 ⟨rfl, hd2, ht2⟩; have D2 := Lib.hid hd2; have T2 := Lib.hid ht2; clear hd2 ht2) | (go_at_call 24; refine (A2.out p b _ D2.out).mono ?_; rintro e w3 ⟨rfl, hd3, ht3⟩; have D3 := Lib.hid hd3; have T3 := Lib.hid ht3; clear hd3 ht3) | (go_at_call_of 23 (Value.string ⟨#[117, 118]⟩); refine (A3.out p b _ D3.out).mono ?_; rintro e w4 ⟨rfl, hd4, ht4⟩; have D4 := Lib.hid hd4; have T4 := Lib.hid ht4; clear hd4 ht4) | (go_at_call 29; refine (crash_disk p b 3 G3 (-1) (by omega) g3_ok _ [1] _ (D4.out.below ((Below.refl _ _).alloc (Nat.le_refl _) _)) (nums_one _ 1 3)).mono ?_; rintro e w5 ⟨q, c, l, rfl, hnm, hln, hd5, hb5, hq, hc⟩; have R5 := Lib.hid (crash3 hnm); have D5 := Lib.hid hd5; have B5 := Lib.hid hb5; clear hnm hd5 hb5) | (go_at_call 25; refine (read_disk q c 3 _ _ nA (by decide) _ D5.out).mono ?_; rintro e w6 ⟨rfl, hb6⟩; rw [R5.out]; have B6 := Lib.hid hb6; clear hb6))
  go_ret
  have b1 := B1.out
  have b4 : Below w.heap.size w w4 := ((b1.trans (T2.out.below hp hb (by have := b1.size; omega))).trans (T3.out.below hp hb (by have := b1.size; have := T2.out.size; omega))).trans (T4.out.below hp hb (by have := b1.size; have := T2.out.size; have := T3.out.size; omega))
  have b5 := (b4.alloc b4.size (.cells #[.int .i64 1] 3)).trans (B5.out.mono (by have := b4.size; simp; omega))
  exact ⟨rfl, b5.trans (B6.out.mono b5.size)⟩
end Go.Proofs.Ytpllcnpcplbobaa
