import Derived.Test.YtpllcnpcplbobaaDisk7
import Derived.Test.YtpllcnpcplbobaaActs2
namespace Go.Proofs.Ytpllcnpcplbobaa
open Go.RowKit Go.Maps
theorem names_unique {g h : FS} {l m : List ByteArray} (hl : NamesOf g l) (hm : NamesOf h m) (he : ∀ x, (g x).isSome = (h x).isSome) : l = m := by
  refine List.Perm.eq_of_pairwise (le := fun a b : ByteArray => a.data.toList ≤ b.data.toList) (fun a b _ _ h1 h2 => WideShapes.bytes_inj (List.le_antisymm h1 h2)) hl.rising hm.rising
    ((List.perm_ext_iff_of_nodup hl.once hm.once).2 fun x => by rw [hl.all, hm.all, he])
theorem crashG_snoc (g : FS) (l : List ByteArray) (y : ByteArray) (P : List Int) : crashG g (l ++ [y]) P = crashStep g (crashG g l P) y := by
  simp [crashG, List.foldl_append]
theorem crashStep_get (g : FS) (hg : FilesOk g) (s : FS × List Int) (y : ByteArray) : ∃ n : Int, ((g y).getD noFile).2 ≤ n ∧ n ≤ (((g y).getD noFile).1.size : Int) ∧ (crashStep g s y).1 = s.1.put y (cutF ((g y).getD noFile) n) := by
  have hok := hg.get y
  unfold crashStep
  split
  · exact ⟨_, (stays_ok hok _).1, (stays_ok hok _).2, rfl⟩
  · exact ⟨_, hok.2.1, Int.le_refl _, rfl⟩
theorem crash_get (g : FS) (hg : FilesOk g) (P : List Int) (l : List ByteArray) (x : ByteArray) :
    (x ∈ l → ∃ n : Int, ((g x).getD noFile).2 ≤ n ∧ n ≤ (((g x).getD noFile).1.size : Int) ∧ (crashG g l P).1 x = some (cutF ((g x).getD noFile) n)) ∧ (x ∉ l → (crashG g l P).1 x = none) := by
  have key : ∀ m : List ByteArray, (x ∈ m.reverse → ∃ n : Int, ((g x).getD noFile).2 ≤ n ∧ n ≤ (((g x).getD noFile).1.size : Int) ∧ (crashG g m.reverse P).1 x = some (cutF ((g x).getD noFile) n)) ∧ (x ∉ m.reverse → (crashG g m.reverse P).1 x = none) := by
    intro m
    induction m with
    | nil => exact ⟨fun h => by simp at h, fun _ => rfl⟩
    | cons y m ih =>
      rw [List.reverse_cons, crashG_snoc]
      obtain ⟨n, h1, h2, h3⟩ := crashStep_get g hg (crashG g m.reverse P) y
      rw [h3]
      by_cases hx : x = y
      · subst hx
        exact ⟨fun _ => ⟨n, h1, h2, by simp [FS.put]⟩, fun h => absurd (by simp) h⟩
      · have e : ∀ f, ((crashG g m.reverse P).1.put y f) x = (crashG g m.reverse P).1 x := fun f => by simp [FS.put, hx]
        rw [e]
        constructor
        · intro h
          refine ih.1 ?_
          simpa [hx] using h
        · intro h
          refine ih.2 fun h' => h ?_
          simp at h' ⊢
          exact .inl h'
  have := key l.reverse
  rwa [List.reverse_reverse] at this
theorem crash_names {g : FS} (hg : FilesOk g) {P : List Int} {l : List ByteArray} (hl : NamesOf g l) (x : ByteArray) : ((crashG g l P).1 x).isSome = (g x).isSome := by
  obtain ⟨h1, h2⟩ := crash_get g hg P l x
  by_cases hx : x ∈ l
  · obtain ⟨n, _, _, h⟩ := h1 hx
    rw [h, (hl.all x).1 hx]; rfl
  · rw [h2 hx]
    cases hs : (g x).isSome with
    | false => rfl
    | true => exact absurd ((hl.all x).2 hs) hx
theorem crash_ok {g : FS} (hg : FilesOk g) {P : List Int} {l : List ByteArray} : FilesOk (crashG g l P).1 := fun x f hf => by
  obtain ⟨h1, h2⟩ := crash_get g hg P l x
  by_cases hx : x ∈ l
  · obtain ⟨n, ha, hb, h⟩ := h1 hx
    rw [h] at hf
    rw [← Option.some.inj hf]
    exact cutF_ok (hg.get x) (by have := (hg.get x).1; omega) hb
  · rw [h2 hx] at hf; cases hf
/-- One text begins with another. -/
def hasPre (s p : ByteArray) : Bool := decide (p.size ≤ s.size ∧ s.extract 0 p.size = p)
set_option maxRecDepth 100000 in
theorem lite_any (s p : ByteArray) (w : World) : Calls Try.prog 46 #[.string s, .string p] w fun e w' => e = .returned (.bool (hasPre s p)) ∧ w = w' := by
  by_cases hle : p.size ≤ s.size
  · have hcut := run_cut_high (P := Try.prog) 9 Try.underlying9 s p.size hle (p.size : Int) rfl
    by_cases he : s.extract 0 p.size = p
    · have hh : hasPre s p = true := decide_eq_true ⟨hle, he⟩
      have ht : ((s.extract 0 p.size).toList == p.toList) = true := by rw [text_beq]; exact decide_eq_true he
      have HH := Lib.hid hh
      clear he hh
      go_enter Try.func46, Try.ntmps46
      go_wp2
      go_ret
      exact ⟨by rw [HH.out]; rfl, rfl⟩
    · have hh : hasPre s p = false := decide_eq_false fun h => he h.2
      have ht : ((s.extract 0 p.size).toList == p.toList) = false := by rw [text_beq]; exact decide_eq_false he
      have HH := Lib.hid hh
      clear he hh
      go_enter Try.func46, Try.ntmps46
      go_wp2
      go_ret
      exact ⟨by rw [HH.out]; rfl, rfl⟩
  · have hh : hasPre s p = false := decide_eq_false fun h => hle h.1
    have HH := Lib.hid hh
    clear hh
    go_enter Try.func46, Try.ntmps46
    go_wp2
    go_ret
    exact ⟨by rw [HH.out]; rfl, rfl⟩
set_option maxRecDepth 100000 in
theorem prefix_any (s p : ByteArray) (w : World) : Calls Try.prog 30 #[.string s, .string p] w fun e w' => e = .returned (.bool (hasPre s p)) ∧ w = w' := by
  have h := lite_any s p w
  go_enter Try.func30, Try.ntmps30
  go_wp2_with (go_at_call 46; refine h.mono ?_; rintro e w1 ⟨rfl, rfl⟩)
  go_ret
  exact ⟨rfl, rfl⟩
theorem hasPre_append (a c : ByteArray) : hasPre (a ++ c) a = true :=
  decide_eq_true ⟨by rw [ByteArray.size_append]; omega, by
    have hs : a.size = a.data.size := rfl
    apply ByteArray.ext
    rw [ByteArray.data_extract, ByteArray.data_append, hs, Array.extract_append]
    simp⟩
/-- What holds of a file while acts are done: what was sure of it begins it still. -/
structure SureInv (g : FS) (name sure : ByteArray) (B : Nat) : Prop where
  ok : FilesOk g
  small : ∀ x, ((g x).getD noFile).1.size ≤ B
  pre : ∃ c, ((g name).getD noFile).1 = sure ++ c
  le : (sure.size : Int) ≤ ((g name).getD noFile).2
theorem sure_start (name : ByteArray) : SureInv (fun _ => none) name ⟨#[]⟩ 0 :=
  ⟨FilesOk.none, fun _ => Nat.le_refl _, ⟨⟨#[]⟩, rfl⟩, by decide⟩
theorem put_same (g : FS) (x : ByteArray) (f : ByteArray × Int) : g.put x f x = some f := by simp [FS.put]
theorem put_other (g : FS) (x y : ByteArray) (f : ByteArray × Int) (h : y ≠ x) : g.put x f y = g y := by simp [FS.put, h]
theorem SureInv.mono {g : FS} {name sure : ByteArray} {B C : Nat} (h : SureInv g name sure B) (hC : B ≤ C) : SureInv g name sure C :=
  ⟨h.ok, fun x => Nat.le_trans (h.small x) hC, h.pre, h.le⟩
theorem SureInv.append {g : FS} {name sure : ByteArray} {B : Nat} (h : SureInv g name sure B) (code : Int) (nm dt : ByteArray) (hB : B + dt.size ≤ 1099511627776) : SureInv (appendG code g nm dt) name sure (B + dt.size) := by
  have hok := h.ok.append code nm dt (by have := h.small nm; omega)
  by_cases hc : code = 0
  · have e : appendG code g nm dt = g.put nm (moreF ((g nm).getD noFile) dt) := by rw [appendG, if_pos hc]
    refine ⟨hok, fun x => ?_, ?_, ?_⟩
    · rw [e]
      by_cases hx : x = nm
      · subst hx
        rw [put_same]
        have := h.small x
        simp only [Option.getD_some, moreF, ByteArray.size_append]; omega
      · rw [put_other _ _ _ _ hx]; have := h.small x; omega
    · rw [e]
      by_cases hx : name = nm
      · subst hx
        rw [put_same]
        obtain ⟨c, hc⟩ := h.pre
        exact ⟨c ++ dt, by simp only [Option.getD_some, moreF]; rw [hc, ByteArray.append_assoc]⟩
      · rw [put_other _ _ _ _ hx]; exact h.pre
    · rw [e]
      by_cases hx : name = nm
      · subst hx
        rw [put_same]
        exact h.le
      · rw [put_other _ _ _ _ hx]; exact h.le
  · have e : appendG code g nm dt = g := by rw [appendG, if_neg hc]
    rw [e]
    exact h.mono (by omega)
theorem SureInv.sync {g : FS} {name sure : ByteArray} {B : Nat} (h : SureInv g name sure B) (nm : ByteArray) : SureInv (syncG 0 g nm) name (if nm = name then ((syncG 0 g nm name).getD noFile).1 else sure) B := by
  have hok := h.ok.sync 0 nm
  have e : syncG 0 g nm = g.put nm (sureF ((g nm).getD noFile)) := by rw [syncG, if_pos rfl]
  rw [e] at hok ⊢
  refine ⟨hok, fun x => ?_, ?_, ?_⟩
  · by_cases hx : x = nm
    · subst hx; rw [put_same]; exact h.small x
    · rw [put_other _ _ _ _ hx]; exact h.small x
  · by_cases hx : nm = name
    · subst hx
      rw [if_pos rfl]
      exact ⟨⟨#[]⟩, ByteArray.append_empty.symm⟩
    · rw [if_neg hx, put_other _ _ _ _ (Ne.symm hx)]; exact h.pre
  · by_cases hx : nm = name
    · subst hx
      rw [if_pos rfl, put_same]
      exact Int.le_refl _
    · rw [if_neg hx, put_other _ _ _ _ (Ne.symm hx)]; exact h.le
theorem SureInv.remove {g : FS} {name sure : ByteArray} {B : Nat} (h : SureInv g name sure B) (nm : ByteArray) : SureInv (removeG 0 g nm) name (if nm = name then ⟨#[]⟩ else sure) B := by
  have hok := h.ok.remove 0 nm
  have e : removeG 0 g nm = g.del nm := by rw [removeG, if_pos rfl]
  rw [e] at hok ⊢
  have d1 : g.del nm nm = none := by simp [FS.del]
  have d2 : ∀ x, x ≠ nm → g.del nm x = g x := fun x hx => by simp [FS.del, hx]
  refine ⟨hok, fun x => ?_, ?_, ?_⟩
  · by_cases hx : x = nm
    · subst hx; rw [d1]; exact Nat.zero_le _
    · rw [d2 x hx]; exact h.small x
  · by_cases hx : nm = name
    · subst hx
      rw [if_pos rfl, d1]
      exact ⟨⟨#[]⟩, rfl⟩
    · rw [if_neg hx, d2 _ (Ne.symm hx)]; exact h.pre
  · by_cases hx : nm = name
    · subst hx
      rw [if_pos rfl, d1]
      decide
    · rw [if_neg hx, d2 _ (Ne.symm hx)]; exact h.le
/-- Behind the acts and a crash: what the file has begins with what was sure, and begins what it had. -/
theorem sure_end {g : FS} {name sure data : ByteArray} {B : Nat} (h : SureInv g name sure B) (hB : B + data.size ≤ 1099511627776) {P : List Int} {l : List ByteArray} (hl : NamesOf (appendG 0 g name data) l) :
    ∃ got : ByteArray, ∃ n : Int, (crashG (appendG 0 g name data) l P).1 name = some (got, n) ∧ hasPre got sure = true ∧ hasPre (((appendG 0 g name data) name).getD noFile).1 got = true := by
  have h2 := h.append 0 name data hB
  have hs : ((appendG 0 g name data) name).isSome = true := by rw [appendG, if_pos rfl, put_same]; rfl
  obtain ⟨n, h0, h1, he⟩ := (crash_get _ h2.ok P l name).1 ((hl.all name).2 hs)
  obtain ⟨c, hc⟩ := h2.pre
  obtain ⟨f, hf⟩ : ∃ f, f = ((appendG 0 g name data) name).getD noFile := ⟨_, rfl⟩
  have hle := h2.le
  have hok := h2.ok.get name
  rw [← hf] at h0 h1 he hc hle hok ⊢
  obtain ⟨m, rfl⟩ := Int.eq_ofNat_of_zero_le (show 0 ≤ n by have := hok.1; omega)
  have hm : m ≤ f.1.size := by omega
  refine ⟨f.1.extract 0 m, m, he, ?_, ?_⟩
  · refine decide_eq_true ⟨by rw [ByteArray.size_extract]; omega, ?_⟩
    have e1 : (f.1.extract 0 m).extract 0 sure.size = f.1.extract 0 sure.size := by
      rw [extract_extract, Nat.zero_add, Nat.zero_add, Nat.min_eq_left (by omega)]
    rw [e1, hc]
    exact (of_decide_eq_true (hasPre_append sure c)).2
  · have hz : (f.1.extract 0 m).size = m := by rw [ByteArray.size_extract]; omega
    exact decide_eq_true ⟨by rw [hz]; exact hm, by rw [hz]⟩
end Go.Proofs.Ytpllcnpcplbobaa
