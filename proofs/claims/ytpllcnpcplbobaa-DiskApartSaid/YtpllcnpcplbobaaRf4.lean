import Derived.Test.YtpllcnpcplbobaaRf3
namespace Go.Proofs.Ytpllcnpcplbobaa
open Go.RowKit Go.Maps
/-! A list of files, by rising names, says what a map of files says. -/
structure Lists (g : FS) (l : List RF) : Prop where
  rises : l.Pairwise (fun f h => lessB f.1 h.1 = true)
  all : ∀ f, f ∈ l ↔ g f.1 = some f.2
theorem lists_nil : Lists (fun _ => none) [] := ⟨.nil, fun f => by simp⟩
theorem lessB_irrefl (x : ByteArray) : lessB x x = false := by
  rw [lessB_eq]; exact decide_eq_false (List.lt_irrefl _)
theorem lessB_ne {x y : ByteArray} (h : lessB x y = true) : x ≠ y := fun e => by rw [e, lessB_irrefl] at h; cases h
theorem lessB_trans {x y z : ByteArray} (h : lessB x y = true) (k : lessB y z = true) : lessB x z = true := by
  rw [lessB_eq] at *
  exact decide_eq_true (List.lt_trans (of_decide_eq_true h) (of_decide_eq_true k))
theorem lessB_asymm {x y : ByteArray} (h : lessB x y = true) : lessB y x = false := by
  cases h2 : lessB y x with
  | false => rfl
  | true => have := lessB_trans h h2; rw [lessB_irrefl] at this; cases this
theorem lessB_tri (x y : ByteArray) : lessB x y = true ∨ x = y ∨ lessB y x = true := by
  rw [lessB_eq, lessB_eq]
  by_cases h1 : x.data.toList < y.data.toList
  · exact .inl (decide_eq_true h1)
  · by_cases h2 : y.data.toList < x.data.toList
    · exact .inr (.inr (decide_eq_true h2))
    · exact .inr (.inl (WideShapes.bytes_inj (List.le_antisymm h2 h1)))
theorem Lists.some {g : FS} {l : List RF} (h : Lists g l) {k : Nat} (hk : k < l.length) : g (l[k]).1 = some (l[k]).2 := (h.all _).1 (List.getElem_mem hk)
theorem Lists.none {g : FS} {l : List RF} (h : Lists g l) {x : ByteArray} (hn : ∀ j (hj : j < l.length), (l[j]).1 ≠ x) : g x = none := by
  cases hg : g x with
  | none => rfl
  | some f =>
    have hm := (h.all (x, f)).2 hg
    obtain ⟨j, hj, e⟩ := List.getElem_of_mem hm
    exact absurd (by rw [e]) (hn j hj)
/-- Where a file stands, by what the map says. -/
theorem Lists.atIs {g : FS} {l : List RF} (h : Lists g l) {x : ByteArray} {i : Int} (hi : AtIs l x i) :
    (g x = .none ∧ i = -1) ∨ ∃ k, ∃ hk : k < l.length, i = (k : Int) ∧ ∃ d s, l[k] = (x, d, s) ∧ g x = .some (d, s) := by
  rcases hi with ⟨rfl, hn⟩ | ⟨k, hk, rfl, hx, _⟩
  · exact .inl ⟨h.none hn, rfl⟩
  · refine .inr ⟨k, hk, rfl, (l[k]).2.1, (l[k]).2.2, ?_, ?_⟩
    · rw [← hx]
    · have := h.some hk
      rw [hx] at this
      exact this
theorem pairwise_filter {α : Type} {r : α → α → Prop} {l : List α} (p : α → Bool) (h : l.Pairwise r) : (l.filter p).Pairwise r := h.sublist List.filter_sublist
theorem Lists.with {g : FS} {l : List RF} (h : Lists g l) (f : RF) : Lists (g.put f.1 f.2) (withL l f) := by
  refine ⟨?_, fun e => ?_⟩
  · unfold withL
    rw [List.pairwise_append, List.pairwise_append]
    refine ⟨⟨pairwise_filter _ h.rises, List.pairwise_singleton _ _, fun a ha b hb => ?_⟩, pairwise_filter _ h.rises, fun a ha b hb => ?_⟩
    · rw [List.mem_singleton.1 hb]; exact (List.mem_filter.1 ha).2
    · have hb2 := (List.mem_filter.1 hb).2
      rcases List.mem_append.1 ha with ha | ha
      · exact lessB_trans (List.mem_filter.1 ha).2 hb2
      · rw [List.mem_singleton.1 ha]; exact hb2
  · have hm : e ∈ withL l f ↔ (e ∈ l ∧ lessB e.1 f.1 = true) ∨ e = f ∨ (e ∈ l ∧ lessB f.1 e.1 = true) := by
      unfold withL lowL highL
      simp only [List.mem_append, List.mem_filter, List.mem_singleton, or_assoc]
    rw [hm]
    unfold FS.put
    by_cases he : e.1 = f.1
    · rw [if_pos he, he, lessB_irrefl]
      simp only [Bool.false_eq_true, and_false, false_or, or_false, Option.some.injEq]
      constructor
      · rintro rfl; rfl
      · intro e2
        exact Prod.ext he e2.symm
    · rw [if_neg he, ← h.all e]
      constructor
      · rintro (h1 | h1 | h1)
        · exact h1.1
        · exact absurd (by rw [h1]) he
        · exact h1.1
      · intro h1
        rcases lessB_tri e.1 f.1 with h2 | h2 | h2
        · exact .inl ⟨h1, h2⟩
        · exact absurd h2 he
        · exact .inr (.inr ⟨h1, h2⟩)
theorem Lists.without {g : FS} {l : List RF} (h : Lists g l) (x : ByteArray) : Lists (g.del x) (withoutL l x) := by
  refine ⟨pairwise_filter _ h.rises, fun e => ?_⟩
  unfold withoutL FS.del
  rw [List.mem_filter, h.all e]
  by_cases he : e.1 = x <;> simp [he]
theorem filter_two {α : Type} (p q : α → Bool) (h : ∀ a, p a = true → q a = false) : ∀ l : List α, (l.filter p).length + (l.filter q).length ≤ l.length
  | [] => Nat.le_refl _
  | a :: l => by
    have ih := filter_two p q h l
    have := h a
    cases hp : p a <;> cases hq : q a <;> simp_all <;> omega
theorem withL_length (l : List RF) (f : RF) : (withL l f).length ≤ l.length + 1 := by
  have := filter_two (fun e : RF => lessB e.1 f.1) (fun e : RF => lessB f.1 e.1) (fun a ha => lessB_asymm ha) l
  unfold withL lowL highL
  simp only [List.length_append, List.length_singleton]
  omega
theorem withoutL_length (l : List RF) (x : ByteArray) : (withoutL l x).length ≤ l.length := List.length_filter_le _ _
theorem lessB_le {x y : ByteArray} (h : lessB x y = true) : x.data.toList ≤ y.data.toList := by
  rw [lessB_eq] at h
  exact List.le_of_lt (of_decide_eq_true h)
/-- All names, rising: those of the map's. -/
theorem Lists.names {g : FS} {l : List RF} (h : Lists g l) {m : List ByteArray} (hm : NamesOf g m) : l.map (·.1) = m := by
  have hr : (l.map (·.1)).Pairwise (fun a b : ByteArray => a.data.toList ≤ b.data.toList) := by
    rw [List.pairwise_map]
    exact h.rises.imp fun e => lessB_le e
  have hn : (l.map (·.1)).Nodup := by
    rw [List.nodup_iff_pairwise_ne, List.pairwise_map]
    exact h.rises.imp fun e => lessB_ne e
  refine List.Perm.eq_of_pairwise (le := fun a b : ByteArray => a.data.toList ≤ b.data.toList) (fun a b _ _ h1 h2 => WideShapes.bytes_inj (List.le_antisymm h1 h2)) hr hm.rising
    ((List.perm_ext_iff_of_nodup hn hm.once).2 fun x => ?_)
  rw [hm.all x, List.mem_map]
  constructor
  · rintro ⟨e, he, rfl⟩
    rw [(h.all e).1 he]; rfl
  · intro hx
    cases hg : g x with
    | none => rw [hg] at hx; cases hx
    | some f => exact ⟨(x, f), (h.all _).2 hg, rfl⟩
/-- A reference's disk's files, in memory. -/
def RefAt (w : World) (v : Value) (g : FS) (N : Nat) : Prop := ∃ l, FilesAt w v l ∧ Lists g l ∧ l.length ≤ N
theorem RefAt.below {w w' : World} {v : Value} {g : FS} {N : Nat} (h : RefAt w v g N) (hb : Below w.heap.size w w') : RefAt w' v g N := by
  obtain ⟨l, h1, h2, h3⟩ := h
  exact ⟨l, h1.below hb, h2, h3⟩
theorem RefAt.mono {w : World} {v : Value} {g : FS} {N M : Nat} (h : RefAt w v g N) (hn : N ≤ M) : RefAt w v g M := by
  obtain ⟨l, h1, h2, h3⟩ := h
  exact ⟨l, h1, h2, by omega⟩
theorem refAt_nil (w : World) : RefAt w (.slice none 0 0) (fun _ => none) 0 := ⟨[], filesAt_nil w, lists_nil, Nat.le_refl _⟩
end Go.Proofs.Ytpllcnpcplbobaa
