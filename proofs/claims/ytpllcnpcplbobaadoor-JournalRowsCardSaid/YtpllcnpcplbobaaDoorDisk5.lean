import Derived.Test.YtpllcnpcplbobaaDoorDisk4
import Derived.Test.YtpllcnpcplbobaaDoorIter
import Derived.TacticsIn
namespace Go.Proofs.YtpllcnpcplbobaaDoor
open Go.RowKit Go.Maps
/-- All files' names, rising, each once. -/
structure NamesOf (g : FS) (l : List ByteArray) : Prop where
  rising : l.Pairwise (fun a b => a.data.toList ≤ b.data.toList)
  once : l.Nodup
  all : ∀ x, x ∈ l ↔ (g x).isSome = true
  small : ∀ x ∈ l, x.size ≤ maxLen
theorem keys_string {w : World} {b N : Nat} {D : DataW Unit} (h : w.ownsMap Tryd.prog 9 fileR b N D) : ∃ es, D = .map es ∧ es.Pairwise (fun p q => p.1 ≠ q.1) ∧ ∀ p ∈ es, ∃ s : ByteArray, p.1 = kl s ∧ s.size ≤ maxLen := by
  obtain ⟨es, hD, hp, _⟩ := h.entries keyed
  refine ⟨es, hD, hp, fun p hpm => ?_⟩
  obtain ⟨es0, clock, _, F, _, hD2⟩ := h
  rw [hD] at hD2
  have he : es = (es0.toList.map (WideElems.rg Tryd.prog 9 fileR)).foldr DataW.insert [] := by injection hD2
  rw [he] at hpm
  obtain ⟨v, hv⟩ := fit_keys F p (mem_sorted.1 hpm)
  obtain ⟨s, _, hs, hz⟩ := WideMaps.string_of_keyOf Tryd.underlying9 hv
  exact ⟨s, hs, hz⟩
theorem strOf_kl (s : ByteArray) : strOf (kl s) = s.data.toList := rfl
theorem namesOf_keys {w : World} {b N : Nat} {D : DataW Unit} {g : FS} (h : w.ownsMap Tryd.prog 9 fileR b N D) (hr : ∀ name, has D (kl name) = (g name).isSome ∧ ∀ f, g name = some f → ∀ z, D.atKey (kl name) z = fileD f)
    {ss : List (List UInt8)} (hS : ss.Perm (strKeys D)) : NamesOf g ((ss.mergeSort (fun x y => decide (x ≤ y))).map fun l => (⟨l.toArray⟩ : ByteArray)) := by
  obtain ⟨es, rfl, hp, hk⟩ := keys_string h
  have hperm : (ss.mergeSort (fun x y => decide (x ≤ y))).Perm (es.map fun p => strOf p.1) := (List.mergeSort_perm _ _).trans hS
  have hinj : ∀ a b : List UInt8, (⟨a.toArray⟩ : ByteArray) = ⟨b.toArray⟩ → a = b := fun a b e => by simpa using e
  refine ⟨?_, ?_, fun x => ?_, fun x hx => ?_⟩
  · rw [List.pairwise_map]
    have h1 := List.pairwise_mergeSort (le := fun x y : List UInt8 => decide (x ≤ y)) (fun a b c h1 h2 => by
      simp only [decide_eq_true_eq] at *
      exact List.le_trans h1 h2) (fun a b => by
      simp only [Bool.or_eq_true, decide_eq_true_eq]
      exact List.le_total a b) ss
    exact h1.imp fun h => by simpa using h
  · rw [List.nodup_iff_pairwise_ne, List.pairwise_map]
    have h2 : (es.map fun p => strOf p.1).Nodup := by
      rw [List.nodup_iff_pairwise_ne, List.pairwise_map]
      refine List.Pairwise.imp_of_mem (fun {p q} hpm hqm hne e => hne ?_) hp
      obtain ⟨s, hs, _⟩ := hk p hpm
      obtain ⟨t, ht, _⟩ := hk q hqm
      rw [hs, ht, strOf_kl, strOf_kl] at e
      rw [hs, ht, kl, kl, e]
    have h3 := hperm.nodup_iff.2 h2
    rw [List.nodup_iff_pairwise_ne] at h3
    exact h3.imp fun hne e => hne (hinj _ _ e)
  · have hm : x ∈ (ss.mergeSort (fun x y => decide (x ≤ y))).map (fun l => (⟨l.toArray⟩ : ByteArray)) ↔ x.data.toList ∈ es.map fun p => strOf p.1 := by
      rw [← hperm.mem_iff, List.mem_map]
      constructor
      · rintro ⟨l, hl, rfl⟩; simpa using hl
      · exact fun hl => ⟨_, hl, by cases x; simp⟩
    rw [hm, ← (hr x).1, has_eq, List.any_eq_true, List.mem_map]
    constructor
    · rintro ⟨p, hpm, e⟩
      obtain ⟨s, hs, _⟩ := hk p hpm
      rw [hs, strOf_kl] at e
      refine ⟨p, hpm, ?_⟩
      rw [hs, kl, e]
      exact WideAt.sameKey_self (kl_key x)
    · rintro ⟨p, hpm, e⟩
      have := WideAt.sameKey_eq e
      exact ⟨p, hpm, by rw [this]; rfl⟩
  · obtain ⟨l, hl, rfl⟩ := List.mem_map.1 hx
    obtain ⟨p, hpm, e⟩ := List.mem_map.1 (hperm.mem_iff.1 hl)
    obtain ⟨s, hs, hz⟩ := hk p hpm
    rw [hs, strOf_kl] at e
    have : (⟨l.toArray⟩ : ByteArray) = s := by rw [← e]
    rw [this]; exact hz
theorem strs_enc (l : List (List UInt8)) : l.map encStr = strs (l.map fun b => (⟨b.toArray⟩ : ByteArray)) := by
  simp [strs, encStr]
set_option maxRecDepth 100000 in
set_option maxHeartbeats 1000000 in
theorem names_disk (p b N : Nat) (g : FS) (left : Int) (hN : N ≤ 1099511627776) (w : World) (hD : DiskAt w p b g left N) :
    Calls Tryd.prog 28 #[.pointer (some ⟨p, 0, none⟩)] w fun e w' => ∃ v l, e = .returned v ∧ NamesOf g l ∧ l.length ≤ N ∧ w'.ownsRow w.heap.size 9 1 v l.length (strs l) ∧ Below w.heap.size w w' := by
  have c0 := hD.cell0
  obtain ⟨D, hown, hr⟩ := hD.files
  have hsz := hown.size_le
  have hks : (strKeys D).length = Maps.size D := by
    obtain ⟨es, rfl, _⟩ := keys_string hown
    simp [strKeys, Maps.size]
  have HKS := Lib.hid hks
  have HOWN := Lib.hid hown
  have HR := Lib.hid hr
  clear hown hr hD hks
  refine (callsIn_wide (n := 6)).1 ?_
  have hfK : Fence.wide.fn 42 := trivial
  have hfS : Fence.wide.fn 41 := trivial
  refine callsIn_of_wp Tryd.func28 rfl trivial ?_ rfl
  simp only [Tryd.ntmps28, List.size_toArray, List.length_cons, List.length_nil, Nat.reduceAdd, Nat.reduceSub, Array.replicate_succ, Array.replicate_zero, List.push_toArray, List.append_toArray, List.nil_append, List.cons_append]
  gi_wp2_with (first
    | (gi_at_call 42; refine (maps_Keys_45 _ _).mono ?_; rintro e w' ⟨rfl, rfl⟩)
    | (gi_at_call 41; refine (slices_Sorted_keys_44_45 b N D fileR w HOWN.out (by simp only [maxLen]; omega) (by omega)).mono ?_; rintro e w' ⟨v, ss, rfl, hS, hrow, hnil, hb⟩))
  go_ret
  refine ⟨v, _, rfl, namesOf_keys HOWN.out HR.out hS, ?_, ?_, ((Below.refl _ w).alloc (Nat.le_refl _) _).trans (hb.mono (by simp))⟩
  · rw [List.length_map, (List.mergeSort_perm _ _).length_eq, hS.length_eq, HKS.out]; exact hsz
  · rw [← strs_enc, List.length_map, (List.mergeSort_perm _ _).length_eq]
    exact ownsRow_base_a hrow (by simp)
end Go.Proofs.YtpllcnpcplbobaaDoor
