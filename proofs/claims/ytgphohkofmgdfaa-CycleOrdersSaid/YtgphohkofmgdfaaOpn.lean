import Derived.Test.YtgphohkofmgdfaaCy1
import Derived.Test.YtgphohkofmgdfaaPost
import Derived.Carry
import Derived.WideKeyArgs
import Derived.ChangeSlices
import Derived.ProofKit
import Derived.OpenShut
import Derived.Deep.Slices
import Derived.ChangeArms
import Derived.SizedLaws
import Derived.SliceStrings
namespace Go.Proofs.Ytgphohkofmgdfaa
open Go.RowKit Go.WideShapes Go.ChangeShapes
set_option linter.unusedVariables false
section
variable {H : Type} {enc : TypeId × Value → H} {P : Program}
/-- All arguments read behind the call as they did before, where nothing has turned below the heap's old size. -/
theorem trodAll_stays (hl : laidOutB P = true) {W W' : World} {sp' : Nat → Bool} (hb : Below W.heap.size W W') : ∀ {ts : List TypeId} {vs : List Value} {ds : List (DataW H)} {ps : List MemPlace},
    (∀ t ∈ ts, P.readableRec t = true ∧ t < P.types.size) → DataW.TrodAll enc P W 0 (fun _ => true) true ts vs ds ps → (∀ p ∈ ps, p.block < W.heap.size) → (∀ p ∈ ps, sp' p.block = true) → DataW.TrodAll enc P W' 0 sp' true ts vs ds ps
  | [], [], [], _, _, h, _, _ => h
  | _ :: _, _ :: _, _ :: _, _, ht, ⟨p, q, h1, h2, e⟩, hlt, hs =>
    have ht0 := ht _ (List.mem_cons.2 (Or.inl rfl))
    ⟨p, q, WideElems.Trod_stays hl ht0.1 ht0.2 h1 (fun x hx => hb.same (hlt x (by rw [e]; exact List.mem_append_left _ hx))) (fun x hx => hs x (by rw [e]; exact List.mem_append_left _ hx)),
      trodAll_stays hl hb (fun t h => ht t (List.mem_cons.2 (Or.inr h))) h2 (fun x hx => hlt x (by rw [e]; exact List.mem_append_right _ hx)) (fun x hx => hs x (by rw [e]; exact List.mem_append_right _ hx)), e⟩
theorem addr_plain {w : World} {a : Addr} {v : Value} {n c : Nat} (h : w.cell? (a.add 0) = some v) (hc : (.slice (some a) n c : Value) = .slice (some a) n c) : a = ⟨a.block, a.off, none⟩ := by
  obtain ⟨b, o, s⟩ := a
  have hs : s = none := by simpa [Addr.add] using World.cell?_spot h
  rw [hs]
/-- Nothing in a datum is greater than the reach. -/
def Small (P : Program) (t : TypeId) (d : DataW H) : Prop := (d.weights P t).all (· ≤ reachBytes) = true
theorem small_mem {P : Program} {t : TypeId} {d : DataW H} (h : Small P t d) {n : Nat} (hn : n ∈ d.weights P t) : n ≤ 140737488351232 := by
  have := List.all_eq_true.1 h n hn
  simp only [decide_eq_true_eq] at this
  exact this
theorem small_of {P : Program} {t t' : TypeId} {d d' : DataW H} (h : Small P t d) (hsub : ∀ n ∈ d'.weights P t', n ∈ d.weights P t) : Small P t' d' :=
  List.all_eq_true.2 fun n hn => List.all_eq_true.1 h n (hsub n hn)
theorem small_arg {P : Program} {ts : List TypeId} {ds : List (DataW H)} (h : (DataW.weightsEach P ts ds).all (· ≤ reachBytes) = true) {j : Nat} {t : TypeId} {d : DataW H} (ht : ts[j]? = some t) (hd : ds[j]? = some d) : Small P t d :=
  List.all_eq_true.2 fun n hn => List.all_eq_true.1 h n (DataW.weights_mem_each ht hd n hn)
theorem small_slice {P : Program} {t e : TypeId} {l r : List (DataW H)} (ht : P.underlying t = some (.slice e)) (h : Small P t (.slice l r)) : (l.length + r.length) * P.bytesOf e ≤ 140737488351232 :=
  small_mem h (by simp [DataW.weights, ht])
theorem mem_weightsAll {P : Program} {e : TypeId} : ∀ {l : List (DataW H)} {d : DataW H}, d ∈ l → ∀ n ∈ d.weights P e, n ∈ DataW.weightsAll P e l
  | x :: l, d, hd, n, hn => by
    rw [DataW.weightsAll, List.mem_append]
    rcases List.mem_cons.1 hd with rfl | hd
    · exact .inl hn
    · exact .inr (mem_weightsAll hd n hn)
theorem small_string {P : Program} {t : TypeId} {s : ByteArray} (h : Small P t (.lit (.string s.data.toList) : DataW H)) : s.size ≤ 140737488351232 := by
  have := small_mem h (n := s.data.toList.length) (by simp [DataW.weights])
  rw [Array.length_toList] at this
  exact this
theorem open_numcells {w : World} {base : Nat} {sp : Nat → Bool} {held : Bool} {fuel : Nat} {cs : List Value} {x : DataW H × List MemPlace} (h : DataW.trod enc Try.prog w base sp held fuel 25 cs = some x) (hsp : ∀ b, sp b = true) (hw : Small Try.prog 25 x.1) :
    ∃ v l, cs = [v] ∧ NumsR w v l ∧ l.length ≤ 140737488351232 := by
  rcases open_ints Try.underlying25 Try.underlying3 (by kernel_rfl) h with ⟨rfl, _⟩ | ⟨a, len, cap, zs, rfl, _, hl, hm, hz, rfl, hcell, _⟩
  · exact ⟨_, [], rfl, numsR_nil w, Nat.zero_le _⟩
  · rw [hsp, if_pos rfl] at hz
    have hsm : len ≤ 140737488351232 := by
      have h1 := small_slice Try.underlying25 hw
      have h2 : Try.prog.bytesOf 3 = 8 := by kernel_rfl
      rw [h2] at h1
      simp only [lits, List.length_map, List.length_take, List.length_drop] at h1
      omega
    have hlen : (zs.take len).length = len := by rw [List.length_take]; omega
    refine ⟨_, zs.take len, rfl, ⟨some a, cap, by rw [hlen], by omega, ?_⟩, by omega⟩
    by_cases h0 : len = 0
    · exact .inl (by omega)
    · right
      have hp := addr_plain (n := 0) (c := 0) (hcell 0 (by omega)) rfl
      refine ⟨a.block, a.off, by rw [← hp], fun i hi => ?_⟩
      have hi' : i < zs.length := by rw [hlen] at hi; omega
      have h2 := hcell i hi'
      rw [hp, Addr.add_lit] at h2
      rw [h2]
      simp [List.getD, hi']
set_option maxRecDepth 100000 in
/-- A graph that came in. -/
theorem open_graph {W : World} {base : Nat} {v : Value} {d : DataW H} {p : List MemPlace}
    (hval : Value.okWide Try.prog W .any base 22 v) (h : DataW.Trod enc Try.prog W 0 (fun _ => true) true 22 v d p) (hw : Small Try.prog 22 d) :
    ∃ G : List (List Int), GraphR W v G ∧ G.length ≤ 140737488351232 ∧ ∀ l ∈ G, l.length ≤ 140737488351232 := by
  obtain ⟨a0, len, cap, rfl⟩ := okWide_slice Try.underlying22 hval
  obtain ⟨fuel, hf⟩ := h
  have hc : Try.prog.cellsOf 25 = 1 := by kernel_rfl
  rcases Deep.open_slice Try.underlying22 hf with ⟨hcs, _⟩ | ⟨a, len', cap', m, n, D, Pl, hcs, _, hl, hm, hmm, hd, hx⟩
  · simp [Value.cells] at hcs
    obtain ⟨rfl, rfl, rfl⟩ := hcs
    exact ⟨[], ⟨none, 0, rfl, Nat.le_refl _, .inl rfl⟩, Nat.zero_le _, fun l hl => by cases hl⟩
  · simp [Value.cells] at hcs
    obtain ⟨rfl, rfl, rfl⟩ := hcs
    simp only [if_true] at hmm
    have hd1 := congrArg Prod.fst hd
    simp only at hd1
    subst hd1
    have hlen := small_slice Try.underlying22 hw
    have hby : Try.prog.bytesOf 25 = 24 := by kernel_rfl
    rw [hby] at hlen
    simp only [List.length_map, List.length_range] at hlen
    have hel : ∀ i, i < len → Small Try.prog 25 (D i) := fun i hi => small_of hw fun n hn => by
      have := mem_weightsAll (P := Try.prog) (e := 25) (l := (List.range len).map D) (d := D i) (List.mem_map.2 ⟨i, List.mem_range.2 hi, rfl⟩) n hn
      simp only [DataW.weights, Try.underlying22, List.mem_cons, List.mem_append]
      exact .inr (.inl this)
    obtain ⟨f, hfx⟩ := Deep.choose_lt (α := Value × List Int) (n := len) (p := fun i y => W.cell? (a.add (i * 1)) = some y.1 ∧ NumsR W y.1 y.2 ∧ y.2.length ≤ 140737488351232) (fun i hi => by
      obtain ⟨cs', h1, h2⟩ := hx i (by omega)
      rw [hc] at h1
      obtain ⟨v, l, rfl, htx, hn⟩ := open_numcells h2 (fun _ => rfl) (hel i hi)
      obtain ⟨_, _, h3⟩ := World.cells?_some h1
      refine ⟨(v, l), ?_, htx, hn⟩
      have h4 : W.cell? ((a.add (i * 1)).add 0) = some v := h3 0 (by omega)
      have e4 : (a.add (i * 1)).add 0 = a.add (i * 1) := by simp [Addr.add]
      rw [e4] at h4
      exact h4)
    have hll : ((List.range len).map fun i => (f i).2).length = len := by simp
    refine ⟨(List.range len).map fun i => (f i).2, ⟨some a, cap, by rw [hll], by rw [hll]; omega, ?_⟩, by rw [hll]; omega, fun l hl => ?_⟩
    · by_cases h0 : len = 0
      · exact .inl (by omega)
      · right
        obtain ⟨ab, ao, asp⟩ := a
        have hs : asp = none := by
          have h1 := (hfx 0 (by omega)).1
          simpa [Addr.add] using World.cell?_spot h1
        subst hs
        refine ⟨ab, ao, rfl, fun i hi => ?_⟩
        rw [hll] at hi
        have hg : ((List.range len).map fun i => (f i).2)[i]'(by rw [hll]; exact hi) = (f i).2 := by simp
        rw [hg]
        obtain ⟨h1, h2, h3⟩ := hfx i hi
        refine ⟨(f i).1, ?_, h2⟩
        rw [Addr.add_lit] at h1
        simpa using h1
    · obtain ⟨i, hi, rfl⟩ := List.mem_map.1 hl
      exact (hfx i (List.mem_range.1 hi)).2.2
end
end Go.Proofs.Ytgphohkofmgdfaa
