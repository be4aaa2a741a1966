import Derived.Test.YtpllcnpcplbobaaDisk6
import Derived.Test.YtpllcnpcplbobaaPost2
import Derived.Deep.Slices
import Derived.ChangeArms
import Derived.SizedLaws
namespace Go.Proofs.Ytpllcnpcplbobaa
open Go.RowKit Go.WideShapes Go.ChangeShapes
/-- One act, as it can be read. -/
structure ActL where
  kind : Int
  n : Int
  name : ByteArray
  to_ : ByteArray
  data : ByteArray
  pv : Value
  picks : List Int
instance : Inhabited ActL := ⟨⟨0, 0, ⟨#[]⟩, ⟨#[]⟩, ⟨#[]⟩, .slice none 0 0, []⟩⟩
def ActL.cells (x : ActL) : List Value := [.int .i64 x.kind, .int .i64 x.n, .string x.name, .string x.to_, .string x.data, x.pv]
def ActL.Fits (x : ActL) : Prop := (-9223372036854775808 ≤ x.n ∧ x.n ≤ 9223372036854775807) ∧ x.name.size ≤ 140737488351232 ∧ x.to_.size ≤ 140737488351232 ∧ x.data.size ≤ 140737488351232 ∧ x.picks.length ≤ 140737488351232
/-- An act's six cells, in memory. -/
def ActAt (w : World) (b o : Nat) (x : ActL) : Prop := (∀ j u, x.cells[j]? = some u → w.cell? ⟨b, o + j, none⟩ = some u) ∧ NumsAt w x.pv x.picks ∧ x.Fits
/-- A slice of acts, as it can be read. -/
def ActsAt (w : World) (v : Value) (l : List ActL) : Prop :=
  ∃ (a : Option Addr) (c : Nat), v = .slice a l.length c ∧ (l.length = 0 ∨ ∃ b o, a = some ⟨b, o, none⟩ ∧ ∀ i (h : i < l.length), ActAt w b (o + i * 6) l[i])
theorem ActAt.below {w w' : World} {b o : Nat} {x : ActL} (h : ActAt w b o x) (hb : Below w.heap.size w w') : ActAt w' b o x :=
  ⟨fun j u hu => (hb.cell (World.block_lt_of_cell? w _ (h.1 j u hu))).trans (h.1 j u hu), h.2.1.below hb, h.2.2⟩
section
variable {H : Type} {enc : TypeId × Value → H}
/-- Nothing in a datum is greater than the reach. -/
def Small (P : Program) (t : TypeId) (d : DataW H) : Prop := (d.weights P t).all (· ≤ reachBytes) = true
theorem small_mem {P : Program} {t : TypeId} {d : DataW H} (h : Small P t d) {n : Nat} (hn : n ∈ d.weights P t) : n ≤ 140737488351232 := by
  have := List.all_eq_true.1 h n hn
  simp only [decide_eq_true_eq] at this
  exact this
theorem small_of {P : Program} {t t' : TypeId} {d d' : DataW H} (h : Small P t d) (hsub : ∀ n ∈ d'.weights P t', n ∈ d.weights P t) : Small P t' d' :=
  List.all_eq_true.2 fun n hn => List.all_eq_true.1 h n (hsub n hn)
theorem small_arg {P : Program} {ts : List TypeId} {ds : List (DataW H)} (h : (DataW.weightsEach P ts ds).all (· ≤ reachBytes) = true) {j : Nat} {t : TypeId} {d : DataW H} (ht : ts[j]? = some t) (hd : ds[j]? = some d) : Small P t d :=
  List.all_eq_true.2 fun n hn => List.all_eq_true.1 h n (DataW.weights_mem_each ht hd n hn)
theorem small_slice {P : Program} {t e : TypeId} {l r : List (DataW H)} (ht : P.underlying t = some (.slice e)) (h : Small P t (.slice l r)) : (l.length + r.length) * P.bytesOf e ≤ 140737488351232 :=
  small_mem h (by simp [DataW.weights, ht])
theorem mem_weightsAll {P : Program} {e : TypeId} : ∀ {l : List (DataW H)} {d : DataW H}, d ∈ l → ∀ n ∈ d.weights P e, n ∈ DataW.weightsAll P e l
  | x :: l, d, hd, n, hn => by
    rw [DataW.weightsAll, List.mem_append]
    rcases List.mem_cons.1 hd with rfl | hd
    · exact .inl hn
    · exact .inr (mem_weightsAll hd n hn)
theorem small_string {P : Program} {t : TypeId} {s : ByteArray} (h : Small P t (.lit (.string s.data.toList) : DataW H)) : s.size ≤ 140737488351232 := by
  have := small_mem h (n := s.data.toList.length) (by simp [DataW.weights])
  rw [Array.length_toList] at this
  exact this
theorem open_numcells {w : World} {base : Nat} {sp : Nat → Bool} {held : Bool} {fuel : Nat} {cs : List Value} {x : DataW H × List MemPlace} (h : DataW.trod enc Try.prog w base sp held fuel 48 cs = some x) (hsp : ∀ b, sp b = true) (hw : Small Try.prog 48 x.1) :
    ∃ v l, cs = [v] ∧ NumsAt w v l ∧ l.length ≤ 140737488351232 := by
  rcases open_ints Try.underlying48 Try.underlying3 (by kernel_rfl) h with ⟨rfl, _⟩ | ⟨a, len, cap, zs, rfl, _, hl, hm, hz, rfl, hcell, _⟩
  · exact ⟨_, [], rfl, numsAt_nil w, Nat.zero_le _⟩
  · rw [hsp, if_pos rfl] at hz
    have hsm : len ≤ 140737488351232 := by
      have h1 := small_slice Try.underlying48 hw
      have h2 : Try.prog.bytesOf 3 = 8 := by kernel_rfl
      rw [h2] at h1
      simp only [lits, List.length_map, List.length_take, List.length_drop] at h1
      omega
    have hlen : (zs.take len).length = len := by rw [List.length_take]; omega
    refine ⟨_, zs.take len, rfl, ⟨some a, cap, by rw [hlen], by omega, ?_⟩, by omega⟩
    by_cases h0 : len = 0
    · exact .inl (by omega)
    · right
      have hp := addr_plain (n := 0) (c := 0) (hcell 0 (by omega)) rfl
      refine ⟨a.block, a.off, by rw [← hp], fun i hi => ?_⟩
      have hi' : i < zs.length := by rw [hlen] at hi; omega
      have h2 := hcell i hi'
      rw [hp, Addr.add_lit] at h2
      rw [h2]
      simp [List.getD, hi']
set_option maxRecDepth 100000 in
theorem open_act {w : World} {base : Nat} {sp : Nat → Bool} {held : Bool} {fuel : Nat} {cs : List Value} {x : DataW H × List MemPlace} (h : DataW.trod enc Try.prog w base sp held fuel 51 cs = some x) (hsp : ∀ b, sp b = true) (hw : Small Try.prog 51 x.1) :
    ∃ y : ActL, cs = y.cells ∧ NumsAt w y.pv y.picks ∧ y.Fits := by
  obtain ⟨xs, n, _, rfl, hl, hlen, hf⟩ := DataW.trod_struct Try.underlying51 h
  have hc : Try.prog.cellsOf 51 = 6 := by kernel_rfl
  have c1 : ∀ t, t = 3 ∨ t = 9 ∨ t = 48 → Try.prog.cellsOf t = 1 := by
    rintro t (rfl | rfl | rfl) <;> kernel_rfl
  rw [hc] at hl
  match cs, hl with
  | [v0, v1, v2, v3, v4, v5], _ =>
    match xs, hlen with
    | [y0, y1, y2, y3, y4, y5], _ =>
      have hpart : ∀ (j : Nat) (t : TypeId) (d : DataW H), ([3, 3, 9, 9, 9, 48] : List TypeId)[j]? = some t → [y0.1, y1.1, y2.1, y3.1, y4.1, y5.1][j]? = some d → Small Try.prog t d := fun j t d ht hd =>
        small_of hw fun n hn => by
          have := DataW.weights_mem_each ht hd n hn
          simpa [DataW.weights, Try.underlying51] using this
      have h0 : DataW.trod enc Try.prog w base sp held n 3 ((List.drop 0 [v0, v1, v2, v3, v4, v5]).take (Try.prog.cellsOf 3)) = some y0 := hf 0 _ rfl
      have h1 : DataW.trod enc Try.prog w base sp held n 3 ((List.drop 1 [v0, v1, v2, v3, v4, v5]).take (Try.prog.cellsOf 3)) = some y1 := hf 1 _ rfl
      have h2 : DataW.trod enc Try.prog w base sp held n 9 ((List.drop 2 [v0, v1, v2, v3, v4, v5]).take (Try.prog.cellsOf 9)) = some y2 := hf 2 _ rfl
      have h3 : DataW.trod enc Try.prog w base sp held n 9 ((List.drop 3 [v0, v1, v2, v3, v4, v5]).take (Try.prog.cellsOf 9)) = some y3 := hf 3 _ rfl
      have h4 : DataW.trod enc Try.prog w base sp held n 9 ((List.drop 4 [v0, v1, v2, v3, v4, v5]).take (Try.prog.cellsOf 9)) = some y4 := hf 4 _ rfl
      have h5 : DataW.trod enc Try.prog w base sp held n 48 ((List.drop 5 [v0, v1, v2, v3, v4, v5]).take (Try.prog.cellsOf 48)) = some y5 := hf 5 _ rfl
      rw [c1 3 (by simp)] at h0
      rw [c1 3 (by simp)] at h1
      rw [c1 9 (by simp)] at h2
      rw [c1 9 (by simp)] at h3
      rw [c1 9 (by simp)] at h4
      rw [c1 48 (by simp)] at h5
      replace h0 : DataW.trod enc Try.prog w base sp held n 3 [v0] = some y0 := h0
      replace h1 : DataW.trod enc Try.prog w base sp held n 3 [v1] = some y1 := h1
      replace h2 : DataW.trod enc Try.prog w base sp held n 9 [v2] = some y2 := h2
      replace h3 : DataW.trod enc Try.prog w base sp held n 9 [v3] = some y3 := h3
      replace h4 : DataW.trod enc Try.prog w base sp held n 9 [v4] = some y4 := h4
      replace h5 : DataW.trod enc Try.prog w base sp held n 48 [v5] = some y5 := h5
      obtain ⟨k, e0, _, _⟩ := DataW.trod_int Try.underlying3 h0
      obtain ⟨m, e1, _, w1⟩ := DataW.trod_int Try.underlying3 h1
      obtain ⟨s2, e2, x2, _⟩ := DataW.trod_string Try.underlying9 h2
      obtain ⟨s3, e3, x3, _⟩ := DataW.trod_string Try.underlying9 h3
      obtain ⟨s4, e4, x4, _⟩ := DataW.trod_string Try.underlying9 h4
      have z2 := small_string (s := s2) (by have := hpart 2 _ _ rfl rfl; rw [x2] at this; exact this)
      have z3 := small_string (s := s3) (by have := hpart 3 _ _ rfl rfl; rw [x3] at this; exact this)
      have z4 := small_string (s := s4) (by have := hpart 4 _ _ rfl rfl; rw [x4] at this; exact this)
      obtain ⟨v, l, e5, hn, hnl⟩ := open_numcells h5 hsp (hpart 5 _ _ rfl rfl)
      simp only [List.cons.injEq, and_true] at e0 e1 e2 e3 e4 e5
      subst e0 e1 e2 e3 e4 e5
      have hb := bounds_i64 w1
      exact ⟨⟨k, m, s2, s3, s4, v5, l⟩, rfl, hn, hb, z2, z3, z4, hnl⟩
set_option maxRecDepth 100000 in
theorem open_acts {W : World} {base : Nat} {v : Value} {d : DataW H} {p : List MemPlace}
    (hval : Value.okWide Try.prog W .any base 46 v) (h : DataW.Trod enc Try.prog W 0 (fun _ => true) true 46 v d p) (hw : Small Try.prog 46 d) :
    ∃ l : List ActL, ActsAt W v l ∧ l.length ≤ 140737488351232 := by
  obtain ⟨a0, len, cap, rfl⟩ := okWide_slice Try.underlying46 hval
  obtain ⟨fuel, hf⟩ := h
  have hc : Try.prog.cellsOf 51 = 6 := by kernel_rfl
  rcases Deep.open_slice Try.underlying46 hf with ⟨hcs, _⟩ | ⟨a, len', cap', m, n, D, Pl, hcs, _, hl, hm, hmm, hd, hx⟩
  · simp [Value.cells] at hcs
    obtain ⟨rfl, rfl, rfl⟩ := hcs
    exact ⟨[], ⟨none, 0, rfl, .inl rfl⟩, Nat.zero_le _⟩
  · simp [Value.cells] at hcs
    obtain ⟨rfl, rfl, rfl⟩ := hcs
    simp only [if_true] at hmm
    have hd1 := congrArg Prod.fst hd
    simp only at hd1
    subst hd1
    have hlen := small_slice Try.underlying46 hw
    have hby : Try.prog.bytesOf 51 = 88 := by kernel_rfl
    rw [hby] at hlen
    simp only [List.length_map, List.length_range] at hlen
    have hel : ∀ i, i < len → Small Try.prog 51 (D i) := fun i hi => small_of hw fun n hn => by
      have := mem_weightsAll (P := Try.prog) (e := 51) (l := (List.range len).map D) (d := D i) (List.mem_map.2 ⟨i, List.mem_range.2 hi, rfl⟩) n hn
      simp only [DataW.weights, Try.underlying46, List.mem_cons, List.mem_append]
      exact .inr (.inl this)
    obtain ⟨f, hfx⟩ := Deep.choose_lt (α := ActL) (n := len) (p := fun i y => (∀ j u, y.cells[j]? = some u → W.cell? ((a.add (i * 6)).add j) = some u) ∧ NumsAt W y.pv y.picks ∧ y.Fits) (fun i hi => by
      obtain ⟨cs', h1, h2⟩ := hx i (by omega)
      rw [hc] at h1
      obtain ⟨y, rfl, hn, hfit⟩ := open_act h2 (fun _ => rfl) (hel i hi)
      obtain ⟨_, _, h3⟩ := World.cells?_some h1
      refine ⟨y, fun j u hu => ?_, hn, hfit⟩
      have hj : j < 6 := (List.getElem?_eq_some_iff.1 hu).1
      rw [h3 j hj]; exact hu)
    have hll : ((List.range len).map f).length = len := by simp
    refine ⟨(List.range len).map f, ⟨some a, cap, by rw [hll], ?_⟩, by rw [hll]; omega⟩
    by_cases h0 : len = 0
    · exact .inl (by omega)
    · right
      obtain ⟨ab, ao, asp⟩ := a
      have hs : asp = none := by
        have h1 := (hfx 0 (by omega)).1 0 _ rfl
        simpa [Addr.add] using World.cell?_spot h1
      subst hs
      refine ⟨ab, ao, rfl, fun i hi => ?_⟩
      rw [hll] at hi
      have hg : ((List.range len).map f)[i]'(by rw [hll]; exact hi) = f i := by simp
      rw [hg]
      obtain ⟨h1, h2, h3⟩ := hfx i hi
      refine ⟨fun j u hu => ?_, h2, h3⟩
      have := h1 j u hu
      rw [Addr.add_lit, Addr.add_lit] at this
      exact this
end
end Go.Proofs.Ytpllcnpcplbobaa
