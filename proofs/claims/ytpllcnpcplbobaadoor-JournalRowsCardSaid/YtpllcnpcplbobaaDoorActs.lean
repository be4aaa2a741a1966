import Derived.Test.YtpllcnpcplbobaaDoorDisk6
import Derived.Test.YtpllcnpcplbobaaDoorPost2
import Derived.Deep.Slices
import Derived.ChangeArms
import Derived.SizedLaws
namespace Go.Proofs.YtpllcnpcplbobaaDoor
open Go.RowKit Go.WideShapes Go.ChangeShapes
/-- One act, as it can be read. -/
structure ActL where
  kind : Int
  n : Int
  name : ByteArray
  to_ : ByteArray
  data : ByteArray
  pv : Value
  picks : List Int
instance : Inhabited ActL := ⟨⟨0, 0, ⟨#[]⟩, ⟨#[]⟩, ⟨#[]⟩, .slice none 0 0, []⟩⟩
def ActL.cells (x : ActL) : List Value := [.int .i64 x.kind, .int .i64 x.n, .string x.name, .string x.to_, .string x.data, x.pv]
def ActL.Fits (x : ActL) : Prop := (-9223372036854775808 ≤ x.n ∧ x.n ≤ 9223372036854775807) ∧ x.name.size ≤ 140737488351232 ∧ x.to_.size ≤ 140737488351232 ∧ x.data.size ≤ 140737488351232 ∧ x.picks.length ≤ 140737488351232
/-- An act's six cells, in memory. -/
def ActAt (w : World) (b o : Nat) (x : ActL) : Prop := (∀ j u, x.cells[j]? = some u → w.cell? ⟨b, o + j, none⟩ = some u) ∧ NumsAt w x.pv x.picks ∧ x.Fits
/-- A slice of acts, as it can be read. -/
def ActsAt (w : World) (v : Value) (l : List ActL) : Prop :=
  ∃ (a : Option Addr) (c : Nat), v = .slice a l.length c ∧ (l.length = 0 ∨ ∃ b o, a = some ⟨b, o, none⟩ ∧ ∀ i (h : i < l.length), ActAt w b (o + i * 6) l[i])
theorem ActAt.below {w w' : World} {b o : Nat} {x : ActL} (h : ActAt w b o x) (hb : Below w.heap.size w w') : ActAt w' b o x :=
  ⟨fun j u hu => (hb.cell (World.block_lt_of_cell? w _ (h.1 j u hu))).trans (h.1 j u hu), h.2.1.below hb, h.2.2⟩
section
variable {H : Type} {enc : TypeId × Value → H}
/-- Nothing in a datum is greater than the reach. -/
def Small (P : Program) (t : TypeId) (d : DataW H) : Prop := (d.weights P t).all (· ≤ reachBytes) = true
theorem small_mem {P : Program} {t : TypeId} {d : DataW H} (h : Small P t d) {n : Nat} (hn : n ∈ d.weights P t) : n ≤ 140737488351232 := by
  have := List.all_eq_true.1 h n hn
  simp only [decide_eq_true_eq] at this
  exact this
theorem small_of {P : Program} {t t' : TypeId} {d d' : DataW H} (h : Small P t d) (hsub : ∀ n ∈ d'.weights P t', n ∈ d.weights P t) : Small P t' d' :=
  List.all_eq_true.2 fun n hn => List.all_eq_true.1 h n (hsub n hn)
theorem small_arg {P : Program} {ts : List TypeId} {ds : List (DataW H)} (h : (DataW.weightsEach P ts ds).all (· ≤ reachBytes) = true) {j : Nat} {t : TypeId} {d : DataW H} (ht : ts[j]? = some t) (hd : ds[j]? = some d) : Small P t d :=
  List.all_eq_true.2 fun n hn => List.all_eq_true.1 h n (DataW.weights_mem_each ht hd n hn)
theorem small_slice {P : Program} {t e : TypeId} {l r : List (DataW H)} (ht : P.underlying t = some (.slice e)) (h : Small P t (.slice l r)) : (l.length + r.length) * P.bytesOf e ≤ 140737488351232 :=
  small_mem h (by simp [DataW.weights, ht])
theorem mem_weightsAll {P : Program} {e : TypeId} : ∀ {l : List (DataW H)} {d : DataW H}, d ∈ l → ∀ n ∈ d.weights P e, n ∈ DataW.weightsAll P e l
  | x :: l, d, hd, n, hn => by
    rw [DataW.weightsAll, List.mem_append]
    rcases List.mem_cons.1 hd with rfl | hd
    · exact .inl hn
    · exact .inr (mem_weightsAll hd n hn)
theorem small_string {P : Program} {t : TypeId} {s : ByteArray} (h : Small P t (.lit (.string s.data.toList) : DataW H)) : s.size ≤ 140737488351232 := by
  have := small_mem h (n := s.data.toList.length) (by simp [DataW.weights])
  rw [Array.length_toList] at this
  exact this
theorem open_numcells {w : World} {base : Nat} {sp : Nat → Bool} {held : Bool} {fuel : Nat} {cs : List Value} {x : DataW H × List MemPlace} (h : DataW.trod enc Tryd.prog w base sp held fuel 23 cs = some x) (hsp : ∀ b, sp b = true) (hw : Small Tryd.prog 23 x.1) :
    ∃ v l, cs = [v] ∧ NumsAt w v l ∧ l.length ≤ 140737488351232 := by
  rcases open_ints Tryd.underlying23 Tryd.underlying3 (by kernel_rfl) h with ⟨rfl, _⟩ | ⟨a, len, cap, zs, rfl, _, hl, hm, hz, rfl, hcell, _⟩
  · exact ⟨_, [], rfl, numsAt_nil w, Nat.zero_le _⟩
  · rw [hsp, if_pos rfl] at hz
    have hsm : len ≤ 140737488351232 := by
      have h1 := small_slice Tryd.underlying23 hw
      have h2 : Tryd.prog.bytesOf 3 = 8 := by kernel_rfl
      rw [h2] at h1
      simp only [lits, List.length_map, List.length_take, List.length_drop] at h1
      omega
    have hlen : (zs.take len).length = len := by rw [List.length_take]; omega
    refine ⟨_, zs.take len, rfl, ⟨some a, cap, by rw [hlen], by omega, ?_⟩, by omega⟩
    by_cases h0 : len = 0
    · exact .inl (by omega)
    · right
      have hp := addr_plain (n := 0) (c := 0) (hcell 0 (by omega)) rfl
      refine ⟨a.block, a.off, by rw [← hp], fun i hi => ?_⟩
      have hi' : i < zs.length := by rw [hlen] at hi; omega
      have h2 := hcell i hi'
      rw [hp, Addr.add_lit] at h2
      rw [h2]
      simp [List.getD, hi']
end
end Go.Proofs.YtpllcnpcplbobaaDoor
