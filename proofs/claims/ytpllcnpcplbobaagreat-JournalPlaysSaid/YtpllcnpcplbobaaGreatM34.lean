import Derived.Test.YtpllcnpcplbobaaGreatM12
import Derived.Test.YtpllcnpcplbobaaGreatM27
import Derived.Deep.Slices
import Derived.ChangeArms
import Derived.SizedLaws
import Derived.Deep.LoopGhost
section
namespace Go.Proofs.YtpllcnpcplbobaaGreat
open Go.RowKit Go.WideShapes Go.ChangeShapes
/-- One act, as it can be read. -/
structure ActL where
  kind : Int
  n : Int
  name : ByteArray
  to_ : ByteArray
  data : ByteArray
  pv : Value
  picks : List Int
instance : Inhabited ActL := ⟨⟨0, 0, ⟨#[]⟩, ⟨#[]⟩, ⟨#[]⟩, .slice none 0 0, []⟩⟩
def ActL.cells (x : ActL) : List Value := [.int .i64 x.kind, .int .i64 x.n, .string x.name, .string x.to_, .string x.data, x.pv]
def ActL.Fits (x : ActL) : Prop := (-9223372036854775808 ≤ x.n ∧ x.n ≤ 9223372036854775807) ∧ x.name.size ≤ 140737488351232 ∧ x.to_.size ≤ 140737488351232 ∧ x.data.size ≤ 140737488351232 ∧ x.picks.length ≤ 140737488351232
/-- An act's six cells, in memory. -/
def ActAt (w : World) (b o : Nat) (x : ActL) : Prop := (∀ j u, x.cells[j]? = some u → w.cell? ⟨b, o + j, none⟩ = some u) ∧ NumsAt w x.pv x.picks ∧ x.Fits
/-- A slice of acts, as it can be read. -/
def ActsAt (w : World) (v : Value) (l : List ActL) : Prop :=
  ∃ (a : Option Addr) (c : Nat), v = .slice a l.length c ∧ (l.length = 0 ∨ ∃ b o, a = some ⟨b, o, none⟩ ∧ ∀ i (h : i < l.length), ActAt w b (o + i * 6) l[i])
theorem ActAt.below {w w' : World} {b o : Nat} {x : ActL} (h : ActAt w b o x) (hb : Below w.heap.size w w') : ActAt w' b o x :=
  ⟨fun j u hu => (hb.cell (World.block_lt_of_cell? w _ (h.1 j u hu))).trans (h.1 j u hu), h.2.1.below hb, h.2.2⟩
section
variable {H : Type} {enc : TypeId × Value → H}
/-- Nothing in a datum is greater than the reach. -/
def Small (P : Program) (t : TypeId) (d : DataW H) : Prop := (d.weights P t).all (· ≤ reachBytes) = true
theorem small_mem {P : Program} {t : TypeId} {d : DataW H} (h : Small P t d) {n : Nat} (hn : n ∈ d.weights P t) : n ≤ 140737488351232 := by
  have := List.all_eq_true.1 h n hn
  simp only [decide_eq_true_eq] at this
  exact this
theorem small_of {P : Program} {t t' : TypeId} {d d' : DataW H} (h : Small P t d) (hsub : ∀ n ∈ d'.weights P t', n ∈ d.weights P t) : Small P t' d' :=
  List.all_eq_true.2 fun n hn => List.all_eq_true.1 h n (hsub n hn)
theorem small_arg {P : Program} {ts : List TypeId} {ds : List (DataW H)} (h : (DataW.weightsEach P ts ds).all (· ≤ reachBytes) = true) {j : Nat} {t : TypeId} {d : DataW H} (ht : ts[j]? = some t) (hd : ds[j]? = some d) : Small P t d :=
  List.all_eq_true.2 fun n hn => List.all_eq_true.1 h n (DataW.weights_mem_each ht hd n hn)
theorem small_slice {P : Program} {t e : TypeId} {l r : List (DataW H)} (ht : P.underlying t = some (.slice e)) (h : Small P t (.slice l r)) : (l.length + r.length) * P.bytesOf e ≤ 140737488351232 :=
  small_mem h (by simp [DataW.weights, ht])
theorem mem_weightsAll {P : Program} {e : TypeId} : ∀ {l : List (DataW H)} {d : DataW H}, d ∈ l → ∀ n ∈ d.weights P e, n ∈ DataW.weightsAll P e l
  | x :: l, d, hd, n, hn => by
    rw [DataW.weightsAll, List.mem_append]
    rcases List.mem_cons.1 hd with rfl | hd
    · exact .inl hn
    · exact .inr (mem_weightsAll hd n hn)
theorem small_string {P : Program} {t : TypeId} {s : ByteArray} (h : Small P t (.lit (.string s.data.toList) : DataW H)) : s.size ≤ 140737488351232 := by
  have := small_mem h (n := s.data.toList.length) (by simp [DataW.weights])
  rw [Array.length_toList] at this
  exact this
theorem open_numcells {w : World} {base : Nat} {sp : Nat → Bool} {held : Bool} {fuel : Nat} {cs : List Value} {x : DataW H × List MemPlace} (h : DataW.trod enc Tryz.prog w base sp held fuel 35 cs = some x) (hsp : ∀ b, sp b = true) (hw : Small Tryz.prog 35 x.1) :
    ∃ v l, cs = [v] ∧ NumsAt w v l ∧ l.length ≤ 140737488351232 := by
  rcases open_ints Tryz.underlying35 Tryz.underlying3 (by kernel_rfl) h with ⟨rfl, _⟩ | ⟨a, len, cap, zs, rfl, _, hl, hm, hz, rfl, hcell, _⟩
  · exact ⟨_, [], rfl, numsAt_nil w, Nat.zero_le _⟩
  · rw [hsp, if_pos rfl] at hz
    have hsm : len ≤ 140737488351232 := by
      have h1 := small_slice Tryz.underlying35 hw
      have h2 : Tryz.prog.bytesOf 3 = 8 := by kernel_rfl
      rw [h2] at h1
      simp only [lits, List.length_map, List.length_take, List.length_drop] at h1
      omega
    have hlen : (zs.take len).length = len := by rw [List.length_take]; omega
    refine ⟨_, zs.take len, rfl, ⟨some a, cap, by rw [hlen], by omega, ?_⟩, by omega⟩
    by_cases h0 : len = 0
    · exact .inl (by omega)
    · right
      have hp := addr_plain (n := 0) (c := 0) (hcell 0 (by omega)) rfl
      refine ⟨a.block, a.off, by rw [← hp], fun i hi => ?_⟩
      have hi' : i < zs.length := by rw [hlen] at hi; omega
      have h2 := hcell i hi'
      rw [hp, Addr.add_lit] at h2
      rw [h2]
      simp [List.getD, hi']
end
end Go.Proofs.YtpllcnpcplbobaaGreat
end
section
namespace Go.Proofs.YtpllcnpcplbobaaGreat
open Go.RowKit Go.WideShapes Go.ChangeShapes
/-- One act of JournalPlays, as it can be read. -/
structure ActL8 where
  kind : Int
  n : Int
  name : ByteArray
  recd : ByteArray
  rv : Value
  recs : List ByteArray
  pv : Value
  picks : List Int
instance : Inhabited ActL8 := ⟨⟨0, 0, ⟨#[]⟩, ⟨#[]⟩, .slice none 0 0, [], .slice none 0 0, []⟩⟩
def ActL8.cells (x : ActL8) : List Value := [.int .i64 x.kind, .int .i64 x.n, .string x.name, .string x.recd, x.rv, x.pv]
def ActL8.Fits (x : ActL8) : Prop := (-9223372036854775808 ≤ x.n ∧ x.n ≤ 9223372036854775807) ∧ x.name.size ≤ 140737488351232 ∧ x.recd.size ≤ 140737488351232 ∧ x.recs.length ≤ 140737488351232 ∧ x.picks.length ≤ 140737488351232
def Act8At (w : World) (b o : Nat) (x : ActL8) : Prop := (∀ j u, x.cells[j]? = some u → w.cell? ⟨b, o + j, none⟩ = some u) ∧ TextsAt w x.rv x.recs ∧ NumsAt w x.pv x.picks ∧ x.Fits
def Acts8At (w : World) (v : Value) (l : List ActL8) : Prop :=
  ∃ (a : Option Addr) (c : Nat), v = .slice a l.length c ∧ (l.length = 0 ∨ ∃ b o, a = some ⟨b, o, none⟩ ∧ ∀ i (h : i < l.length), Act8At w b (o + i * 6) l[i])
theorem Act8At.below {w w' : World} {b o : Nat} {x : ActL8} (h : Act8At w b o x) (hb : Below w.heap.size w w') : Act8At w' b o x :=
  ⟨fun j u hu => (hb.cell (World.block_lt_of_cell? w _ (h.1 j u hu))).trans (h.1 j u hu), h.2.1.below hb, h.2.2.1.below hb, h.2.2.2⟩
section
variable {H : Type} {enc : TypeId × Value → H}
theorem open_txtcells {w : World} {base : Nat} {sp : Nat → Bool} {held : Bool} {fuel : Nat} {cs : List Value} {x : DataW H × List MemPlace} (h : DataW.trod enc Tryz.prog w base sp held fuel 34 cs = some x) (hsp : ∀ b, sp b = true) (hw : Small Tryz.prog 34 x.1) :
    ∃ v l, cs = [v] ∧ TextsAt w v l ∧ l.length ≤ 140737488351232 := by
  rcases open_strings Tryz.underlying34 Tryz.underlying9 (by kernel_rfl) h with ⟨rfl, _⟩ | ⟨a, len, cap, ss, rfl, _, hl, hm, hz, rfl, hcell, _⟩
  · exact ⟨_, [], rfl, textsAt_nil w, Nat.zero_le _⟩
  · rw [hsp, if_pos rfl] at hz
    have hsm : len ≤ 140737488351232 := by
      have h1 := small_slice Tryz.underlying34 hw
      have h2 : Tryz.prog.bytesOf 9 = 16 := by kernel_rfl
      rw [h2] at h1
      simp only [Go.ChangeShapes.strs, List.length_map, List.length_take, List.length_drop] at h1
      omega
    have hlen : (ss.take len).length = len := by rw [List.length_take]; omega
    refine ⟨_, ss.take len, rfl, ⟨some a, cap, by rw [hlen], ?_⟩, by omega⟩
    by_cases h0 : len = 0
    · exact .inl (by omega)
    · right
      have hp := addr_plain (n := 0) (c := 0) (hcell 0 (by omega)) rfl
      refine ⟨a.block, a.off, by rw [← hp], fun i hi => ?_⟩
      have hi' : i < ss.length := by rw [hlen] at hi; omega
      have h2 := hcell i hi'
      rw [hp, Addr.add_lit] at h2
      rw [h2]
      simp [List.getD, hi']
set_option maxRecDepth 100000 in
theorem open_act8 {w : World} {base : Nat} {sp : Nat → Bool} {held : Bool} {fuel : Nat} {cs : List Value} {x : DataW H × List MemPlace} (h : DataW.trod enc Tryz.prog w base sp held fuel 37 cs = some x) (hsp : ∀ b, sp b = true) (hw : Small Tryz.prog 37 x.1) :
    ∃ y : ActL8, cs = y.cells ∧ TextsAt w y.rv y.recs ∧ NumsAt w y.pv y.picks ∧ y.Fits := by
  obtain ⟨xs, n, _, rfl, hl, hlen, hf⟩ := DataW.trod_struct Tryz.underlying37 h
  have hc : Tryz.prog.cellsOf 37 = 6 := by kernel_rfl
  have c1 : ∀ t, t = 3 ∨ t = 9 ∨ t = 34 ∨ t = 35 → Tryz.prog.cellsOf t = 1 := by
    rintro t (rfl | rfl | rfl | rfl) <;> kernel_rfl
  rw [hc] at hl
  match cs, hl with
  | [v0, v1, v2, v3, v4, v5], _ =>
    match xs, hlen with
    | [y0, y1, y2, y3, y4, y5], _ =>
      have hpart : ∀ (j : Nat) (t : TypeId) (d : DataW H), ([3, 3, 9, 9, 34, 35] : List TypeId)[j]? = some t → [y0.1, y1.1, y2.1, y3.1, y4.1, y5.1][j]? = some d → Small Tryz.prog t d := fun j t d ht hd =>
        small_of hw fun n hn => by
          have := DataW.weights_mem_each ht hd n hn
          simpa [DataW.weights, Tryz.underlying37] using this
      have h0 : DataW.trod enc Tryz.prog w base sp held n 3 ((List.drop 0 [v0, v1, v2, v3, v4, v5]).take (Tryz.prog.cellsOf 3)) = some y0 := hf 0 _ rfl
      have h1 : DataW.trod enc Tryz.prog w base sp held n 3 ((List.drop 1 [v0, v1, v2, v3, v4, v5]).take (Tryz.prog.cellsOf 3)) = some y1 := hf 1 _ rfl
      have h2 : DataW.trod enc Tryz.prog w base sp held n 9 ((List.drop 2 [v0, v1, v2, v3, v4, v5]).take (Tryz.prog.cellsOf 9)) = some y2 := hf 2 _ rfl
      have h3 : DataW.trod enc Tryz.prog w base sp held n 9 ((List.drop 3 [v0, v1, v2, v3, v4, v5]).take (Tryz.prog.cellsOf 9)) = some y3 := hf 3 _ rfl
      have h4 : DataW.trod enc Tryz.prog w base sp held n 34 ((List.drop 4 [v0, v1, v2, v3, v4, v5]).take (Tryz.prog.cellsOf 34)) = some y4 := hf 4 _ rfl
      have h5 : DataW.trod enc Tryz.prog w base sp held n 35 ((List.drop 5 [v0, v1, v2, v3, v4, v5]).take (Tryz.prog.cellsOf 35)) = some y5 := hf 5 _ rfl
      rw [c1 3 (by simp)] at h0
      rw [c1 3 (by simp)] at h1
      rw [c1 9 (by simp)] at h2
      rw [c1 9 (by simp)] at h3
      rw [c1 34 (by simp)] at h4
      rw [c1 35 (by simp)] at h5
      replace h0 : DataW.trod enc Tryz.prog w base sp held n 3 [v0] = some y0 := h0
      replace h1 : DataW.trod enc Tryz.prog w base sp held n 3 [v1] = some y1 := h1
      replace h2 : DataW.trod enc Tryz.prog w base sp held n 9 [v2] = some y2 := h2
      replace h3 : DataW.trod enc Tryz.prog w base sp held n 9 [v3] = some y3 := h3
      replace h4 : DataW.trod enc Tryz.prog w base sp held n 34 [v4] = some y4 := h4
      replace h5 : DataW.trod enc Tryz.prog w base sp held n 35 [v5] = some y5 := h5
      obtain ⟨k, e0, _, _⟩ := DataW.trod_int Tryz.underlying3 h0
      obtain ⟨m, e1, _, w1⟩ := DataW.trod_int Tryz.underlying3 h1
      obtain ⟨s2, e2, x2, _⟩ := DataW.trod_string Tryz.underlying9 h2
      obtain ⟨s3, e3, x3, _⟩ := DataW.trod_string Tryz.underlying9 h3
      have z2 := small_string (s := s2) (by have := hpart 2 _ _ rfl rfl; rw [x2] at this; exact this)
      have z3 := small_string (s := s3) (by have := hpart 3 _ _ rfl rfl; rw [x3] at this; exact this)
      obtain ⟨tv, tl, e4, htn, htl⟩ := open_txtcells h4 hsp (hpart 4 _ _ rfl rfl)
      obtain ⟨v, l, e5, hn, hnl⟩ := open_numcells h5 hsp (hpart 5 _ _ rfl rfl)
      simp only [List.cons.injEq, and_true] at e0 e1 e2 e3 e4 e5
      subst e0 e1 e2 e3 e4 e5
      have hb := bounds_i64 w1
      exact ⟨⟨k, m, s2, s3, v4, tl, v5, l⟩, rfl, htn, hn, hb, z2, z3, htl, hnl⟩
set_option maxRecDepth 100000 in
theorem open_acts8 {W : World} {base : Nat} {v : Value} {d : DataW H} {p : List MemPlace}
    (hval : Value.okWide Tryz.prog W .any base 22 v) (h : DataW.Trod enc Tryz.prog W 0 (fun _ => true) true 22 v d p) (hw : Small Tryz.prog 22 d) :
    ∃ l : List ActL8, Acts8At W v l ∧ l.length ≤ 140737488351232 := by
  obtain ⟨a0, len, cap, rfl⟩ := okWide_slice Tryz.underlying22 hval
  obtain ⟨fuel, hf⟩ := h
  have hc : Tryz.prog.cellsOf 37 = 6 := by kernel_rfl
  rcases Deep.open_slice Tryz.underlying22 hf with ⟨hcs, _⟩ | ⟨a, len', cap', m, n, D, Pl, hcs, _, hl, hm, hmm, hd, hx⟩
  · simp [Value.cells] at hcs
    obtain ⟨rfl, rfl, rfl⟩ := hcs
    exact ⟨[], ⟨none, 0, rfl, .inl rfl⟩, Nat.zero_le _⟩
  · simp [Value.cells] at hcs
    obtain ⟨rfl, rfl, rfl⟩ := hcs
    simp only [if_true] at hmm
    have hd1 := congrArg Prod.fst hd
    simp only at hd1
    subst hd1
    have hlen := small_slice Tryz.underlying22 hw
    have hby : Tryz.prog.bytesOf 37 = 96 := by kernel_rfl
    rw [hby] at hlen
    simp only [List.length_map, List.length_range] at hlen
    have hel : ∀ i, i < len → Small Tryz.prog 37 (D i) := fun i hi => small_of hw fun n hn => by
      have := mem_weightsAll (P := Tryz.prog) (e := 37) (l := (List.range len).map D) (d := D i) (List.mem_map.2 ⟨i, List.mem_range.2 hi, rfl⟩) n hn
      simp only [DataW.weights, Tryz.underlying22, List.mem_cons, List.mem_append]
      exact .inr (.inl this)
    obtain ⟨f, hfx⟩ := Deep.choose_lt (α := ActL8) (n := len) (p := fun i y => (∀ j u, y.cells[j]? = some u → W.cell? ((a.add (i * 6)).add j) = some u) ∧ TextsAt W y.rv y.recs ∧ NumsAt W y.pv y.picks ∧ y.Fits) (fun i hi => by
      obtain ⟨cs', h1, h2⟩ := hx i (by omega)
      rw [hc] at h1
      obtain ⟨y, rfl, htx, hn, hfit⟩ := open_act8 h2 (fun _ => rfl) (hel i hi)
      obtain ⟨_, _, h3⟩ := World.cells?_some h1
      refine ⟨y, fun j u hu => ?_, htx, hn, hfit⟩
      have hj : j < 6 := (List.getElem?_eq_some_iff.1 hu).1
      rw [h3 j hj]; exact hu)
    have hll : ((List.range len).map f).length = len := by simp
    refine ⟨(List.range len).map f, ⟨some a, cap, by rw [hll], ?_⟩, by rw [hll]; omega⟩
    by_cases h0 : len = 0
    · exact .inl (by omega)
    · right
      obtain ⟨ab, ao, asp⟩ := a
      have hs : asp = none := by
        have h1 := (hfx 0 (by omega)).1 0 _ rfl
        simpa [Addr.add] using World.cell?_spot h1
      subst hs
      refine ⟨ab, ao, rfl, fun i hi => ?_⟩
      rw [hll] at hi
      have hg : ((List.range len).map f)[i]'(by rw [hll]; exact hi) = f i := by simp
      rw [hg]
      obtain ⟨h1, h2, h3⟩ := hfx i hi
      refine ⟨fun j u hu => ?_, h2, h3⟩
      have := h1 j u hu
      rw [Addr.add_lit, Addr.add_lit] at this
      exact this
end
end Go.Proofs.YtpllcnpcplbobaaGreat
end
section
namespace Go.Proofs.YtpllcnpcplbobaaGreat
open Go.RowKit
set_option linter.unusedVariables false
def ActL8.bad (x : ActL8) : Bool := decide (20 < x.name.size) || decide (100 < x.recd.size) || decide (10 < x.picks.length) || greatL x.recs
/-- What great answers. -/
def great8 (l : List ActL8) : Bool := l.any ActL8.bad || decide (20 < l.length)
set_option maxRecDepth 100000 in
set_option maxHeartbeats 2000000 in
theorem great8_any (va : Value) (A : List ActL8) (hAm : A.length ≤ 140737488351232) (w : World) (hA : Acts8At w va A) :
    Calls Tryz.prog 4 #[va] w fun e w' => e = .returned (.bool (great8 A)) ∧ Below w.heap.size w w' := by
  obtain ⟨a, ca, rfl, ha⟩ := hA
  have HA := Lib.hid ha
  obtain ⟨n, hn⟩ : ∃ n, n = A.length := ⟨_, rfl⟩
  rw [← hn] at hAm ⊢
  have HN := Lib.hid hn
  clear ha hn
  go_enter Tryz.func4, Tryz.ntmps4
  go_wp2_with fail
  go_loopw [3] (fun i wr => ∃ k : Nat, k ≤ n ∧ i = .int .i64 k ∧ (∀ x ∈ A.take k, x.bad = false) ∧ Below w.heap.size w wr) (fun i _ => n - (intOf i).toNat)
  case atStart => exact ⟨0, by omega, rfl, by simp, Below.refl _ _⟩
  case round =>
    obtain ⟨k, hk, rfl, hgood, hbel⟩ := hrel
    by_cases hlt : k < n
    · have hAk : k < A.length := by rw [← HN.out]; exact hlt
      rcases HA.out with h0 | ⟨b1, o1, rfl, hc1⟩
      · omega
      obtain ⟨x, hx⟩ : ∃ x, x = A[k] := ⟨_, rfl⟩
      have hat := (hc1 k hAk).below hbel
      rw [← hx] at hat
      have HX := Lib.hid hx
      have hbadx : x.bad = true → great8 A = true := fun h => by
        have : A.any ActL8.bad = true := List.any_eq_true.2 ⟨x, by rw [hx]; exact List.getElem_mem hAk, h⟩
        simp [great8, this]
      have hgoodx : x.bad = false → ∀ y ∈ A.take (k + 1), y.bad = false := fun h y hy => by
        rw [List.take_succ_eq_append_getElem hAk] at hy
        rcases List.mem_append.1 hy with hy | hy
        · exact hgood y hy
        · rw [List.mem_singleton.1 hy, ← hx]; exact h
      have HBX := Lib.hid hbadx
      have HGX := Lib.hid hgoodx
      clear hbadx hgoodx hgood hx
      obtain ⟨kd, nn, nm, rc, rv, rl, pv, pk⟩ := x
      obtain ⟨hcell, htxt, hnum, hfit⟩ := hat
      dsimp only at htxt hnum
      have hgr := fun W (h : TextsAt W rv rl) => great_any rv rl (by have := hfit.2.2.2.1; simp only at this; omega) W h
      have HT := Lib.hid htxt
      unfold NumsAt at hnum
      obtain ⟨pa, pc, hpv, hpc, _⟩ := hnum
      obtain ⟨ta, tc, htv, _⟩ := htxt
      subst hpv htv
      have d0 := hcell 0 _ rfl
      have d1 := hcell 1 _ rfl
      have d2 := hcell 2 _ rfl
      have d3 := hcell 3 _ rfl
      have d4 := hcell 4 _ rfl
      have d5 := hcell 5 _ rfl
      obtain ⟨_, z1, z2, z3, z4⟩ := hfit
      simp only at z1 z2 z3 z4 d1 d2 d3 d4 d5
      simp only [Nat.add_zero] at d0
      simp only [ActL8.bad] at HBX HGX
      obtain ⟨m, hm⟩ : ∃ m, m = pk.length := ⟨_, rfl⟩
      obtain ⟨q, hq⟩ : ∃ q, q = rl.length := ⟨_, rfl⟩
      rw [← hm] at d5 z4 HBX HGX
      rw [← hq] at d4 z3 HT hgr
      have HB := Lib.hid hbel
      have HGR := Lib.hid hgr
      clear hcell hc1 HA hpc hbel hm hq hgr
      by_cases e1 : 20 < nm.size
      · have hg := HBX.out (by simp [e1])
        go_wp2_with ((go_at_call 22; refine (HGR.out _ (HT.out)).mono ?_; rintro e w1 ⟨rfl, rfl⟩))
        go_ret
        exact ⟨by first | rfl | (rw [hg]; rfl), HB.out⟩
      · by_cases e2 : 100 < rc.size
        · have hg := HBX.out (by simp [e2])
          go_wp2_with ((go_at_call 22; refine (HGR.out _ (HT.out)).mono ?_; rintro e w1 ⟨rfl, rfl⟩))
          go_ret
          exact ⟨by first | rfl | (rw [hg]; rfl), HB.out⟩
        · by_cases e3 : 10 < m
          · have hg := HBX.out (by simp [e3])
            go_wp2_with ((go_at_call 22; refine (HGR.out _ (HT.out)).mono ?_; rintro e w1 ⟨rfl, rfl⟩))
            go_ret
            exact ⟨by first | rfl | (rw [hg]; rfl), HB.out⟩
          · cases e4 : greatL rl with
            | true =>
              rw [e4] at HGR
              have hg := HBX.out (by simp [e4])
              go_wp2_with ((go_at_call 22; refine (HGR.out _ (HT.out)).mono ?_; rintro e w1 ⟨rfl, rfl⟩))
              go_ret
              exact ⟨by first | rfl | (rw [hg]; rfl), HB.out⟩
            | false =>
              rw [e4] at HGR
              have hg := HGX.out (by simp [e1, e2, e3, e4])
              have HG := Lib.hid hg
              clear hg
              go_wp2_with ((go_at_call 22; refine (HGR.out _ (HT.out)).mono ?_; rintro e w1 ⟨rfl, rfl⟩))
              go_roundw
              case measure => simp [intOf]; omega
              case rel => exact ⟨k + 1, by omega, by go_num, HG.out, HB.out⟩
    · have hkn : A.take k = A := List.take_of_length_le (by rw [← HN.out]; omega)
      rw [hkn] at hgood
      have hg : great8 A = decide (20 < n) := by
        have : A.any ActL8.bad = false := List.any_eq_false.2 fun x hx => by rw [hgood x hx]; simp
        rw [great8, this, HN.out, Bool.false_or]
      have HGG := Lib.hid hg
      have HB := Lib.hid hbel
      clear hg hbel hkn hgood
      go_wp2
      go_ret
      exact ⟨by rw [HGG.out]; go_num, HB.out⟩
end Go.Proofs.YtpllcnpcplbobaaGreat
end
