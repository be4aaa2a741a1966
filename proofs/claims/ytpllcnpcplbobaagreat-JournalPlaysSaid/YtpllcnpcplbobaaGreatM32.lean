import Derived.Test.YtpllcnpcplbobaaGreatM28
import Derived.Test.YtpllcnpcplbobaaGreatM31
namespace Go.Proofs.YtpllcnpcplbobaaGreat
open Go.RowKit Go.Maps
set_option linter.unusedVariables false
theorem owns_from {w w' : World} {base : Nat} {e : TypeId} {size : Nat} {v : Value} {n : Nat} {xs : List Value} (hk : ∀ k, base ≤ k → k < w.heap.size → w'.heap[k]? = w.heap[k]?) (h : w.ownsRow base e size v n xs) : w'.ownsRow base e size v n xs := by
  refine ⟨h.1, ?_⟩
  rcases h.2 with h0 | ⟨g, cap, cur, hv, hb, hg, hr⟩
  · exact .inl h0
  · exact .inr ⟨g, cap, cur, hv, hb, (hk g hb (Array.getElem?_eq_some_iff.1 hg).1).trans hg, hr⟩
theorem builder_from {w w' : World} {T e : TypeId} {B b : Nat} {p : Value} {bs : List Value} (hk : ∀ k, B ≤ k → k < w.heap.size → w'.heap[k]? = w.heap[k]?) (h : Lib.BuilderAt T e B b p bs w) : Lib.BuilderAt T e B b p bs w' := by
  obtain ⟨hB, v, hb, hown, hne⟩ := h
  exact ⟨hB, v, (hk b hB (Array.getElem?_eq_some_iff.1 hb).1).trans hb, owns_from hk hown, hne⟩
theorem isBuilder_from {w w' : World} {T e : TypeId} {B b : Nat} {bs : List Value} (hk : ∀ k, B ≤ k → k < w.heap.size → w'.heap[k]? = w.heap[k]?) (h : Lib.IsBuilder T e B b bs w) : Lib.IsBuilder T e B b bs w' :=
  h.imp (builder_from hk) (builder_from hk)
theorem strCells_append (a b : ByteArray) : Lib.strCells (a ++ b) = Lib.strCells a ++ Lib.strCells b := by
  rw [Lib.strCells_eq, Lib.strCells_eq, Lib.strCells_eq, ByteArray.data_append, Array.toList_append, Lib.byteCells_append]
/-- What Swap leaves. -/
def SwapOut (w : World) (j p b : Nat) (name : ByteArray) (N : Nat) (g : FS) (left : Int) (d : ByteArray) (code : Int) (w' : World) : Prop :=
  ((oT g left name ≠ 0 ∧ code = oT g left name ∧ DiskAt w' p b (oG1 g left name) (oL1 g left name) (N + 4) ∧ JBlk w' j p name true) ∨
    (oT g left name = 0 ∧ code = nCode (oG1 g left name) (oL1 g left name) (name ++ sufx) d name ∧
      DiskAt w' p b (nG (oG1 g left name) (oL1 g left name) (name ++ sufx) d name) (nL (oG1 g left name) (oL1 g left name) (name ++ sufx) d name) (N + 4) ∧ JBlk w' j p name (decide (code ≠ 0)))) ∧ Turned3 w w' p b j
theorem below_one (w : World) (o : Obj) : Below w.heap.size w (w.alloc o) := (Below.refl _ _).alloc (Nat.le_refl _) _
theorem Turned3.then_below {w w' w'' : World} {p b j : Nat} (h : Turned3 w w' p b j) (k : Below w.heap.size w' w'') : Turned3 w w'' p b j :=
  ⟨k.os.trans h.os, k.tape.trans h.tape, k.output.trans h.output, Nat.le_trans h.size k.size, fun i hi hp hb hj => (k.block i hi).trans (h.block i hi hp hb hj)⟩
theorem DiskAt.under {w w' : World} {p b N B : Nat} {g : FS} {left : Int} (h : DiskAt w p b g left N) (hp : p < B) (hb : b < B) (k : Below B w w') : DiskAt w' p b g left N :=
  ⟨(k.block p hp).trans h.cells, h.files.of_heap (k.block b hb)⟩
theorem JBlk.under {w w' : World} {j p B : Nat} {name : ByteArray} {broken : Bool} (h : JBlk w j p name broken) (hj : j < B) (k : Below B w w') : JBlk w' j p name broken := (k.block j hj).trans h
theorem isBuilder_four {w w' : World} {T e : TypeId} {B c p b j : Nat} {bs : List Value} {o : Obj} (hp : p < B) (hb : b < B) (hj : j < B) (ht : Turned3 (w.alloc o) w' p b j) (h : Lib.IsBuilder T e B c bs w) : Lib.IsBuilder T e B c bs w' :=
  isBuilder_from (fun k h1 h2 => (ht.block k (by simp; omega) (by omega) (by omega) (by omega)).trans (heap_alloc_old _ _ h2)) h
theorem does_ok {w' : World} {j p b : Nat} {name : ByteArray} {N : Nat} {c0 : Int} {G0 : FS} {L0 : Int} {code : Int}
    (h : (c0 ≠ 0 ∧ code = c0 ∧ DiskAt w' p b G0 L0 (N + 1) ∧ JBlk w' j p name true) ∨ (c0 = 0 ∧ code = 0 ∧ DiskAt w' p b G0 L0 (N + 1) ∧ JBlk w' j p name false)) (hc : (code != 0) = false) : DiskAt w' p b G0 L0 (N + 1) ∧ JBlk w' j p name false := by
  rcases h with ⟨h0, rfl, _⟩ | ⟨_, _, h⟩
  · exact absurd hc (by simp [h0])
  · exact h
set_option maxRecDepth 100000 in
set_option maxHeartbeats 4000000 in
theorem swap_any (j p b N : Nat) (g : FS) (left : Int) (h1 : -1 ≤ left) (h2 : left ≤ 9223372036854775807) (hN : N ≤ 1099511627000) (name : ByteArray) (hn : name.size ≤ 1099511627776) (va : Value) (A : List ByteArray) (hA12 : A.length ≤ 12) (hA100 : ∀ x ∈ A, x.size ≤ 100)
    (hs2 : ((oG1 g left name (name ++ sufx)).getD noFile).1.size ≤ 1000000000) (w : World) (hD : DiskAt w p b g left N) (hJ : JBlk w j p name false) (hA : TextsAt w va A) :
    Calls Tryz.prog 12 #[.pointer (some ⟨j, 0, none⟩), va] w fun e w' => ∃ code, e = .returned (.int .i64 code) ∧ SwapOut w j p b name N g left (framesL A) code w' := by
  have hmf : ∀ (fn : Fn) (first cap : Array Value) (w : World), (Instr.makeFunc fn first cap).run Tryz.prog w = .ok (.func fn first cap) w := fun _ _ _ _ => rfl
  obtain ⟨c0, c1, c2, _⟩ := hJ.cells
  obtain ⟨aA, cA, rfl, hAc⟩ := hA
  have hdoes := fun (W : World) (f : Nat) (hd : DiskAt W p b g left N) (hj : JBlk W j p name false) h3 => doesT_any j p b N g left h1 h2 (by simp only [maxLen]; omega) name f W hd hj h3
    (oT g left name) (oG1 g left name) (oL1 g left name) (fun W' hd' hj' => (tidy_any j p b N g left h1 h2 (by omega) name hn false W' (⟨hd'.cells, hd'.files.mono (by omega)⟩) hj').mono fun _ _ ⟨he, hd, ht⟩ => ⟨he, ⟨hd.cells, hd.files.mono (by omega)⟩, ht⟩)
  have L1 := tidyL_low (g := g) (x := name ++ sufx) h1
  have L2 := tidyL_high (g := g) (x := name ++ sufx) h2
  have hfs := framesL_le A hA100
  have han := fun (W : World) h3 h4 => (anew_any j p b (N + 1) (oG1 g left name) (oL1 g left name) L1 L2 (by simp only [maxLen]; omega) name (framesL A) hn (by omega) W h3 h4).mono fun _ _ h => anew_short h
  have hAL : A.length = (A.take A.length).length := by simp
  have hall : framesL (A.take A.length) = framesL A := by simp
  obtain ⟨fa, hfa⟩ : ∃ fa, fa = framesL A := ⟨_, rfl⟩
  rw [← hfa] at han ⊢
  have HALL := Lib.hid (hall.trans hfa.symm)
  have HFA := Lib.hid hfa
  have HDOES := Lib.hid hdoes
  have HAN := Lib.hid han
  have HD := Lib.hid hD
  have HJ := Lib.hid hJ
  have HA := Lib.hid hAc
  have HS := Lib.hid hA100
  obtain ⟨n, hn2⟩ : ∃ n, n = A.length := ⟨_, rfl⟩
  have hpw := hD.lt
  have hbw := hD.files.lt
  have hjw := hJ.lt
  rw [← hn2] at hA12
  rw [← hn2]
  have HNN := Lib.hid hn2
  have HX : ∀ x ∈ A, x.size ≤ 100 := hA100
  clear hdoes han hD hJ hAc hn2 hA100 hAL hall hfa
  go_enter Tryz.func12, Tryz.ntmps12
  go_wp2_with (fail)
  go_loopw [21] (fun i wr => ∃ k : Nat, k ≤ n ∧ i = .int .i64 k ∧ Lib.IsBuilder 77 5 w.heap.size w.heap.size (Lib.strCells (framesL (A.take k))) wr ∧ Below w.heap.size w wr) (fun i _ => n - (intOf i).toNat)
  case atStart => exact ⟨0, by omega, rfl, Lib.fresh_isBuilder _ _ w, below_one w _⟩
  case round =>
    obtain ⟨k, hk, rfl, hib, hbb⟩ := hrel
    have BB := Lib.hid hbb
    by_cases hlt : k < n
    · have hAk : k < A.length := by rw [← HNN.out]; exact hlt
      rcases HA.out with h0 | ⟨b1, o1, rfl, hc1⟩
      · omega
      have d1 : wr.cell? ⟨b1, o1 + k, none⟩ = some (.string A[k]) := (hbb.cell (World.block_lt_of_cell? _ _ (hc1 k hAk))).trans (hc1 k hAk)
      have hx0 : A[k].size ≤ 100 := HX _ (List.getElem_mem hAk)
      have htk : framesL (A.take (k + 1)) = framesL (A.take k) ++ frameS A[k] := by rw [List.take_succ_eq_append_getElem hAk, framesL_snoc]
      have hsz : (framesL (A.take k)).size ≤ 112 * 12 := by
        have := framesL_le (A.take k) fun x hx => HX x (List.mem_of_mem_take hx)
        rw [List.length_take] at this; omega
      obtain ⟨x, hx⟩ : ∃ x, x = A[k] := ⟨_, rfl⟩
      rw [← hx] at d1 hx0 htk
      have hfx := size_frameS x
      have hf := fun W => frame_any x W
      rw [frameV_ok (by omega)] at hf
      obtain ⟨f, hff⟩ : ∃ f, f = frameS x := ⟨_, rfl⟩
      rw [← hff] at hf htk hfx
      have HFR := Lib.hid hf
      have IB := Lib.hid hib
      have HT := Lib.hid htk
      clear hc1 HA hx hf htk hib hbb hff
      go_wp2_with (first | (go_at_call 23; refine (HFR.out _).mono ?_; rintro e w1 ⟨rfl, hb1⟩; have B1 := Lib.hid hb1; clear hb1) | (go_at_call 39; refine (writeString_any w.heap.size w.heap.size _ f _ (isBuilder_from (fun i _ hi => B1.out.block i hi) IB.out) (by rw [Lib.strCells_length]; omega) (Nat.le_trans BB.out.size B1.out.size)).mono ?_; rintro e w2 ⟨rfl, hbd2, hb2⟩; have D2 := Lib.hid hbd2; have B2 := Lib.hid hb2; clear hbd2 hb2))
      go_roundw
      case measure => simp [intOf]; omega
      case rel => exact ⟨k + 1, by omega, by go_num, .inr (by rw [HT.out, strCells_append]; exact D2.out), (BB.out.trans (B1.out.mono BB.out.size)).trans B2.out⟩
    · have hkn : k = A.length := by rw [← HNN.out]; omega
      rw [hkn, HALL.out] at hib
      have IB := Lib.hid hib
      have hstr : ∀ W, Lib.IsBuilder 77 5 w.heap.size w.heap.size (Lib.strCells fa) W → w.heap.size ≤ W.heap.size → Calls Tryz.prog 40 #[.pointer (some ⟨w.heap.size, 0, none⟩)] W fun e w' => e = .returned (.string fa) ∧ Below w.heap.size W w' := fun W h hB =>
        (bldString_any w.heap.size w.heap.size fa.data.toList W h hB)
      have HSTR := Lib.hid hstr
      clear hib hbb hstr hkn
      go_wp2_with (first | (go_at_call 24; refine (HDOES.out _ wr.heap.size ((HD.out.below BB.out).below (below_one wr _)) ((HJ.out.below BB.out).below (below_one wr _)) (heap_alloc_new wr _)).mono ?_; rintro e w4 ⟨code, rfl, hout4, ht4⟩; have I4 := Lib.hid (isBuilder_four hpw hbw hjw ht4 IB.out); have S4 := Lib.hid ht4.size; have T4 := Lib.hid ((Turned3.of_below BB.out p b j).trans ((Turned3.of_below (below_one wr _) p b j).trans ht4)); have O4 := Lib.hid hout4; clear hout4 ht4) | (go_at_call 40; obtain ⟨hd4, hj4⟩ := does_ok O4.out (by assumption); refine (HSTR.out _ I4.out T4.out.size).mono ?_; rintro e w5 ⟨rfl, hb5⟩; have T5 := Lib.hid (T4.out.then_below hb5); have D5 := Lib.hid (hd4.under hpw hbw hb5); have J5 := Lib.hid (hj4.under hjw hb5); clear hd4 hj4 hb5) | (go_at_call 29; refine (HAN.out _ D5.out J5.out).mono ?_; rintro e w6 ⟨rfl, hd6, hj6, ht6⟩; have D6 := Lib.hid hd6; have J6 := Lib.hid hj6; have T6 := Lib.hid (T5.out.trans ht6); clear hd6 hj6 ht6))
      · go_ret
        obtain ⟨h0, rfl, hd, hj⟩ | ⟨_, rfl, _⟩ := O4.out
        · exact ⟨_, rfl, .inl ⟨h0, rfl, ⟨hd.cells, hd.files.mono (by omega)⟩, hj⟩, T4.out⟩
        · exact absurd ‹((0 : Int) != 0) = true› (by decide)
      · go_ret
        have h0 : oT g left name = 0 := by
          obtain ⟨h0, rfl, _⟩ | ⟨h0, _⟩ := O4.out
          · exact absurd ‹(oT g left name != 0) = false› (by simp [h0])
          · exact h0
        exact ⟨_, rfl, .inr ⟨h0, rfl, D6.out, J6.out⟩, T6.out⟩
end Go.Proofs.YtpllcnpcplbobaaGreat
