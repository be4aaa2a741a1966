import Derived.Test.YtpllcnpcplbobaaDoorJr5
import Derived.Test.YtpllcnpcplbobaaDoorTexts
namespace Go.Proofs.YtpllcnpcplbobaaDoor
open Go.RowKit Go.Maps
set_option linter.unusedVariables false
def nCode (g : FS) (left : Int) (o d name : ByteArray) : Int := if n0 g left o ≠ 0 then n0 g left o else if n1 g left o d ≠ 0 then n1 g left o d else n2 g left o d name
def nG (g : FS) (left : Int) (o d name : ByteArray) : FS := if n0 g left o ≠ 0 then nG0 g left o d else if n1 g left o d ≠ 0 then nG1 g left o d else nG2 g left o d name
def nL (g : FS) (left : Int) (o d name : ByteArray) : Int := if n0 g left o ≠ 0 then nL0 g left o else if n1 g left o d ≠ 0 then nL1 g left o d else nL2 g left o d name
/-- What anew leaves, in short. -/
theorem anew_short {w : World} {j p b N : Nat} {name : ByteArray} {g : FS} {left : Int} {o d : ByteArray} {e : Ending} {w' : World} (h : AnewPost w j p b name N g left o d e w') :
    e = .returned (.int .i64 (nCode g left o d name)) ∧ DiskAt w' p b (nG g left o d name) (nL g left o d name) (N + 3) ∧ JBlk w' j p name (decide (nCode g left o d name ≠ 0)) ∧ Turned3 w w' p b j := by
  obtain ⟨code, rfl, h, ht⟩ := h
  rcases h with ⟨h0, rfl, hd, hj⟩ | ⟨h0, h1, rfl, hd, hj⟩ | ⟨h0, h1, h2, rfl, hd, hj⟩ | ⟨h0, h1, h2, rfl, hd, hj⟩
  · have e1 : nCode g left o d name = n0 g left o := if_pos h0
    have e2 : nG g left o d name = nG0 g left o d := if_pos h0
    have e3 : nL g left o d name = nL0 g left o := if_pos h0
    rw [e1, e2, e3]
    exact ⟨rfl, hd, by rw [decide_eq_true h0]; exact hj, ht⟩
  · have e1 : nCode g left o d name = n1 g left o d := (if_neg (fun h => h h0)).trans (if_pos h1)
    have e2 : nG g left o d name = nG1 g left o d := (if_neg (fun h => h h0)).trans (if_pos h1)
    have e3 : nL g left o d name = nL1 g left o d := (if_neg (fun h => h h0)).trans (if_pos h1)
    rw [e1, e2, e3]
    exact ⟨rfl, hd, by rw [decide_eq_true h1]; exact hj, ht⟩
  · have e1 : nCode g left o d name = n2 g left o d name := (if_neg (fun h => h h0)).trans (if_neg (fun h => h h1))
    have e2 : nG g left o d name = nG2 g left o d name := (if_neg (fun h => h h0)).trans (if_neg (fun h => h h1))
    have e3 : nL g left o d name = nL2 g left o d name := (if_neg (fun h => h h0)).trans (if_neg (fun h => h h1))
    rw [e1, e2, e3]
    exact ⟨rfl, hd, by rw [decide_eq_true h2]; exact hj, ht⟩
  · have e1 : nCode g left o d name = n2 g left o d name := (if_neg (fun h => h h0)).trans (if_neg (fun h => h h1))
    have e2 : nG g left o d name = nG2 g left o d name := (if_neg (fun h => h h0)).trans (if_neg (fun h => h h1))
    have e3 : nL g left o d name = nL2 g left o d name := (if_neg (fun h => h h0)).trans (if_neg (fun h => h h1))
    rw [e1, e2, e3, h2]
    exact ⟨rfl, hd, hj, ht⟩
/-! What Open does. -/
def oT (g : FS) (left : Int) (name : ByteArray) : Int := tidyE g left (name ++ sufx)
def oG1 (g : FS) (left : Int) (name : ByteArray) : FS := tidyG g left (name ++ sufx)
def oL1 (g : FS) (left : Int) (name : ByteArray) : Int := tidyL g left (name ++ sufx)
def oData (g : FS) (left : Int) (name : ByteArray) : ByteArray := ((oG1 g left name name).getD noFile).1
def oRecs (g : FS) (left : Int) (name : ByteArray) : List ByteArray := if isB (oG1 g left name) name = true then (scan (oData g left name)).1 else []
def oCut (g : FS) (left : Int) (name : ByteArray) : Prop := isB (oG1 g left name) name = true ∧ (scan (oData g left name)).2 < (oData g left name).size
def oHead (g : FS) (left : Int) (name : ByteArray) : ByteArray := (oData g left name).extract 0 (scan (oData g left name)).2
open Classical in
noncomputable def oCode (g : FS) (left : Int) (name : ByteArray) : Int := if oT g left name ≠ 0 then oT g left name else if oCut g left name then nCode (oG1 g left name) (oL1 g left name) (name ++ sufx) (oHead g left name) name else 0
open Classical in
noncomputable def oG (g : FS) (left : Int) (name : ByteArray) : FS := if oT g left name ≠ 0 then oG1 g left name else if oCut g left name then nG (oG1 g left name) (oL1 g left name) (name ++ sufx) (oHead g left name) name else oG1 g left name
open Classical in
noncomputable def oL (g : FS) (left : Int) (name : ByteArray) : Int := if oT g left name ≠ 0 then oL1 g left name else if oCut g left name then nL (oG1 g left name) (oL1 g left name) (name ++ sufx) (oHead g left name) name else oL1 g left name
/-- A slice of texts in a block from base on, as it can be read. -/
def TextsF (base : Nat) (w : World) (v : Value) (l : List ByteArray) : Prop :=
  ∃ (a : Option Addr) (c : Nat), v = .slice a l.length c ∧ (l.length = 0 ∨ ∃ b o, a = some ⟨b, o, none⟩ ∧ base ≤ b ∧ ∀ i (h : i < l.length), w.cell? ⟨b, o + i, none⟩ = some (.string l[i]))
theorem TextsF.at {base : Nat} {w : World} {v : Value} {l : List ByteArray} (h : TextsF base w v l) : TextsAt w v l := by
  obtain ⟨a, c, hv, h0 | ⟨b, o, ha, _, hc⟩⟩ := h
  · exact ⟨a, c, hv, .inl h0⟩
  · exact ⟨a, c, hv, .inr ⟨b, o, ha, hc⟩⟩
theorem TextsF.mono {base B : Nat} {w : World} {v : Value} {l : List ByteArray} (h : TextsF base w v l) (hB : B ≤ base) : TextsF B w v l := by
  obtain ⟨a, c, hv, h0 | ⟨b, o, ha, hb, hc⟩⟩ := h
  · exact ⟨a, c, hv, .inl h0⟩
  · exact ⟨a, c, hv, .inr ⟨b, o, ha, by omega, hc⟩⟩
theorem TextsF.block {base : Nat} {w w' : World} {v : Value} {l : List ByteArray} (h : TextsF base w v l) (hb : ∀ k, base ≤ k → k < w.heap.size → w'.heap[k]? = w.heap[k]?) : TextsF base w' v l := by
  obtain ⟨a, c, hv, h0 | ⟨b, o, ha, hb2, hc⟩⟩ := h
  · exact ⟨a, c, hv, .inl h0⟩
  · refine ⟨a, c, hv, .inr ⟨b, o, ha, hb2, fun i hi => ?_⟩⟩
    have hx := hc i hi
    exact (World.cell?_of_block (hb b hb2 (block_lt_of_cell hx))).trans hx
theorem textsF_owned {w : World} {base : Nat} {v : Value} {l : List ByteArray} (h : w.ownsRow base 9 1 v l.length (strs l)) : TextsF base w v l := by
  by_cases h0 : l.length = 0
  · obtain ⟨a, c, hv, _⟩ := textsAt_owned h
    exact ⟨a, c, hv, .inl h0⟩
  · obtain ⟨g, cap, rfl, hg, _⟩ := World.ownsRow.form h (by omega)
    refine ⟨_, cap, rfl, .inr ⟨g, 0, rfl, hg, fun i hi => ?_⟩⟩
    rw [Nat.zero_add, h.cellAt i (by omega)]
    simp [strs, hi]
theorem textsF_nil (base : Nat) (w : World) (a : Option Addr) (c : Nat) : TextsF base w (.slice a 0 c) [] := ⟨a, c, rfl, .inl rfl⟩
/-- What Open leaves. -/
def OpenPost (w : World) (p b : Nat) (name : ByteArray) (N : Nat) (g : FS) (left : Int) (e : Ending) (w' : World) : Prop :=
  (∃ jv rv, e = .returned (.tuple #[jv, rv, .int .i64 (oCode g left name)]) ∧ (oCode g left name = 0 → ∃ j, jv = .pointer (some ⟨j, 0, none⟩) ∧ JBlk w' j p name false ∧ w.heap.size ≤ j ∧ TextsF w.heap.size w' rv (oRecs g left name)) ∧
    (oCode g left name ≠ 0 → jv = .pointer none ∧ rv = .slice none 0 0)) ∧ DiskAt w' p b (oG g left name) (oL g left name) (N + 4) ∧ Turned w w' p b
theorem Turned3.to2 {w w' : World} {p b j : Nat} (h : Turned3 w w' p b j) (hj : w.heap.size ≤ j) : Turned w w' p b := ⟨h.os, h.tape, h.output, h.size, fun k hk hp hb => h.block k hk hp hb (by omega)⟩
theorem tidyL_low {g : FS} {left : Int} {x : ByteArray} (h : -1 ≤ left) : -1 ≤ tidyL g left x := by unfold tidyL; split; exact leftE_low h; exact h
theorem tidyL_high {g : FS} {left : Int} {x : ByteArray} (h : left ≤ 9223372036854775807) : tidyL g left x ≤ 9223372036854775807 := by unfold tidyL; split; exact leftE_high h; exact h
theorem scanF_le (s : ByteArray) : ∀ (f p : Nat), p ≤ s.size → (scanF f s p).2 ≤ s.size
  | 0, p, h => by simpa [scanF] using h
  | f + 1, p, h => by
    cases hst : stepAt s p with
    | none => rw [scanF_none hst]; exact h
    | some r => rw [scanF_some hst]; exact scanF_le s f _ (stepAt_some hst)
theorem scan_le (s : ByteArray) : (scan s).2 ≤ s.size := scanF_le s _ 0 (Nat.zero_le _)
/-- A fresh row outlives what a journal does. -/
theorem texts_turned {w w' : World} {base p b j : Nat} {v : Value} {l : List ByteArray} (h : w.ownsRow base 9 1 v l.length (strs l)) (hp : p < base) (hb : b < base) (hj : j < base) (ht : Turned3 w w' p b j) : TextsF base w' v l :=
  (textsF_owned h).block fun k hk hk2 => ht.block k hk2 (by omega) (by omega) (by omega)
set_option maxRecDepth 100000 in
set_option maxHeartbeats 2000000 in
theorem open_any (p b N : Nat) (g : FS) (left : Int) (h1 : -1 ≤ left) (h2 : left ≤ 9223372036854775807) (hN : N ≤ 1099511627000) (name : ByteArray) (hne : name ≠ ⟨#[]⟩) (hn : name.size ≤ 1099511627776) (hs1 : (oData g left name).size ≤ 1099511627776)
    (hs2 : ((oG1 g left name (name ++ sufx)).getD noFile).1.size + (oData g left name).size ≤ 1099511627776) (w : World) (hD : DiskAt w p b g left N) :
    Calls Tryd.prog 6 #[.pointer (some ⟨p, 0, none⟩), .string name] w (OpenPost w p b name N g left) := by
  have hmf : ∀ (fn : Fn) (first cap : Array Value) (w : World), (Instr.makeFunc fn first cap).run Tryd.prog w = .ok (.func fn first cap) w := fun _ _ _ _ => rfl
  have hnb : name.toList.isEmpty = false := by
    rw [ByteArray.toList_eq]
    cases hx : name.data.toList.isEmpty with
    | false => rfl
    | true => exact absurd (WideShapes.bytes_inj (by simpa using hx)) hne
  have hnm : name.size ≤ maxLen := by simp only [maxLen]; omega
  have hdoes := fun (W : World) (j f : Nat) (hd : DiskAt W p b g left N) (hj : JBlk W j p name false) h3 => doesT_any j p b N g left h1 h2 (by simp only [maxLen]; omega) name f W hd hj h3
    (oT g left name) (oG1 g left name) (oL1 g left name) (fun W' hd' hj' => (tidy_any j p b N g left h1 h2 (by omega) name hn false W' (⟨hd'.cells, hd'.files.mono (by omega)⟩) hj').mono fun _ _ ⟨he, hd, ht⟩ => ⟨he, ⟨hd.cells, hd.files.mono (by omega)⟩, ht⟩)
  have HDOES := Lib.hid hdoes
  have HD := Lib.hid hD
  clear hdoes hD hne
  have L1 := tidyL_low (g := g) (x := name ++ sufx) h1
  have L2 := tidyL_high (g := g) (x := name ++ sufx) h2
  by_cases ht : oT g left name = 0
  · have hd2 : ∀ W j f, DiskAt W p b g left N → JBlk W j p name false → FunsAt W f #[.func (.func 15) #[.pointer (some ⟨j, 0, none⟩)] #[]] →
        Calls Tryd.prog 14 #[.pointer (some ⟨j, 0, none⟩), .slice (some ⟨f, 0, none⟩) 1 1] W fun e w' => e = .returned (.int .i64 0) ∧ DiskAt w' p b (oG1 g left name) (oL1 g left name) (N + 1) ∧ JBlk w' j p name false ∧ Turned3 W w' p b j := fun W j f a1 a2 a3 => (HDOES.out W j f a1 a2 a3).mono fun e w' ⟨code, he, h, hT⟩ => by
      rcases h with ⟨h0, _⟩ | ⟨_, rfl, hd, hj⟩
      · exact absurd ht h0
      · exact ⟨he, hd, hj, hT⟩
    have HD2 := Lib.hid hd2
    clear hd2 HDOES
    obtain ⟨G1, hG1⟩ : ∃ G1, G1 = oG1 g left name := ⟨_, rfl⟩
    obtain ⟨Lf, hLf⟩ : ∃ Lf, Lf = oL1 g left name := ⟨_, rfl⟩
    have hL1 : -1 ≤ Lf := by rw [hLf]; exact L1
    have hL2 : Lf ≤ 9223372036854775807 := by rw [hLf]; exact L2
    by_cases hib : isB (oG1 g left name) name = true
    · obtain ⟨dt, hdt⟩ : ∃ dt, dt = oData g left name := ⟨_, rfl⟩
      have hrv : readV G1 name = .tuple #[.string dt, .int .i64 0] := by
        rw [hG1, readV]
        cases hq : oG1 g left name name with
        | none => rw [isB, hq] at hib; cases hib
        | some f => rw [hdt, oData, hq]; rfl
      have hrc : oRecs g left name = (scan dt).1 := by rw [hdt]; exact if_pos hib
      have hsn := scan_le dt
      have hsc := fun W => scan_any dt (by rw [hdt]; exact hs1) W
      have hibt : isB G1 name = true := by rw [hG1]; exact hib
      have hth := fun W j h3 h4 => there_any j p b (N + 1) G1 Lf (by omega) name false name W h3 h4
      rw [hibt] at hth
      have hre := fun (W : World) h => read_disk p b (N + 1) G1 Lf name hnm W h
      rw [hrv] at hre
      obtain ⟨rs, hrs⟩ : ∃ rs, rs = (scan dt).1 := ⟨_, rfl⟩
      obtain ⟨sn, hsn2⟩ : ∃ sn, sn = (scan dt).2 := ⟨_, rfl⟩
      rw [← hrs, ← hsn2] at hsc
      rw [← hsn2] at hsn
      rw [← hrs] at hrc
      rw [← hG1, ← hLf] at HD2
      have hdts : dt.size ≤ 1099511627776 := by rw [hdt]; exact hs1
      by_cases hlt : sn < dt.size
      · have hcut : oCut g left name := ⟨hib, by rw [← hdt, ← hsn2]; exact hlt⟩
        have hhd : oHead g left name = dt.extract 0 sn := by rw [oHead, ← hdt, ← hsn2]
        have hc : oCode g left name = nCode G1 Lf (name ++ sufx) (dt.extract 0 sn) name := ((if_neg (fun h => h ht)).trans (if_pos hcut)).trans (by rw [hG1, hLf, hhd])
        have hg : oG g left name = nG G1 Lf (name ++ sufx) (dt.extract 0 sn) name := ((if_neg (fun h => h ht)).trans (if_pos hcut)).trans (by rw [hG1, hLf, hhd])
        have hl : oL g left name = nL G1 Lf (name ++ sufx) (dt.extract 0 sn) name := ((if_neg (fun h => h ht)).trans (if_pos hcut)).trans (by rw [hG1, hLf, hhd])
        have hcutr := run_cut_high (P := Tryd.prog) 9 Tryd.underlying9 dt sn hsn (sn : Int) rfl
        have han := fun (W : World) (j : Nat) h3 h4 => (anew_any j p b (N + 1) G1 Lf hL1 hL2 (by simp only [maxLen]; omega) name (dt.extract 0 sn) hn (by rw [hG1]; have : (dt.extract 0 sn).size ≤ dt.size := (by rw [ByteArray.size_extract]; omega); rw [hdt] at this ⊢; omega) W h3 h4).mono fun _ _ h => anew_short h
        rw [← hc, ← hg, ← hl] at han
        obtain ⟨hd, hhd2⟩ : ∃ hd, hd = dt.extract 0 sn := ⟨_, rfl⟩
        rw [← hhd2] at hcutr han
        by_cases hz : oCode g left name = 0
        · have hfin : ∀ W' j rv, DiskAt W' p b (oG g left name) (oL g left name) (N + 1 + 3) → JBlk W' j p name false → w.heap.size ≤ j → TextsF w.heap.size W' rv rs → Turned w W' p b → OpenPost w p b name N g left (.returned (.tuple #[.pointer (some ⟨j, 0, none⟩), rv, .int .i64 0])) W' := fun W' j rv hd hj hjw hrv2 hT =>
            ⟨⟨_, rv, by rw [hz], fun _ => ⟨j, rfl, hj, hjw, by rw [hrc]; exact hrv2⟩, fun h => absurd hz h⟩, hd, hT⟩
          rw [hz] at han
          have HTH := Lib.hid hth
          have HRE := Lib.hid hre
          have HSC := Lib.hid hsc
          have HFIN := Lib.hid hfin
          have HAN := Lib.hid han
          clear hfin hth hre hsc han hc hg hl hrc hibt hib hcut hG1 hLf ht L1 L2 hrv hdt hrs hsn2 hhd hhd2
          go_enter Tryd.func6, Tryd.ntmps6
          go_wp2_with (first | (go_at_call 14; refine (HD2.out _ w.heap.size (w.heap.size + 1) (HD.out.below (below_two w _ _)) (at_two0 w _ _) (at_two1 w _ _)).mono ?_; rintro e w1 ⟨rfl, hd1, hj1, ht1⟩; have D1 := Lib.hid hd1; have J1 := Lib.hid hj1; have T1 := Lib.hid ht1; clear hd1 hj1 ht1) | (go_at_call 16; refine (HTH.out _ _ D1.out J1.out).mono ?_; rintro e w2 ⟨rfl, hb2⟩; have B2 := Lib.hid hb2; have D2 := Lib.hid (D1.out.below hb2); have J2 := Lib.hid (J1.out.below hb2); clear hb2) | (go_at_call 17; refine (HRE.out _ D2.out).mono ?_; rintro e w3 ⟨rfl, hb3⟩; have B3 := Lib.hid hb3; have D3 := Lib.hid (D2.out.below hb3); have J3 := Lib.hid (J2.out.below hb3); clear hb3) | (go_at_call 18; refine (HSC.out _).mono ?_; rintro e w4 ⟨v4, rfl, o4, hb4⟩; have B4 := Lib.hid hb4; have D4 := Lib.hid (D3.out.below hb4); have J4 := Lib.hid (J3.out.below hb4); have X4 := Lib.hid (textsAt_owned o4); have O4 := Lib.hid o4; obtain ⟨a4, c4, rfl, _⟩ := textsAt_owned o4; clear hb4 o4) | (go_at_call 19; refine (HAN.out _ _ D4.out J4.out).mono ?_; rintro e w5 ⟨rfl, hd5, hj5, ht5⟩; have D5 := Lib.hid hd5; have J5 := Lib.hid hj5; have T5 := Lib.hid ht5; clear hd5 hj5 ht5))
          go_ret3
          exact HFIN.out _ _ _ D5.out J5.out (Nat.le_refl _) ((texts_turned O4.out D3.out.lt D3.out.files.lt J3.out.lt T5.out).mono (Nat.le_of_lt J3.out.lt)) (((((((Turned3.of_below (below_two w _ _) p b w.heap.size).trans T1.out).trans (.of_below B2.out _ _ _)).trans (.of_below B3.out _ _ _)).trans (.of_below B4.out _ _ _)).trans T5.out).to2 (Nat.le_refl _))
        · obtain ⟨cc, hcc⟩ : ∃ cc, cc = oCode g left name := ⟨_, rfl⟩
          have hfin : ∀ W', DiskAt W' p b (oG g left name) (oL g left name) (N + 1 + 3) → Turned w W' p b → OpenPost w p b name N g left (.returned (.tuple #[.pointer none, .slice none 0 0, .int .i64 cc])) W' := fun W' hd hT =>
            ⟨⟨.pointer none, .slice none 0 0, by rw [hcc], fun h => absurd h hz, fun _ => ⟨rfl, rfl⟩⟩, hd, hT⟩
          rw [← hcc] at han
          have hzb : (cc == 0) = false := by rw [hcc]; simpa using hz
          have HTH := Lib.hid hth
          have HRE := Lib.hid hre
          have HSC := Lib.hid hsc
          have HFIN := Lib.hid hfin
          have HAN := Lib.hid han
          have HZ := Lib.hid hz
          have HCC := Lib.hid hcc
          clear hfin hth hre hsc han hc hg hl hrc hibt hib hcut hG1 hLf ht L1 L2 hrv hdt hrs hsn2 hhd hhd2 hz hcc
          go_enter Tryd.func6, Tryd.ntmps6
          go_wp2_with (first | (go_at_call 14; refine (HD2.out _ w.heap.size (w.heap.size + 1) (HD.out.below (below_two w _ _)) (at_two0 w _ _) (at_two1 w _ _)).mono ?_; rintro e w1 ⟨rfl, hd1, hj1, ht1⟩; have D1 := Lib.hid hd1; have J1 := Lib.hid hj1; have T1 := Lib.hid ht1; clear hd1 hj1 ht1) | (go_at_call 16; refine (HTH.out _ _ D1.out J1.out).mono ?_; rintro e w2 ⟨rfl, hb2⟩; have B2 := Lib.hid hb2; have D2 := Lib.hid (D1.out.below hb2); have J2 := Lib.hid (J1.out.below hb2); clear hb2) | (go_at_call 17; refine (HRE.out _ D2.out).mono ?_; rintro e w3 ⟨rfl, hb3⟩; have B3 := Lib.hid hb3; have D3 := Lib.hid (D2.out.below hb3); have J3 := Lib.hid (J2.out.below hb3); clear hb3) | (go_at_call 18; refine (HSC.out _).mono ?_; rintro e w4 ⟨v4, rfl, o4, hb4⟩; have B4 := Lib.hid hb4; have D4 := Lib.hid (D3.out.below hb4); have J4 := Lib.hid (J3.out.below hb4); have X4 := Lib.hid (textsAt_owned o4); have O4 := Lib.hid o4; obtain ⟨a4, c4, rfl, _⟩ := textsAt_owned o4; clear hb4 o4) | (go_at_call 19; refine (HAN.out _ _ D4.out J4.out).mono ?_; rintro e w5 ⟨rfl, hd5, hj5, ht5⟩; have D5 := Lib.hid hd5; have J5 := Lib.hid hj5; have T5 := Lib.hid ht5; clear hd5 hj5 ht5))
          go_ret3
          exact HFIN.out _ D5.out (((((((Turned3.of_below (below_two w _ _) p b w.heap.size).trans T1.out).trans (.of_below B2.out _ _ _)).trans (.of_below B3.out _ _ _)).trans (.of_below B4.out _ _ _)).trans T5.out).to2 (Nat.le_refl _))
      · have hcut : ¬ oCut g left name := fun h => hlt (by rw [hsn2, hdt]; exact h.2)
        have hc : oCode g left name = 0 := (if_neg (fun h => h ht)).trans (if_neg hcut)
        have hg : oG g left name = G1 := ((if_neg (fun h => h ht)).trans (if_neg hcut)).trans hG1.symm
        have hl : oL g left name = Lf := ((if_neg (fun h => h ht)).trans (if_neg hcut)).trans hLf.symm
        have hfin : ∀ W' j rv, DiskAt W' p b G1 Lf (N + 1) → JBlk W' j p name false → w.heap.size ≤ j → TextsF w.heap.size W' rv rs → Turned w W' p b → OpenPost w p b name N g left (.returned (.tuple #[.pointer (some ⟨j, 0, none⟩), rv, .int .i64 0])) W' := fun W' j rv hd hj hjw hrv2 hT =>
          ⟨⟨_, rv, by rw [hc], fun _ => ⟨j, rfl, hj, hjw, by rw [hrc]; exact hrv2⟩, fun h => absurd hc h⟩, by rw [hg, hl]; exact ⟨hd.cells, hd.files.mono (by omega)⟩, hT⟩
        have HTH := Lib.hid hth
        have HRE := Lib.hid hre
        have HSC := Lib.hid hsc
        have HFIN := Lib.hid hfin
        clear hfin hth hre hsc hc hg hl hrc hibt hib hcut hG1 hLf ht L1 L2 hrv hdt hrs hsn2
        go_enter Tryd.func6, Tryd.ntmps6
        go_wp2_with (first | (go_at_call 14; refine (HD2.out _ w.heap.size (w.heap.size + 1) (HD.out.below (below_two w _ _)) (at_two0 w _ _) (at_two1 w _ _)).mono ?_; rintro e w1 ⟨rfl, hd1, hj1, ht1⟩; have D1 := Lib.hid hd1; have J1 := Lib.hid hj1; have T1 := Lib.hid ht1; clear hd1 hj1 ht1) | (go_at_call 16; refine (HTH.out _ _ D1.out J1.out).mono ?_; rintro e w2 ⟨rfl, hb2⟩; have B2 := Lib.hid hb2; have D2 := Lib.hid (D1.out.below hb2); have J2 := Lib.hid (J1.out.below hb2); clear hb2) | (go_at_call 17; refine (HRE.out _ D2.out).mono ?_; rintro e w3 ⟨rfl, hb3⟩; have B3 := Lib.hid hb3; have D3 := Lib.hid (D2.out.below hb3); have J3 := Lib.hid (J2.out.below hb3); clear hb3) | (go_at_call 18; refine (HSC.out _).mono ?_; rintro e w4 ⟨v4, rfl, o4, hb4⟩; have B4 := Lib.hid hb4; have D4 := Lib.hid (D3.out.below hb4); have J4 := Lib.hid (J3.out.below hb4); have X4 := Lib.hid (textsF_owned o4); have O4 := Lib.hid o4; obtain ⟨a4, c4, rfl, _⟩ := textsAt_owned o4; clear hb4 o4))
        go_ret3
        exact HFIN.out _ _ _ D4.out J4.out (Nat.le_refl _) (X4.out.mono (Nat.le_of_lt J3.out.lt)) ((((((Turned3.of_below (below_two w _ _) p b w.heap.size).trans T1.out).to2 (Nat.le_refl _)).trans (turned_of_below B2.out p b)).trans (turned_of_below B3.out p b)).trans (turned_of_below B4.out p b))
    · have hcut : ¬ oCut g left name := fun h => hib h.1
      have hc : oCode g left name = 0 := (if_neg (fun h => h ht)).trans (if_neg hcut)
      have hg : oG g left name = G1 := ((if_neg (fun h => h ht)).trans (if_neg hcut)).trans hG1.symm
      have hl : oL g left name = Lf := ((if_neg (fun h => h ht)).trans (if_neg hcut)).trans hLf.symm
      have hrc : oRecs g left name = [] := if_neg hib
      have hibf : isB G1 name = false := by rw [hG1]; simpa using hib
      have hfin : ∀ W' j, DiskAt W' p b G1 Lf (N + 1) → JBlk W' j p name false → w.heap.size ≤ j → Turned w W' p b → OpenPost w p b name N g left (.returned (.tuple #[.pointer (some ⟨j, 0, none⟩), .slice none 0 0, .int .i64 0])) W' := fun W' j hd hj hjw hT =>
        ⟨⟨_, _, by rw [hc], fun _ => ⟨j, rfl, hj, hjw, by rw [hrc]; exact textsF_nil _ W' _ _⟩, fun h => absurd hc h⟩, by rw [hg, hl]; exact ⟨hd.cells, hd.files.mono (by omega)⟩, hT⟩
      rw [← hG1, ← hLf] at HD2
      have hth := fun W j h3 h4 => there_any j p b (N + 1) G1 Lf (by omega) name false name W h3 h4
      rw [hibf] at hth
      have HTH := Lib.hid hth
      have HFIN := Lib.hid hfin
      clear hfin hth hc hg hl hrc hibf hib hcut hG1 hLf ht L1 L2
      go_enter Tryd.func6, Tryd.ntmps6
      go_wp2_with (first | (go_at_call 14; refine (HD2.out _ w.heap.size (w.heap.size + 1) (HD.out.below (below_two w _ _)) (at_two0 w _ _) (at_two1 w _ _)).mono ?_; rintro e w1 ⟨rfl, hd1, hj1, ht1⟩; have D1 := Lib.hid hd1; have J1 := Lib.hid hj1; have T1 := Lib.hid ht1; clear hd1 hj1 ht1) | (go_at_call 16; refine (HTH.out _ _ D1.out J1.out).mono ?_; rintro e w2 ⟨rfl, hb2⟩; have B2 := Lib.hid hb2; clear hb2))
      go_ret3
      exact HFIN.out _ _ (D1.out.below B2.out) (J1.out.below B2.out) (Nat.le_refl _) (((Turned3.of_below (below_two w _ _) p b w.heap.size).trans T1.out).to2 (Nat.le_refl _) |>.trans (turned_of_below B2.out p b))
  · have hc : oCode g left name = oT g left name := if_pos ht
    have hg : oG g left name = oG1 g left name := if_pos ht
    have hl : oL g left name = oL1 g left name := if_pos ht
    obtain ⟨tc, htc⟩ : ∃ tc, tc = oT g left name := ⟨_, rfl⟩
    have hzb : (tc == 0) = false := by rw [htc]; simpa using ht
    rw [← htc] at hc
    have hfin : ∀ W', DiskAt W' p b (oG1 g left name) (oL1 g left name) (N + 1) → Turned w W' p b → OpenPost w p b name N g left (.returned (.tuple #[.pointer none, .slice none 0 0, .int .i64 tc])) W' := fun W' hd hT =>
      ⟨⟨.pointer none, .slice none 0 0, by rw [hc], fun h => absurd (by rw [← htc, ← hc]; exact h) ht, fun _ => ⟨rfl, rfl⟩⟩, by rw [hg, hl]; exact ⟨hd.cells, hd.files.mono (by omega)⟩, hT⟩
    have hd2 : ∀ W j f, DiskAt W p b g left N → JBlk W j p name false → FunsAt W f #[.func (.func 15) #[.pointer (some ⟨j, 0, none⟩)] #[]] →
        Calls Tryd.prog 14 #[.pointer (some ⟨j, 0, none⟩), .slice (some ⟨f, 0, none⟩) 1 1] W fun e w' => e = .returned (.int .i64 tc) ∧ DiskAt w' p b (oG1 g left name) (oL1 g left name) (N + 1) ∧ Turned3 W w' p b j := fun W j f a1 a2 a3 => (HDOES.out W j f a1 a2 a3).mono fun e w' ⟨code, he, h, hT⟩ => by
      rcases h with ⟨_, rfl, hd, _⟩ | ⟨h0, _⟩
      · exact ⟨by rw [htc]; exact he, hd, hT⟩
      · exact absurd h0 ht
    have HD2 := Lib.hid hd2
    have HFIN := Lib.hid hfin
    have HTC := Lib.hid htc
    have HT := Lib.hid ht
    clear hd2 hfin htc ht hc hg hl HDOES
    go_enter Tryd.func6, Tryd.ntmps6
    go_wp2_with (go_at_call 14; refine (HD2.out _ w.heap.size (w.heap.size + 1) (HD.out.below (below_two w _ _)) (at_two0 w _ _) (at_two1 w _ _)).mono ?_; rintro e w1 ⟨rfl, hd1, ht1⟩; have D1 := Lib.hid hd1; have T1 := Lib.hid ht1; clear hd1 ht1)
    go_ret3
    exact HFIN.out _ D1.out (((Turned3.of_below (below_two w _ _) p b w.heap.size).trans T1.out).to2 (Nat.le_refl _))
end Go.Proofs.YtpllcnpcplbobaaDoor
