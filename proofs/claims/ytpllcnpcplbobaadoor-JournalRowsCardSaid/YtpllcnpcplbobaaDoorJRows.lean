import Derived.Test.YtpllcnpcplbobaaDoorPk2
import Derived.Test.YtpllcnpcplbobaaDoorActs
namespace Go.Proofs.YtpllcnpcplbobaaDoor
open Go.RowKit Go.WideShapes Go.ChangeShapes
set_option linter.unusedVariables false
/-- A slice of rows of texts, as it can be read. -/
def RowsAt (w : World) (v : Value) (l : List (Value × List ByteArray)) : Prop :=
  ∃ (a : Option Addr) (c : Nat), v = .slice a l.length c ∧ (l.length = 0 ∨ ∃ b o, a = some ⟨b, o, none⟩ ∧ ∀ i (h : i < l.length), w.cell? ⟨b, o + i, none⟩ = some (l[i]).1 ∧ TextsAt w (l[i]).1 (l[i]).2 ∧ (l[i]).2.length ≤ 140737488351232)
section
variable {H : Type} {enc : TypeId × Value → H}
theorem open_txtcells2 {w : World} {base : Nat} {sp : Nat → Bool} {held : Bool} {fuel : Nat} {cs : List Value} {x : DataW H × List MemPlace} (h : DataW.trod enc Tryd.prog w base sp held fuel 28 cs = some x) (hsp : ∀ b, sp b = true) (hw : Small Tryd.prog 28 x.1) :
    ∃ v l, cs = [v] ∧ TextsAt w v l ∧ l.length ≤ 140737488351232 := by
  rcases open_strings Tryd.underlying28 Tryd.underlying9 (by kernel_rfl) h with ⟨rfl, _⟩ | ⟨a, len, cap, ss, rfl, _, hl, hm, hz, rfl, hcell, _⟩
  · exact ⟨_, [], rfl, textsAt_nil w, Nat.zero_le _⟩
  · rw [hsp, if_pos rfl] at hz
    have hsm : len ≤ 140737488351232 := by
      have h1 := small_slice Tryd.underlying28 hw
      have h2 : Tryd.prog.bytesOf 9 = 16 := by kernel_rfl
      rw [h2] at h1
      simp only [Go.ChangeShapes.strs, List.length_map, List.length_take, List.length_drop] at h1
      omega
    have hlen : (ss.take len).length = len := by rw [List.length_take]; omega
    refine ⟨_, ss.take len, rfl, ⟨some a, cap, by rw [hlen], ?_⟩, by omega⟩
    by_cases h0 : len = 0
    · exact .inl (by omega)
    · right
      have hp := addr_plain (n := 0) (c := 0) (hcell 0 (by omega)) rfl
      refine ⟨a.block, a.off, by rw [← hp], fun i hi => ?_⟩
      have hi' : i < ss.length := by rw [hlen] at hi; omega
      have h2 := hcell i hi'
      rw [hp, Addr.add_lit] at h2
      rw [h2]
      simp [List.getD, hi']
set_option maxRecDepth 100000 in
theorem open_rows {W : World} {base : Nat} {v : Value} {d : DataW H} {p : List MemPlace}
    (hval : Value.okWide Tryd.prog W .any base 22 v) (h : DataW.Trod enc Tryd.prog W 0 (fun _ => true) true 22 v d p) (hw : Small Tryd.prog 22 d) :
    ∃ l : List (Value × List ByteArray), RowsAt W v l ∧ l.length ≤ 140737488351232 := by
  obtain ⟨a0, len, cap, rfl⟩ := okWide_slice Tryd.underlying22 hval
  obtain ⟨fuel, hf⟩ := h
  have hc : Tryd.prog.cellsOf 28 = 1 := by kernel_rfl
  rcases Deep.open_slice Tryd.underlying22 hf with ⟨hcs, _⟩ | ⟨a, len', cap', m, n, D, Pl, hcs, _, hl, hm, hmm, hd, hx⟩
  · simp [Value.cells] at hcs
    obtain ⟨rfl, rfl, rfl⟩ := hcs
    exact ⟨[], ⟨none, 0, rfl, .inl rfl⟩, Nat.zero_le _⟩
  · simp [Value.cells] at hcs
    obtain ⟨rfl, rfl, rfl⟩ := hcs
    simp only [if_true] at hmm
    have hd1 := congrArg Prod.fst hd
    simp only at hd1
    subst hd1
    have hlen := small_slice Tryd.underlying22 hw
    have hby : Tryd.prog.bytesOf 28 = 24 := by kernel_rfl
    rw [hby] at hlen
    simp only [List.length_map, List.length_range] at hlen
    have hel : ∀ i, i < len → Small Tryd.prog 28 (D i) := fun i hi => small_of hw fun n hn => by
      have := mem_weightsAll (P := Tryd.prog) (e := 28) (l := (List.range len).map D) (d := D i) (List.mem_map.2 ⟨i, List.mem_range.2 hi, rfl⟩) n hn
      simp only [DataW.weights, Tryd.underlying22, List.mem_cons, List.mem_append]
      exact .inr (.inl this)
    obtain ⟨f, hfx⟩ := Deep.choose_lt (α := Value × List ByteArray) (n := len) (p := fun i y => W.cell? (a.add (i * 1)) = some y.1 ∧ TextsAt W y.1 y.2 ∧ y.2.length ≤ 140737488351232) (fun i hi => by
      obtain ⟨cs', h1, h2⟩ := hx i (by omega)
      rw [hc] at h1
      obtain ⟨v, l, rfl, htx, hn⟩ := open_txtcells2 h2 (fun _ => rfl) (hel i hi)
      obtain ⟨_, _, h3⟩ := World.cells?_some h1
      refine ⟨(v, l), ?_, htx, hn⟩
      have h4 : W.cell? ((a.add (i * 1)).add 0) = some v := h3 0 (by omega)
      have e4 : (a.add (i * 1)).add 0 = a.add (i * 1) := by simp [Addr.add]
      rw [e4] at h4
      exact h4)
    have hll : ((List.range len).map f).length = len := by simp
    refine ⟨(List.range len).map f, ⟨some a, cap, by rw [hll], ?_⟩, by rw [hll]; omega⟩
    by_cases h0 : len = 0
    · exact .inl (by omega)
    · right
      obtain ⟨ab, ao, asp⟩ := a
      have hs : asp = none := by
        have h1 := (hfx 0 (by omega)).1
        simpa [Addr.add] using World.cell?_spot h1
      subst hs
      refine ⟨ab, ao, rfl, fun i hi => ?_⟩
      rw [hll] at hi
      have hg : ((List.range len).map f)[i]'(by rw [hll]; exact hi) = f i := by simp
      rw [hg]
      obtain ⟨h1, h2, h3⟩ := hfx i hi
      refine ⟨?_, h2, h3⟩
      rw [Addr.add_lit] at h1
      simpa using h1
set_option maxRecDepth 100000 in
theorem open_nums2 {W : World} {base : Nat} {v : Value} {d : DataW H} {p : List MemPlace}
    (hval : Value.okWide Tryd.prog W .any base 23 v) (h : DataW.Trod enc Tryd.prog W 0 (fun _ => true) true 23 v d p) (hw : Small Tryd.prog 23 d) :
    ∃ l : List Int, NumsAt W v l ∧ l.length ≤ 140737488351232 := by
  obtain ⟨a0, len, cap, rfl⟩ := okWide_slice Tryd.underlying23 hval
  obtain ⟨fuel, hf⟩ := h
  obtain ⟨u, l, e, hn, hl⟩ := open_numcells hf (fun _ => rfl) hw
  simp [Value.cells] at e
  rw [e]
  exact ⟨l, hn, hl⟩
end
def recsOf (R : List (Value × List ByteArray)) : List ByteArray := R.map fun x => rowB x.2
theorem framesL_size : ∀ l : List ByteArray, (∀ x ∈ l, x.size ≤ 1464) → (framesL l).size ≤ 1476 * l.length
  | [], _ => Nat.le_refl _
  | r :: l, h => by
    have h1 := h r (List.mem_cons_self ..)
    have h2 := framesL_size l fun y hy => h y (List.mem_cons_of_mem _ hy)
    have h3 := size_frameS r
    rw [framesL, ByteArray.size_append, List.length_cons]
    omega
theorem rowB_le {l : List ByteArray} (h : greatL l = false) : (rowB l).size ≤ 1464 := by
  obtain ⟨h1, h2⟩ := great_no h
  have := rowL_len l h2
  rw [rowB_size]
  omega
theorem recs_le {R : List (Value × List ByteArray)} (h : ∀ x ∈ R, greatL x.2 = false) : ∀ x ∈ recsOf R, x.size ≤ 1464 := fun x hx => by
  obtain ⟨y, hy, rfl⟩ := List.mem_map.1 hx
  exact rowB_le (h y hy)
/-- Add without a budget, of any record. -/
theorem add_plain (j p b N : Nat) (hN : N ≤ 1099511627000) (g : FS) (d rec : ByteArray) (hL : LogIs g d (d.size : Int)) (hr : rec.size ≤ 1048576) (hd : d.size ≤ 1000000000) (w : World) (hD : DiskAt w p b g (-1) N) (hJ : JBlk w j p logN false) :
    Calls Tryd.prog 8 #[.pointer (some ⟨j, 0, none⟩), .string rec] w fun e w' => e = .returned (.int .i64 0) ∧
      (∃ g', LogIs g' (d ++ frameS rec) ((d ++ frameS rec).size : Int) ∧ DiskAt w' p b g' (-1) (N + 2)) ∧ JBlk w' j p logN false ∧ Turned3 w w' p b j := by
  refine (add_log j p b N hN g (-1) (by omega) (by omega) d rec _ hL hr hd w hD hJ).mono ?_
  rintro e w' ⟨code, rfl, ⟨g', l', _, _, h1, h2⟩, hT⟩
  rcases h2 with ⟨rfl, h3, h4, h5⟩ | ⟨_, h3, _⟩
  · rw [h5 rfl] at h1
    exact ⟨rfl, ⟨g', h3, h1⟩, h4, hT⟩
  · exact absurd rfl h3
set_option maxRecDepth 100000 in
set_option maxHeartbeats 4000000 in
theorem jrows_any (va : Value) (R : List (Value × List ByteArray)) (hRm : R.length ≤ 140737488351232) (vp : Value) (P : List Int) (hPm : P.length ≤ 140737488351232) (w : World) (hR : RowsAt w va R) (hP : NumsAt w vp P) (htab : Lib.TabIs Tryd.prog w "internal/strconv.uint64pow10" .u64 Lib.pow10Tab) :
    Calls Tryd.prog 3 #[va, vp] w fun e w' => e = .returned (.bool true) ∧ Below w.heap.size w w' := by
  have htb := Lib.tabBelow_of_tabIs htab
  have HTB := Lib.hid htb
  have HP := Lib.hid hP
  obtain ⟨aR, cR, rfl, hRc⟩ := hR
  obtain ⟨aP, cP, rfl, hPc, _⟩ := hP
  have HR := Lib.hid hRc
  obtain ⟨n, hn⟩ : ∃ n, n = R.length := ⟨_, rfl⟩
  obtain ⟨q, hq⟩ : ∃ q, q = P.length := ⟨_, rfl⟩
  rw [← hn] at hRm ⊢
  rw [← hq] at hPm HP ⊢
  have HN := Lib.hid hn
  have HQ := Lib.hid hq
  clear hRc hPc hn hq htb htab
  by_cases hn8 : 8 < n
  · go_enter Tryd.func3, Tryd.ntmps3
    go_wp2_with (go_at_call 4; refine (fixed_any _).mono ?_; rintro e w4 ⟨rfl, hb4⟩)
    go_ret
    exact ⟨rfl, hb4⟩
  by_cases hq10 : 10 < q
  · go_enter Tryd.func3, Tryd.ntmps3
    go_wp2_with (go_at_call 4; refine (fixed_any _).mono ?_; rintro e w4 ⟨rfl, hb4⟩)
    go_ret
    exact ⟨rfl, hb4⟩
  go_enter Tryd.func3, Tryd.ntmps3
  go_wp2_with (first | (go_at_call 5; refine (new_disk _).mono ?_; rintro e w2 ⟨p, b, rfl, hd2, hb2, hp2, hbb2, hpb2⟩; have D2 := Lib.hid hd2; have B2 := Lib.hid hb2; clear hd2 hb2) | (go_at_call 6; refine (open_log p b 0 (by omega) _ _ _ LogIs.fresh (by decide) _ D2.out).mono ?_; rintro e w3 ⟨j, rv3, rfl, hj3, hjw3, _, hx3, ht3⟩; obtain ⟨hl3, hd3⟩ := hx3 (by rw [scan_empty]; rfl); have L3 := Lib.hid hl3; have D3 := Lib.hid hd3; have J3 := Lib.hid hj3; have T3 := Lib.hid ht3; clear hl3 hd3 hj3 ht3 hx3))
  have hb3 : Below w.heap.size w w3 := B2.out.trans (T3.out.below hp2 hbb2 B2.out.size)
  have hL3 : LogIs (oG1 (fun x => none) (-1) logN) (framesL (recsOf (R.take 0))) ((framesL (recsOf (R.take 0))).size : Int) := L3.out
  have hwj : w.heap.size ≤ j := Nat.le_trans B2.out.size hjw3
  have D3' := D3.out
  have J3' := J3.out
  clear L3 D3 J3 T3 B2 D2
  go_loopw [9] (fun i wr => ∃ (k : Nat) (g : FS), k ≤ n ∧ i = .int .i64 k ∧ (∀ x ∈ R.take k, greatL x.2 = false) ∧ LogIs g (framesL (recsOf (R.take k))) ((framesL (recsOf (R.take k))).size : Int) ∧ DiskAt wr p b g (-1) (4 + 2 * k) ∧ JBlk wr j p logN false ∧ Below w.heap.size w wr) (fun i _ => n - (intOf i).toNat)
  case atStart => exact ⟨0, _, Nat.zero_le _, rfl, by simp, hL3, D3', J3', hb3⟩
  case round =>
    obtain ⟨k, g, hk, rfl, hgood, hLk, hDk, hJk, hBk⟩ := hrel
    clear hL3 D3' J3' hb3
    by_cases hlt : k < n
    · have hAk : k < R.length := by rw [← HN.out]; exact hlt
      rcases HR.out with h0 | ⟨b1, o1, rfl, hc1⟩
      · rw [← HN.out] at h0; omega
      obtain ⟨d0, t0, m0⟩ := hc1 k hAk
      have d1 : wr.cell? ⟨b1, o1 + k, none⟩ = some (R[k]).1 := (hBk.cell (World.block_lt_of_cell? _ _ d0)).trans d0
      have htk : recsOf (R.take (k + 1)) = recsOf (R.take k) ++ [rowB (R[k]).2] := by rw [List.take_succ_eq_append_getElem hAk]; simp only [recsOf, List.map_append, List.map_cons, List.map_nil]
      have hg1 : greatL (R[k]).2 = false → ∀ x ∈ R.take (k + 1), greatL x.2 = false := fun h x hx => by
        rw [List.take_succ_eq_append_getElem hAk] at hx
        rcases List.mem_append.1 hx with hx | hx
        · exact hgood x hx
        · rw [List.mem_singleton.1 hx]; exact h
      have hfs := framesL_size _ (recs_le hgood)
      have hfl : (recsOf (R.take k)).length ≤ 8 := by simp [recsOf]; omega
      obtain ⟨x, hx⟩ : ∃ x, x = R[k] := ⟨_, rfl⟩
      rw [← hx] at d0 d1 t0 m0 htk hg1
      obtain ⟨v, l⟩ := x
      dsimp only at d0 d1 t0 m0 htk hg1
      have hgr := great_any v l (by omega) wr (t0.below hBk)
      obtain ⟨va, vc, hv, _⟩ := id t0
      subst hv
      obtain ⟨ln, hln⟩ : ∃ ln, ln = l.length := ⟨_, rfl⟩
      rw [← hln] at d1 t0 hgr
      have HT0 := Lib.hid t0
      have HLN := Lib.hid hln
      have HB := Lib.hid hBk
      have HD := Lib.hid hDk
      have HJ := Lib.hid hJk
      have HTK := Lib.hid htk
      have HG1 := Lib.hid hg1
      cases hgl : greatL l with
      | true =>
        rw [hgl] at hgr
        have HGR := Lib.hid hgr
        clear hgr hgl hg1 htk hc1 hx d0 hgood hLk hDk hJk hBk t0 hln hfs hfl
        go_wp2_with (first | (go_at_call 7; refine (HGR.out).mono ?_; rintro e w4 ⟨rfl, rfl⟩) | (go_at_call 4; refine (fixed_any _).mono ?_; rintro e w5 ⟨rfl, hb5⟩))
        go_ret
        exact ⟨rfl, HB.out.trans (hb5.mono HB.out.size)⟩
      | false =>
        rw [hgl] at hgr
        obtain ⟨hl12, hl100⟩ := great_no hgl
        have hrow := fun W h1 h2 => row_any (.slice va ln vc) l hl12 hl100 W h1 h2
        have hadd := fun W h1 h2 => add_plain j p b (4 + 2 * k) (by omega) g _ (rowB l) hLk (by have := rowB_le hgl; omega) (by omega) W h1 h2
        obtain ⟨rb, hrb⟩ : ∃ rb, rb = rowB l := ⟨_, rfl⟩
        rw [← hrb] at hrow hadd
        have HRB := Lib.hid hrb
        have HROW := Lib.hid hrow
        have HADD := Lib.hid hadd
        have HGR := Lib.hid hgr
        have HG2 := Lib.hid (hg1 hgl)
        clear hgr hgl hg1 htk hc1 hx d0 hgood hLk hDk hJk hBk t0 hln hrow hadd hrb hl12 hl100 hfs hfl
        go_wp2_with (first | (go_at_call 7; refine (HGR.out).mono ?_; rintro e w4 ⟨rfl, hw4⟩; subst hw4) | (go_at_call 9; refine (HROW.out _ (HT0.out.below HB.out) (HTB.out _ HB.out)).mono ?_; rintro e w5 ⟨rfl, hb5⟩; have B5 := Lib.hid hb5; clear hb5) | (go_at_call 8; refine (HADD.out _ (HD.out.below B5.out) (HJ.out.below B5.out)).mono ?_; rintro e w6 ⟨rfl, hlg6, hj6, ht6⟩; have L6 := Lib.hid hlg6; have J6 := Lib.hid hj6; have B6 := Lib.hid (show Below w.heap.size w w6 from (HB.out.trans (B5.out.mono HB.out.size)).trans (ht6.below hp2 hbb2 hwj (Nat.le_trans HB.out.size B5.out.size))); clear hlg6 hj6 ht6))
        go_roundw
        case measure => simp [intOf]; omega
        case rel =>
          obtain ⟨g6, hl6, hd6⟩ := L6.out
          refine ⟨k + 1, g6, by omega, by go_num, HG2.out, ?_, hd6, J6.out, B6.out⟩
          rw [HTK.out, framesL_snoc, ← HRB.out]
          exact hl6
    · obtain rfl : k = n := by omega
      have hall : R.take k = R := List.take_of_length_le (by rw [← HN.out]; omega)
      rw [hall] at hgood hLk
      have hfs := framesL_size _ (recs_le hgood)
      have hfl : (recsOf R).length = k := by rw [HN.out]; simp [recsOf]
      have hsc := scan_all (recsOf R) (fun x hx => by have := recs_le hgood x hx; omega)
      obtain ⟨D, hD⟩ : ∃ D, D = framesL (recsOf R) := ⟨_, rfl⟩
      rw [← hD] at hLk hfs hsc
      have hDs : D.size ≤ 1000000 := by omega
      have HB := Lib.hid hBk
      have HDk := Lib.hid hDk
      have HL := Lib.hid hLk
      have HSC := Lib.hid hsc
      have HFL := Lib.hid hfl
      have HGOOD := Lib.hid hgood
      clear hBk hDk hLk hsc hfl hgood hall hD hfs hJk
      have hcr := fun (W : World) h1 h2 => crash_log p b (4 + 2 * k) (by omega) g (-1) D _ HL.out (.slice aP q cP) P W h1 h2
      have HCR := Lib.hid hcr
      clear hcr
      go_wp2_with fail
      go_at_call 10
      refine (HCR.out _ HDk.out (HP.out.below HB.out)).mono ?_
      rintro e w5 ⟨p5, b5, rfl, ⟨g5, n5, hs5, he5, hl5, hd5⟩, hb5, hp5, hbb5⟩
      have hn5 : n5 = D.size := by omega
      rw [hn5, extract_all' D D.size (Nat.le_refl _)] at hl5
      have L5 := Lib.hid hl5
      have D5 := Lib.hid hd5
      have B5 := Lib.hid hb5
      clear hl5 hd5 hb5 hn5 hs5 he5
      go_wp2_with fail
      go_at_call 6
      refine (open_log p5 b5 _ (by omega) _ _ _ L5.out (by omega) _ D5.out).mono ?_
      rintro e w6 ⟨j6, rv6, rfl, _, _, htx6, _, ht6⟩
      rw [HSC.out] at htx6
      obtain ⟨a6, c6, rfl, _⟩ := id htx6
      rw [HFL.out] at htx6 ⊢
      have X6 := Lib.hid htx6
      have B6 := Lib.hid (show Below w.heap.size w w6 from (HB.out.trans (B5.out.mono HB.out.size)).trans (ht6.below (Nat.le_trans HB.out.size hp5) (Nat.le_trans HB.out.size hbb5) (Nat.le_trans HB.out.size B5.out.size)))
      clear htx6 ht6
      go_wp2_with fail
      have hd6 := HB.out
      clear HB HDk HL HCR L5 D5 B5
      go_loopw [13] (fun i wr => ∃ m : Nat, m ≤ k ∧ i = .int .i64 m ∧ Below w6.heap.size w6 wr) (fun i _ => k - (intOf i).toNat)
      case atStart => exact ⟨0, by omega, rfl, Below.refl _ _⟩
      case round =>
        obtain ⟨m, hm, rfl, hb⟩ := hrel
        have hbw := B6.out.trans (hb.mono B6.out.size)
        by_cases hlt2 : m < k
        · have hAm : m < R.length := by rw [← HN.out]; exact hlt2
          have hrc : m < (recsOf R).length := by rw [HFL.out]; exact hlt2
          rcases HR.out with h0 | ⟨b1, o1, rfl, hc1⟩
          · rw [← HN.out] at h0; omega
          obtain ⟨d0, t0, m0⟩ := hc1 m hAm
          have d1 : wr.cell? ⟨b1, o1 + m, none⟩ = some (R[m]).1 := (hbw.cell (World.block_lt_of_cell? _ _ d0)).trans d0
          have hgl := HGOOD.out R[m] (List.getElem_mem hAm)
          obtain ⟨ax, cx, hex, hx0 | ⟨bx, ox, hax, hcx⟩⟩ := X6.out
          · rw [HFL.out] at hx0; omega
          rw [HFL.out] at hex
          obtain rfl := (Value.slice.inj hex).1.trans hax
          have e1 := (hb.cell (World.block_lt_of_cell? _ _ (hcx m hrc))).trans (hcx m hrc)
          have hel : (recsOf R)[m] = rowB (R[m]).2 := by simp [recsOf]
          rw [hel] at e1
          obtain ⟨x, hx⟩ : ∃ x, x = R[m] := ⟨_, rfl⟩
          rw [← hx] at d0 d1 t0 m0 hgl e1
          obtain ⟨v, l⟩ := x
          dsimp only at d0 d1 t0 m0 hgl e1
          obtain ⟨hl12, hl100⟩ := great_no hgl
          have hpt := fun W => ptexts_any l hl12 hl100 W
          have hsa : ∀ vx W, TextsAt W vx l → TextsAt W v l → Calls Tryd.prog 12 #[vx, v] W fun e w' => e = .returned (.bool true) ∧ ∃ m, w' = W.drewN m := fun vx W h1 h2 =>
            (same08_any vx v l l (by omega) W h1 h2).mono fun e w' ⟨he, h⟩ => ⟨by rw [he, decide_eq_true rfl], h⟩
          obtain ⟨va, vc, hv, _⟩ := id t0
          subst hv
          obtain ⟨rb, hrb⟩ : ∃ rb, rb = rowB l := ⟨_, rfl⟩
          rw [← hrb] at hpt e1
          obtain ⟨ln, hln⟩ : ∃ ln, ln = l.length := ⟨_, rfl⟩
          rw [← hln] at d1 t0 hsa hpt
          have HPT := Lib.hid hpt
          have HSA := Lib.hid hsa
          have HT0 := Lib.hid t0
          have HBW := Lib.hid hbw
          have HBB := Lib.hid hb
          have HLN := Lib.hid hln
          clear hpt hsa t0 hbw hb hln hx hc1 hcx hex hel hgl hl12 hl100 d0 hrb
          go_wp2_with (first | (go_at_call 11; refine (HPT.out _).mono ?_; rintro e w7 ⟨v7, rfl, ho7, hb7⟩; rw [HLN.out] at ho7; have T7 := Lib.hid (textsAt_owned ho7); have B7 := Lib.hid hb7; have d7 := (hb7.cell (World.block_lt_of_cell? _ _ d1)).trans d1; clear hb7 ho7) | (go_at_call 12; refine (HSA.out _ _ T7.out (HT0.out.below (HBW.out.trans (B7.out.mono HBW.out.size)))).mono ?_; rintro e w8 ⟨rfl, m8, hw8⟩; have B8 := Lib.hid (show Below w7.heap.size w7 w8 by rw [hw8]; exact below_drewN (Below.refl _ _) m8); clear hw8))
          go_roundw
          case measure => simp [intOf]; omega
          case rel => exact ⟨m + 1, by omega, by go_num, (HBB.out.trans (B7.out.mono HBB.out.size)).trans (B8.out.mono (Nat.le_trans HBB.out.size B7.out.size))⟩
        · have HBW := Lib.hid hbw
          clear hbw hb
          go_wp2_with (go_at_call 4; refine (fixed_any _).mono ?_; rintro e w9 ⟨rfl, hb9⟩)
          go_ret
          exact ⟨rfl, HBW.out.trans (hb9.mono HBW.out.size)⟩
end Go.Proofs.YtpllcnpcplbobaaDoor
