import Derived.Test.YtgphohkofmgdfaaCy2
import Derived.Deep.LoopGhost
import Derived.Deep.DeepMust
namespace Go.Proofs.Ytgphohkofmgdfaa
open Go.RowKit
set_option linter.unusedVariables false
def rowF (n : Nat) (l : List Int) : List Int := l.filter fun k => decide (0 ≤ k) && decide (k < (n : Int))
def rowO (n : Nat) (l : List Int) : List Int := Lib.compact (srt (rowF n l))
/-- A graph without numbers that are no nodes: rows that rise. -/
def ofX (G : List (List Int)) : List (List Int) := G.map (rowO G.length)
theorem rowF_len (n : Nat) (l : List Int) : (rowF n l).length ≤ l.length := List.length_filter_le _ _
theorem rowF_snoc (n : Nat) (l : List Int) (k : Int) : rowF n (l ++ [k]) = if 0 ≤ k ∧ k < (n : Int) then rowF n l ++ [k] else rowF n l := by
  unfold rowF
  rw [List.filter_append]
  by_cases h : 0 ≤ k ∧ k < (n : Int)
  · rw [if_pos h]
    simp [h.1, h.2]
  · rw [if_neg h]
    have : (decide (0 ≤ k) && decide (k < (n : Int))) = false := by
      rw [Bool.and_eq_false_iff]
      by_cases h1 : 0 ≤ k
      · right; simpa using fun h2 => h ⟨h1, h2⟩
      · left; simpa using h1
    simp only [List.filter_cons, this, List.filter_nil]
    simp
theorem owns_slice {w : World} {base : Nat} {e : TypeId} {size : Nat} {v : Value} {n : Nat} {xs : List Value} (h : w.ownsRow base e size v n xs) : ∃ a m c, v = .slice a m c := by
  rcases h.2 with ⟨rfl, _⟩ | ⟨g, cap, cur, rfl, _⟩
  · exact ⟨_, _, _, rfl⟩
  · exact ⟨_, _, _, rfl⟩
theorem infoI : (Try.prog.info? 3).map (fun i => (i.zero, i.size, i.bytes)) = some (some (.int .i64 0), 1, 8) := by kernel_rfl
set_option maxRecDepth 100000 in
set_option maxHeartbeats 4000000 in
theorem of_any (va : Value) (G : List (List Int)) (hn : G.length ≤ 1000) (hr : ∀ l ∈ G, l.length ≤ 100000) (w : World) (hG : GraphR w va G) :
    Calls Try.prog 22 #[va] w fun e w' => ∃ v, e = .returned v ∧ GraphF w.heap.size w' v (ofX G) ∧ Below w.heap.size w w' := by
  obtain ⟨i0, hi, hz0, hz1, hz2⟩ := info_parts infoI
  have HI := Lib.hid hi
  have HZ0 := Lib.hid hz0
  have HZ1 := Lib.hid hz1
  have HZ2 := Lib.hid hz2
  obtain ⟨a, c, rfl, hac, hcs⟩ := hG
  obtain ⟨n, hnl⟩ : ∃ n, n = G.length := ⟨_, rfl⟩
  rw [← hnl] at hn hac ⊢
  have HG := Lib.hid hcs
  have HR := Lib.hid hr
  have HN := Lib.hid hnl
  have hmk := fun W => make_rows 38 (.inl rfl) n (by omega) W
  have HMK := Lib.hid hmk
  clear hcs hr hnl hi hz0 hz1 hz2
  go_enter Try.func22, Try.ntmps22
  go_wp2_with fail
  go_loopw [13] (fun iv wr => ∃ (i : Nat) (V : Nat → Value) (X : Nat → List Int), i ≤ n ∧ iv = .int .i64 i ∧ OutAt wr w.heap.size n (w.heap.size + 1) V X ∧ (∀ j, (hj : j < G.length) → j < i → X j = rowO n G[j]) ∧ (∀ j, i ≤ j → j < n → X j = [] ∧ V j = .slice none 0 0) ∧ Below w.heap.size w wr) (fun iv _ => n - (intOf iv).toNat)
  case atStart => exact ⟨0, _, _, by omega, rfl, out_new w n, fun j _ hj => by omega, fun j _ _ => ⟨rfl, rfl⟩, (Below.refl _ _).alloc (Nat.le_refl _) _⟩
  case round =>
    obtain ⟨i, V, X, hi, rfl, hO, hdone, hrest, hb⟩ := hrel
    by_cases hlt : i < n
    · have hAi : i < G.length := by rw [← HN.out]; exact hlt
      rcases HG.out with h0 | ⟨b1, o1, rfl, hc1⟩
      · rw [← HN.out] at h0; omega
      obtain ⟨u, hu, la, lc, rfl, hlc, hlcell⟩ := hc1 i hAi
      have d1 := (hb.cell (World.block_lt_of_cell? _ _ hu)).trans hu
      have hlen := HR.out G[i] (List.getElem_mem hAi)
      have hXi := (hrest i (Nat.le_refl _) hlt).1
      have hnext : ∀ X2 : Nat → List Int, X2 i = rowO n G[i] → (∀ j, j < n → j ≠ i → X2 j = X j) → (∀ j, (hj : j < G.length) → j < i + 1 → X2 j = rowO n G[j]) := fun X2 h1 h2 j hj hji => by
        by_cases e : j = i
        · subst e; exact h1
        · rw [h2 j (by rw [HN.out]; exact hj) e]; exact hdone j hj (by omega)
      obtain ⟨l, hl⟩ : ∃ l, l = G[i] := ⟨_, rfl⟩
      rw [← hl] at d1 hlcell hlen hnext hlc
      obtain ⟨ln, hln⟩ : ∃ ln, ln = l.length := ⟨_, rfl⟩
      rw [← hln] at d1 hlen hlc
      have HL := Lib.hid hlcell
      have HLN := Lib.hid hln
      have HNEXT := Lib.hid hnext
      have HREST := Lib.hid hrest
      have HO0 := Lib.hid hO
      have HB0 := Lib.hid hb
      clear hlcell hln hnext hrest hdone hl hc1 hu
      go_wp2_with fail
      go_loopw [20] (fun mv wr => ∃ (m : Nat) (V2 : Nat → Value) (X2 : Nat → List Int), m ≤ ln ∧ mv = .int .i64 m ∧ OutAt wr w.heap.size n (w.heap.size + 1) V2 X2 ∧ X2 i = rowF n (l.take m) ∧ (∀ j, j < n → j ≠ i → X2 j = X j ∧ V2 j = V j) ∧ Below w.heap.size w wr) (fun mv _ => ln - (intOf mv).toNat)
      case atStart => exact ⟨0, V, X, by omega, rfl, HO0.out, by rw [hXi]; rfl, fun j _ _ => ⟨rfl, rfl⟩, HB0.out⟩
      case round =>
        obtain ⟨m, V2, X2, hm, rfl, hO2, hX2, hoth, hb2⟩ := hrel
        by_cases hlm : m < ln
        · have hAm : m < l.length := by rw [← HLN.out]; exact hlm
          rcases HL.out with h0 | ⟨b2, o2, rfl, hc2⟩
          · rw [← HLN.out] at h0; omega
          have hk0 := hc2 m hAm
          have e1 := (hb2.cell (World.block_lt_of_cell? _ _ hk0)).trans hk0
          have hsn : rowF n (l.take (m + 1)) = if 0 ≤ l[m] ∧ l[m] < (n : Int) then rowF n (l.take m) ++ [l[m]] else rowF n (l.take m) := by
            rw [List.take_succ_eq_append_getElem hAm, rowF_snoc]
          obtain ⟨kk, hkk⟩ : ∃ kk, kk = l[m] := ⟨_, rfl⟩
          rw [← hkk] at e1 hsn
          have hxl : (X2 i).length ≤ 100000 := by rw [hX2]; exact Nat.le_trans (rowF_len _ _) (by rw [List.length_take]; omega)
          have hc := hO2.cell hlt
          obtain ⟨v, hv⟩ : ∃ v, v = V2 i := ⟨_, rfl⟩
          rw [← hv] at hc
          have HSN := Lib.hid hsn
          have HO2 := Lib.hid hO2
          have HX2 := Lib.hid hX2
          have HOTH := Lib.hid hoth
          have HB2 := Lib.hid hb2
          have HV := Lib.hid hv
          clear hk0 hc2 hkk hsn hO2 hX2 hoth hb2 hv
          obtain ⟨hcell, hfroz⟩ := hc
          by_cases h0 : 0 ≤ kk
          · by_cases h1 : kk < (n : Int)
            · have hOa := HO2.out.below ((Below.refl wr.heap.size wr).alloc (Nat.le_refl _) (.cells #[.int .i64 kk] 3))
              have HOA := Lib.hid hOa
              have hba := HB2.out.alloc HB2.out.size (.cells #[.int .i64 kk] 3)
              have HBA := Lib.hid hba
              clear hOa hba
              go_wp2_with (at_builtin; go_must (refine wpList_append_own_at _ rfl _ _ 25 rfl (w.heap.size + 1) 3 i0 (.int .i64 0) 1 8 Try.underlying25 HI.out HZ0.out HZ1.out HZ2.out rfl (by omega) _ (X2 i).length (ints (X2 i)) rfl (by rw [HV.out]; exact HOA.out.own i hlt) ⟨_, 0, none⟩ 1 1 [.int .i64 kk] rfl rfl (World.news_of_block (heap_alloc_new _ _)) (by simp [Value.oneCell']) ?g1 ?g2 ?g3 ?g4))
              case g1 => simp only [maxLen]; omega
              case g2 => omega
              case g3 => have := HB2.out.size; have := HO2.out.lt; simp; omega
              intro v' w' hown' hgrow' _ hblk'
              obtain ⟨a2, n2, c2, rfl⟩ := owns_slice hown'
              rw [HV.out] at hgrow' hblk'
              obtain ⟨q1, q2⟩ := HOA.out.held hlt hlt hgrow'
              have hput := HOA.out.put hlt (x := X2 i ++ [kk]) (by simpa [ints] using hown') hgrow' (by simpa using hblk')
              have hkeep := HOA.out.keeps hlt (Nat.le_refl _) HBA.out hgrow' (.slice a2 n2 c2)
              have HPUT := Lib.hid hput
              have HKEEP := Lib.hid hkeep
              clear hput hkeep hown' hgrow' hblk'
              go_wp2
              go_roundw
              case measure => simp [intOf]; omega
              case rel =>
                refine ⟨m + 1, _, _, by omega, by go_num, HPUT.out, ?_, fun j hj hji => ?_, HKEEP.out⟩
                · simp only [if_true]
                  rw [HSN.out, if_pos ⟨h0, h1⟩, HX2.out]
                · simp only [if_neg hji]; exact HOTH.out j hj hji
            · go_wp2_with fail
              go_roundw
              case measure => simp [intOf]; omega
              case rel => exact ⟨m + 1, V2, X2, by omega, by go_num, HO2.out, by rw [HSN.out, if_neg (fun h => h1 h.2), HX2.out], HOTH.out, HB2.out⟩
          · go_wp2_with fail
            go_roundw
            case measure => simp [intOf]; omega
            case rel => exact ⟨m + 1, V2, X2, by omega, by go_num, HO2.out, by rw [HSN.out, if_neg (fun h => h0 h.1), HX2.out], HOTH.out, HB2.out⟩
        · have htk : l.take m = l := List.take_of_length_le (by rw [← HLN.out]; omega)
          rw [htk] at hX2
          have hc := hO2.cell hlt
          have hso := fun v W h => sort_own (w.heap.size + 1) v (rowF n l) (Nat.le_trans (rowF_len _ _) (by rw [← HLN.out]; omega)) W h
          have hco := fun v W h => compact_own (w.heap.size + 1) v (srt (rowF n l)) (by rw [length_srt]; exact Nat.le_trans (rowF_len _ _) (by rw [← HLN.out]; omega)) W h
          have hown := hO2.own i hlt
          rw [hX2] at hown
          have HOWN := Lib.hid hown
          have HSO := Lib.hid hso
          have HCO := Lib.hid hco
          have HO2 := Lib.hid hO2
          have HOTH := Lib.hid hoth
          have HB2 := Lib.hid hb2
          clear htk hX2 hso hco hown hO2 hoth hb2
          obtain ⟨hcell, hfroz⟩ := hc
          go_wp2_with (first | (go_at_call 32; refine (HSO.out _ _ HOWN.out).mono ?_; rintro e w1 ⟨rfl, ho1, hg1⟩; obtain ⟨q1, q2⟩ := HO2.out.held hlt hlt hg1; have OW1 := Lib.hid ho1; have GR1 := Lib.hid hg1; clear ho1 hg1) | (go_at_call 33; refine (HCO.out _ _ (by have := OW1.out; rw [length_srt]; exact this)).mono ?_; rintro e w2 ⟨v2, rfl, ho2, hg2, hbk2⟩; obtain ⟨a2, n2, c2, rfl⟩ := owns_slice ho2; have hg12 := GR1.out.trans hg2; obtain ⟨q1, q2⟩ := HO2.out.held hlt hlt hg12; have hput := HO2.out.put hlt ho2 hg12 (.inl hbk2); have hkeep := HO2.out.keeps hlt (Nat.le_refl _) HB2.out hg12 (.slice a2 n2 c2); have HPUT := Lib.hid hput; have HKEEP := Lib.hid hkeep; clear hput hkeep ho2 hg2 hbk2 hg12))
          go_roundw
          case measure => simp [intOf]; omega
          case rel =>
            refine ⟨i + 1, _, _, by omega, by go_num, HPUT.out, HNEXT.out _ (by simp only [if_true]; rfl) (fun j hj hji => by simp only [if_neg hji]; exact (HOTH.out j hj hji).1), fun j hj1 hj2 => ?_, HKEEP.out⟩
            have hne : j ≠ i := by omega
            simp only [if_neg hne]
            have h1 := HREST.out j (by omega) hj2
            have h2 := HOTH.out j hj2 hne
            exact ⟨h2.1.trans h1.1, h2.2.trans h1.2⟩
    · obtain rfl : i = n := by omega
      have HO := Lib.hid hO
      have HD := Lib.hid hdone
      have HB := Lib.hid hb
      clear hO hdone hb hrest
      go_wp2_with fail
      go_ret
      refine ⟨_, rfl, HO.out.graph (by simp [ofX, HN.out]) (fun j hj => ?_), HB.out⟩
      have hj2 : j < G.length := by simpa [ofX] using hj
      rw [HD.out j hj2 (by rw [HN.out]; exact hj2)]
      simp [ofX, ← HN.out]
end Go.Proofs.Ytgphohkofmgdfaa
