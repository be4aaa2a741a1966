import Derived.Test.YtgphohkofmgdfaaCy3
namespace Go.Proofs.Ytgphohkofmgdfaa
open Go.RowKit
set_option linter.unusedVariables false
/-- What one row gives to k's: the row's own number, as often as k stands in it. -/
def hits (l : List Int) (k i : Nat) : List Int := (l.filter fun x => decide (x = (k : Int))).map fun _ => (i : Int)
def turnUp (X : List (List Int)) (k : Nat) : Nat → List Int
  | 0 => []
  | i + 1 => turnUp X k i ++ hits (X.getD i []) k i
/-- The graph the other way round. -/
def turnX (X : List (List Int)) : List (List Int) := (List.range X.length).map fun k => turnUp X k X.length
theorem hits_snoc (l : List Int) (x : Int) (k i : Nat) : hits (l ++ [x]) k i = if x = (k : Int) then hits l k i ++ [(i : Int)] else hits l k i := by
  unfold hits
  rw [List.filter_append]
  by_cases h : x = (k : Int)
  · rw [if_pos h]; simp [h]
  · rw [if_neg h]; simp [h]
theorem hits_len (l : List Int) (k i : Nat) : (hits l k i).length ≤ l.length := by
  simp only [hits, List.length_map]
  exact List.length_filter_le _ _
theorem turnUp_len {X : List (List Int)} (hX : ∀ l ∈ X, l.length ≤ 100000) (k : Nat) : ∀ i, (turnUp X k i).length ≤ i * 100000
  | 0 => by simp [turnUp]
  | i + 1 => by
    have h1 := turnUp_len hX k i
    have h2 : (X.getD i []).length ≤ 100000 := by
      by_cases h : i < X.length
      · have e : X.getD i [] = X[i] := by simp [List.getD, h]
        rw [e]; exact hX _ (List.getElem_mem h)
      · have e : X.getD i [] = [] := by simp [List.getD, h]
        rw [e]; exact Nat.zero_le _
    have h3 := hits_len (X.getD i []) k i
    simp only [turnUp, List.length_append]
    omega
theorem compact_mem {zs : List Int} {x : Int} (h : x ∈ Lib.compact zs) : x ∈ zs := by
  simp only [Lib.compact, Lib.compactUpTo, List.mem_map, List.mem_filter, List.mem_range] at h
  obtain ⟨j, ⟨hj, _⟩, rfl⟩ := h
  have hj2 : j < zs.toArray.size := by simpa using hj
  rw [getElem!_pos zs.toArray j hj2]
  simp
theorem rowO_mem {n : Nat} {l : List Int} {x : Int} (h : x ∈ rowO n l) : x ∈ l ∧ 0 ≤ x ∧ x < (n : Int) := by
  have h1 := compact_mem h
  have h2 : x ∈ rowF n l := by simpa [srt] using h1
  simpa [rowF] using h2
theorem rowO_len (n : Nat) (l : List Int) : (rowO n l).length ≤ l.length := by
  have h1 : (Lib.compact (srt (rowF n l))).length ≤ (srt (rowF n l)).length := by
    simp only [Lib.compact, Lib.compactUpTo, List.length_map]
    exact Nat.le_trans (List.length_filter_le _ _) (by simp)
  rw [length_srt] at h1
  exact Nat.le_trans h1 (rowF_len _ _)
/-- Rows of nodes. -/
def Nodes (n : Nat) (X : List (List Int)) : Prop := X.length = n ∧ ∀ l ∈ X, l.length ≤ 100000 ∧ ∀ x ∈ l, 0 ≤ x ∧ x < (n : Int)
theorem ofX_nodes {G : List (List Int)} (hr : ∀ l ∈ G, l.length ≤ 100000) : Nodes G.length (ofX G) := by
  refine ⟨by simp [ofX], fun l hl => ?_⟩
  obtain ⟨l0, h0, rfl⟩ := List.mem_map.1 hl
  exact ⟨Nat.le_trans (rowO_len _ _) (hr l0 h0), fun x hx => (rowO_mem hx).2⟩
set_option maxRecDepth 100000 in
set_option maxHeartbeats 4000000 in
theorem turn_any (va : Value) (G : List (List Int)) (hn : G.length ≤ 1000) (hr : ∀ l ∈ G, l.length ≤ 100000) (w : World) (hG : GraphR w va G) :
    Calls Try.prog 16 #[va] w fun e w' => ∃ v, e = .returned v ∧ GraphF w.heap.size w' v (turnX (ofX G)) ∧ Below w.heap.size w w' := by
  obtain ⟨i0, hi, hz0, hz1, hz2⟩ := info_parts infoI
  have HI := Lib.hid hi
  have HZ0 := Lib.hid hz0
  have HZ1 := Lib.hid hz1
  have HZ2 := Lib.hid hz2
  have hof := fun W h => of_any va G hn hr W h
  have hnod := ofX_nodes hr
  have HOF := Lib.hid hof
  have HGR := Lib.hid hG
  obtain ⟨a, c, rfl, hac, hcs⟩ := hG
  obtain ⟨n, hnl⟩ : ∃ n, n = G.length := ⟨_, rfl⟩
  obtain ⟨X, hX⟩ : ∃ X, X = ofX G := ⟨_, rfl⟩
  rw [← hnl] at hn hac hnod HGR HOF ⊢
  rw [← hX] at hnod HOF ⊢
  have HNOD := Lib.hid hnod
  have hmk := fun W => make_rows 22 (.inr rfl) n (by omega) W
  have HMK := Lib.hid hmk
  clear hcs hr hnl hi hz0 hz1 hz2 hof hnod hX
  go_enter Try.func16, Try.ntmps16
  have hb0 : Below w.heap.size w (w.alloc (.cells (madeCells #[.slice none 0 0] n) 25)) := (Below.refl _ _).alloc (Nat.le_refl _) _
  have HB0 := Lib.hid hb0
  clear hb0
  go_wp2_with (go_at_call 22; refine (HOF.out _ (HGR.out.below HB0.out)).mono ?_; rintro e w1 ⟨v1, rfl, hg1, hb1⟩; have B1 := Lib.hid hb1; have R1 := Lib.hid (show GraphF (w.heap.size + 1) w1 v1 X by simpa using hg1); obtain ⟨a1, c1, hv1, hc1, _⟩ := id hg1; subst hv1; rw [HNOD.out.1] at hc1 ⊢; clear hb1 hg1)
  have hst : OutAt w1 w.heap.size n w1.heap.size (fun _ => .slice none 0 0) (fun _ => []) := ((out_new w n).below B1.out).rebase (by have := B1.out.size; simp at this; omega) (fun _ _ => rfl)
  have hbw : Below w.heap.size w w1 := HB0.out.trans (B1.out.mono HB0.out.size)
  have hlt1 := hst.lt
  have HST := Lib.hid hst
  have HBW := Lib.hid hbw
  clear hst hbw
  go_loopw [14] (fun iv wr => ∃ (i : Nat) (V : Nat → Value) (T : Nat → List Int), i ≤ n ∧ iv = .int .i64 i ∧ OutAt wr w.heap.size n w1.heap.size V T ∧ (∀ k, k < n → T k = turnUp X k i) ∧ (∀ k, k ≠ w.heap.size → k < w1.heap.size → wr.heap[k]? = w1.heap[k]?) ∧ w1.heap.size ≤ wr.heap.size ∧ Below w.heap.size w wr) (fun iv _ => n - (intOf iv).toNat)
  case atStart => exact ⟨0, _, _, by omega, rfl, HST.out, fun _ _ => rfl, fun _ _ _ => rfl, Nat.le_refl _, HBW.out⟩
  case round =>
    obtain ⟨i, V, T, hi, rfl, hO, hT, hkeep, hsz, hb⟩ := hrel
    by_cases hlt : i < n
    · have hAi : i < X.length := by rw [HNOD.out.1]; exact hlt
      obtain ⟨a2, c2, he2, _, h0 | ⟨b1, o1, hab, hb1, hcg⟩⟩ := R1.out
      · rw [HNOD.out.1] at h0; omega
      rw [HNOD.out.1] at he2
      obtain rfl := (Value.slice.inj he2).1.trans hab
      obtain ⟨u, d0, la, lc, rfl, hlc, hlcell⟩ := hcg i hAi
      have d1 := (World.cell?_of_block (w' := wr) (a := ⟨b1, o1 + i, none⟩) (hkeep b1 (by omega) (World.block_lt_of_cell? _ _ d0))).trans d0
      have hnd := HNOD.out.2 X[i] (List.getElem_mem hAi)
      have hgd : X.getD i [] = X[i] := by simp [List.getD, hAi]
      have hTi : ∀ k, turnUp X k (i + 1) = turnUp X k i ++ hits X[i] k i := fun k => by rw [turnUp, hgd]
      have hTl : ∀ k, (turnUp X k i).length ≤ i * 100000 := fun k => turnUp_len (fun l hl => (HNOD.out.2 l hl).1) k i
      have hTl2 : i * 100000 ≤ 1000 * 100000 := Nat.mul_le_mul_right _ (by omega)
      obtain ⟨l, hl⟩ : ∃ l, l = X[i] := ⟨_, rfl⟩
      rw [← hl] at d1 hlc hlcell hnd hTi
      obtain ⟨ln, hln⟩ : ∃ ln, ln = l.length := ⟨_, rfl⟩
      rw [← hln] at d1 hlc
      have hln2 : ln ≤ 100000 := by rw [hln]; exact hnd.1
      have HL := Lib.hid hlcell
      have HLN := Lib.hid hln
      have HND := Lib.hid hnd.2
      have HTI := Lib.hid hTi
      have HTL := Lib.hid hTl
      have HT := Lib.hid hT
      have HO0 := Lib.hid hO
      have HB0 := Lib.hid hb
      have HK0 := Lib.hid hkeep
      clear hlcell hln hnd hTi hTl hT hO hb hkeep hl hgd hcg d0 he2
      go_wp2_with fail
      go_loopw [21] (fun mv wr => ∃ (m : Nat) (V2 : Nat → Value) (T2 : Nat → List Int), m ≤ ln ∧ mv = .int .i64 m ∧ OutAt wr w.heap.size n w1.heap.size V2 T2 ∧ (∀ k, k < n → T2 k = turnUp X k i ++ hits (l.take m) k i) ∧ (∀ k, k ≠ w.heap.size → k < w1.heap.size → wr.heap[k]? = w1.heap[k]?) ∧ w1.heap.size ≤ wr.heap.size ∧ Below w.heap.size w wr) (fun mv _ => ln - (intOf mv).toNat)
      case atStart => exact ⟨0, V, T, by omega, rfl, HO0.out, fun k hk => by rw [HT.out k hk]; simp [hits], HK0.out, hsz, HB0.out⟩
      case round =>
        obtain ⟨m, V2, T2, hm, rfl, hO2, hT2, hk2, hsz2, hb2⟩ := hrel
        by_cases hlm : m < ln
        · have hAm : m < l.length := by rw [← HLN.out]; exact hlm
          rcases HL.out with h0 | ⟨b2, o2, rfl, hb2b, hc2⟩
          · rw [← HLN.out] at h0; omega
          have hk0 := hc2 m hAm
          have e1 := (World.cell?_of_block (w' := wr) (a := ⟨b2, o2 + m, none⟩) (hk2 b2 (by omega) (World.block_lt_of_cell? _ _ hk0))).trans hk0
          obtain ⟨hk1, hk3⟩ := HND.out l[m] (List.getElem_mem hAm)
          obtain ⟨kk, hkk⟩ := Int.eq_ofNat_of_zero_le hk1
          have hkn : kk < n := by omega
          have hsn : ∀ k, hits (l.take (m + 1)) k i = if kk = k then hits (l.take m) k i ++ [(i : Int)] else hits (l.take m) k i := fun k => by
            rw [List.take_succ_eq_append_getElem hAm, hits_snoc, hkk]
            simp only [Int.natCast_inj]
          rw [hkk] at e1
          have hxl : (T2 kk).length ≤ 100000000 + 100000 := by
            rw [hT2 kk hkn, List.length_append]
            have h1 := HTL.out kk
            have h2 := hits_len (l.take m) kk i
            have h3 : (l.take m).length ≤ 100000 := by rw [List.length_take]; omega
            omega
          have hc := hO2.cell hkn
          obtain ⟨v, hv⟩ : ∃ v, v = V2 kk := ⟨_, rfl⟩
          rw [← hv] at hc
          have HSN := Lib.hid hsn
          have HV := Lib.hid hv
          have HT2 := Lib.hid hT2
          have HK2 := Lib.hid hk2
          have HB2 := Lib.hid hb2
          have HO2 := Lib.hid hO2
          have hOa := hO2.below ((Below.refl wr.heap.size wr).alloc (Nat.le_refl _) (.cells #[.int .i64 (i : Int)] 3))
          have HOA := Lib.hid hOa
          have hba := hb2.alloc hb2.size (.cells #[.int .i64 (i : Int)] 3)
          have HBA := Lib.hid hba
          clear hk0 hc2 hkk hsn hv hT2 hk2 hb2 hO2 hOa hba hk1 hk3
          obtain ⟨hcell, hfroz⟩ := hc
          go_wp2_with (at_builtin; go_must (refine wpList_append_own_at _ rfl _ _ 25 rfl w1.heap.size 3 i0 (.int .i64 0) 1 8 Try.underlying25 HI.out HZ0.out HZ1.out HZ2.out rfl (by omega) _ (T2 kk).length (ints (T2 kk)) rfl (by rw [HV.out]; exact HOA.out.own kk hkn) ⟨_, 0, none⟩ 1 1 [.int .i64 (i : Int)] rfl rfl (World.news_of_block (heap_alloc_new _ _)) (by simp [Value.oneCell']) ?g1 ?g2 ?g3 ?g4))
          case g1 => simp only [maxLen]; omega
          case g2 => omega
          case g3 => simp; omega
          intro v' w' hown' hgrow' _ hblk'
          obtain ⟨a3, n3, c3, rfl⟩ := owns_slice hown'
          rw [HV.out] at hgrow' hblk'
          obtain ⟨q1, q2⟩ := HOA.out.held hkn hkn hgrow'
          have hput := HOA.out.put hkn (x := T2 kk ++ [(i : Int)]) (by simpa [ints] using hown') hgrow' (by simpa using hblk')
          have hkeep2 := HOA.out.keeps hkn (Nat.le_refl _) HBA.out hgrow' (.slice a3 n3 c3)
          have hstay : ∀ k, k ≠ w.heap.size → k < w1.heap.size → (w'.setCell ⟨w.heap.size, kk, none⟩ (.slice a3 n3 c3)).heap[k]? = w1.heap[k]? := fun k h1 h2 =>
            (HOA.out.stays hkn hgrow' (.slice a3 n3 c3) h1 h2 (by simp; omega)).trans ((heap_alloc_old _ _ (by omega)).trans (HK2.out k h1 h2))
          have hsz3 : w1.heap.size ≤ (w'.setCell ⟨w.heap.size, kk, none⟩ (.slice a3 n3 c3)).heap.size := by
            have := hgrow'.size
            simp at this
            simp [World.setCell]
            omega
          have HPUT := Lib.hid hput
          have HKEEP := Lib.hid hkeep2
          have HSTAY := Lib.hid hstay
          have HSZ3 := Lib.hid hsz3
          clear hput hkeep2 hstay hown' hgrow' hblk' hsz3
          go_wp2
          go_roundw
          case measure => simp [intOf]; omega
          case rel =>
            refine ⟨m + 1, _, _, by omega, by go_num, HPUT.out, fun k hk => ?_, HSTAY.out, HSZ3.out, HKEEP.out⟩
            rw [HSN.out k]
            by_cases e : k = kk
            · subst e
              simp only [if_true]
              rw [HT2.out k hk, List.append_assoc]
            · simp only [if_neg e, if_neg (fun h => e (Eq.symm h))]
              exact HT2.out k hk
        · have htk : l.take m = l := List.take_of_length_le (by rw [← HLN.out]; omega)
          rw [htk] at hT2
          have HT2 := Lib.hid hT2
          have HO2 := Lib.hid hO2
          have HK2 := Lib.hid hk2
          have HB2 := Lib.hid hb2
          clear htk hT2 hO2 hk2 hb2
          go_wp2_with fail
          go_roundw
          case measure => simp [intOf]; omega
          case rel => exact ⟨i + 1, V2, T2, by omega, by go_num, HO2.out, fun k hk => by rw [HTI.out k]; exact HT2.out k hk, HK2.out, hsz2, HB2.out⟩
    · obtain rfl : i = n := by omega
      have HO := Lib.hid hO
      have HT := Lib.hid hT
      have HB := Lib.hid hb
      clear hO hT hb hkeep
      go_wp2_with fail
      go_ret
      refine ⟨_, rfl, HO.out.graph (by simp [turnX, HNOD.out.1]) (fun j hj => ?_), HB.out⟩
      have hj2 : j < i := by simpa [turnX, HNOD.out.1] using hj
      rw [HT.out j hj2]
      simp [turnX, HNOD.out.1]
end Go.Proofs.Ytgphohkofmgdfaa
