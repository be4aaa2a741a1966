import Derived.Test.YtgphohkofmgdfaaCyD
namespace Go.Proofs.Ytgphohkofmgdfaa
open Go.RowKit
set_option linter.unusedVariables false
theorem leastB_ex {p : Nat → Bool} {n : Nat} (h : ∃ j, j < n ∧ p j = true) : ∃ b : Nat, b < n ∧ leastB p n = (b : Int) ∧ p b = true ∧ ∀ j', j' < b → p j' = false := by
  have key : ∀ j, p j = true → ∃ b : Nat, b ≤ j ∧ p b = true ∧ ∀ j', j' < b → p j' = false := by
    intro j
    induction j using Nat.strongRecOn with
    | _ j ih =>
      intro hj
      by_cases h2 : ∃ j', j' < j ∧ p j' = true
      · obtain ⟨j', h3, h4⟩ := h2
        obtain ⟨b, h5, h6⟩ := ih j' h3 h4
        exact ⟨b, by omega, h6⟩
      · exact ⟨j, Nat.le_refl _, hj, fun j' h3 => Bool.eq_false_iff.2 fun h4 => h2 ⟨j', h3, h4⟩⟩
  obtain ⟨j, hj, hp⟩ := h
  obtain ⟨b, h1, h2, h3⟩ := key j hp
  exact ⟨b, by omega, leastB_some (by omega) h2 h3, h2, h3⟩
noncomputable def stepN (X T : List (List Int)) (tg j a : Nat) : Nat → Bool := fun k => onX X a k && decide (farN T tg k = (j : Int) + 1)
noncomputable def nextN (X T : List (List Int)) (n tg j a : Nat) : Int := leastB (stepN X T tg j a) n
/-- The way of so many steps, without its last one. -/
noncomputable def wayN (X T : List (List Int)) (n tg : Nat) : Nat → Nat → List Int
  | 0, _ => []
  | j + 1, a => nextN X T n tg j a :: wayN X T n tg j (nextN X T n tg j a).toNat
theorem wayN_len (X T : List (List Int)) (n tg : Nat) : ∀ j a, (wayN X T n tg j a).length = j
  | 0, _ => rfl
  | j + 1, a => by rw [wayN, List.length_cons, wayN_len]
theorem nextN_ok {X : List (List Int)} {n tg j a : Nat} (hX : Nodes n X) (hT : Nodes n (turnX X)) (h : farN (turnX X) tg a = (j : Int) + 2) : ∃ b : Nat, b < n ∧ nextN X (turnX X) n tg j a = (b : Int) ∧ farN (turnX X) tg b = (j : Int) + 1 ∧ onX X a b = true := by
  obtain ⟨i, hi, hk, he⟩ := farN_step (T := turnX X) (tg := tg) (k := a) (m := j + 1) (by omega) (by omega)
  rw [hT.1] at hi
  have hon : onX X a i = true := by
    unfold onX
    rw [decide_eq_true_eq]
    exact (turnX_iff hX hi).1 hk
  obtain ⟨b, h1, h2, h3, _⟩ := leastB_ex (p := stepN X (turnX X) tg j a) (n := n) ⟨i, hi, by unfold stepN; rw [hon, Bool.true_and, decide_eq_true_eq]; omega⟩
  unfold stepN at h3
  rw [Bool.and_eq_true, decide_eq_true_eq] at h3
  exact ⟨b, h1, h2, h3.2, h3.1⟩
theorem farL_len (T : List (List Int)) (n tg : Nat) : (farL T n tg).length = n := by simp [farL]
theorem farL_at {T : List (List Int)} {n tg k : Nat} (h : k < (farL T n tg).length) : (farL T n tg)[k] = farN T tg k := by simp [farL]
set_option maxRecDepth 100000 in
set_option maxHeartbeats 4000000 in
theorem rwalk_any (va : Value) (G : List (List Int)) (hn : G.length ≤ 1000) (hr : ∀ l ∈ G, l.length ≤ 100000) (fr tg : Nat) (hfr : fr < G.length) (htg : tg < G.length) (J : Nat) (hJ : farN (turnX (ofX G)) tg fr = (J : Int) + 1) (w : World) (hG : GraphR w va G) :
    Calls Try.prog 30 #[va, .int .i64 fr, .int .i64 tg] w fun e w' => ∃ v, e = .returned v ∧ w'.ownsRow w.heap.size 3 1 v (J + 1) (ints ((fr : Int) :: wayN (ofX G) (turnX (ofX G)) G.length tg J fr)) ∧ Below w.heap.size w w' := by
  obtain ⟨i0, hi, hz0, hz1, hz2⟩ := info_parts infoI
  have HI := Lib.hid hi
  have HZ0 := Lib.hid hz0
  have HZ1 := Lib.hid hz1
  have HZ2 := Lib.hid hz2
  have hon := fun i k h1 h2 W h => on_any va G hn hr i k h1 h2 W h
  have HON := Lib.hid hon
  have hfar := rfar_any va G hn hr tg htg w hG
  have hnod := ofX_nodes hr
  have htn := turnX_nodes hn hnod (ofX_rising G)
  have hJn := farN_few (T := turnX (ofX G)) (tg := tg) (k := fr) (by rw [htn.1]; exact hfr)
  rw [hJ, htn.1] at hJn
  have HGR := Lib.hid hG
  obtain ⟨a, c, rfl, hac, hcs⟩ := hG
  obtain ⟨n, hnl⟩ : ∃ n, n = G.length := ⟨_, rfl⟩
  obtain ⟨X, hX⟩ : ∃ X, X = ofX G := ⟨_, rfl⟩
  rw [← hnl] at hn hac HGR HON htg hfr hnod htn hfar hJn ⊢
  rw [← hX] at HON hnod htn hfar hJ ⊢
  have hnx := fun j a => nextN_ok (X := X) (n := n) (tg := tg) (j := j) (a := a) hnod htn
  obtain ⟨T, hT⟩ : ∃ T, T = turnX X := ⟨_, rfl⟩
  rw [← hT] at hnx hfar hJ ⊢
  have HNX := Lib.hid hnx
  have HFAR := Lib.hid hfar
  have HJ := Lib.hid hJ
  obtain ⟨LL, hLL⟩ : ∃ LL, LL = (fr : Int) :: wayN X T n tg J fr := ⟨_, rfl⟩
  have hLlen : LL.length = J + 1 := by rw [hLL, List.length_cons, wayN_len]
  rw [← hLL] at ⊢
  have HLL := Lib.hid hLL
  have HLN := Lib.hid hLlen
  clear hcs hr hnl hi hz0 hz1 hz2 hon hX hnx hfar hnod htn hT hJ hLL hLlen
  go_enter Try.func30, Try.ntmps30
  have hLne : farL T n tg ≠ [] := fun e => by
    have := farL_len T n tg
    rw [e] at this
    simp at this
    omega
  have hq0 : ∀ (h : fr < (farL T n tg).length), (farL T n tg)[fr] = (J : Int) + 1 := fun h => (farL_at h).trans HJ.out
  have HQ0 := Lib.hid hq0
  have hfl := farL_len T n tg
  have HFL := Lib.hid hfl
  clear hq0 hfl
  go_wp2_with (go_at_call 29; refine (HFAR.out).mono ?_; rintro e w1 ⟨v1, rfl, hn1, hb1⟩; have B1 := Lib.hid hb1; obtain ⟨b1, o1, c1, hv1, hcell1⟩ := hn1.some hLne; rw [HFL.out] at hv1; subst hv1; have q1 := hcell1 fr (Nat.lt_of_lt_of_eq hfr HFL.out.symm); rw [HQ0.out] at q1; replace q1 := (((Below.refl w1.heap.size w1).alloc (Nat.le_refl _) (.cells #[.int .i64 (fr : Int)] 3)).cell (World.block_lt_of_cell? _ _ q1)).trans q1; have CELL := Lib.hid hcell1; clear hb1 hcell1 hn1)
  have hown := own_one w1 (fr : Int)
  have HOWN := Lib.hid hown
  clear hown q1
  go_loopw [8, 9, 10] (fun ov av nv wr => ∃ (j at_ : Nat) (l : List Int) (x : Int), j ≤ J ∧ x = (j : Int) + 1 ∧ nv = .int .i64 x ∧ av = .int .i64 at_ ∧ at_ < n ∧ farN T tg at_ = (j : Int) + 1 ∧ l ++ wayN X T n tg j at_ = LL ∧ wr.ownsRow w1.heap.size 3 1 ov l.length (ints l) ∧ Below w1.heap.size w1 wr) (fun _ _ nv _ => (intOf nv).toNat)
  case atStart => exact ⟨J, fr, [(fr : Int)], _, Nat.le_refl _, rfl, rfl, rfl, hfr, HJ.out, HLL.out.symm, HOWN.out, (Below.refl _ _).alloc (Nat.le_refl _) _⟩
  case round =>
    obtain ⟨j, at_, l, x, hj, hx, rfl, rfl, hat, hfat, hll, hown, hb⟩ := hrel
    have hlen := congrArg List.length hll
    rw [List.length_append, wayN_len, HLN.out] at hlen
    obtain ⟨oa, on_, oc, hov⟩ := owns_slice hown
    subst hov
    by_cases hj0 : j = 0
    · subst hj0
      have hx1 : ¬ (1 : Int) < x := by omega
      have hx2 : 0 ≤ x := by omega
      have hll2 : l = LL := by simpa [wayN] using hll
      have HOWN2 := Lib.hid hown
      have HB := Lib.hid (B1.out.trans (hb.mono B1.out.size))
      clear hll hown hb HOWN hx
      go_wp2_with fail
      go_ret
      refine ⟨_, rfl, ?_, HB.out⟩
      rw [← hll2]
      have h3 := HOWN2.out
      have h4 : l.length = J + 1 := by omega
      rw [h4] at h3
      exact ⟨h3.1, h3.2.imp id fun ⟨g, cap, cur, e1, e2, e3⟩ => ⟨g, cap, cur, e1, Nat.le_trans B1.out.size e2, e3⟩⟩
    · obtain ⟨i, rfl⟩ := Nat.exists_eq_succ_of_ne_zero hj0
      have hx1 : (1 : Int) < x := by omega
      have hx2 : x ≤ 1000 := by omega
      obtain ⟨b, hbn, hnb, hfb, _⟩ := HNX.out i at_ (by omega)
      have hll2 : (l ++ [(b : Int)]) ++ wayN X T n tg i b = LL := by
        rw [← hll, wayN, hnb]
        simp
      have hon := fun k hk => HON.out at_ k hat hk wr (HGR.out.below (B1.out.trans (hb.mono B1.out.size)))
      have hstep : ∀ k, stepN X T tg i at_ k = (onX X at_ k && decide (farN T tg k = x - 1)) := fun k => by
        unfold stepN
        congr 2
        apply propext
        omega
      have hfc : ∀ k, k < n → wr.cell? ⟨b1, o1 + k, none⟩ = some (.int .i64 (farN T tg k)) := fun k hk => by
        have h := CELL.out k (by rw [farL_len]; exact hk)
        rw [farL_at] at h
        exact (hb.cell (World.block_lt_of_cell? _ _ h)).trans h
      obtain ⟨p, hp⟩ : ∃ p, p = stepN X T tg i at_ := ⟨_, rfl⟩
      have hnb2 : leastB p n = (b : Int) := by rw [hp]; exact hnb
      rw [← hp] at hstep
      have HONI := Lib.hid hon
      have HSTEP := Lib.hid hstep
      have HFC := Lib.hid hfc
      have HNB := Lib.hid hnb2
      have HFB := Lib.hid hfb
      have HLL2 := Lib.hid hll2
      have HOWN2 := Lib.hid hown
      have HB := Lib.hid hb
      have HX := Lib.hid hx
      obtain ⟨W1, hW1⟩ : ∃ W1, W1 = wr := ⟨_, rfl⟩
      rw [← hW1] at HONI HFC HOWN2 HB ⊢
      clear hon hstep hfc hnb hnb2 hfb hll hll2 hown hb hp hW1 hfat HOWN hx
      go_wp2_with fail
      go_loopw [11, 12] (fun nx kv wr => ∃ (m : Nat) (v y : Int), m ≤ n ∧ y = (m : Int) - 1 ∧ kv = .int .i64 y ∧ nx = .int .i64 v ∧ LeastAt p n m v ∧ wr = W1) (fun _ kv _ => (intOf kv + 1).toNat)
      case atStart => exact ⟨n, -1, _, Nat.le_refl _, rfl, by go_num, rfl, leastAt_start p n, rfl⟩
      case round =>
        obtain ⟨m, v, y, hm, hy, rfl, rfl, hLv, rfl⟩ := hrel
        by_cases hm0 : m = 0
        · subst hm0
          have hy0 : y < 0 := by omega
          have hy1 : -1 ≤ y := by omega
          have hlv := hLv.end
          rw [HNB.out] at hlv
          subst hlv
          have hnbk := heap_alloc_new wr (.cells #[.int .i64 (b : Int)] 3)
          have HNBK := Lib.hid hnbk
          have hbsz := HB.out.size
          clear hnbk HONI hLv HSTEP HFC hy hj0
          go_wp2_with (at_builtin; go_must (refine wpList_append_own_at _ rfl _ _ 25 rfl w1.heap.size 3 i0 (.int .i64 0) 1 8 Try.underlying25 HI.out HZ0.out HZ1.out HZ2.out rfl (by omega) _ l.length (ints l) rfl (HOWN2.out.alloc _) ⟨_, 0, none⟩ 1 1 [.int .i64 (b : Int)] rfl rfl (World.news_of_block HNBK.out) (by simp [Value.oneCell']) ?g1 ?g2 ?g3 ?g4))
          case g1 => simp only [maxLen]; omega
          case g2 => omega
          case g3 => first | omega | (simp; omega)
          intro v' w' hown' hgrow' _ hblk'
          have hbel := ((Below.refl w1.heap.size wr).alloc (by omega) (.cells #[.int .i64 (b : Int)] 3)).trans (grown_below (HOWN2.out.alloc _) hgrow' (by simp; omega))
          have HOWN3 := Lib.hid (show w'.ownsRow w1.heap.size 3 1 v' (l ++ [(b : Int)]).length (ints (l ++ [(b : Int)])) by simpa [ints] using hown')
          have HB3 := Lib.hid (HB.out.trans hbel)
          clear hown' hgrow' hblk' hbel
          go_wp2
          go_roundw
          case measure => first | (simp [intOf]; done) | (simp [intOf]; omega)
          case rel => exact ⟨i, b, l ++ [(b : Int)], x - 1, by omega, by have := HX.out; omega, by go_num, by go_num, hbn, HFB.out, HLL2.out, HOWN3.out, HB3.out⟩
        · obtain ⟨k, rfl⟩ := Nat.exists_eq_succ_of_ne_zero hm0
          obtain rfl : y = (k : Int) := by omega
          clear hy hm0
          have hkn : k < n := by omega
          have hok := HONI.out k hkn
          have hpk := HSTEP.out k
          have d1 := HFC.out k hkn
          have hyes : p k = true → LeastAt p n k (k : Int) := fun h => .yes hkn h
          have hnot : p k = false → LeastAt p n k v := fun h => hLv.no h
          have hlvr := hLv.range
          have HYES := Lib.hid hyes
          have HNOT := Lib.hid hnot
          clear hyes hnot hLv
          obtain ⟨f, hf⟩ : ∃ f, f = farN T tg k := ⟨_, rfl⟩
          rw [← hf] at d1 hpk
          clear hf
          cases hb : onX X at_ k with
          | false =>
            rw [hb] at hok hpk
            have HO := Lib.hid hok
            have HL := Lib.hid (HNOT.out (by rw [hpk]; rfl))
            clear hok hpk hb
            go_wp2_with (go_at_call 15; refine (HO.out).mono ?_; rintro e w2 ⟨rfl, rfl⟩)
            go_roundw
            case measure => first | (simp [intOf]; done) | (simp [intOf]; omega)
            case rel => exact ⟨k, v, (k : Int) - 1, by omega, rfl, by go_num, rfl, HL.out, by first | rfl | trivial⟩
          | true =>
            rw [hb] at hok hpk
            have HO := Lib.hid hok
            clear hok hb
            by_cases hfx : f = x - 1
            · have hfb : (f == x - 1) = true := by simp; omega
              have HL := Lib.hid (HYES.out (by rw [hpk, hfx]; simp))
              clear hpk
              go_wp2_with (go_at_call 15; refine (HO.out).mono ?_; rintro e w2 ⟨rfl, rfl⟩)
              go_roundw
              case measure => first | (simp [intOf]; done) | (simp [intOf]; omega)
              case rel => exact ⟨k, k, (k : Int) - 1, by omega, rfl, by go_num, rfl, HL.out, by first | rfl | trivial⟩
            · have hfb : (f == x - 1) = false := by simp; omega
              have HL := Lib.hid (HNOT.out (by rw [hpk]; simp [hfx]))
              clear hpk
              go_wp2_with (go_at_call 15; refine (HO.out).mono ?_; rintro e w2 ⟨rfl, rfl⟩)
              go_roundw
              case measure => first | (simp [intOf]; done) | (simp [intOf]; omega)
              case rel => exact ⟨k, v, (k : Int) - 1, by omega, rfl, by go_num, rfl, HL.out, by first | rfl | trivial⟩
end Go.Proofs.Ytgphohkofmgdfaa
