import Derived.Test.YtgphohkofmgdfaaCyB
namespace Go.Proofs.Ytgphohkofmgdfaa
open Go.RowKit
set_option linter.unusedVariables false
theorem own_none (w : World) : (w.alloc (.cells #[] 3)).ownsRow w.heap.size 3 1 (.slice (some ⟨w.heap.size, 0, none⟩) 0 0) ([] : List Int).length (ints []) :=
  ⟨rfl, .inr ⟨w.heap.size, 0, _, rfl, Nat.le_refl _, heap_alloc_new w _, Nat.le_refl _, by decide, rfl, rfl⟩⟩
/-- What the reference's Order keeps. -/
structure RoAt (w W : World) (n : Nat) (v : Value) (d : Nat → Bool) (l : List Int) : Prop where
  marks : MarkRow W (w.heap.size + 1) n d
  own : W.ownsRow w.heap.size 3 1 v l.length (ints l)
  apart : v.ownBlock ≠ some (w.heap.size + 1)
  below : Below w.heap.size w W
  size : w.heap.size + 2 ≤ W.heap.size
theorem ro_new (w : World) (n : Nat) : RoAt w ((w.alloc (.cells #[] 3)).alloc (.cells (madeCells #[.bool false] n) 4)) n (.slice (some ⟨w.heap.size, 0, none⟩) 0 0) (fun _ => false) [] := by
  have s1 : (w.alloc (.cells #[] 3)).heap.size = w.heap.size + 1 := by simp
  refine ⟨?_, (own_none w).alloc _, by simp [Value.ownBlock], ((Below.refl _ _).alloc (Nat.le_refl _) _).alloc (by simp <;> omega) _, by simp <;> omega⟩
  have h := marks_new (w.alloc (.cells #[] 3)) n
  rw [s1] at h
  exact h
set_option maxRecDepth 100000 in
set_option maxHeartbeats 4000000 in
theorem rorder_any (va : Value) (G : List (List Int)) (hn : G.length ≤ 1000) (hr : ∀ l ∈ G, l.length ≤ 100000) (ok : Bool) (L : List Int) (hout : OrderOut (ofX G) G.length ok L) (w : World) (hG : GraphR w va G) :
    Calls Try.prog 11 #[va] w fun e w' => ∃ v, e = .returned (.tuple #[v, .bool ok]) ∧ NumsR w' v L ∧ Below w.heap.size w w' := by
  obtain ⟨i0, hi, hz0, hz1, hz2⟩ := info_parts infoI
  have HI := Lib.hid hi
  have HZ0 := Lib.hid hz0
  have HZ1 := Lib.hid hz1
  have HZ2 := Lib.hid hz2
  have hrd := fun D d i h1 W h2 h3 => rready_any va G hn hr G.length rfl D d i h1 W h2 h3
  have HRD := Lib.hid hrd
  have HGR := Lib.hid hG
  obtain ⟨a, c, rfl, hac, hcs⟩ := hG
  obtain ⟨n, hnl⟩ : ∃ n, n = G.length := ⟨_, rfl⟩
  obtain ⟨X, hX⟩ : ∃ X, X = ofX G := ⟨_, rfl⟩
  rw [← hnl] at hn hac HGR HRD hout ⊢
  rw [← hX] at HRD hout
  have HOUT := Lib.hid hout
  have hmk := fun W => make_marks n (by omega) W
  have HMK := Lib.hid hmk
  have hst := ro_new w n
  have HST := Lib.hid hst
  clear hcs hr hnl hi hz0 hz1 hz2 hrd hX hout hst
  go_enter Try.func11, Try.ntmps11
  go_wp2_with fail
  obtain ⟨W0, hW0⟩ : ∃ W0, W0 = ((w.alloc (.cells #[] 3)).alloc (.cells (madeCells #[.bool false] n) 4)) := ⟨_, rfl⟩
  rw [← hW0] at HST ⊢
  clear hW0 HMK
  go_loopg [4] n (fun gk ov wr => ∃ (r : Nat) (d : Nat → Bool) (l : List Int), r ≤ n ∧ gk = n - r ∧ l.length = r ∧ RoAt w wr n ov d l ∧ orderS X n (n - r) d l = orderS X n n (fun _ => false) [])
  case atStart => exact ⟨0, _, [], by omega, rfl, rfl, HST.out, rfl⟩
  case round =>
    obtain ⟨r, d, l, hrn, hgk, hlr, hO, hord⟩ := hrel
    obtain ⟨av, nv, cv, hov⟩ := owns_slice hO.own
    have hnv : nv = r := by
      have h2 := hO.own.2
      rw [hov] at h2
      rcases h2 with ⟨e1, e2⟩ | ⟨g, cap, cur, e1, _⟩
      · injection e1 with _ e1 _
        omega
      · injection e1 with _ e1 _
        omega
    subst hov hnv
    by_cases hlt : nv < n
    · obtain ⟨p, hp⟩ : ∃ p, p = readyB X d := ⟨_, rfl⟩
      have hpd : ∀ i, p i = (!d i && allDone X d i) := fun i => by rw [hp]; rfl
      have hrd := fun i hi => HRD.out (w.heap.size + 1) d i hi wr (HGR.out.below hO.below) hO.marks.at
      have hord2 : orderS X n (n - nv) d l = if leastB p n < 0 then none else orderS X n (n - (nv + 1)) (setB d (leastB p n).toNat) (l ++ [leastB p n]) := by
        rw [show n - nv = (n - (nv + 1)) + 1 by omega, orderS, hp]
      rw [hord] at hord2
      have hmk := hO.marks.at
      have HRDI := Lib.hid hrd
      have HORD := Lib.hid hord2
      have HO := Lib.hid hO
      have HPD := Lib.hid hpd
      have HMKS := Lib.hid hmk
      have HGK := Lib.hid hgk
      obtain ⟨W1, hW1⟩ : ∃ W1, W1 = wr := ⟨_, rfl⟩
      rw [← hW1] at HRDI HO HMKS ⊢
      clear hrd hord hord2 hO hp hpd hW1 hmk hgk
      go_wp2_with fail
      go_loopw [6, 7] (fun nx iv wr => ∃ (m : Nat) (v x : Int), m ≤ n ∧ x = (m : Int) - 1 ∧ iv = .int .i64 x ∧ nx = .int .i64 v ∧ LeastAt p n m v ∧ wr = W1) (fun _ iv _ => (intOf iv + 1).toNat)
      case atStart => exact ⟨n, -1, _, Nat.le_refl _, rfl, by go_num, rfl, leastAt_start p n, rfl⟩
      case round =>
        obtain ⟨m, v, x, hm, hx, rfl, rfl, hLv, rfl⟩ := hrel
        by_cases hm0 : m = 0
        · subst hm0
          have hx0 : x < 0 := by omega
          have hx1 : -1 ≤ x := by omega
          clear hx
          have hlv := hLv.end
          have hlr2 := leastB_range p n
          rw [hlv] at hlr2
          have hord := HORD.out
          rw [hlv] at hord
          clear hlv HRDI HORD hLv HPD
          by_cases hq0 : v < 0
          · rw [if_pos hq0] at hord
            have hno : ok = false ∧ L = [] := by
              rcases HOUT.out with ⟨_, h2⟩ | ⟨h1, h2, _⟩
              · rw [hord] at h2; cases h2
              · exact ⟨h1, h2⟩
            obtain ⟨rfl, rfl⟩ := hno
            clear hord HOUT
            have HBL := Lib.hid HO.out.below
            go_wp2_with fail
            go_ret2
            exact ⟨_, rfl, numsR_nil _, HBL.out⟩
          · rw [if_neg hq0] at hord
            obtain ⟨qn, rfl⟩ := Int.eq_ofNat_of_zero_le (show 0 ≤ v by omega)
            have hqn : qn < n := by omega
            simp only [Int.toNat_natCast] at hord
            have HORD := Lib.hid hord
            obtain ⟨hm1, hm2⟩ := HMKS.out qn hqn
            have hM2 := HO.out.marks.set hqn
            have hown2 := owns_ne HO.out.own HO.out.apart qn (.bool true)
            have hB2 := HO.out.below.setCell (p := ⟨w.heap.size + 1, qn, none⟩) (by show w.heap.size ≤ w.heap.size + 1; omega) (.bool true)
            obtain ⟨W2, hW2⟩ : ∃ W2, W2 = wr.setCell ⟨w.heap.size + 1, qn, none⟩ (.bool true) := ⟨_, rfl⟩
            rw [← hW2] at hM2 hown2 hB2
            have hs2 : W2.heap.size = wr.heap.size := by rw [hW2]; simp [World.setCell]
            have hnb := heap_alloc_new W2 (.cells #[.int .i64 (qn : Int)] 3)
            rw [hs2] at hnb
            have HNB := Lib.hid hnb
            have HM2 := Lib.hid hM2
            have HB2 := Lib.hid hB2
            have HOWN2 := Lib.hid hown2
            have HW2 := Lib.hid hW2
            have HAP := Lib.hid HO.out.apart
            have hsz2 := HO.out.size
            clear hord hM2 hown2 hW2 hnb hB2
            go_wp2_with (at_builtin; rw [← HW2.out]; go_must (refine wpList_append_own_at _ rfl _ _ 25 rfl w.heap.size 3 i0 (.int .i64 0) 1 8 Try.underlying25 HI.out HZ0.out HZ1.out HZ2.out rfl (by omega) _ l.length (ints l) rfl (HOWN2.out.alloc _) ⟨_, 0, none⟩ 1 1 [.int .i64 (qn : Int)] rfl rfl (World.news_of_block HNB.out) (by simp [Value.oneCell']) ?g1 ?g2 ?g3 ?g4))
            case g1 => simp only [maxLen]; omega
            case g2 => omega
            case g3 => first | omega | (simp; omega)
            intro v' w' hown' hgrow' _ hblk'
            have hbel := ((Below.refl w.heap.size W2).alloc (by omega) (.cells #[.int .i64 (qn : Int)] 3)).trans (grown_below (HOWN2.out.alloc _) hgrow' (by simp; omega))
            have hM3 : MarkRow w' (w.heap.size + 1) n (setB d qn) := HM2.out.keep ((hgrow'.block _ (by simp; omega) (fun e => HAP.out e.symm)).trans (heap_alloc_old _ _ (by omega)))
            have hap3 : v'.ownBlock ≠ some (w.heap.size + 1) := by
              rcases hblk' with e | e
              · rw [e]; exact HAP.out
              · rw [e]; simp; omega
            have hO3 : RoAt w w' n v' (setB d qn) (l ++ [(qn : Int)]) := ⟨hM3, by simpa [ints, hlr] using hown', hap3, HB2.out.trans hbel, Nat.le_trans (by omega) hbel.size⟩
            have HO3 := Lib.hid hO3
            have hgk := HGK.out
            clear hown' hgrow' hblk' hbel hO3 hM3 hap3
            go_wp2
            go_roundg (n - (nv + 1))
            case measure => omega
            case rel => exact ⟨nv + 1, _, l ++ [(qn : Int)], by omega, rfl, by simp [hlr], HO3.out, HORD.out.symm⟩
        · obtain ⟨i, rfl⟩ := Nat.exists_eq_succ_of_ne_zero hm0
          obtain rfl : x = (i : Int) := by omega
          clear hx hm0
          have hin : i < n := by omega
          have hri := HRDI.out i hin
          have hpi := HPD.out i
          obtain ⟨d1, _⟩ := HMKS.out i hin
          have hyes : p i = true → LeastAt p n i (i : Int) := fun h => .yes hin h
          have hnot : p i = false → LeastAt p n i v := fun h => hLv.no h
          have hlvr := hLv.range
          have HYES := Lib.hid hyes
          have HNOT := Lib.hid hnot
          clear hyes hnot hLv
          cases hdi : d i with
          | true =>
            rw [hdi] at d1 hpi
            have HL := Lib.hid (HNOT.out (by rw [hpi]; rfl))
            clear hdi hpi hri
            go_wp2_with fail
            go_roundw
            case measure => first | (simp [intOf]; done) | (simp [intOf]; omega)
            case rel => exact ⟨i, v, (i : Int) - 1, by omega, rfl, by go_num, rfl, HL.out, by first | rfl | trivial⟩
          | false =>
            rw [hdi] at d1 hpi
            clear hdi
            cases hb : allDone X d i with
            | true =>
              rw [hb] at hri hpi
              have HRI := Lib.hid hri
              have HL := Lib.hid (HYES.out (by rw [hpi]; rfl))
              clear hri hpi hb
              go_wp2_with (go_at_call 26; refine (HRI.out).mono ?_; rintro e w2 ⟨rfl, rfl⟩)
              go_roundw
              case measure => first | (simp [intOf]; done) | (simp [intOf]; omega)
              case rel => exact ⟨i, i, (i : Int) - 1, by omega, rfl, by go_num, rfl, HL.out, by first | rfl | trivial⟩
            | false =>
              rw [hb] at hri hpi
              have HRI := Lib.hid hri
              have HL := Lib.hid (HNOT.out (by rw [hpi]; rfl))
              clear hri hpi hb
              go_wp2_with (go_at_call 26; refine (HRI.out).mono ?_; rintro e w2 ⟨rfl, rfl⟩)
              go_roundw
              case measure => first | (simp [intOf]; done) | (simp [intOf]; omega)
              case rel => exact ⟨i, v, (i : Int) - 1, by omega, rfl, by go_num, rfl, HL.out, by first | rfl | trivial⟩
    · obtain rfl : nv = n := by omega
      rw [Nat.sub_self, orderS] at hord
      have hyes : ok = true ∧ L = l := by
        rcases HOUT.out with ⟨h1, h2⟩ | ⟨_, _, h2⟩
        · rw [← hord] at h2
          exact ⟨h1, (Option.some.inj h2).symm⟩
        · rw [← hord] at h2; cases h2
      obtain ⟨rfl, rfl⟩ := hyes
      have HO := Lib.hid hO
      clear hord hO HOUT
      go_wp2_with fail
      go_ret2
      exact ⟨_, rfl, numsR_owned HO.out.own, HO.out.below⟩
end Go.Proofs.Ytgphohkofmgdfaa
