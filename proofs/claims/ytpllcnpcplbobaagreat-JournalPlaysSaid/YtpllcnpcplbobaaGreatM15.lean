import Derived.Test.YtpllcnpcplbobaaGreatM14
import Derived.IntWalk
import Derived.StillTailTactics
namespace Go.Proofs.YtpllcnpcplbobaaGreat
open Go.RowKit Go.Maps
attribute [local go_sem ↓] Go.wp_at_zero Go.wp_at_succ
theorem lists_snoc {g : FS} {l : List RF} (h : Lists g l) (f : RF) (hb : ∀ e ∈ l, lessB e.1 f.1 = true) : Lists (g.put f.1 f.2) (l ++ [f]) := by
  refine ⟨?_, fun e => ?_⟩
  · rw [List.pairwise_append]
    exact ⟨h.rises, List.pairwise_singleton _ _, fun a ha b hb2 => by rw [List.mem_singleton.1 hb2]; exact hb a ha⟩
  · rw [List.mem_append, List.mem_singleton]
    unfold FS.put
    by_cases he : e.1 = f.1
    · rw [if_pos he, Option.some.injEq]
      constructor
      · rintro (h1 | rfl)
        · exact absurd he (lessB_ne (hb e h1))
        · rfl
      · exact fun e2 => .inr (Prod.ext he e2.symm)
    · rw [if_neg he, ← h.all e]
      exact ⟨fun h1 => h1.resolve_right (fun e2 => he (by rw [e2])), .inl⟩
theorem lists_below {g : FS} {l : List RF} (h : Lists g l) {k : Nat} (hk : k < l.length) {A : List RF} (hA : A.map (·.1) = (l.take k).map (·.1)) : ∀ e ∈ A, lessB e.1 (l[k]).1 = true := fun e he => by
  have h1 : e.1 ∈ (l.take k).map (·.1) := by rw [← hA]; exact List.mem_map.2 ⟨e, he, rfl⟩
  obtain ⟨f, hf, e2⟩ := List.mem_map.1 h1
  obtain ⟨j, hj, e3⟩ := List.getElem_of_mem hf
  have hjk : j < k := by have := hj; rw [List.length_take] at this; omega
  have h2 := List.pairwise_iff_getElem.1 h.rises j k (by omega) hk hjk
  rw [← e2, ← e3, List.getElem_take]
  exact h2
theorem extract_whole (s : ByteArray) : s.extract 0 s.size = s := by
  simp
/-- What the reference leaves of a file: its bytes. -/
def leftOf (d : ByteArray) (s pick : Int) : ByteArray := if s < (d.size : Int) then d.extract 0 (stays (d, s) pick).toNat else d
theorem leftOf_step (g : FS) (S : FS × List Int) (x d : ByteArray) (s : Int) (hg : (g x).getD noFile = (d, s)) (hok : FileOk (d, s)) :
    crashStep g S x = (S.1.put x (leftOf d s (S.2.headD 0), ((leftOf d s (S.2.headD 0)).size : Int)), if s < (d.size : Int) then S.2.tail else S.2) := by
  rw [crashStep, hg]
  obtain ⟨h0, h1, h2⟩ := hok
  simp only at h0 h1 h2
  by_cases hu : s < (d.size : Int)
  · have hst := stays_ok (f := (d, s)) ⟨h0, h1, h2⟩ (S.2.headD 0)
    simp only at hst
    rw [if_pos hu, if_pos hu, leftOf, if_pos hu, cutF]
    have : ((d.extract 0 (stays (d, s) (S.2.headD 0)).toNat).size : Int) = stays (d, s) (S.2.headD 0) := by rw [ByteArray.size_extract]; omega
    rw [this]
  · have hds : s = (d.size : Int) := by omega
    rw [if_neg hu, if_neg hu, leftOf, if_neg hu, cutF]
    simp
theorem leftOf_size (d : ByteArray) (s pick : Int) : (leftOf d s pick).size ≤ d.size := by
  unfold leftOf
  split
  · rw [ByteArray.size_extract]; omega
  · exact Nat.le_refl _
theorem grown_own {a w w' : World} {g : Nat} {row : Option Nat} (h : a.grownBy w (some g)) (k : w.grownBy w' row) (hr : ∀ i, row = some i → a.heap.size ≤ i) : a.grownBy w' (some g) :=
  ⟨k.os.trans h.os, k.tape.trans h.tape, k.output.trans h.output, Nat.le_trans h.size k.size, fun i hi hne => (k.block i (Nat.lt_of_lt_of_le hi h.size) (fun e => by have := hr i e.symm; omega)).trans (h.block i hi hne)⟩
/-- What the reference's Crash leaves. -/
def RCrashed (w : World) (g : FS) (P : List Int) (N : Nat) (e : Ending) (w' : World) : Prop :=
  ∃ v' m, e = .returned (.agg #[v', .int .i64 (-1)]) ∧ (∀ m2, NamesOf g m2 → m = m2) ∧ RefAt w' v' (crashG g m P).1 N ∧ Below w.heap.size w w'
set_option maxRecDepth 100000 in
set_option maxHeartbeats 2000000 in
theorem rcrash_any (va vp : Value) (g : FS) (N : Nat) (hN : N ≤ 1099511627775) (hg : FilesOk g) (left : Int) (P : List Int) (hPm : P.length ≤ 140737488351232) (w : World) (hA : RefAt w va g N) (hP : NumsAt w vp P) :
    Calls Tryz.prog 17 #[.agg #[va, .int .i64 left], vp] w (RCrashed w g P N) := by
  obtain ⟨i0, hi, hz0, hz1, hz2⟩ := info_parts infoFile
  obtain ⟨l, hF, hL, hn⟩ := hA
  obtain ⟨a, ca, rfl, ha⟩ := hF
  obtain ⟨pa, pc, rfl, hpc, hpcells⟩ := hP
  obtain ⟨n, hnl⟩ : ∃ n, n = l.length := ⟨_, rfl⟩
  rw [← hnl] at hn ⊢
  obtain ⟨np, hnp⟩ : ∃ np, np = P.length := ⟨_, rfl⟩
  rw [← hnp] at hPm hpc ⊢
  have HA := Lib.hid ha
  have HL := Lib.hid hL
  have HG := Lib.hid hg
  have HN := Lib.hid hnl
  have HP := Lib.hid hpcells
  have HNP := Lib.hid hnp
  have HI := Lib.hid hi
  have HZ0 := Lib.hid hz0
  have HZ1 := Lib.hid hz1
  have HZ2 := Lib.hid hz2
  have HED := Lib.hid (endsD_new w a n ca left)
  clear ha hnl hi hz0 hz1 hz2 hL hg hnp hpcells
  go_enter Tryz.func17, Tryz.ntmps17
  go_wp2_with (go_at_call 7; refine (rnew_any _).mono ?_; rintro e w1 ⟨rfl, hb1⟩; have E1 := Lib.hid (HED.out w1 (hb1.mono (by simp))); clear hb1; obtain ⟨c00, c01, c10, c11, f10, f11⟩ := E1.out.cells; have hs1 := E1.out.2.2.2; have hs2 : w.heap.size < w1.heap.size := by omega)
  clear c00 c01 c10 c11 f10 f11 hs2
  obtain ⟨W1, hW1⟩ : ∃ W1, W1 = w1.alloc (.cells #[.slice none 0 0, .int .i64 (-1)] 30) := ⟨_, rfl⟩
  have hW1s : W1.heap.size = w1.heap.size + 1 := by rw [hW1]; simp
  have hq0 : W1.heap[w1.heap.size]? = some (.cells #[.slice none 0 0, .int .i64 (-1)] 30 (0, 0)) := by rw [hW1]; exact heap_alloc_new _ _
  have EW : EndsD w W1 a n ca left := by rw [hW1]; exact E1.out.below ((Below.refl _ _).alloc (Nat.le_refl _) _)
  rw [← hW1]
  have HEW := Lib.hid EW
  have HQ0 := Lib.hid hq0
  obtain ⟨q5, hq5⟩ : ∃ q5, q5 = w1.heap.size := ⟨_, rfl⟩
  rw [← hq5] at HQ0 hW1s hs1
  rw [← hq5]
  have hfacts : ∀ (W : World) (v : Value), W1.grownBy W (some q5) → W.heap[q5]? = some (.cells #[v, .int .i64 (-1)] 30 (0, 0)) → EndsD w W a n ca left ∧ q5 + 1 ≤ W.heap.size ∧ W.cell? ⟨q5, 0, none⟩ = some v ∧ W.cell? ⟨q5, 1, none⟩ = some (.int .i64 (-1)) ∧ W.frozen? ⟨q5, 0, none⟩ = false ∧ Below w.heap.size w W := fun W v hgr hq => by
    obtain ⟨h0, h1, h2, h3⟩ := HEW.out
    obtain ⟨x0, x1, x2, x3⟩ := blk2 hq
    have hb : Below w.heap.size w W := ⟨hgr.os.trans h2.os, hgr.tape.trans h2.tape, hgr.output.trans h2.output, Nat.le_trans h2.size hgr.size, fun k hk => (hgr.block k (by omega) (by simp; omega)).trans (h2.block k hk)⟩
    exact ⟨⟨(hgr.block _ (by omega) (by simp; omega)).trans h0, (hgr.block _ (by omega) (by simp; omega)).trans h1, hb, Nat.le_trans h3 hgr.size⟩, by have := hgr.size; omega, x0, x1, x2, hb⟩
  have HFA := Lib.hid hfacts
  clear hfacts hq0 EW hW1 hq5 E1 HED
  go_loopw [6, 15] (fun s6 s15 wr => ∃ (k q : Nat) (v : Value) (A : List RF) (G : FS), k ≤ n ∧ q ≤ k ∧ s6 = .int .i64 q ∧ s15 = .int .i64 k ∧ A.map (·.1) = (l.take k).map (·.1) ∧ Lists G A ∧ crashG g ((l.take k).map (·.1)) P = (G, P.drop q) ∧
      W1.grownBy wr (some q5) ∧ wr.heap[q5]? = some (.cells #[v, .int .i64 (-1)] 30 (0, 0)) ∧ wr.ownsRow (q5 + 1) 88 3 v A.length (rcells A)) (fun _ i _ => n - (intOf i).toNat)
  case atStart => exact ⟨0, 0, _, [], fun _ => none, by omega, by omega, rfl, rfl, rfl, lists_nil, rfl, World.grownBy.refl _ _, HQ0.out, World.ownsRow_nil _ _ _ _⟩
  case round =>
    obtain ⟨k, q, v, A, G, hk, hqk, rfl, rfl, hmap, hLA, hcr, hgr, hq, hown⟩ := hrel
    obtain ⟨hED, hsz, x0, x1, x2, hbw⟩ := HFA.out wr v hgr hq
    obtain ⟨c00, c01, c10, c11, f10, f11⟩ := hED.cells
    have hwq := hED.2.2.2
    obtain ⟨av, cv, rfl, _⟩ := filesAt_owned hown
    have HO := Lib.hid hown
    have HGR := Lib.hid hgr
    have HQ := Lib.hid hq
    have HMAP := Lib.hid hmap
    have HLA := Lib.hid hLA
    have HCR := Lib.hid hcr
    have HED := Lib.hid hED
    have hAl : A.length ≤ k := by have := congrArg List.length hmap; simp at this; omega
    clear hown hgr hq hmap hLA hcr hED
    by_cases hlt : k < n
    · have hAk : k < l.length := by rw [← HN.out]; exact hlt
      rcases HA.out with h0 | ⟨b1, o1, rfl, hc1⟩
      · omega
      obtain ⟨f, hf⟩ : ∃ f, f = l[k] := ⟨_, rfl⟩
      have hc := hc1 k hAk
      have hgf := HL.out.some hAk
      have htk : crashG g ((l.take (k + 1)).map (·.1)) P = crashStep g (crashG g ((l.take k).map (·.1)) P) (l[k]).1 := by
        rw [List.take_succ_eq_append_getElem hAk, List.map_append, crashG, List.foldl_append]; rfl
      have hmk : (l.take (k + 1)).map (·.1) = A.map (·.1) ++ [(l[k]).1] := by
        rw [List.take_succ_eq_append_getElem hAk, List.map_append, HMAP.out]; rfl
      have hbl := lists_below HL.out hAk HMAP.out
      rw [← hf] at hc hgf htk hmk hbl
      obtain ⟨fn, fd, fs⟩ := f
      simp only at hgf htk hmk hbl
      have hok : FileOk (fd, fs) := HG.out _ _ hgf
      have hgd : (g fn).getD noFile = (fd, fs) := by rw [hgf]; rfl
      have hstep := leftOf_step g (G, P.drop q) fn fd fs hgd hok
      rw [HCR.out, hstep] at htk
      simp only at htk
      have d0 := hc 0 _ rfl
      have d1 := hc 1 _ rfl
      have d2 := hc 2 _ rfl
      simp only [Nat.add_zero] at d0 d1 d2
      replace d0 := (hbw.cell (World.block_lt_of_cell? w _ d0)).trans d0
      replace d1 := (hbw.cell (World.block_lt_of_cell? w _ d1)).trans d1
      replace d2 := (hbw.cell (World.block_lt_of_cell? w _ d2)).trans d2
      obtain ⟨g0, g1, g2⟩ := hok
      simp only at g0 g1 g2
      obtain ⟨t, ht⟩ : ∃ t, t = leftOf fd fs ((P.drop q).headD 0) := ⟨_, rfl⟩
      have hts : t.size ≤ fd.size := by rw [ht]; exact leftOf_size _ _ _
      obtain ⟨q', hq'⟩ : ∃ q', q' = if fs < (fd.size : Int) then q + 1 else q := ⟨_, rfl⟩
      have hdrop : (if fs < (fd.size : Int) then (P.drop q).tail else P.drop q) = P.drop q' := by
        rw [hq']; split
        · rw [List.tail_drop]
        · rfl
      rw [hdrop, ← ht] at htk
      have hqq : q' ≤ k + 1 := by rw [hq']; split <;> omega
      have HTK := Lib.hid htk
      have HMK := Lib.hid hmk
      have HBL := Lib.hid hbl
      have HT := Lib.hid ht
      have HQQ := Lib.hid hq'
      have HBW := Lib.hid hbw
      clear hc1 hc HA hf hgf htk hmk hbl hgd hstep ht hq' hdrop hbw
      go_upto_if 24 with (fail)
      go_cut [6] (fun s6 wx => s6 = .int .i64 (q' : Nat) ∧ wx.heap[wr.heap.size]? = some (.cells #[.string fn, .string t, .int .i64 fs] 88 (0, 0)) ∧ Below wr.heap.size wr wx ∧ wr.heap.size < wx.heap.size)
      case first =>
        clear c00 c01 c10 c11 f10 f11 x0 x1 x2 d0 d1 d2
        by_cases hu : fs < (fd.size : Int)
        · have hq1 := HQQ.out
          rw [if_pos hu] at hq1
          by_cases hqn : q < np
          · obtain ⟨pk, hpk⟩ : ∃ pk, pk = (P.drop q).headD 0 := ⟨_, rfl⟩
            rcases HP.out with h0 | ⟨pb, po, rfl, hpcell⟩
            · rw [← HNP.out] at h0; omega
            have hpg : P[q]'(by rw [← HNP.out]; exact hqn) = pk := by
              rw [hpk, List.drop_eq_getElem_cons (by rw [← HNP.out]; exact hqn)]; rfl
            have p0 := hpcell q (by rw [← HNP.out]; exact hqn)
            rw [hpg] at p0
            replace p0 := (HBW.out.cell (World.block_lt_of_cell? w _ p0)).trans p0
            have hlp : pb < wr.heap.size := block_lt_of_cell p0
            have HPK := Lib.hid hpk
            have HQ1 := Lib.hid hq1
            clear hpk hq1 hpcell hpg
            go_upto_region 12 with (fail)
            have e0 : (((fd.size : Int) - fs + 1) == 0) = false := by simp; omega
            have e2 : ¬ ((fd.size : Int) - fs + 1 = 0) := by omega
            have hst := stays_ok (f := (fd, fs)) ⟨g0, g1, g2⟩ pk
            have htt : t = fd.extract 0 (stays (fd, fs) pk).toNat := by rw [HT.out, leftOf, if_pos hu, ← HPK.out]
            have hse : fs + (pk.tmod ((fd.size : Int) - fs + 1) + ((fd.size : Int) - fs + 1)).tmod ((fd.size : Int) - fs + 1) = stays (fd, fs) pk := by
              unfold stays
              simp only [Int.add_assoc]
            have a1 := Int.lt_tmod_of_pos pk (b := (fd.size : Int) - fs + 1) (by omega)
            have a2 := Int.tmod_lt_of_pos pk (b := (fd.size : Int) - fs + 1) (by omega)
            have e3 : IntKind.i64.wrap (pk.tmod ((fd.size : Int) - fs + 1) + ((fd.size : Int) - fs + 1)) = pk.tmod ((fd.size : Int) - fs + 1) + ((fd.size : Int) - fs + 1) := IntWalk.i64_in _ (by omega)
            have e4 : IntKind.i64.wrap (fs + (pk.tmod ((fd.size : Int) - fs + 1) + ((fd.size : Int) - fs + 1)).tmod ((fd.size : Int) - fs + 1)) = stays (fd, fs) pk := by
              rw [hse]; simp only at hst; exact IntWalk.i64_in _ (by omega)
            have hcutr := run_cut_high (P := Tryz.prog) 9 Tryz.underlying9 fd (stays (fd, fs) pk).toNat (by simp only at hst; omega) (stays (fd, fs) pk) (by simp only at hst; omega)
            rw [← htt] at hcutr
            clear hst htt hse a1 a2
            go_region
            all_goals
              go_wp2_with fail
              go_meet
              exact ⟨by rw [HQ1.out]; go_num, heap_alloc_new wr _, ((Below.refl _ _).alloc (Nat.le_refl _) _).drew, by simp⟩
          · have hd : P.drop q = [] := List.drop_eq_nil_of_le (by rw [← HNP.out]; omega)
            have hst : stays (fd, fs) 0 = fs := by
              unfold stays
              simp only [Int.zero_tmod, Int.zero_add, Int.tmod_self, Int.add_zero]
            have htt : t = fd.extract 0 fs.toNat := by
              rw [HT.out, leftOf, if_pos hu, hd, show ([] : List Int).headD 0 = 0 from rfl, hst]
            have e0 : (((fd.size : Int) - fs + 1) == 0) = false := by simp; omega
            have e2 : ¬ ((fd.size : Int) - fs + 1 = 0) := by omega
            have e1 : IntKind.i64.wrap ((fd.size : Int) - fs + 1) = (fd.size : Int) - fs + 1 := IntWalk.i64_in _ (by omega)
            have hcutr := run_cut_high (P := Tryz.prog) 9 Tryz.underlying9 fd fs.toNat (by omega) fs (by omega)
            rw [← htt] at hcutr
            have HQ1 := Lib.hid hq1
            clear hst htt hd hq1
            go_upto_region 12 with (fail)
            go_region
            all_goals
              go_wp2_with fail
              go_meet
              exact ⟨by rw [HQ1.out]; go_num, heap_alloc_new wr _, ((Below.refl _ _).alloc (Nat.le_refl _) _).drew, by simp⟩
        · have hq1 := HQQ.out
          rw [if_neg hu] at hq1
          have ht1 : t = fd := by rw [HT.out, leftOf, if_neg hu]
          have HQ1 := Lib.hid hq1
          have HT1 := Lib.hid ht1
          clear hq1 ht1
          go_wp2_with fail
          go_meet
          exact ⟨by rw [HQ1.out], by rw [HT1.out]; exact heap_alloc_new wr _, (Below.refl _ _).alloc (Nat.le_refl _) _, by simp⟩
      case rest =>
        obtain ⟨rfl, hfb, hwb, hws⟩ := hcut
        obtain ⟨y0, y1, y2, z0, z1, z2⟩ := blk3 hfb
        have HFB := Lib.hid hfb
        have HWB := Lib.hid hwb
        clear d0 d1 d2 hfb hwb x0 x1 x2 c00 c01 c10 c11 f10 f11
        go_upto_region 13 with (fail)
        go_cut [] (fun wx => wx.heap[wr.heap.size]? = some (.cells #[.string fn, .string t, .int .i64 (t.size : Int)] 88 (0, 0)) ∧ Below wr.heap.size wr wx ∧ wr.heap.size < wx.heap.size)
        case first =>
          go_wp2_with fail
          go_meet
          exact ⟨by rw [heap_setCell_same _ _ _ _ _ _ HFB.out]; rfl, HWB.out.setCell (Nat.le_refl _) _, by simpa [World.setCell] using hws⟩
        case rest =>
          obtain ⟨hfb, hwb, hws2⟩ := hcut
          clear y0 y1 y2 z0 z1 z2 HFB HWB
          obtain ⟨y0, y1, y2, z0, z1, z2⟩ := blk3 hfb
          obtain ⟨x0, x1, x2, _⟩ := blk2 ((hwb.block q5 (by omega)).trans HQ.out)
          have ho2 := owns_below HO.out hwb
          have HO2 := Lib.hid ho2
          have HWB := Lib.hid hwb
          have hq5l : q5 < wc.heap.size := by have := hwb.size; omega
          clear hfb hwb ho2
          go_wp2_with (at_builtin; go_must (refine wpList_append_own_at _ rfl _ _ 28 rfl (q5 + 1) 88 i0 (.agg #[.string ⟨#[]⟩, .string ⟨#[]⟩, .int .i64 0]) 3 40 Tryz.underlying28 HI.out HZ0.out HZ1.out HZ2.out rfl (by omega) _ A.length (rcells A) rfl (HO2.out.alloc _) ⟨_, 0, none⟩ 1 1 [.string fn, .string t, .int .i64 (t.size : Int)] rfl rfl (World.news_of_block (heap_alloc_new _ _)) (rf_one (fn, t, (t.size : Int))) ?g1 ?g2 ?g3 ?g4); (case g1 => simp only [maxLen]; omega); (case g2 => omega); (case g3 => simp; omega); intro v' w' hown' hgrow' _ _; have hgw : (wc.alloc (.cells #[.string fn, .string t, .int .i64 (t.size : Int)] 88)).grownBy w' (Value.slice av A.length cv).ownBlock := hgrow'; have hon : w'.ownsRow (q5 + 1) 88 3 v' (A ++ [((fn, t, (t.size : Int)) : RF)]).length (rcells (A ++ [((fn, t, (t.size : Int)) : RF)])) := (by rw [rcells_snoc]; simpa [RF.cells] using hown'); obtain ⟨a2, c2, rfl, _⟩ := filesAt_owned hon; have hne : some q5 ≠ (Value.slice av A.length cv).ownBlock := (fun e => by have := (HO2.out.lt q5 e.symm).1; omega); have hq2 := (hgw.block q5 (by simp; omega) hne).trans ((heap_alloc_old wc (.cells #[.string fn, .string t, .int .i64 (t.size : Int)] 88) hq5l).trans ((HWB.out.block q5 (by omega)).trans HQ.out)); obtain ⟨v0, v1, v2, v3⟩ := blk2 hq2; have HON := Lib.hid hon; have HQ2 := Lib.hid hq2; have HGW := Lib.hid hgw; clear hown' hgrow' hgw hon hq2 hne)
          go_roundw
          case measure => simp [intOf]; omega
          case rel =>
            have e1 : (w'.setCell ⟨q5, 0, none⟩ (.slice a2 (A.length + 1) c2)).heap[q5]? = some (.cells #[.slice a2 (A.length + 1) c2, .int .i64 (-1)] 30 (0, 0)) := heap_setCell_same w' q5 0 _ _ _ HQ2.out
            refine ⟨k + 1, q', _, A ++ [((fn, t, (t.size : Int)) : RF)], G.put fn (t, (t.size : Int)), by omega, hqq, rfl, by go_num, ?_, ?_, HTK.out, ?_, e1, ?_⟩
            · rw [HMK.out]; simp
            · exact lists_snoc HLA.out (fn, t, (t.size : Int)) HBL.out
            · exact only_setCell (grown_own (only_alloc (only_below HGR.out HWB.out) _) HGW.out (fun i hi => by have := (HO2.out.lt i hi).1; omega)) (.inl rfl) _
            · have hl : (A ++ [((fn, t, (t.size : Int)) : RF)]).length = A.length + 1 := by simp
              have h := HON.out.kept (only_setCell (p := ⟨q5, 0, none⟩) (only_of_below (Below.refl _ w') (some q5)) (.inl rfl) (.slice a2 (A.length + 1) c2)) (.inr (fun e => by have := (HON.out.lt q5 e).1; omega))
              rw [hl] at h ⊢
              exact h
    · have hkn : l.take k = l := List.take_of_length_le (by rw [← HN.out]; omega)
      have hmm := HMAP.out
      have hcc := HCR.out
      rw [hkn] at hmm hcc
      have HMM := Lib.hid hmm
      have HCC := Lib.hid hcc
      have HBW := Lib.hid hbw
      clear hkn hmm hcc hbw HMAP HCR
      go_wp2
      obtain ⟨r0, r1, r2⟩ := last_cells HED.out.2.1 (.slice av A.length cv) (.int .i64 (-1))
      refine bodyPost_ret (v := .agg #[.slice av A.length cv, .int .i64 (-1)]) (by simp [results, Tryz.results17, go_sem, r1, r2]) rfl ⟨_, l.map (·.1), rfl, fun m2 hm2 => HL.out.names hm2, ⟨A, filesAt_owned (owns_last2 HO.out (by omega) _ _), by rw [HCC.out]; exact HLA.out, by omega⟩, HED.out.last _ _⟩
end Go.Proofs.YtpllcnpcplbobaaGreat
