import Derived.Test.YtpllcnpcplbobaaDoorDisk5
import Derived.Test.YtpllcnpcplbobaaDoorText
import Derived.BigQuiet
import Derived.Deep.QuietTactic
import Derived.IntWalk
namespace Go.Proofs.YtpllcnpcplbobaaDoor
open Go.RowKit Go.Maps
/-- A slice of numbers, as it can be read. -/
def NumsAt (w : World) (v : Value) (l : List Int) : Prop :=
  ∃ (a : Option Addr) (c : Nat), v = .slice a l.length c ∧ l.length ≤ c ∧ (l.length = 0 ∨ ∃ b o, a = some ⟨b, o, none⟩ ∧ ∀ i (h : i < l.length), w.cell? ⟨b, o + i, none⟩ = some (.int .i64 l[i]))
theorem NumsAt.cells {w w' : World} {v : Value} {l : List Int} (h : NumsAt w v l) (hk : ∀ p u, w.cell? p = some u → w'.cell? p = some u) : NumsAt w' v l := by
  obtain ⟨a, c, hv, hc, h0 | ⟨b, o, ha, hh⟩⟩ := h
  · exact ⟨a, c, hv, hc, .inl h0⟩
  · exact ⟨a, c, hv, hc, .inr ⟨b, o, ha, fun i hi => hk _ _ (hh i hi)⟩⟩
theorem NumsAt.below {w w' : World} {v : Value} {l : List Int} (h : NumsAt w v l) (hb : Below w.heap.size w w') : NumsAt w' v l :=
  h.cells fun _ _ hp => (hb.cell (World.block_lt_of_cell? w _ hp)).trans hp
theorem numsAt_nil (w : World) : NumsAt w (.slice none 0 0) [] := ⟨none, 0, rfl, Nat.le_refl _, .inl rfl⟩
/-- How many of a file's bytes stay. -/
def stays (f : ByteArray × Int) (pick : Int) : Int := f.2 + ((pick.tmod ((f.1.size : Int) - f.2 + 1) + ((f.1.size : Int) - f.2) + 1).tmod ((f.1.size : Int) - f.2 + 1))
def cutF (f : ByteArray × Int) (n : Int) : ByteArray × Int := (f.1.extract 0 n.toNat, n)
/-- A file behind a crash; the picks that are left. -/
def crashStep (g : FS) (s : FS × List Int) (x : ByteArray) : FS × List Int :=
  if ((g x).getD noFile).2 < (((g x).getD noFile).1.size : Int) then (s.1.put x (cutF ((g x).getD noFile) (stays ((g x).getD noFile) (s.2.headD 0))), s.2.tail)
  else (s.1.put x (cutF ((g x).getD noFile) (((g x).getD noFile).1.size : Int)), s.2)
def crashG (g : FS) (l : List ByteArray) (picks : List Int) : FS × List Int := l.foldl (crashStep g) (fun _ => none, picks)
def FileOk (f : ByteArray × Int) : Prop := 0 ≤ f.2 ∧ f.2 ≤ (f.1.size : Int) ∧ f.1.size ≤ 1099511627776
def FilesOk (g : FS) : Prop := ∀ x f, g x = some f → FileOk f
theorem noFile_ok : FileOk noFile := ⟨by decide, by decide, by decide⟩
theorem FilesOk.get {g : FS} (h : FilesOk g) (x : ByteArray) : FileOk ((g x).getD noFile) := by
  cases hg : g x with
  | none => exact noFile_ok
  | some f => exact h x f hg
theorem stays_ok {f : ByteArray × Int} (h : FileOk f) (pick : Int) : f.2 ≤ stays f pick ∧ stays f pick ≤ (f.1.size : Int) := by
  obtain ⟨h0, h1, h2⟩ := h
  unfold stays
  obtain ⟨u, hu⟩ : ∃ u : Int, u = (f.1.size : Int) - f.2 := ⟨_, rfl⟩
  rw [← hu]
  have a1 := Int.lt_tmod_of_pos pick (b := u + 1) (by omega)
  have a2 := Int.tmod_lt_of_pos pick (b := u + 1) (by omega)
  have a3 := Int.tmod_nonneg (a := pick.tmod (u + 1) + u + 1) (u + 1) (by omega)
  have a4 := Int.tmod_lt_of_pos (pick.tmod (u + 1) + u + 1) (b := u + 1) (by omega)
  omega
theorem FilesOk.put {g : FS} (h : FilesOk g) (x : ByteArray) {f : ByteArray × Int} (hf : FileOk f) : FilesOk (g.put x f) := fun y f' h' => by
  by_cases hy : y = x
  · simp [FS.put, hy] at h'; rw [← h']; exact hf
  · simp [FS.put, hy] at h'; exact h y f' h'
theorem cutF_ok {f : ByteArray × Int} (h : FileOk f) {n : Int} (h0 : 0 ≤ n) (h1 : n ≤ (f.1.size : Int)) : FileOk (cutF f n) := by
  refine ⟨h0, ?_, ?_⟩
  · simp only [cutF, ByteArray.size_extract]; omega
  · have := h.2.2; simp only [cutF, ByteArray.size_extract]; omega
set_option maxRecDepth 100000 in
set_option maxHeartbeats 1000000 in
theorem crash_disk (p b N : Nat) (g : FS) (left : Int) (hN : N ≤ 1099511627776) (hg : FilesOk g) (va : Value) (P : List Int) (w : World) (hD : DiskAt w p b g left N) (hP : NumsAt w va P) :
    Calls Tryd.prog 10 #[.pointer (some ⟨p, 0, none⟩), va] w fun e w' => ∃ q c l, e = .returned (.pointer (some ⟨q, 0, none⟩)) ∧ NamesOf g l ∧ l.length ≤ N ∧ DiskAt w' q c (crashG g l P).1 (-1) N ∧ Below w.heap.size w w' ∧ w.heap.size ≤ q ∧ w.heap.size ≤ c := by
  have HD := Lib.hid hD
  have HP := Lib.hid hP
  have HG := Lib.hid hg
  clear hD hP hg
  go_enter Tryd.func10, Tryd.ntmps10
  go_wp2_with (first | (go_at_call 5; refine (new_disk _).mono ?_; rintro e w1 ⟨q, c, rfl, hd1, hb1, hq, hc, hqc⟩; have HD1 := Lib.hid hd1; have HB1 := Lib.hid hb1; clear hd1 hb1) | (go_at_call 28; refine (names_disk p b N g left hN _ (HD.out.below HB1.out)).mono ?_; rintro e w2 ⟨v, l, rfl, hnm, hln, hrow, hb2⟩; have HBLK := Lib.hid hrow.lt; obtain ⟨a14, c14, rfl, ht14⟩ := textsAt_owned hrow; have HT14 := Lib.hid ht14; have HNM := Lib.hid hnm; have HB2 := Lib.hid hb2; clear hnm hrow hb2 ht14))
  obtain ⟨n, hn⟩ : ∃ n, n = l.length := ⟨_, rfl⟩
  rw [← hn] at hln ⊢
  have HN := Lib.hid hn
  have hlq := HD1.out.lt
  have hlc := HD1.out.files.lt
  have hlp := HD.out.lt
  have hlb := HD.out.files.lt
  have hs1 := HB1.out.size
  have hs2 := HB2.out.size
  clear hn
  go_loopw [1, 16] (fun s i wr => ∃ k : Nat, k ≤ n ∧ i = .int .i64 k ∧ NumsAt w s (crashG g (l.take k) P).2 ∧ DiskAt wr q c (crashG g (l.take k) P).1 (-1) k ∧ Turned w2 wr q c)
    (fun _ i _ => n - (intOf i).toNat)
  case atStart => exact ⟨0, by omega, rfl, HP.out, HD1.out.below HB2.out, turned_of_below (Below.refl _ _) q c⟩
  case round =>
    obtain ⟨k, hk, rfl, hnums, hdq, ht⟩ := hrel
    have hbw : Below w.heap.size w wr := (HB1.out.trans (HB2.out.mono hs1)).trans (ht.below hq hc (by omega))
    by_cases hlt : k < n
    · have hlk : k < l.length := by rw [← HN.out]; exact hlt
      obtain ⟨x, hx⟩ : ∃ x, x = l[k] := ⟨_, rfl⟩
      have hxm : x.size ≤ maxLen := HNM.out.small x (by rw [hx]; exact List.getElem_mem hlk)
      have htk : crashG g (l.take (k + 1)) P = crashStep g (crashG g (l.take k) P) x := by
        rw [List.take_succ_eq_append_getElem hlk, crashG, List.foldl_append, hx]; rfl
      rcases HT14.out with h0 | ⟨b14, o14, rfl, hc14⟩
      · omega
      have hb14 := (HBLK.out b14 rfl).1
      have d14 : wr.cell? ⟨b14, o14 + k, none⟩ = some (.string x) := by
        have h1 := hc14 k hlk
        rw [← hx] at h1
        have hl14 : b14 < w2.heap.size := block_lt_of_cell h1
        exact (World.cell?_of_block (ht.block b14 hl14 (by omega) (by omega))).trans h1
      obtain ⟨S, hS⟩ : ∃ S, S = crashG g (l.take k) P := ⟨_, rfl⟩
      rw [← hS] at htk hnums hdq
      have hdp : DiskAt wr p b g left N := HD.out.cells |> fun _ => ⟨(hbw.block p hlp).trans HD.out.cells, HD.out.files.of_heap (hbw.block b hlb)⟩
      have c0 := hdp.cell0
      have hlook := (hdp.files.look x hxm).2
      obtain ⟨⟨fd, fs⟩, hf⟩ : ∃ f : ByteArray × Int, f = (g x).getD noFile := ⟨_, rfl⟩
      have hok : FileOk (fd, fs) := by rw [hf]; exact HG.out.get x
      rw [← hf] at hlook
      simp only [fileV] at hlook
      obtain ⟨nn, hnn⟩ : ∃ nn : Int, nn = if fs < (fd.size : Int) then stays (fd, fs) (S.2.headD 0) else (fd.size : Int) := ⟨_, rfl⟩
      obtain ⟨rest, hrest⟩ : ∃ rest : List Int, rest = if fs < (fd.size : Int) then S.2.tail else S.2 := ⟨_, rfl⟩
      have hstep : crashStep g S x = (S.1.put x (cutF (fd, fs) nn), rest) := by
        rw [crashStep, ← hf, hnn, hrest]; split <;> rfl
      have hnn0 : 0 ≤ nn ∧ nn ≤ (fd.size : Int) := by
        have h1 := stays_ok hok (S.2.headD 0)
        have h2 := hok.1
        rw [hnn]
        split
        · exact ⟨by simp only at h2; omega, h1.2⟩
        · omega
      rw [hstep] at htk
      have hlr : p < wr.heap.size := hdp.lt
      have f0 := hok.1
      have f1 := hok.2.1
      have f2 := hok.2.2
      simp only at f0 f1 f2
      have cq := hdq.cell0
      have hlqr := hdq.lt
      have HTK := Lib.hid htk
      have HNUM := Lib.hid hnums
      have HDQ := Lib.hid hdq
      have HTT := Lib.hid ht
      have HBW := Lib.hid hbw
      have HNN := Lib.hid hnn
      have HRE := Lib.hid hrest
      have HX := Lib.hid hx
      clear htk hnums hdq ht hdp hstep hS hf hok hc14 hnn hrest hx hbw
      go_upto_if 34 with (fail)
      go_cut [1, 9] (fun s1 s9 wx => s9 = .int .i64 nn ∧ NumsAt w s1 rest ∧ ∃ m, wx = (wr.alloc (.cells #[.string fd, .int .i64 fs] 66)).drewN m)
      case first =>
        clear d14 hlook c0 cq
        by_cases hu : fs < (fd.size : Int)
        · have hn1 := HNN.out
          have hr1 := HRE.out
          rw [if_pos hu] at hn1 hr1
          obtain ⟨a1, c1, rfl, hcc, hcells⟩ := HNUM.out
          have HCC := Lib.hid hcells
          cases hS2 : S.2 with
          | nil =>
            rw [hS2] at hn1 hr1 hcc
            have HN1 := Lib.hid hn1
            have HR1 := Lib.hid hr1
            clear hn1 hr1 hcells hS2
            have e1 : IntKind.i64.wrap ((fd.size : Int) - fs + 1) = (fd.size : Int) - fs + 1 := IntWalk.i64_in _ (by omega)
            have e0 : ((fd.size : Int) - fs + 1 == 0) = false := by simp; omega
            have e2 : ¬ ((fd.size : Int) - fs + 1 = 0) := by omega
            go_wp2_with fail
            go_quiet (fail)
            go_wp2
            go_meet
            refine ⟨?_, ?_, _, rfl⟩
            · rw [HN1.out]
              have h : stays (fd, fs) 0 = fs := by
                unfold stays
                simp only [Int.zero_tmod, Int.zero_add, Int.tmod_self, Int.add_zero]
              rw [show ([] : List Int).headD 0 = 0 from rfl, h]
            · rw [HR1.out]
              exact ⟨a1, c1, rfl, hcc, .inl rfl⟩
          | cons pk tl =>
            rw [hS2] at hn1 hr1 hcc
            rcases HCC.out with h0 | ⟨pb, po, rfl, hpc⟩
            · rw [hS2] at h0; simp at h0
            have hpk : w.cell? ⟨pb, po, none⟩ = some (.int .i64 pk) := by
              have h := hpc 0 (by rw [hS2]; simp)
              simp only [hS2] at h
              exact h
            have hlpb : pb < w.heap.size := block_lt_of_cell hpk
            have hpk2 : wr.cell? ⟨pb, po, none⟩ = some (.int .i64 pk) := (HBW.out.cell hlpb).trans hpk
            have hlpb2 : pb < wr.heap.size := by have := HBW.out.size; omega
            obtain ⟨m, hm⟩ : ∃ m, m = (pk :: tl).length := ⟨_, rfl⟩
            have hm0 : 0 < m := by rw [hm]; simp
            have hm1 : (0 : Int) < (m : Int) := by omega
            rw [← hm] at hcc ⊢
            have HM := Lib.hid hm
            have HN1 := Lib.hid hn1
            have HR1 := Lib.hid hr1
            have HS2 := Lib.hid hS2
            have HPC := Lib.hid hpc
            clear hn1 hr1 hcells hS2 hpc hm hpk
            have e1 : IntKind.i64.wrap ((fd.size : Int) - fs + 1) = (fd.size : Int) - fs + 1 := IntWalk.i64_in _ (by omega)
            have e0 : ((fd.size : Int) - fs + 1 == 0) = false := by simp; omega
            have e2 : ¬ ((fd.size : Int) - fs + 1 = 0) := by omega
            have t1 := Int.lt_tmod_of_pos pk (b := (fd.size : Int) - fs + 1) (by omega)
            have t2 := Int.tmod_lt_of_pos pk (b := (fd.size : Int) - fs + 1) (by omega)
            have t3 := Int.tmod_nonneg (a := pk.tmod ((fd.size : Int) - fs + 1) + ((fd.size : Int) - fs) + 1) ((fd.size : Int) - fs + 1) (by omega)
            have t4 := Int.tmod_lt_of_pos (pk.tmod ((fd.size : Int) - fs + 1) + ((fd.size : Int) - fs) + 1) (b := (fd.size : Int) - fs + 1) (by omega)
            have b1 : IntKind.i64.wrap (pk.tmod ((fd.size : Int) - fs + 1)) = pk.tmod ((fd.size : Int) - fs + 1) := IntWalk.i64_in _ (by omega)
            have b2 : IntKind.i64.wrap (pk.tmod ((fd.size : Int) - fs + 1) + ((fd.size : Int) - fs)) = pk.tmod ((fd.size : Int) - fs + 1) + ((fd.size : Int) - fs) := IntWalk.i64_in _ (by omega)
            have b3 : IntKind.i64.wrap (pk.tmod ((fd.size : Int) - fs + 1) + ((fd.size : Int) - fs) + 1) = pk.tmod ((fd.size : Int) - fs + 1) + ((fd.size : Int) - fs) + 1 := IntWalk.i64_in _ (by omega)
            have b4 : IntKind.i64.wrap ((pk.tmod ((fd.size : Int) - fs + 1) + ((fd.size : Int) - fs) + 1).tmod ((fd.size : Int) - fs + 1)) = (pk.tmod ((fd.size : Int) - fs + 1) + ((fd.size : Int) - fs) + 1).tmod ((fd.size : Int) - fs + 1) := IntWalk.i64_in _ (by omega)
            have b5 : IntKind.i64.wrap (fs + (pk.tmod ((fd.size : Int) - fs + 1) + ((fd.size : Int) - fs) + 1).tmod ((fd.size : Int) - fs + 1)) = fs + (pk.tmod ((fd.size : Int) - fs + 1) + ((fd.size : Int) - fs) + 1).tmod ((fd.size : Int) - fs + 1) := IntWalk.i64_in _ (by omega)
            clear t1 t2 t3 t4
            go_upto_region 11 with (fail)
            go_quiet (fail)
            go_upto_region 12 with (fail)
            go_quiet (fail)
            have hmt : m - 1 = tl.length := by have hm := HM.out; simp only [List.length_cons] at hm; omega
            have HMT := Lib.hid hmt
            clear hmt
            go_wp2
            all_goals go_meet
            · refine ⟨by rw [HN1.out]; rfl, ?_, _, rfl⟩
              rw [HR1.out]
              have h1 : tl.length = 0 := by rw [← HMT.out]; omega
              exact ⟨_, 0, by rw [HMT.out]; rfl, by show tl.length ≤ 0; omega, .inl h1⟩
            · refine ⟨by rw [HN1.out]; rfl, ?_, _, rfl⟩
              rw [HR1.out]
              refine ⟨_, c1 - 1, by rw [HMT.out]; rfl, by show tl.length ≤ c1 - 1; rw [← HMT.out]; omega, .inr ⟨pb, po + 1, rfl, fun i hi => ?_⟩⟩
              have h := HPC.out (i + 1) (by rw [HS2.out]; simp at hi ⊢; exact hi)
              simp only [HS2.out, List.getElem_cons_succ] at h
              rw [show po + 1 + i = po + (i + 1) by omega]
              exact h
        · have hn1 := HNN.out
          have hr1 := HRE.out
          rw [if_neg hu] at hn1 hr1
          have HN1 := Lib.hid hn1
          have HR1 := Lib.hid hr1
          clear hn1 hr1
          go_wp2_with fail
          go_meet
          exact ⟨by rw [HN1.out], by rw [HR1.out]; exact HNUM.out, 0, rfl⟩
      case rest =>
        obtain ⟨rfl, hnums, mm, rfl⟩ := hcut
        have HNU2 := Lib.hid hnums
        clear hnums hlook d14 c0 HNUM HNN HRE
        obtain ⟨w3, hrun, hm3, hg3⟩ := (HDQ.out.files.of_heap (w' := ((wr.alloc (.cells #[.string fd, .int .i64 fs] 66)).drewN (mm + 1))) (heap_alloc_old _ _ HDQ.out.files.lt)).store (by simp only [maxLen]; omega) x hxm (fd.extract 0 nn.toNat, nn)
        simp only [fileV] at hrun
        have HM3 := Lib.hid hm3
        have HG3 := Lib.hid hg3
        have hcut2 := run_cut_high (P := Tryd.prog) 9 Tryd.underlying9 fd nn.toNat (by omega) nn (by omega)
        clear hm3 hg3
        go_wp2_with fail
        go_region
        go_wp2
        go_roundw
        case measure => simp [intOf]; omega
        case rel =>
          have hd2 : DiskAt ((wr.alloc (.cells #[.string fd, .int .i64 fs] 66)).drewN (mm + 1)) q c S.1 (-1) k := HDQ.out.below (below_drewN ((Below.refl _ _).alloc (Nat.le_refl _) _) _)
          refine ⟨k + 1, by omega, by go_num, by rw [HTK.out]; exact HNU2.out, by rw [HTK.out]; exact DiskAt.put hd2 HG3.out HM3.out, ?_⟩
          exact HTT.out.trans ((turned_of_below (below_drewN ((Below.refl _ _).alloc (Nat.le_refl _) _) _) q c).trans (turned_of_grown HG3.out))
    · have hkn : l.take k = l := List.take_of_length_le (by rw [← HN.out]; omega)
      rw [hkn] at hdq
      have HDQ := Lib.hid hdq
      clear hdq hnums hkn
      go_wp2
      go_ret
      exact ⟨q, c, l, rfl, HNM.out, by rw [← HN.out]; exact hln, ⟨HDQ.out.cells, HDQ.out.files.mono (by omega)⟩, hbw, hq, hc⟩
end Go.Proofs.YtpllcnpcplbobaaDoor
