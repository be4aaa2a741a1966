import Derived.Test.YtpllcnpcplbobaaDoorDisk3
namespace Go.Proofs.YtpllcnpcplbobaaDoor
open Go.RowKit Go.Maps
def syncG (code : Int) (g : FS) (name : ByteArray) : FS := if code = 0 then g.put name (sureF ((g name).getD noFile)) else g
def removeG (code : Int) (g : FS) (name : ByteArray) : FS := if code = 0 then g.del name else g
def renameG (code : Int) (g : FS) (x y : ByteArray) : FS := if code = 0 ∧ x ≠ y then (g.put y ((g x).getD noFile)).del x else g
def readV (g : FS) (name : ByteArray) : Value := match g name with
  | none => .tuple #[.string ⟨#[]⟩, .int .i64 10]
  | some f => .tuple #[.string f.1, .int .i64 0]
set_option maxRecDepth 100000 in
set_option maxHeartbeats 1000000 in
theorem sync_disk (p b N : Nat) (g : FS) (left : Int) (hl1 : -1 ≤ left) (hl2 : left ≤ 9223372036854775807) (hN : N < maxLen) (name : ByteArray) (hx : name.size ≤ maxLen) (w : World)
    (hD : DiskAt w p b g left N) :
    Calls Tryd.prog 23 #[.pointer (some ⟨p, 0, none⟩), .string name] w fun e w' => e = .returned (.int .i64 (beginE true g left name [name])) ∧
      DiskAt w' p b (syncG (beginE true g left name [name]) g name) (leftE (beginE true g left name [name]) left) (N + 1) ∧ Turned w w' p b := by
  obtain ⟨code, hcode⟩ : ∃ code, code = beginE true g left name [name] := ⟨_, rfl⟩
  have hbeg := begin_disk p b N g left hl1 hl2 true _ name hx [] (by simp) (w.alloc (.cells #[.string name] 9)) (hD.below ((Below.refl _ _).alloc (Nat.le_refl _) _)) (texts_one w name 9)
  rw [← hcode] at hbeg ⊢
  obtain ⟨⟨fd, fs⟩, hfv⟩ : ∃ f : ByteArray × Int, f = (g name).getD noFile := ⟨_, rfl⟩
  have HB := Lib.hid hbeg
  have HFV := Lib.hid hfv
  have hcs : code = 0 ∨ code ≠ 0 := by omega
  clear hbeg hcode hfv
  rcases hcs with rfl | hne
  · go_enter Tryd.func23, Tryd.ntmps23
    go_upto_region 3 with (go_at_call 38; refine (HB.out).mono ?_; rintro e w1 ⟨rfl, hd1, ht1⟩; have HD1 := Lib.hid hd1; have HT1 := Lib.hid ht1; clear hd1 ht1)
    have hD1 := HD1.out
    have c0 := hD1.cell0
    have hk := (hD1.files.look name hx).2
    rw [← HFV.out] at hk
    simp only [fileV] at hk
    have hltp := hD1.lt
    clear hD1
    obtain ⟨w2, hrun, hm2, hg2⟩ := (HD1.out.files.of_heap (w' := (w1.alloc (.cells #[.string fd, .int .i64 (fd.size : Int)] 66)).drew) (heap_alloc_old _ _ HD1.out.files.lt)).store hN name hx (fd, (fd.size : Int))
    simp only [fileV] at hrun
    have HM2 := Lib.hid hm2
    have HG2 := Lib.hid hg2
    clear hm2 hg2
    go_upto_region 5 with (fail)
    go_region
    go_wp2
    go_ret
    have hD2 : DiskAt (w1.alloc (.cells #[.string fd, .int .i64 (fd.size : Int)] 66)) p b g (leftE 0 left) N := HD1.out.below ((Below.refl _ _).alloc (Nat.le_refl _) _)
    refine ⟨rfl, ?_, ?_⟩
    · rw [syncG, if_pos rfl, ← HFV.out]
      exact DiskAt.put (w := (w1.alloc (.cells #[.string fd, .int .i64 (fd.size : Int)] 66)).drew) ⟨hD2.cells, hD2.files.of_heap rfl⟩ HG2.out HM2.out
    · exact ((turned_of_below ((Below.refl _ _).alloc (Nat.le_refl _) _) p b).trans HT1.out).trans ((turned_of_below (((Below.refl _ _).alloc (Nat.le_refl _) _).drew) p b).trans (turned_of_grown HG2.out))
  · have hneb : (code == 0) = false := by simpa using hne
    go_enter Tryd.func23, Tryd.ntmps23
    go_wp2_with (go_at_call 38; refine (HB.out).mono ?_; rintro e w1 ⟨rfl, hd1, ht1⟩)
    go_ret
    refine ⟨rfl, ?_, (turned_of_below ((Below.refl _ _).alloc (Nat.le_refl _) _) p b).trans ht1⟩
    rw [syncG, if_neg hne]
    exact ⟨hd1.cells, hd1.files.mono (by omega)⟩
set_option maxRecDepth 100000 in
set_option maxHeartbeats 1000000 in
theorem remove_disk (p b N : Nat) (g : FS) (left : Int) (hl1 : -1 ≤ left) (hl2 : left ≤ 9223372036854775807) (name : ByteArray) (hx : name.size ≤ maxLen) (w : World)
    (hD : DiskAt w p b g left N) :
    Calls Tryd.prog 31 #[.pointer (some ⟨p, 0, none⟩), .string name] w fun e w' => e = .returned (.int .i64 (beginE true g left name [name])) ∧
      DiskAt w' p b (removeG (beginE true g left name [name]) g name) (leftE (beginE true g left name [name]) left) N ∧ Turned w w' p b := by
  obtain ⟨code, hcode⟩ : ∃ code, code = beginE true g left name [name] := ⟨_, rfl⟩
  have hbeg := begin_disk p b N g left hl1 hl2 true _ name hx [] (by simp) (w.alloc (.cells #[.string name] 9)) (hD.below ((Below.refl _ _).alloc (Nat.le_refl _) _)) (texts_one w name 9)
  rw [← hcode] at hbeg ⊢
  have HB := Lib.hid hbeg
  have hcs : code = 0 ∨ code ≠ 0 := by omega
  clear hbeg hcode
  rcases hcs with rfl | hne
  · go_enter Tryd.func31, Tryd.ntmps31
    go_upto_region 3 with (go_at_call 38; refine (HB.out).mono ?_; rintro e w1 ⟨rfl, hd1, ht1⟩; have HD1 := Lib.hid hd1; have HT1 := Lib.hid ht1; clear hd1 ht1)
    have c0 := HD1.out.cell0
    obtain ⟨w2, hrun, hm2, hg2⟩ := HD1.out.files.drop name hx 0
    have HM2 := Lib.hid hm2
    have HG2 := Lib.hid hg2
    clear hm2 hg2
    go_wp2_with fail
    go_ret
    refine ⟨rfl, ?_, ((turned_of_below ((Below.refl _ _).alloc (Nat.le_refl _) _) p b).trans HT1.out).trans (turned_of_grown HG2.out)⟩
    rw [removeG, if_pos rfl]
    exact DiskAt.put HD1.out HG2.out HM2.out
  · have hneb : (code == 0) = false := by simpa using hne
    go_enter Tryd.func31, Tryd.ntmps31
    go_wp2_with (go_at_call 38; refine (HB.out).mono ?_; rintro e w1 ⟨rfl, hd1, ht1⟩)
    go_ret
    refine ⟨rfl, ?_, (turned_of_below ((Below.refl _ _).alloc (Nat.le_refl _) _) p b).trans ht1⟩
    rw [removeG, if_neg hne]
    exact hd1
set_option maxRecDepth 100000 in
set_option maxHeartbeats 1000000 in
theorem read_disk (p b N : Nat) (g : FS) (left : Int) (name : ByteArray) (hx : name.size ≤ maxLen) (w : World) (hD : DiskAt w p b g left N) :
    Calls Tryd.prog 17 #[.pointer (some ⟨p, 0, none⟩), .string name] w fun e w' => e = .returned (readV g name) ∧ Below w.heap.size w w' := by
  have c0 := hD.cell0
  have hk := (hD.files.look name hx).1
  cases hg : g name with
  | none =>
    have e : readV g name = .tuple #[.string ⟨#[]⟩, .int .i64 10] := by rw [readV, hg]
    rw [hg] at hk
    simp only [Option.getD_none, Option.isSome_none, noFile, fileV] at hk
    have HE := Lib.hid e
    clear e hg hD
    go_enter Tryd.func17, Tryd.ntmps17
    go_wp2
    go_ret2
    exact ⟨by rw [HE.out]; rfl, (Below.refl _ _).alloc (Nat.le_refl _) _⟩
  | some f =>
    obtain ⟨fd, fs⟩ := f
    have e : readV g name = .tuple #[.string fd, .int .i64 0] := by rw [readV, hg]
    rw [hg] at hk
    simp only [Option.getD_some, Option.isSome_some, fileV] at hk
    have HE := Lib.hid e
    clear e hg hD
    go_enter Tryd.func17, Tryd.ntmps17
    go_wp2
    go_ret2
    exact ⟨by rw [HE.out]; rfl, (Below.refl _ _).alloc (Nat.le_refl _) _⟩
set_option maxRecDepth 100000 in
set_option maxHeartbeats 1000000 in
theorem rename_disk (p b N : Nat) (g : FS) (left : Int) (hl1 : -1 ≤ left) (hl2 : left ≤ 9223372036854775807) (hN : N < maxLen) (x y : ByteArray) (hx : x.size ≤ maxLen) (hy : y.size ≤ maxLen) (w : World)
    (hD : DiskAt w p b g left N) :
    Calls Tryd.prog 37 #[.pointer (some ⟨p, 0, none⟩), .string x, .string y] w fun e w' => e = .returned (.int .i64 (beginE true g left x [x, y])) ∧
      DiskAt w' p b (renameG (beginE true g left x [x, y]) g x y) (leftE (beginE true g left x [x, y]) left) (N + 1) ∧ Turned w w' p b := by
  obtain ⟨code, hcode⟩ : ∃ code, code = beginE true g left x [x, y] := ⟨_, rfl⟩
  have hbeg := begin_disk p b N g left hl1 hl2 true _ x hx [y] (by simp) (w.alloc (.cells #[.string x, .string y] 9)) (hD.below ((Below.refl _ _).alloc (Nat.le_refl _) _)) (texts_two w x y 9)
  rw [← hcode] at hbeg ⊢
  obtain ⟨⟨fd, fs⟩, hfv⟩ : ∃ f : ByteArray × Int, f = (g x).getD noFile := ⟨_, rfl⟩
  have HB := Lib.hid hbeg
  have HFV := Lib.hid hfv
  have hcs : code = 0 ∨ code ≠ 0 := by omega
  clear hbeg hcode hfv
  rcases hcs with rfl | hne
  · by_cases hxy : x = y
    · have ht : (x.toList == y.toList) = true := by rw [text_beq]; exact decide_eq_true hxy
      have HXY := Lib.hid hxy
      clear hxy
      go_enter Tryd.func37, Tryd.ntmps37
      go_wp2_with (go_at_call 38; refine (HB.out).mono ?_; rintro e w1 ⟨rfl, hd1, ht1⟩)
      go_ret
      refine ⟨rfl, ?_, (turned_of_below ((Below.refl _ _).alloc (Nat.le_refl _) _) p b).trans ht1⟩
      rw [renameG, if_neg (fun h => h.2 HXY.out)]
      exact ⟨hd1.cells, hd1.files.mono (by omega)⟩
    · have ht : (x.toList == y.toList) = false := by rw [text_beq]; exact decide_eq_false hxy
      have HXY := Lib.hid hxy
      clear hxy
      go_enter Tryd.func37, Tryd.ntmps37
      go_upto_region 3 with (go_at_call 38; refine (HB.out).mono ?_; rintro e w1 ⟨rfl, hd1, ht1⟩; have HD1 := Lib.hid hd1; have HT1 := Lib.hid ht1; clear hd1 ht1)
      have hD1 := HD1.out
      have c0 := hD1.cell0
      have hk := ((hD1.files.of_heap (w' := w1.drew) rfl).look x hx).2
      rw [← HFV.out] at hk
      simp only [fileV] at hk
      have hltp := hD1.lt
      clear hD1
      obtain ⟨w2, hrun, hm2, hg2⟩ := (HD1.out.files.of_heap (w' := w1.drew) rfl).store hN y hy (fd, fs)
      simp only [fileV] at hrun
      have hD2 : DiskAt w2 p b (g.put y (fd, fs)) (leftE 0 left) (N + 1) := DiskAt.put (w := w1.drew) ⟨HD1.out.cells, HD1.out.files.of_heap rfl⟩ hg2 hm2
      have d0 := hD2.cell0
      obtain ⟨w3, hrun3, hm3, hg3⟩ := hm2.drop x hx 0
      have HM3 := Lib.hid hm3
      have HG2 := Lib.hid hg2
      have HG3 := Lib.hid hg3
      have HD2 := Lib.hid hD2
      clear hm2 hg2 hm3 hg3 hD2
      go_region
      go_wp2
      go_ret
      refine ⟨rfl, ?_, (((turned_of_below ((Below.refl _ _).alloc (Nat.le_refl _) _) p b).trans HT1.out).trans ((turned_of_below ((Below.refl _ _).drew) p b).trans (turned_of_grown HG2.out))).trans (turned_of_grown HG3.out)⟩
      rw [renameG, if_pos ⟨rfl, HXY.out⟩, ← HFV.out]
      exact DiskAt.put HD2.out HG3.out HM3.out
  · have hneb : (code == 0) = false := by simpa using hne
    go_enter Tryd.func37, Tryd.ntmps37
    go_wp2_with (go_at_call 38; refine (HB.out).mono ?_; rintro e w1 ⟨rfl, hd1, ht1⟩)
    go_ret
    refine ⟨rfl, ?_, (turned_of_below ((Below.refl _ _).alloc (Nat.le_refl _) _) p b).trans ht1⟩
    rw [renameG, if_neg (fun h => hne h.1)]
    exact ⟨hd1.cells, hd1.files.mono (by omega)⟩
end Go.Proofs.YtpllcnpcplbobaaDoor
