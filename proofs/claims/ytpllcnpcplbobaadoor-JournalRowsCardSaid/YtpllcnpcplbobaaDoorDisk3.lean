import Derived.Test.YtpllcnpcplbobaaDoorDisk2
namespace Go.Proofs.YtpllcnpcplbobaaDoor
open Go.RowKit Go.Maps
theorem texts_one (w : World) (x : ByteArray) (t : TypeId) : TextsAt (w.alloc (.cells #[.string x] t)) (.slice (some ⟨w.heap.size, 0, none⟩) 1 1) [x] :=
  ⟨_, 1, rfl, .inr ⟨_, 0, rfl, fun i hi => by
    have : i = 0 := by simp at hi; omega
    subst this
    exact cell_new1 w (.string x) t⟩⟩
theorem texts_two (w : World) (x y : ByteArray) (t : TypeId) : TextsAt (w.alloc (.cells #[.string x, .string y] t)) (.slice (some ⟨w.heap.size, 0, none⟩) 2 2) [x, y] :=
  ⟨_, 2, rfl, .inr ⟨_, 0, rfl, fun i hi => by
    have : i = 0 ∨ i = 1 := by simp at hi; omega
    rcases this with rfl | rfl
    · exact cell_of_row _ _ _ _ _ _ (heap_alloc_new w _)
    · exact cell_of_row _ _ _ _ _ _ (heap_alloc_new w _)⟩⟩
/-- A file with more bytes behind it. -/
def moreF (f : ByteArray × Int) (data : ByteArray) : ByteArray × Int := (f.1 ++ data, f.2)
def sureF (f : ByteArray × Int) : ByteArray × Int := (f.1, (f.1.size : Int))
def appendG (code : Int) (g : FS) (name data : ByteArray) : FS := if code = 0 then g.put name (moreF ((g name).getD noFile) data) else g
theorem MapAt.store {w : World} {b N : Nat} {g : FS} (h : MapAt w b N g) (hN : N < maxLen) (name : ByteArray) (hn : name.size ≤ maxLen) (f : ByteArray × Int) :
    ∃ w', (Instr.mapUpdate 42 (.map (some b)) (.string name) (fileV f)).run Tryd.prog w = .ok () w' ∧ MapAt w' b (N + 1) (g.put name f) ∧ w.grownBy w' (some b) := by
  obtain ⟨D, h, hr⟩ := h
  obtain ⟨w', hrun, hown, hg⟩ := h.update keyed Tryd.underlying42 hN (keyOf_name hn) (fileR_mk f)
  exact ⟨w', hrun, ⟨_, hown, mapAt_put h.isMap hr name f⟩, hg⟩
theorem MapAt.drop {w : World} {b N : Nat} {g : FS} (h : MapAt w b N g) (name : ByteArray) (hn : name.size ≤ maxLen) (ty : TypeId) :
    ∃ w', (Builtin.delete_ #[42, 9] ty #[.map (some b), .string name]).run Tryd.prog w = .ok (.tuple #[]) w' ∧ MapAt w' b N (g.del name) ∧ w.grownBy w' (some b) := by
  obtain ⟨D, h, hr⟩ := h
  obtain ⟨w', hrun, hown, hg⟩ := h.drop keyed Tryd.underlying42 (keyOf_name hn) ty
  exact ⟨w', hrun, ⟨_, hown, mapAt_del hr name⟩, hg.grown⟩
theorem turned_of_grown {w w' : World} {p b : Nat} (h : w.grownBy w' (some b)) : Turned w w' p b := ⟨h.os, h.tape, h.output, h.size, fun k hk _ hb => h.block k hk (by simpa using hb)⟩
theorem DiskAt.put {w w' : World} {p b N N' : Nat} {g g' : FS} {left : Int} (h : DiskAt w p b g left N) (hg : w.grownBy w' (some b)) (hm : MapAt w' b N' g') : DiskAt w' p b g' left N' :=
  ⟨(hg.block p h.lt (by simpa using h.ne)).trans h.cells, hm⟩
set_option maxRecDepth 100000 in
set_option maxHeartbeats 1000000 in
theorem append_disk (p b N : Nat) (g : FS) (left : Int) (hl1 : -1 ≤ left) (hl2 : left ≤ 9223372036854775807) (hN : N < maxLen) (name data : ByteArray) (hx : name.size ≤ maxLen) (hsz : ((g name).getD noFile).1.size + data.size ≤ 1099511627776) (w : World)
    (hD : DiskAt w p b g left N) :
    Calls Tryd.prog 21 #[.pointer (some ⟨p, 0, none⟩), .string name, .string data] w fun e w' => e = .returned (.int .i64 (beginE false g left name [name])) ∧
      DiskAt w' p b (appendG (beginE false g left name [name]) g name data) (leftE (beginE false g left name [name]) left) (N + 1) ∧ Turned w w' p b := by
  obtain ⟨code, hcode⟩ : ∃ code, code = beginE false g left name [name] := ⟨_, rfl⟩
  have hbeg := begin_disk p b N g left hl1 hl2 false _ name hx [] (by simp) (w.alloc (.cells #[.string name] 9)) (hD.below ((Below.refl _ _).alloc (Nat.le_refl _) _)) (texts_one w name 9)
  rw [← hcode] at hbeg ⊢
  obtain ⟨⟨fd, fs⟩, hfv⟩ : ∃ f : ByteArray × Int, f = (g name).getD noFile := ⟨_, rfl⟩
  rw [← hfv] at hsz
  simp only at hsz
  have HB := Lib.hid hbeg
  have HFV := Lib.hid hfv
  have hcs : code = 0 ∨ code ≠ 0 := by omega
  clear hbeg hcode hfv
  rcases hcs with rfl | hne
  · go_enter Tryd.func21, Tryd.ntmps21
    go_upto_region 3 with (go_at_call 38; refine (HB.out).mono ?_; rintro e w1 ⟨rfl, hd1, ht1⟩; have HD1 := Lib.hid hd1; have HT1 := Lib.hid ht1; clear hd1 ht1)
    have hD1 := HD1.out
    have c0 := hD1.cell0
    have hk := (hD1.files.look name hx).2
    rw [← HFV.out] at hk
    simp only [fileV] at hk
    have hltp := hD1.lt
    clear hD1
    obtain ⟨w2, hrun, hm2, hg2⟩ := (HD1.out.files.of_heap (w' := (w1.alloc (.cells #[.string (fd ++ data), .int .i64 fs] 66)).drew) (heap_alloc_old _ _ HD1.out.files.lt)).store hN name hx (fd ++ data, fs)
    simp only [fileV] at hrun
    have HM2 := Lib.hid hm2
    have HG2 := Lib.hid hg2
    clear hm2 hg2
    go_upto_region 5 with (fail)
    go_region
    go_wp2
    go_ret
    have hD2 : DiskAt (w1.alloc (.cells #[.string (fd ++ data), .int .i64 fs] 66)) p b g (leftE 0 left) N := HD1.out.below ((Below.refl _ _).alloc (Nat.le_refl _) _)
    refine ⟨rfl, ?_, ?_⟩
    · rw [appendG, if_pos rfl, ← HFV.out]
      exact DiskAt.put (w := (w1.alloc (.cells #[.string (fd ++ data), .int .i64 fs] 66)).drew) ⟨hD2.cells, hD2.files.of_heap rfl⟩ HG2.out HM2.out
    · exact ((turned_of_below ((Below.refl _ _).alloc (Nat.le_refl _) _) p b).trans HT1.out).trans ((turned_of_below (((Below.refl _ _).alloc (Nat.le_refl _) _).drew) p b).trans (turned_of_grown HG2.out))
  · have hneb : (code == 0) = false := by simpa using hne
    go_enter Tryd.func21, Tryd.ntmps21
    go_wp2_with (go_at_call 38; refine (HB.out).mono ?_; rintro e w1 ⟨rfl, hd1, ht1⟩)
    go_ret
    refine ⟨rfl, ?_, (turned_of_below ((Below.refl _ _).alloc (Nat.le_refl _) _) p b).trans ht1⟩
    rw [appendG, if_neg hne]
    exact ⟨hd1.cells, hd1.files.mono (by omega)⟩
end Go.Proofs.YtpllcnpcplbobaaDoor
