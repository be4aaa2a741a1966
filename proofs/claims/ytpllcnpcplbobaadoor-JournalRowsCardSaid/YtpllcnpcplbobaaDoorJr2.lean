import Derived.Test.YtpllcnpcplbobaaDoorJr1
namespace Go.Proofs.YtpllcnpcplbobaaDoor
open Go.RowKit Go.Maps
set_option linter.unusedVariables false
attribute [local go_sem ↓] Go.wp_at_zero Go.wp_at_succ
theorem DiskAt.no_blk1 {w : World} {p b N q : Nat} {g : FS} {left : Int} {cs : Array Value} {t : TypeId} (h : DiskAt w p b g left N) (hq : w.heap[q]? = some (.cells cs t (0, 0))) (ht : t ≠ 44) : q ≠ p ∧ q ≠ b := by
  refine ⟨fun e => ?_, fun e => ?_⟩
  · subst e
    rw [h.cells] at hq
    injection hq with hq
    injection hq with _ h2
    exact ht h2.symm
  · subst e
    obtain ⟨D, ⟨es, clock, hb, _⟩, _⟩ := h.files
    rw [hb] at hq
    cases hq
/-- A variable of the call's own that a closure has. -/
def VarAt (w : World) (q : Nat) (v : Value) (t : TypeId) : Prop := w.heap[q]? = some (.cells #[v] t (0, 0))
theorem VarAt.cell {w : World} {q : Nat} {v : Value} {t : TypeId} (h : VarAt w q v t) : w.cell? ⟨q, 0, none⟩ = some v := by
  unfold VarAt at h
  rw [cell_of_row _ _ _ _ _ _ h]; rfl
theorem VarAt.lt {w : World} {q : Nat} {v : Value} {t : TypeId} (h : VarAt w q v t) : q < w.heap.size := (Array.getElem?_eq_some_iff.1 h).1
theorem VarAt.below {w w' : World} {q : Nat} {v : Value} {t : TypeId} (h : VarAt w q v t) (hb : Below w.heap.size w w') : VarAt w' q v t := (hb.block q h.lt).trans h
theorem VarAt.turned {w w' : World} {q p b N : Nat} {v : Value} {t : TypeId} {g : FS} {left : Int} (h : VarAt w q v t) (ht : t ≠ 44) (hd : DiskAt w p b g left N) (hT : Turned w w' p b) : VarAt w' q v t :=
  (hT.block q h.lt (hd.no_blk1 h ht).1 (hd.no_blk1 h ht).2).trans h
set_option maxRecDepth 100000 in
set_option maxHeartbeats 1000000 in
theorem add1_any (j p b N : Nat) (g : FS) (left : Int) (h1 : -1 ≤ left) (h2 : left ≤ 9223372036854775807) (hN : N < maxLen) (name data : ByteArray) (broken : Bool) (hx : name.size ≤ maxLen) (hsz : ((g name).getD noFile).1.size + data.size ≤ 1099511627776) (bj bv : Nat) (w : World) (hD : DiskAt w p b g left N) (hJ : JBlk w j p name broken) (hbj : VarAt w bj (.pointer (some ⟨j, 0, none⟩)) 27) (hbv : VarAt w bv (.string data) 9) :
    Calls Tryd.prog 20 #[.pointer (some ⟨bj, 0, none⟩), .pointer (some ⟨bv, 0, none⟩)] w fun e w' => e = .returned (.int .i64 (beginE false g left name [name])) ∧ DiskAt w' p b (appendG (beginE false g left name [name]) g name data) (leftE (beginE false g left name [name]) left) (N + 1) ∧ Turned w w' p b := by
  have hkf : ∀ W, Below w.heap.size w W → W.cell? ⟨bj, 0, none⟩ = some (.pointer (some ⟨j, 0, none⟩)) ∧ W.cell? ⟨bv, 0, none⟩ = some (.string data) ∧ W.cell? ⟨j, 0, none⟩ = some (.pointer (some ⟨p, 0, none⟩)) ∧ W.cell? ⟨j, 1, none⟩ = some (.string name) := fun W hb => ⟨(hbj.below hb).cell, (hbv.below hb).cell, (hJ.below hb).cells.1, (hJ.below hb).cells.2.1⟩
  have hkt : ∀ W W', Below w.heap.size w W → Turned W W' p b → W'.cell? ⟨bj, 0, none⟩ = some (.pointer (some ⟨j, 0, none⟩)) ∧ W'.cell? ⟨bv, 0, none⟩ = some (.string data) ∧ W'.cell? ⟨j, 0, none⟩ = some (.pointer (some ⟨p, 0, none⟩)) ∧ W'.cell? ⟨j, 1, none⟩ = some (.string name) := fun W W' hb ht => by
    have hd := hD.below hb
    have h := (hJ.below hb).turned hd ht
    exact ⟨((hbj.below hb).turned (by decide) hd ht).cell, ((hbv.below hb).turned (by decide) hd ht).cell, h.cells.1, h.cells.2.1⟩
  have hcall := fun (W : World) h => append_disk p b N g left h1 h2 hN name data hx hsz W h
  obtain ⟨code, hcode⟩ : ∃ code, code = beginE false g left name [name] := ⟨_, rfl⟩
  rw [← hcode] at hcall ⊢
  have KF := Lib.hid hkf
  have KT := Lib.hid hkt
  have HD := Lib.hid hD
  have HC := Lib.hid hcall
  obtain ⟨k0, k1, c0, c1⟩ := hkf w (Below.refl _ _)
  clear hkf hkt hD hcall hJ hcode hbj hbv
  go_enter Tryd.func20, Tryd.ntmps20
  go_upto_region 1 with (fail)
  go_region_held3 (fun W => W.cell? ⟨bj, 0, none⟩ = some (.pointer (some ⟨j, 0, none⟩)) ∧ W.cell? ⟨bv, 0, none⟩ = some (.string data) ∧ W.cell? ⟨j, 0, none⟩ = some (.pointer (some ⟨p, 0, none⟩)) ∧ W.cell? ⟨j, 1, none⟩ = some (.string name)) (first | exact KF.out _ (Below.refl _ _).drew | exact KT.out _ _ (Below.refl _ _).drew T2.out) ((first
    | (go_at_call 21; refine (HC.out _ (HD.out.below (Below.refl _ _).drew)).mono ?_; rintro e w2 ⟨rfl, hd2, ht2⟩; have D2 := Lib.hid hd2; have T2 := Lib.hid ht2; clear hd2 ht2)))
  go_wp2
  go_ret
  exact ⟨rfl, D2.out, (turned_of_below (Below.refl _ _).drew p b).trans T2.out⟩
set_option maxRecDepth 100000 in
set_option maxHeartbeats 1000000 in
theorem add2_any (j p b N : Nat) (g : FS) (left : Int) (h1 : -1 ≤ left) (h2 : left ≤ 9223372036854775807) (hN : N < maxLen) (name : ByteArray) (broken : Bool) (hx : name.size ≤ maxLen) (bj : Nat) (w : World) (hD : DiskAt w p b g left N) (hJ : JBlk w j p name broken) (hbj : VarAt w bj (.pointer (some ⟨j, 0, none⟩)) 27) :
    Calls Tryd.prog 22 #[.pointer (some ⟨bj, 0, none⟩)] w fun e w' => e = .returned (.int .i64 (beginE true g left name [name])) ∧ DiskAt w' p b (syncG (beginE true g left name [name]) g name) (leftE (beginE true g left name [name]) left) (N + 1) ∧ Turned w w' p b := by
  have hkf : ∀ W, Below w.heap.size w W → W.cell? ⟨bj, 0, none⟩ = some (.pointer (some ⟨j, 0, none⟩)) ∧ W.cell? ⟨j, 0, none⟩ = some (.pointer (some ⟨p, 0, none⟩)) ∧ W.cell? ⟨j, 1, none⟩ = some (.string name) := fun W hb => ⟨(hbj.below hb).cell, (hJ.below hb).cells.1, (hJ.below hb).cells.2.1⟩
  have hkt : ∀ W W', Below w.heap.size w W → Turned W W' p b → W'.cell? ⟨bj, 0, none⟩ = some (.pointer (some ⟨j, 0, none⟩)) ∧ W'.cell? ⟨j, 0, none⟩ = some (.pointer (some ⟨p, 0, none⟩)) ∧ W'.cell? ⟨j, 1, none⟩ = some (.string name) := fun W W' hb ht => by
    have hd := hD.below hb
    have h := (hJ.below hb).turned hd ht
    exact ⟨((hbj.below hb).turned (by decide) hd ht).cell, h.cells.1, h.cells.2.1⟩
  have hcall := fun (W : World) h => sync_disk p b N g left h1 h2 hN name hx W h
  obtain ⟨code, hcode⟩ : ∃ code, code = beginE true g left name [name] := ⟨_, rfl⟩
  rw [← hcode] at hcall ⊢
  have KF := Lib.hid hkf
  have KT := Lib.hid hkt
  have HD := Lib.hid hD
  have HC := Lib.hid hcall
  obtain ⟨k0, c0, c1⟩ := hkf w (Below.refl _ _)
  clear hkf hkt hD hcall hJ hcode hbj
  go_enter Tryd.func22, Tryd.ntmps22
  go_upto_region 1 with (fail)
  go_region_held3 (fun W => W.cell? ⟨bj, 0, none⟩ = some (.pointer (some ⟨j, 0, none⟩)) ∧ W.cell? ⟨j, 0, none⟩ = some (.pointer (some ⟨p, 0, none⟩)) ∧ W.cell? ⟨j, 1, none⟩ = some (.string name)) (first | exact KF.out _ (Below.refl _ _).drew | exact KT.out _ _ (Below.refl _ _).drew T2.out) ((first
    | (go_at_call 23; refine (HC.out _ (HD.out.below (Below.refl _ _).drew)).mono ?_; rintro e w2 ⟨rfl, hd2, ht2⟩; have D2 := Lib.hid hd2; have T2 := Lib.hid ht2; clear hd2 ht2)))
  go_wp2
  go_ret
  exact ⟨rfl, D2.out, (turned_of_below (Below.refl _ _).drew p b).trans T2.out⟩
set_option maxRecDepth 100000 in
set_option maxHeartbeats 1000000 in
theorem anew1_any (j p b N : Nat) (g : FS) (left : Int) (h1 : -1 ≤ left) (h2 : left ≤ 9223372036854775807) (hN : N < maxLen) (name other data : ByteArray) (broken : Bool) (hx : other.size ≤ maxLen) (hsz : ((g other).getD noFile).1.size + data.size ≤ 1099511627776) (bj bo bv : Nat) (w : World) (hD : DiskAt w p b g left N) (hJ : JBlk w j p name broken) (hbj : VarAt w bj (.pointer (some ⟨j, 0, none⟩)) 27) (hbo : VarAt w bo (.string other) 9) (hbv : VarAt w bv (.string data) 9) :
    Calls Tryd.prog 34 #[.pointer (some ⟨bj, 0, none⟩), .pointer (some ⟨bo, 0, none⟩), .pointer (some ⟨bv, 0, none⟩)] w fun e w' => e = .returned (.int .i64 (beginE false g left other [other])) ∧ DiskAt w' p b (appendG (beginE false g left other [other]) g other data) (leftE (beginE false g left other [other]) left) (N + 1) ∧ Turned w w' p b := by
  have hkf : ∀ W, Below w.heap.size w W → W.cell? ⟨bj, 0, none⟩ = some (.pointer (some ⟨j, 0, none⟩)) ∧ W.cell? ⟨bo, 0, none⟩ = some (.string other) ∧ W.cell? ⟨bv, 0, none⟩ = some (.string data) ∧ W.cell? ⟨j, 0, none⟩ = some (.pointer (some ⟨p, 0, none⟩)) ∧ W.cell? ⟨j, 1, none⟩ = some (.string name) := fun W hb => ⟨(hbj.below hb).cell, (hbo.below hb).cell, (hbv.below hb).cell, (hJ.below hb).cells.1, (hJ.below hb).cells.2.1⟩
  have hkt : ∀ W W', Below w.heap.size w W → Turned W W' p b → W'.cell? ⟨bj, 0, none⟩ = some (.pointer (some ⟨j, 0, none⟩)) ∧ W'.cell? ⟨bo, 0, none⟩ = some (.string other) ∧ W'.cell? ⟨bv, 0, none⟩ = some (.string data) ∧ W'.cell? ⟨j, 0, none⟩ = some (.pointer (some ⟨p, 0, none⟩)) ∧ W'.cell? ⟨j, 1, none⟩ = some (.string name) := fun W W' hb ht => by
    have hd := hD.below hb
    have h := (hJ.below hb).turned hd ht
    exact ⟨((hbj.below hb).turned (by decide) hd ht).cell, ((hbo.below hb).turned (by decide) hd ht).cell, ((hbv.below hb).turned (by decide) hd ht).cell, h.cells.1, h.cells.2.1⟩
  have hcall := fun (W : World) h => append_disk p b N g left h1 h2 hN other data hx hsz W h
  obtain ⟨code, hcode⟩ : ∃ code, code = beginE false g left other [other] := ⟨_, rfl⟩
  rw [← hcode] at hcall ⊢
  have KF := Lib.hid hkf
  have KT := Lib.hid hkt
  have HD := Lib.hid hD
  have HC := Lib.hid hcall
  obtain ⟨k0, k1, k2, c0, c1⟩ := hkf w (Below.refl _ _)
  clear hkf hkt hD hcall hJ hcode hbj hbo hbv
  go_enter Tryd.func34, Tryd.ntmps34
  go_upto_region 1 with (fail)
  go_region_held3 (fun W => W.cell? ⟨bj, 0, none⟩ = some (.pointer (some ⟨j, 0, none⟩)) ∧ W.cell? ⟨bo, 0, none⟩ = some (.string other) ∧ W.cell? ⟨bv, 0, none⟩ = some (.string data) ∧ W.cell? ⟨j, 0, none⟩ = some (.pointer (some ⟨p, 0, none⟩)) ∧ W.cell? ⟨j, 1, none⟩ = some (.string name)) (first | exact KF.out _ (Below.refl _ _).drew | exact KT.out _ _ (Below.refl _ _).drew T2.out) ((first
    | (go_at_call 21; refine (HC.out _ (HD.out.below (Below.refl _ _).drew)).mono ?_; rintro e w2 ⟨rfl, hd2, ht2⟩; have D2 := Lib.hid hd2; have T2 := Lib.hid ht2; clear hd2 ht2)))
  go_wp2
  go_ret
  exact ⟨rfl, D2.out, (turned_of_below (Below.refl _ _).drew p b).trans T2.out⟩
set_option maxRecDepth 100000 in
set_option maxHeartbeats 1000000 in
theorem anew2_any (j p b N : Nat) (g : FS) (left : Int) (h1 : -1 ≤ left) (h2 : left ≤ 9223372036854775807) (hN : N < maxLen) (name other : ByteArray) (broken : Bool) (hx : other.size ≤ maxLen) (bj bo : Nat) (w : World) (hD : DiskAt w p b g left N) (hJ : JBlk w j p name broken) (hbj : VarAt w bj (.pointer (some ⟨j, 0, none⟩)) 27) (hbo : VarAt w bo (.string other) 9) :
    Calls Tryd.prog 35 #[.pointer (some ⟨bj, 0, none⟩), .pointer (some ⟨bo, 0, none⟩)] w fun e w' => e = .returned (.int .i64 (beginE true g left other [other])) ∧ DiskAt w' p b (syncG (beginE true g left other [other]) g other) (leftE (beginE true g left other [other]) left) (N + 1) ∧ Turned w w' p b := by
  have hkf : ∀ W, Below w.heap.size w W → W.cell? ⟨bj, 0, none⟩ = some (.pointer (some ⟨j, 0, none⟩)) ∧ W.cell? ⟨bo, 0, none⟩ = some (.string other) ∧ W.cell? ⟨j, 0, none⟩ = some (.pointer (some ⟨p, 0, none⟩)) ∧ W.cell? ⟨j, 1, none⟩ = some (.string name) := fun W hb => ⟨(hbj.below hb).cell, (hbo.below hb).cell, (hJ.below hb).cells.1, (hJ.below hb).cells.2.1⟩
  have hkt : ∀ W W', Below w.heap.size w W → Turned W W' p b → W'.cell? ⟨bj, 0, none⟩ = some (.pointer (some ⟨j, 0, none⟩)) ∧ W'.cell? ⟨bo, 0, none⟩ = some (.string other) ∧ W'.cell? ⟨j, 0, none⟩ = some (.pointer (some ⟨p, 0, none⟩)) ∧ W'.cell? ⟨j, 1, none⟩ = some (.string name) := fun W W' hb ht => by
    have hd := hD.below hb
    have h := (hJ.below hb).turned hd ht
    exact ⟨((hbj.below hb).turned (by decide) hd ht).cell, ((hbo.below hb).turned (by decide) hd ht).cell, h.cells.1, h.cells.2.1⟩
  have hcall := fun (W : World) h => sync_disk p b N g left h1 h2 hN other hx W h
  obtain ⟨code, hcode⟩ : ∃ code, code = beginE true g left other [other] := ⟨_, rfl⟩
  rw [← hcode] at hcall ⊢
  have KF := Lib.hid hkf
  have KT := Lib.hid hkt
  have HD := Lib.hid hD
  have HC := Lib.hid hcall
  obtain ⟨k0, k1, c0, c1⟩ := hkf w (Below.refl _ _)
  clear hkf hkt hD hcall hJ hcode hbj hbo
  go_enter Tryd.func35, Tryd.ntmps35
  go_upto_region 1 with (fail)
  go_region_held3 (fun W => W.cell? ⟨bj, 0, none⟩ = some (.pointer (some ⟨j, 0, none⟩)) ∧ W.cell? ⟨bo, 0, none⟩ = some (.string other) ∧ W.cell? ⟨j, 0, none⟩ = some (.pointer (some ⟨p, 0, none⟩)) ∧ W.cell? ⟨j, 1, none⟩ = some (.string name)) (first | exact KF.out _ (Below.refl _ _).drew | exact KT.out _ _ (Below.refl _ _).drew T2.out) ((first
    | (go_at_call 23; refine (HC.out _ (HD.out.below (Below.refl _ _).drew)).mono ?_; rintro e w2 ⟨rfl, hd2, ht2⟩; have D2 := Lib.hid hd2; have T2 := Lib.hid ht2; clear hd2 ht2)))
  go_wp2
  go_ret
  exact ⟨rfl, D2.out, (turned_of_below (Below.refl _ _).drew p b).trans T2.out⟩
set_option maxRecDepth 100000 in
set_option maxHeartbeats 1000000 in
theorem anew3_any (j p b N : Nat) (g : FS) (left : Int) (h1 : -1 ≤ left) (h2 : left ≤ 9223372036854775807) (hN : N < maxLen) (name other : ByteArray) (broken : Bool) (hx : other.size ≤ maxLen) (hy : name.size ≤ maxLen) (bj bo : Nat) (w : World) (hD : DiskAt w p b g left N) (hJ : JBlk w j p name broken) (hbj : VarAt w bj (.pointer (some ⟨j, 0, none⟩)) 27) (hbo : VarAt w bo (.string other) 9) :
    Calls Tryd.prog 36 #[.pointer (some ⟨bj, 0, none⟩), .pointer (some ⟨bo, 0, none⟩)] w fun e w' => e = .returned (.int .i64 (beginE true g left other [other, name])) ∧ DiskAt w' p b (renameG (beginE true g left other [other, name]) g other name) (leftE (beginE true g left other [other, name]) left) (N + 1) ∧ Turned w w' p b := by
  have hkf : ∀ W, Below w.heap.size w W → W.cell? ⟨bj, 0, none⟩ = some (.pointer (some ⟨j, 0, none⟩)) ∧ W.cell? ⟨bo, 0, none⟩ = some (.string other) ∧ W.cell? ⟨j, 0, none⟩ = some (.pointer (some ⟨p, 0, none⟩)) ∧ W.cell? ⟨j, 1, none⟩ = some (.string name) := fun W hb => ⟨(hbj.below hb).cell, (hbo.below hb).cell, (hJ.below hb).cells.1, (hJ.below hb).cells.2.1⟩
  have hkt : ∀ W W', Below w.heap.size w W → Turned W W' p b → W'.cell? ⟨bj, 0, none⟩ = some (.pointer (some ⟨j, 0, none⟩)) ∧ W'.cell? ⟨bo, 0, none⟩ = some (.string other) ∧ W'.cell? ⟨j, 0, none⟩ = some (.pointer (some ⟨p, 0, none⟩)) ∧ W'.cell? ⟨j, 1, none⟩ = some (.string name) := fun W W' hb ht => by
    have hd := hD.below hb
    have h := (hJ.below hb).turned hd ht
    exact ⟨((hbj.below hb).turned (by decide) hd ht).cell, ((hbo.below hb).turned (by decide) hd ht).cell, h.cells.1, h.cells.2.1⟩
  have hcall := fun (W : World) h => rename_disk p b N g left h1 h2 hN other name hx hy W h
  obtain ⟨code, hcode⟩ : ∃ code, code = beginE true g left other [other, name] := ⟨_, rfl⟩
  rw [← hcode] at hcall ⊢
  have KF := Lib.hid hkf
  have KT := Lib.hid hkt
  have HD := Lib.hid hD
  have HC := Lib.hid hcall
  obtain ⟨k0, k1, c0, c1⟩ := hkf w (Below.refl _ _)
  clear hkf hkt hD hcall hJ hcode hbj hbo
  go_enter Tryd.func36, Tryd.ntmps36
  go_upto_region 1 with (fail)
  go_region_held3 (fun W => W.cell? ⟨bj, 0, none⟩ = some (.pointer (some ⟨j, 0, none⟩)) ∧ W.cell? ⟨bo, 0, none⟩ = some (.string other) ∧ W.cell? ⟨j, 0, none⟩ = some (.pointer (some ⟨p, 0, none⟩)) ∧ W.cell? ⟨j, 1, none⟩ = some (.string name)) (first | exact KF.out _ (Below.refl _ _).drew | exact KT.out _ _ (Below.refl _ _).drew T2.out) ((first
    | (go_at_call 37; refine (HC.out _ (HD.out.below (Below.refl _ _).drew)).mono ?_; rintro e w2 ⟨rfl, hd2, ht2⟩; have D2 := Lib.hid hd2; have T2 := Lib.hid ht2; clear hd2 ht2)))
  go_wp2
  go_ret
  exact ⟨rfl, D2.out, (turned_of_below (Below.refl _ _).drew p b).trans T2.out⟩
end Go.Proofs.YtpllcnpcplbobaaDoor
