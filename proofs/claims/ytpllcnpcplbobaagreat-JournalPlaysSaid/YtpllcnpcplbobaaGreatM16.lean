import Derived.Test.YtpllcnpcplbobaaGreatM12
import Derived.Deep.RegionHeld3
import Derived.Deep.DrawnRows
import Derived.Test.YtpllcnpcplbobaaGreatM07
import Derived.Test.YtpllcnpcplbobaaGreatM09
section
namespace Go.Proofs.YtpllcnpcplbobaaGreat
open Go.RowKit Go.Maps
set_option linter.unusedVariables false
attribute [local go_sem ↓] Go.wp_at_zero Go.wp_at_succ
/-! A journal over a disk: its own functions. -/
def sufx : ByteArray := ⟨#[46, 110, 101, 119]⟩
theorem memB_names {g : FS} {l : List ByteArray} (h : NamesOf g l) (x : ByteArray) : memB x l = (g x).isSome := by
  cases hm : memB x l with
  | true => exact ((h.all x).1 (memB_iff.1 hm)).symm
  | false =>
    cases hs : (g x).isSome with
    | false => rfl
    | true => rw [memB_iff.2 ((h.all x).2 hs)] at hm; cases hm
/-- A journal at j over the disk at p. -/
def JBlk (w : World) (j p : Nat) (name : ByteArray) (broken : Bool) : Prop := w.heap[j]? = some (.cells #[.pointer (some ⟨p, 0, none⟩), .string name, .bool broken] 64 (0, 0))
theorem JBlk.cells {w : World} {j p : Nat} {name : ByteArray} {broken : Bool} (h : JBlk w j p name broken) :
    w.cell? ⟨j, 0, none⟩ = some (.pointer (some ⟨p, 0, none⟩)) ∧ w.cell? ⟨j, 1, none⟩ = some (.string name) ∧ w.cell? ⟨j, 2, none⟩ = some (.bool broken) ∧ w.frozen? ⟨j, 2, none⟩ = false := by
  unfold JBlk at h
  exact ⟨by rw [cell_of_row _ _ _ _ _ _ h]; rfl, by rw [cell_of_row _ _ _ _ _ _ h]; rfl, by rw [cell_of_row _ _ _ _ _ _ h]; rfl, frozen_of_row _ _ _ _ _ h⟩
theorem JBlk.lt {w : World} {j p : Nat} {name : ByteArray} {broken : Bool} (h : JBlk w j p name broken) : j < w.heap.size := (Array.getElem?_eq_some_iff.1 h).1
theorem JBlk.below {w w' : World} {j p : Nat} {name : ByteArray} {broken : Bool} (h : JBlk w j p name broken) (hb : Below w.heap.size w w') : JBlk w' j p name broken := (hb.block j h.lt).trans h
theorem JBlk.apart {w : World} {j p p' b N : Nat} {name : ByteArray} {broken : Bool} {g : FS} {left : Int} (h : JBlk w j p name broken) (hd : DiskAt w p' b g left N) : j ≠ p' ∧ j ≠ b := by
  refine ⟨fun e => ?_, fun e => ?_⟩
  · subst e
    unfold JBlk at h
    rw [hd.cells] at h
    injection h with h
    injection h with _ h2
    exact absurd h2 (by decide)
  · subst e
    obtain ⟨D, ⟨es, clock, hb, _⟩, _⟩ := hd.files
    unfold JBlk at h
    rw [hb] at h
    cases h
theorem JBlk.turned {w w' : World} {j p p' b N : Nat} {name : ByteArray} {broken : Bool} {g : FS} {left : Int} (h : JBlk w j p name broken) (hd : DiskAt w p' b g left N) (ht : Turned w w' p' b) : JBlk w' j p name broken :=
  (ht.block j h.lt (h.apart hd).1 (h.apart hd).2).trans h
set_option maxRecDepth 100000 in
set_option maxHeartbeats 1000000 in
theorem there_any (j p b N : Nat) (g : FS) (left : Int) (hN : N ≤ 1099511627776) (name : ByteArray) (broken : Bool) (x : ByteArray) (w : World) (hD : DiskAt w p b g left N) (hJ : JBlk w j p name broken) :
    Calls Tryz.prog 26 #[.pointer (some ⟨j, 0, none⟩), .string x] w fun e w' => e = .returned (.bool (isB g x)) ∧ Below w.heap.size w w' := by
  obtain ⟨c0, c1, c2, _⟩ := hJ.cells
  have HD := Lib.hid hD
  clear hD hJ
  go_enter Tryz.func26, Tryz.ntmps26
  go_wp2_with (first | (go_at_call 42; refine (names_disk p b N g left hN _ HD.out).mono ?_; rintro e w1 ⟨v, l, rfl, hn, hl, hr, hb⟩; have NM := Lib.hid hn; have T1 := Lib.hid (textsAt_owned hr); obtain ⟨a1, c1, rfl, _⟩ := textsAt_owned hr; have B1 := Lib.hid hb; clear hn hr hb) | (go_at_call 50; refine (contains_any _ l (by omega) x _ T1.out).mono ?_; rintro e w2 ⟨rfl, rfl⟩; rw [memB_names NM.out]))
  go_ret
  exact ⟨rfl, B1.out⟩
/-! The file beside a journal's goes, if it is there. -/
def tidyE (g : FS) (left : Int) (x : ByteArray) : Int := if isB g x = true ∧ left = 0 then 18 else 0
def tidyG (g : FS) (left : Int) (x : ByteArray) : FS := if isB g x = true ∧ left ≠ 0 then g.del x else g
def tidyL (g : FS) (left : Int) (x : ByteArray) : Int := if isB g x = true then leftE 0 left else left
set_option maxRecDepth 100000 in
set_option maxHeartbeats 1000000 in
theorem tidy_any (j p b N : Nat) (g : FS) (left : Int) (h1 : -1 ≤ left) (h2 : left ≤ 9223372036854775807) (hN : N ≤ 1099511627776) (name : ByteArray) (hn : name.size ≤ 1099511627776) (broken : Bool) (w : World) (hD : DiskAt w p b g left N) (hJ : JBlk w j p name broken) :
    Calls Tryz.prog 25 #[.pointer (some ⟨j, 0, none⟩)] w fun e w' => e = .returned (.int .i64 (tidyE g left (name ++ sufx))) ∧ DiskAt w' p b (tidyG g left (name ++ sufx)) (tidyL g left (name ++ sufx)) N ∧ Turned w w' p b := by
  have hx4 : (name ++ sufx).size = name.size + 4 := by rw [ByteArray.size_append]; rfl
  have hth := there_any j p b N g left hN name broken (name ++ sufx) w hD hJ
  have hne : memB ⟨#[]⟩ [name ++ sufx] = false := by
    cases hm : memB ⟨#[]⟩ [name ++ sufx] with
    | false => rfl
    | true =>
      have := List.mem_singleton.1 (memB_iff.1 hm)
      rw [← this] at hx4
      exact absurd hx4 (by show ¬ (0 = name.size + 4); omega)
  obtain ⟨c0, c1, c2, _⟩ := hJ.cells
  have hkf : ∀ W, Below w.heap.size w W → W.cell? ⟨j, 0, none⟩ = some (.pointer (some ⟨p, 0, none⟩)) ∧ W.cell? ⟨j, 1, none⟩ = some (.string name) := fun W hb => ⟨(hJ.below hb).cells.1, (hJ.below hb).cells.2.1⟩
  have hkt : ∀ W W', Below w.heap.size w W → Turned W W' p b → W'.cell? ⟨j, 0, none⟩ = some (.pointer (some ⟨p, 0, none⟩)) ∧ W'.cell? ⟨j, 1, none⟩ = some (.string name) := fun W W' hb ht => by
    have h := (hJ.below hb).turned (hD.below hb) ht
    exact ⟨h.cells.1, h.cells.2.1⟩
  have KT := Lib.hid hkt
  clear hkt
  cases hib : isB g (name ++ sufx) with
  | false =>
    have e1 : tidyE g left (name ++ sufx) = 0 := by rw [tidyE, hib]; simp
    have e2 : tidyG g left (name ++ sufx) = g := by rw [tidyG, hib]; simp
    have e3 : tidyL g left (name ++ sufx) = left := by rw [tidyL, hib]; simp
    rw [e1, e2, e3]
    rw [hib] at hth
    unfold sufx at hth hx4
    have HTH := Lib.hid hth
    have HD := Lib.hid hD
    clear hth hD hJ hkf hib hne e1 e2 e3
    go_enter Tryz.func25, Tryz.ntmps25
    go_wp2_with (go_at_call 26; refine (HTH.out).mono ?_; rintro e w1 ⟨rfl, hb1⟩)
    go_ret
    exact ⟨rfl, HD.out.below hb1, turned_of_below hb1 p b⟩
  | true =>
    have hrm := fun (W : World) h => remove_disk p b N g left h1 h2 (name ++ sufx) (by simp only [maxLen]; omega) W h
    obtain ⟨code, hcode⟩ : ∃ code, code = tidyE g left (name ++ sufx) := ⟨_, rfl⟩
    have hc2 : beginE true g left (name ++ sufx) [name ++ sufx] = code := by
      rw [hcode, beginE, hne, hib, tidyE, hib]; simp
    have e2 : removeG code g (name ++ sufx) = tidyG g left (name ++ sufx) := by
      rw [hcode, removeG, tidyG, tidyE, hib]
      by_cases hz : left = 0 <;> simp [hz]
    have e3 : leftE code left = tidyL g left (name ++ sufx) := by
      rw [hcode, tidyL, tidyE, hib]
      by_cases hz : left = 0 <;> simp [hz, leftE]
    rw [hc2, e2, e3] at hrm
    rw [← hcode]
    rw [hib] at hth
    generalize tidyG g left (name ++ sufx) = G2, tidyL g left (name ++ sufx) = L2 at hrm ⊢
    unfold sufx at hth hx4 hrm
    have hcc : ∀ W, (Op.stringOp .add name ⟨#[46, 110, 101, 119]⟩).run Tryz.prog W = .ok (.string (name ++ ⟨#[46, 110, 101, 119]⟩)) W := fun W => run_string_add_sum W _ _ (by have : ((⟨#[46, 110, 101, 119]⟩ : ByteArray).size : Int) = 4 := rfl; omega)
    have HTH := Lib.hid hth
    have HD := Lib.hid hD
    have HRM := Lib.hid hrm
    have KF := Lib.hid hkf
    clear hth hD hJ hrm hkf hib hne hcode hc2 e2 e3
    go_enter Tryz.func25, Tryz.ntmps25
    go_upto_region 3 with (go_at_call 26; refine (HTH.out).mono ?_; rintro e w1 ⟨rfl, hb1⟩; obtain ⟨c0, c1⟩ := KF.out w1 hb1; have B1 := Lib.hid hb1; clear hb1)
    go_region_held3 (fun W => W.cell? ⟨j, 0, none⟩ = some (.pointer (some ⟨p, 0, none⟩)) ∧ W.cell? ⟨j, 1, none⟩ = some (.string name)) (first | exact KF.out _ B1.out.drew | exact KT.out _ _ B1.out.drew T2.out) ((first
      | (go_at_call 49; refine (HRM.out _ (HD.out.below B1.out.drew)).mono ?_; rintro e w2 ⟨rfl, hd2, ht2⟩; have D2 := Lib.hid hd2; have T2 := Lib.hid ht2; clear hd2 ht2)))
    go_wp2
    go_ret
    exact ⟨rfl, D2.out, (turned_of_below B1.out.drew p b).trans T2.out⟩
end Go.Proofs.YtpllcnpcplbobaaGreat
end
section
namespace Go.Proofs.YtpllcnpcplbobaaGreat
open Go.RowKit Go.Maps
set_option linter.unusedVariables false
attribute [local go_sem ↓] Go.wp_at_zero Go.wp_at_succ
theorem DiskAt.no_blk1 {w : World} {p b N q : Nat} {g : FS} {left : Int} {cs : Array Value} {t : TypeId} (h : DiskAt w p b g left N) (hq : w.heap[q]? = some (.cells cs t (0, 0))) (ht : t ≠ 62) : q ≠ p ∧ q ≠ b := by
  refine ⟨fun e => ?_, fun e => ?_⟩
  · subst e
    rw [h.cells] at hq
    injection hq with hq
    injection hq with _ h2
    exact ht h2.symm
  · subst e
    obtain ⟨D, ⟨es, clock, hb, _⟩, _⟩ := h.files
    rw [hb] at hq
    cases hq
/-- A variable of the call's own that a closure has. -/
def VarAt (w : World) (q : Nat) (v : Value) (t : TypeId) : Prop := w.heap[q]? = some (.cells #[v] t (0, 0))
theorem VarAt.cell {w : World} {q : Nat} {v : Value} {t : TypeId} (h : VarAt w q v t) : w.cell? ⟨q, 0, none⟩ = some v := by
  unfold VarAt at h
  rw [cell_of_row _ _ _ _ _ _ h]; rfl
theorem VarAt.lt {w : World} {q : Nat} {v : Value} {t : TypeId} (h : VarAt w q v t) : q < w.heap.size := (Array.getElem?_eq_some_iff.1 h).1
theorem VarAt.below {w w' : World} {q : Nat} {v : Value} {t : TypeId} (h : VarAt w q v t) (hb : Below w.heap.size w w') : VarAt w' q v t := (hb.block q h.lt).trans h
theorem VarAt.turned {w w' : World} {q p b N : Nat} {v : Value} {t : TypeId} {g : FS} {left : Int} (h : VarAt w q v t) (ht : t ≠ 62) (hd : DiskAt w p b g left N) (hT : Turned w w' p b) : VarAt w' q v t :=
  (hT.block q h.lt (hd.no_blk1 h ht).1 (hd.no_blk1 h ht).2).trans h
set_option maxRecDepth 100000 in
set_option maxHeartbeats 1000000 in
theorem add1_any (j p b N : Nat) (g : FS) (left : Int) (h1 : -1 ≤ left) (h2 : left ≤ 9223372036854775807) (hN : N < maxLen) (name data : ByteArray) (broken : Bool) (hx : name.size ≤ maxLen) (hsz : ((g name).getD noFile).1.size + data.size ≤ 1099511627776) (bj bv : Nat) (w : World) (hD : DiskAt w p b g left N) (hJ : JBlk w j p name broken) (hbj : VarAt w bj (.pointer (some ⟨j, 0, none⟩)) 27) (hbv : VarAt w bv (.string data) 9) :
    Calls Tryz.prog 34 #[.pointer (some ⟨bj, 0, none⟩), .pointer (some ⟨bv, 0, none⟩)] w fun e w' => e = .returned (.int .i64 (beginE false g left name [name])) ∧ DiskAt w' p b (appendG (beginE false g left name [name]) g name data) (leftE (beginE false g left name [name]) left) (N + 1) ∧ Turned w w' p b := by
  have hkf : ∀ W, Below w.heap.size w W → W.cell? ⟨bj, 0, none⟩ = some (.pointer (some ⟨j, 0, none⟩)) ∧ W.cell? ⟨bv, 0, none⟩ = some (.string data) ∧ W.cell? ⟨j, 0, none⟩ = some (.pointer (some ⟨p, 0, none⟩)) ∧ W.cell? ⟨j, 1, none⟩ = some (.string name) := fun W hb => ⟨(hbj.below hb).cell, (hbv.below hb).cell, (hJ.below hb).cells.1, (hJ.below hb).cells.2.1⟩
  have hkt : ∀ W W', Below w.heap.size w W → Turned W W' p b → W'.cell? ⟨bj, 0, none⟩ = some (.pointer (some ⟨j, 0, none⟩)) ∧ W'.cell? ⟨bv, 0, none⟩ = some (.string data) ∧ W'.cell? ⟨j, 0, none⟩ = some (.pointer (some ⟨p, 0, none⟩)) ∧ W'.cell? ⟨j, 1, none⟩ = some (.string name) := fun W W' hb ht => by
    have hd := hD.below hb
    have h := (hJ.below hb).turned hd ht
    exact ⟨((hbj.below hb).turned (by decide) hd ht).cell, ((hbv.below hb).turned (by decide) hd ht).cell, h.cells.1, h.cells.2.1⟩
  have hcall := fun (W : World) h => append_disk p b N g left h1 h2 hN name data hx hsz W h
  obtain ⟨code, hcode⟩ : ∃ code, code = beginE false g left name [name] := ⟨_, rfl⟩
  rw [← hcode] at hcall ⊢
  have KF := Lib.hid hkf
  have KT := Lib.hid hkt
  have HD := Lib.hid hD
  have HC := Lib.hid hcall
  obtain ⟨k0, k1, c0, c1⟩ := hkf w (Below.refl _ _)
  clear hkf hkt hD hcall hJ hcode hbj hbv
  go_enter Tryz.func34, Tryz.ntmps34
  go_upto_region 1 with (fail)
  go_region_held3 (fun W => W.cell? ⟨bj, 0, none⟩ = some (.pointer (some ⟨j, 0, none⟩)) ∧ W.cell? ⟨bv, 0, none⟩ = some (.string data) ∧ W.cell? ⟨j, 0, none⟩ = some (.pointer (some ⟨p, 0, none⟩)) ∧ W.cell? ⟨j, 1, none⟩ = some (.string name)) (first | exact KF.out _ (Below.refl _ _).drew | exact KT.out _ _ (Below.refl _ _).drew T2.out) ((first
    | (go_at_call 18; refine (HC.out _ (HD.out.below (Below.refl _ _).drew)).mono ?_; rintro e w2 ⟨rfl, hd2, ht2⟩; have D2 := Lib.hid hd2; have T2 := Lib.hid ht2; clear hd2 ht2)))
  go_wp2
  go_ret
  exact ⟨rfl, D2.out, (turned_of_below (Below.refl _ _).drew p b).trans T2.out⟩
set_option maxRecDepth 100000 in
set_option maxHeartbeats 1000000 in
theorem add2_any (j p b N : Nat) (g : FS) (left : Int) (h1 : -1 ≤ left) (h2 : left ≤ 9223372036854775807) (hN : N < maxLen) (name : ByteArray) (broken : Bool) (hx : name.size ≤ maxLen) (bj : Nat) (w : World) (hD : DiskAt w p b g left N) (hJ : JBlk w j p name broken) (hbj : VarAt w bj (.pointer (some ⟨j, 0, none⟩)) 27) :
    Calls Tryz.prog 35 #[.pointer (some ⟨bj, 0, none⟩)] w fun e w' => e = .returned (.int .i64 (beginE true g left name [name])) ∧ DiskAt w' p b (syncG (beginE true g left name [name]) g name) (leftE (beginE true g left name [name]) left) (N + 1) ∧ Turned w w' p b := by
  have hkf : ∀ W, Below w.heap.size w W → W.cell? ⟨bj, 0, none⟩ = some (.pointer (some ⟨j, 0, none⟩)) ∧ W.cell? ⟨j, 0, none⟩ = some (.pointer (some ⟨p, 0, none⟩)) ∧ W.cell? ⟨j, 1, none⟩ = some (.string name) := fun W hb => ⟨(hbj.below hb).cell, (hJ.below hb).cells.1, (hJ.below hb).cells.2.1⟩
  have hkt : ∀ W W', Below w.heap.size w W → Turned W W' p b → W'.cell? ⟨bj, 0, none⟩ = some (.pointer (some ⟨j, 0, none⟩)) ∧ W'.cell? ⟨j, 0, none⟩ = some (.pointer (some ⟨p, 0, none⟩)) ∧ W'.cell? ⟨j, 1, none⟩ = some (.string name) := fun W W' hb ht => by
    have hd := hD.below hb
    have h := (hJ.below hb).turned hd ht
    exact ⟨((hbj.below hb).turned (by decide) hd ht).cell, h.cells.1, h.cells.2.1⟩
  have hcall := fun (W : World) h => sync_disk p b N g left h1 h2 hN name hx W h
  obtain ⟨code, hcode⟩ : ∃ code, code = beginE true g left name [name] := ⟨_, rfl⟩
  rw [← hcode] at hcall ⊢
  have KF := Lib.hid hkf
  have KT := Lib.hid hkt
  have HD := Lib.hid hD
  have HC := Lib.hid hcall
  obtain ⟨k0, c0, c1⟩ := hkf w (Below.refl _ _)
  clear hkf hkt hD hcall hJ hcode hbj
  go_enter Tryz.func35, Tryz.ntmps35
  go_upto_region 1 with (fail)
  go_region_held3 (fun W => W.cell? ⟨bj, 0, none⟩ = some (.pointer (some ⟨j, 0, none⟩)) ∧ W.cell? ⟨j, 0, none⟩ = some (.pointer (some ⟨p, 0, none⟩)) ∧ W.cell? ⟨j, 1, none⟩ = some (.string name)) (first | exact KF.out _ (Below.refl _ _).drew | exact KT.out _ _ (Below.refl _ _).drew T2.out) ((first
    | (go_at_call 36; refine (HC.out _ (HD.out.below (Below.refl _ _).drew)).mono ?_; rintro e w2 ⟨rfl, hd2, ht2⟩; have D2 := Lib.hid hd2; have T2 := Lib.hid ht2; clear hd2 ht2)))
  go_wp2
  go_ret
  exact ⟨rfl, D2.out, (turned_of_below (Below.refl _ _).drew p b).trans T2.out⟩
set_option maxRecDepth 100000 in
set_option maxHeartbeats 1000000 in
theorem anew1_any (j p b N : Nat) (g : FS) (left : Int) (h1 : -1 ≤ left) (h2 : left ≤ 9223372036854775807) (hN : N < maxLen) (name other data : ByteArray) (broken : Bool) (hx : other.size ≤ maxLen) (hsz : ((g other).getD noFile).1.size + data.size ≤ 1099511627776) (bj bo bv : Nat) (w : World) (hD : DiskAt w p b g left N) (hJ : JBlk w j p name broken) (hbj : VarAt w bj (.pointer (some ⟨j, 0, none⟩)) 27) (hbo : VarAt w bo (.string other) 9) (hbv : VarAt w bv (.string data) 9) :
    Calls Tryz.prog 52 #[.pointer (some ⟨bj, 0, none⟩), .pointer (some ⟨bo, 0, none⟩), .pointer (some ⟨bv, 0, none⟩)] w fun e w' => e = .returned (.int .i64 (beginE false g left other [other])) ∧ DiskAt w' p b (appendG (beginE false g left other [other]) g other data) (leftE (beginE false g left other [other]) left) (N + 1) ∧ Turned w w' p b := by
  have hkf : ∀ W, Below w.heap.size w W → W.cell? ⟨bj, 0, none⟩ = some (.pointer (some ⟨j, 0, none⟩)) ∧ W.cell? ⟨bo, 0, none⟩ = some (.string other) ∧ W.cell? ⟨bv, 0, none⟩ = some (.string data) ∧ W.cell? ⟨j, 0, none⟩ = some (.pointer (some ⟨p, 0, none⟩)) ∧ W.cell? ⟨j, 1, none⟩ = some (.string name) := fun W hb => ⟨(hbj.below hb).cell, (hbo.below hb).cell, (hbv.below hb).cell, (hJ.below hb).cells.1, (hJ.below hb).cells.2.1⟩
  have hkt : ∀ W W', Below w.heap.size w W → Turned W W' p b → W'.cell? ⟨bj, 0, none⟩ = some (.pointer (some ⟨j, 0, none⟩)) ∧ W'.cell? ⟨bo, 0, none⟩ = some (.string other) ∧ W'.cell? ⟨bv, 0, none⟩ = some (.string data) ∧ W'.cell? ⟨j, 0, none⟩ = some (.pointer (some ⟨p, 0, none⟩)) ∧ W'.cell? ⟨j, 1, none⟩ = some (.string name) := fun W W' hb ht => by
    have hd := hD.below hb
    have h := (hJ.below hb).turned hd ht
    exact ⟨((hbj.below hb).turned (by decide) hd ht).cell, ((hbo.below hb).turned (by decide) hd ht).cell, ((hbv.below hb).turned (by decide) hd ht).cell, h.cells.1, h.cells.2.1⟩
  have hcall := fun (W : World) h => append_disk p b N g left h1 h2 hN other data hx hsz W h
  obtain ⟨code, hcode⟩ : ∃ code, code = beginE false g left other [other] := ⟨_, rfl⟩
  rw [← hcode] at hcall ⊢
  have KF := Lib.hid hkf
  have KT := Lib.hid hkt
  have HD := Lib.hid hD
  have HC := Lib.hid hcall
  obtain ⟨k0, k1, k2, c0, c1⟩ := hkf w (Below.refl _ _)
  clear hkf hkt hD hcall hJ hcode hbj hbo hbv
  go_enter Tryz.func52, Tryz.ntmps52
  go_upto_region 1 with (fail)
  go_region_held3 (fun W => W.cell? ⟨bj, 0, none⟩ = some (.pointer (some ⟨j, 0, none⟩)) ∧ W.cell? ⟨bo, 0, none⟩ = some (.string other) ∧ W.cell? ⟨bv, 0, none⟩ = some (.string data) ∧ W.cell? ⟨j, 0, none⟩ = some (.pointer (some ⟨p, 0, none⟩)) ∧ W.cell? ⟨j, 1, none⟩ = some (.string name)) (first | exact KF.out _ (Below.refl _ _).drew | exact KT.out _ _ (Below.refl _ _).drew T2.out) ((first
    | (go_at_call 18; refine (HC.out _ (HD.out.below (Below.refl _ _).drew)).mono ?_; rintro e w2 ⟨rfl, hd2, ht2⟩; have D2 := Lib.hid hd2; have T2 := Lib.hid ht2; clear hd2 ht2)))
  go_wp2
  go_ret
  exact ⟨rfl, D2.out, (turned_of_below (Below.refl _ _).drew p b).trans T2.out⟩
set_option maxRecDepth 100000 in
set_option maxHeartbeats 1000000 in
theorem anew2_any (j p b N : Nat) (g : FS) (left : Int) (h1 : -1 ≤ left) (h2 : left ≤ 9223372036854775807) (hN : N < maxLen) (name other : ByteArray) (broken : Bool) (hx : other.size ≤ maxLen) (bj bo : Nat) (w : World) (hD : DiskAt w p b g left N) (hJ : JBlk w j p name broken) (hbj : VarAt w bj (.pointer (some ⟨j, 0, none⟩)) 27) (hbo : VarAt w bo (.string other) 9) :
    Calls Tryz.prog 53 #[.pointer (some ⟨bj, 0, none⟩), .pointer (some ⟨bo, 0, none⟩)] w fun e w' => e = .returned (.int .i64 (beginE true g left other [other])) ∧ DiskAt w' p b (syncG (beginE true g left other [other]) g other) (leftE (beginE true g left other [other]) left) (N + 1) ∧ Turned w w' p b := by
  have hkf : ∀ W, Below w.heap.size w W → W.cell? ⟨bj, 0, none⟩ = some (.pointer (some ⟨j, 0, none⟩)) ∧ W.cell? ⟨bo, 0, none⟩ = some (.string other) ∧ W.cell? ⟨j, 0, none⟩ = some (.pointer (some ⟨p, 0, none⟩)) ∧ W.cell? ⟨j, 1, none⟩ = some (.string name) := fun W hb => ⟨(hbj.below hb).cell, (hbo.below hb).cell, (hJ.below hb).cells.1, (hJ.below hb).cells.2.1⟩
  have hkt : ∀ W W', Below w.heap.size w W → Turned W W' p b → W'.cell? ⟨bj, 0, none⟩ = some (.pointer (some ⟨j, 0, none⟩)) ∧ W'.cell? ⟨bo, 0, none⟩ = some (.string other) ∧ W'.cell? ⟨j, 0, none⟩ = some (.pointer (some ⟨p, 0, none⟩)) ∧ W'.cell? ⟨j, 1, none⟩ = some (.string name) := fun W W' hb ht => by
    have hd := hD.below hb
    have h := (hJ.below hb).turned hd ht
    exact ⟨((hbj.below hb).turned (by decide) hd ht).cell, ((hbo.below hb).turned (by decide) hd ht).cell, h.cells.1, h.cells.2.1⟩
  have hcall := fun (W : World) h => sync_disk p b N g left h1 h2 hN other hx W h
  obtain ⟨code, hcode⟩ : ∃ code, code = beginE true g left other [other] := ⟨_, rfl⟩
  rw [← hcode] at hcall ⊢
  have KF := Lib.hid hkf
  have KT := Lib.hid hkt
  have HD := Lib.hid hD
  have HC := Lib.hid hcall
  obtain ⟨k0, k1, c0, c1⟩ := hkf w (Below.refl _ _)
  clear hkf hkt hD hcall hJ hcode hbj hbo
  go_enter Tryz.func53, Tryz.ntmps53
  go_upto_region 1 with (fail)
  go_region_held3 (fun W => W.cell? ⟨bj, 0, none⟩ = some (.pointer (some ⟨j, 0, none⟩)) ∧ W.cell? ⟨bo, 0, none⟩ = some (.string other) ∧ W.cell? ⟨j, 0, none⟩ = some (.pointer (some ⟨p, 0, none⟩)) ∧ W.cell? ⟨j, 1, none⟩ = some (.string name)) (first | exact KF.out _ (Below.refl _ _).drew | exact KT.out _ _ (Below.refl _ _).drew T2.out) ((first
    | (go_at_call 36; refine (HC.out _ (HD.out.below (Below.refl _ _).drew)).mono ?_; rintro e w2 ⟨rfl, hd2, ht2⟩; have D2 := Lib.hid hd2; have T2 := Lib.hid ht2; clear hd2 ht2)))
  go_wp2
  go_ret
  exact ⟨rfl, D2.out, (turned_of_below (Below.refl _ _).drew p b).trans T2.out⟩
set_option maxRecDepth 100000 in
set_option maxHeartbeats 1000000 in
theorem anew3_any (j p b N : Nat) (g : FS) (left : Int) (h1 : -1 ≤ left) (h2 : left ≤ 9223372036854775807) (hN : N < maxLen) (name other : ByteArray) (broken : Bool) (hx : other.size ≤ maxLen) (hy : name.size ≤ maxLen) (bj bo : Nat) (w : World) (hD : DiskAt w p b g left N) (hJ : JBlk w j p name broken) (hbj : VarAt w bj (.pointer (some ⟨j, 0, none⟩)) 27) (hbo : VarAt w bo (.string other) 9) :
    Calls Tryz.prog 54 #[.pointer (some ⟨bj, 0, none⟩), .pointer (some ⟨bo, 0, none⟩)] w fun e w' => e = .returned (.int .i64 (beginE true g left other [other, name])) ∧ DiskAt w' p b (renameG (beginE true g left other [other, name]) g other name) (leftE (beginE true g left other [other, name]) left) (N + 1) ∧ Turned w w' p b := by
  have hkf : ∀ W, Below w.heap.size w W → W.cell? ⟨bj, 0, none⟩ = some (.pointer (some ⟨j, 0, none⟩)) ∧ W.cell? ⟨bo, 0, none⟩ = some (.string other) ∧ W.cell? ⟨j, 0, none⟩ = some (.pointer (some ⟨p, 0, none⟩)) ∧ W.cell? ⟨j, 1, none⟩ = some (.string name) := fun W hb => ⟨(hbj.below hb).cell, (hbo.below hb).cell, (hJ.below hb).cells.1, (hJ.below hb).cells.2.1⟩
  have hkt : ∀ W W', Below w.heap.size w W → Turned W W' p b → W'.cell? ⟨bj, 0, none⟩ = some (.pointer (some ⟨j, 0, none⟩)) ∧ W'.cell? ⟨bo, 0, none⟩ = some (.string other) ∧ W'.cell? ⟨j, 0, none⟩ = some (.pointer (some ⟨p, 0, none⟩)) ∧ W'.cell? ⟨j, 1, none⟩ = some (.string name) := fun W W' hb ht => by
    have hd := hD.below hb
    have h := (hJ.below hb).turned hd ht
    exact ⟨((hbj.below hb).turned (by decide) hd ht).cell, ((hbo.below hb).turned (by decide) hd ht).cell, h.cells.1, h.cells.2.1⟩
  have hcall := fun (W : World) h => rename_disk p b N g left h1 h2 hN other name hx hy W h
  obtain ⟨code, hcode⟩ : ∃ code, code = beginE true g left other [other, name] := ⟨_, rfl⟩
  rw [← hcode] at hcall ⊢
  have KF := Lib.hid hkf
  have KT := Lib.hid hkt
  have HD := Lib.hid hD
  have HC := Lib.hid hcall
  obtain ⟨k0, k1, c0, c1⟩ := hkf w (Below.refl _ _)
  clear hkf hkt hD hcall hJ hcode hbj hbo
  go_enter Tryz.func54, Tryz.ntmps54
  go_upto_region 1 with (fail)
  go_region_held3 (fun W => W.cell? ⟨bj, 0, none⟩ = some (.pointer (some ⟨j, 0, none⟩)) ∧ W.cell? ⟨bo, 0, none⟩ = some (.string other) ∧ W.cell? ⟨j, 0, none⟩ = some (.pointer (some ⟨p, 0, none⟩)) ∧ W.cell? ⟨j, 1, none⟩ = some (.string name)) (first | exact KF.out _ (Below.refl _ _).drew | exact KT.out _ _ (Below.refl _ _).drew T2.out) ((first
    | (go_at_call 55; refine (HC.out _ (HD.out.below (Below.refl _ _).drew)).mono ?_; rintro e w2 ⟨rfl, hd2, ht2⟩; have D2 := Lib.hid hd2; have T2 := Lib.hid ht2; clear hd2 ht2)))
  go_wp2
  go_ret
  exact ⟨rfl, D2.out, (turned_of_below (Below.refl _ _).drew p b).trans T2.out⟩
end Go.Proofs.YtpllcnpcplbobaaGreat
end
section
namespace Go.Proofs.YtpllcnpcplbobaaGreat
open Go.RowKit Go.Maps
set_option linter.unusedVariables false
/-- Nothing has turned but the disk's two blocks and the journal's. -/
structure Turned3 (w w' : World) (p b j : Nat) : Prop where
  os : w'.os = w.os
  tape : w'.tape = w.tape
  output : w'.output = w.output
  size : w.heap.size ≤ w'.heap.size
  block : ∀ k, k < w.heap.size → k ≠ p → k ≠ b → k ≠ j → w'.heap[k]? = w.heap[k]?
theorem Turned.to3 {w w' : World} {p b : Nat} (h : Turned w w' p b) (j : Nat) : Turned3 w w' p b j := ⟨h.os, h.tape, h.output, h.size, fun k hk hp hb _ => h.block k hk hp hb⟩
theorem Turned3.of_below {w w' : World} (h : Below w.heap.size w w') (p b j : Nat) : Turned3 w w' p b j := ⟨h.os, h.tape, h.output, h.size, fun k hk _ _ _ => h.block k hk⟩
theorem Turned3.trans {w w' w'' : World} {p b j : Nat} (h : Turned3 w w' p b j) (k : Turned3 w' w'' p b j) : Turned3 w w'' p b j :=
  ⟨k.os.trans h.os, k.tape.trans h.tape, k.output.trans h.output, Nat.le_trans h.size k.size, fun i hi hp hb hj => (k.block i (Nat.lt_of_lt_of_le hi h.size) hp hb hj).trans (h.block i hi hp hb hj)⟩
theorem Turned3.set {w w' : World} {p b j : Nat} (h : Turned3 w w' p b j) (i : Nat) (u : Value) : Turned3 w (w'.setCell ⟨j, i, none⟩ u) p b j :=
  ⟨h.os, h.tape, h.output, by simpa [World.setCell] using h.size, fun k hk hp hb hj => (heap_setCell_other _ _ _ _ (by show k ≠ j; exact hj)).trans (h.block k hk hp hb hj)⟩
theorem Turned3.below {w w' : World} {p b j B : Nat} (h : Turned3 w w' p b j) (hp : B ≤ p) (hb : B ≤ b) (hj : B ≤ j) (hB : B ≤ w.heap.size) : Below B w w' :=
  ⟨h.os, h.tape, h.output, h.size, fun k hk => h.block k (by omega) (by omega) (by omega) (by omega)⟩
theorem JBlk.broke {w : World} {j p : Nat} {name : ByteArray} {broken : Bool} (h : JBlk w j p name broken) : JBlk (w.setCell ⟨j, 2, none⟩ (.bool true)) j p name true :=
  heap_setCell_same w j 2 _ _ (.bool true) h
theorem DiskAt.jset {w : World} {j p b N : Nat} {g : FS} {left : Int} {name : ByteArray} {broken : Bool} (hd : DiskAt w p b g left N) (h : JBlk w j p name broken) (i : Nat) (u : Value) : DiskAt (w.setCell ⟨j, i, none⟩ u) p b g left N :=
  ⟨(heap_setCell_other _ _ _ _ (by show p ≠ j; exact fun e => (h.apart hd).1 e.symm)).trans hd.cells, hd.files.of_heap (heap_setCell_other _ _ _ _ (by show b ≠ j; exact fun e => (h.apart hd).2 e.symm))⟩
/-- The functions that 'does' is handed. -/
def FunsAt (w : World) (f : Nat) (cs : Array Value) : Prop := w.heap[f]? = some (.cells cs 66 (0, 0))
theorem FunsAt.lt {w : World} {f : Nat} {cs : Array Value} (h : FunsAt w f cs) : f < w.heap.size := (Array.getElem?_eq_some_iff.1 h).1
theorem FunsAt.below {w w' : World} {f : Nat} {cs : Array Value} (h : FunsAt w f cs) (hb : Below w.heap.size w w') : FunsAt w' f cs := (hb.block f h.lt).trans h
theorem FunsAt.turned {w w' : World} {f p b N : Nat} {cs : Array Value} {g : FS} {left : Int} (h : FunsAt w f cs) (hd : DiskAt w p b g left N) (hT : Turned w w' p b) : FunsAt w' f cs :=
  (hT.block f h.lt (hd.no_blk1 h (by decide)).1 (hd.no_blk1 h (by decide)).2).trans h
/-- What 'does' leaves of tidy. -/
def doesTOut (w : World) (j p b : Nat) (name : ByteArray) (N : Nat) (c0 : Int) (G0 : FS) (L0 : Int) (code : Int) (w' : World) : Prop :=
  ((c0 ≠ 0 ∧ code = c0 ∧ DiskAt w' p b G0 L0 (N + 1) ∧ JBlk w' j p name true) ∨ (c0 = 0 ∧ code = 0 ∧ DiskAt w' p b G0 L0 (N + 1) ∧ JBlk w' j p name false)) ∧ Turned3 w w' p b j
def doesTPost (w : World) (j p b : Nat) (name : ByteArray) (N : Nat) (c0 : Int) (G0 : FS) (L0 : Int) (e : Ending) (w' : World) : Prop := ∃ code, e = .returned (.int .i64 code) ∧ doesTOut w j p b name N c0 G0 L0 code w'
set_option maxRecDepth 100000 in
set_option maxHeartbeats 2000000 in
theorem doesT_any (j p b N : Nat) (g : FS) (left : Int) (h1 : -1 ≤ left) (h2 : left ≤ 9223372036854775807) (hN : N + 2 < maxLen) (name : ByteArray) (f : Nat) (w : World) (hD : DiskAt w p b g left N) (hJ : JBlk w j p name false) (hF : FunsAt w f #[.func (.func 25) #[.pointer (some ⟨j, 0, none⟩)] #[]]) 
    (c0 : Int) (G0 : FS) (L0 : Int) (hc0 : ∀ W, DiskAt W p b g left (N + 0) → JBlk W j p name false → Calls Tryz.prog 25 #[.pointer (some ⟨j, 0, none⟩)] W fun e w' => e = .returned (.int .i64 c0) ∧ DiskAt w' p b G0 L0 (N + 1) ∧ Turned W w' p b)
    : Calls Tryz.prog 24 #[.pointer (some ⟨j, 0, none⟩), .slice (some ⟨f, 0, none⟩) 1 1] w (doesTPost w j p b name N c0 G0 L0) := by
  have HD := Lib.hid hD
  have HJ := Lib.hid hJ
  have HF := Lib.hid hF
  have HC0 := Lib.hid hc0
  have hall : ∀ W, Turned w W p b → JBlk W j p name false ∧ FunsAt W f #[.func (.func 25) #[.pointer (some ⟨j, 0, none⟩)] #[]]  := fun W ht => ⟨hJ.turned hD ht, hF.turned hD ht⟩
  have HALL := Lib.hid hall
  clear hall hD hJ hF  hc0
  go_enter Tryz.func24, Tryz.ntmps24
  go_wp2_with fail
  go_loopw [10] (fun i wr => ∃ k : Nat, k ≤ 1 ∧ i = .int .i64 k ∧ (k = 0 → DiskAt wr p b g left N) ∧ (k = 1 → c0 = 0 ∧ DiskAt wr p b G0 L0 (N + 1)) ∧ Turned w wr p b) (fun i _ => 1 - (intOf i).toNat)
  case atStart => exact ⟨0, by omega, rfl, fun _ => HD.out, fun h => absurd h (by omega), turned_of_below (Below.refl _ _) p b⟩
  case round =>
    obtain ⟨k, hk, rfl, q0, q1, ht⟩ := hrel
    obtain ⟨hj, hf⟩ := HALL.out wr ht
    have HT := Lib.hid ht
    by_cases k0 : k = 0
    · subst k0
      have hd := q0 rfl
      have hcall := HC0.out wr  hd hj
      have hdc := hd
      have f0 : wr.cell? ⟨f, 0, none⟩ = some (.func (.func 25) #[.pointer (some ⟨j, 0, none⟩)] #[]) := by rw [cell_of_row _ _ _ _ _ _ hf]; rfl
      have HCALL := Lib.hid hcall
      have HDC := Lib.hid hdc
      have HJJ := Lib.hid hj
      clear hcall hdc hd hj hf ht q0 q1 
      by_cases hz : c0 = 0
      · have HZ := Lib.hid hz
        have hcall := HCALL.out
        rw [hz] at hcall
        have HCALL := Lib.hid hcall
        clear hz hcall
        go_wp2_with (go_at_call 25; refine (HCALL.out).mono ?_; rintro e w4 ⟨rfl, hd4, ht4⟩; have D4 := Lib.hid hd4; have T4 := Lib.hid ht4; clear hd4 ht4)
        go_roundw
        case measure => simp [intOf]
        case rel => exact ⟨1, by omega, by go_num, fun h => absurd h (by omega), fun _ => ⟨HZ.out, D4.out⟩, HT.out.trans T4.out⟩
      · have hzb : (c0 == 0) = false := by simpa using hz
        have HZ := Lib.hid hz
        clear hz
        go_wp2_with (go_at_call 25; refine (HCALL.out).mono ?_; rintro e w4 ⟨rfl, hd4, ht4⟩; have J4 := Lib.hid (HJJ.out.turned HDC.out ht4); obtain ⟨_, _, y2, y3⟩ := J4.out.cells; have D4 := Lib.hid hd4; have T4 := Lib.hid ht4; clear hd4 ht4)
        go_ret
        exact ⟨_, rfl, .inl ⟨HZ.out, rfl, (D4.out.jset J4.out _ _), J4.out.broke⟩, ((HT.out.trans T4.out).to3 j).set 2 _⟩
    · have hkn : k = 1 := by omega
      subst hkn
      obtain ⟨z0, hd⟩ := q1 rfl
      have Z0 := Lib.hid z0
      have HDC := Lib.hid hd
      have HJJ := Lib.hid hj
      clear hd hj hf ht q0 q1 z0
      go_wp2_with fail
      go_ret
      exact ⟨_, rfl, .inr (⟨Z0.out, rfl, HDC.out, HJJ.out⟩), HT.out.to3 j⟩
/-- What 'does' leaves of Add's two calls. -/
def doesAOut (w : World) (j p b : Nat) (name : ByteArray) (N : Nat) (c0 : Int) (G0 : FS) (L0 : Int) (c1 : Int) (G1 : FS) (L1 : Int) (code : Int) (w' : World) : Prop :=
  ((c0 ≠ 0 ∧ code = c0 ∧ DiskAt w' p b G0 L0 (N + 2) ∧ JBlk w' j p name true) ∨ (c0 = 0 ∧ c1 ≠ 0 ∧ code = c1 ∧ DiskAt w' p b G1 L1 (N + 2) ∧ JBlk w' j p name true) ∨ (c0 = 0 ∧ c1 = 0 ∧ code = 0 ∧ DiskAt w' p b G1 L1 (N + 2) ∧ JBlk w' j p name false)) ∧ Turned3 w w' p b j
def doesAPost (w : World) (j p b : Nat) (name : ByteArray) (N : Nat) (c0 : Int) (G0 : FS) (L0 : Int) (c1 : Int) (G1 : FS) (L1 : Int) (e : Ending) (w' : World) : Prop := ∃ code, e = .returned (.int .i64 code) ∧ doesAOut w j p b name N c0 G0 L0 c1 G1 L1 code w'
set_option maxRecDepth 100000 in
set_option maxHeartbeats 2000000 in
theorem doesA_any (j p b N : Nat) (g : FS) (left : Int) (h1 : -1 ≤ left) (h2 : left ≤ 9223372036854775807) (hN : N + 3 < maxLen) (name data : ByteArray) (f bj bv : Nat) (w : World) (hD : DiskAt w p b g left N) (hJ : JBlk w j p name false) (hF : FunsAt w f #[.func (.func 34) #[] #[.pointer (some ⟨bj, 0, none⟩), .pointer (some ⟨bv, 0, none⟩)], .func (.func 35) #[] #[.pointer (some ⟨bj, 0, none⟩)]]) (hbj : VarAt w bj (.pointer (some ⟨j, 0, none⟩)) 27) (hbv : VarAt w bv (.string data) 9)
    (c0 : Int) (G0 : FS) (L0 : Int) (hc0 : ∀ W, DiskAt W p b g left (N + 0) → JBlk W j p name false → VarAt W bj (.pointer (some ⟨j, 0, none⟩)) 27 → VarAt W bv (.string data) 9 → Calls Tryz.prog 34 #[.pointer (some ⟨bj, 0, none⟩), .pointer (some ⟨bv, 0, none⟩)] W fun e w' => e = .returned (.int .i64 c0) ∧ DiskAt w' p b G0 L0 (N + 1) ∧ Turned W w' p b)
    (c1 : Int) (G1 : FS) (L1 : Int) (hc1 : ∀ W, c0 = 0 → DiskAt W p b G0 L0 (N + 1) → JBlk W j p name false → VarAt W bj (.pointer (some ⟨j, 0, none⟩)) 27 → VarAt W bv (.string data) 9 → Calls Tryz.prog 35 #[.pointer (some ⟨bj, 0, none⟩)] W fun e w' => e = .returned (.int .i64 c1) ∧ DiskAt w' p b G1 L1 (N + 2) ∧ Turned W w' p b)
    : Calls Tryz.prog 24 #[.pointer (some ⟨j, 0, none⟩), .slice (some ⟨f, 0, none⟩) 2 2] w (doesAPost w j p b name N c0 G0 L0 c1 G1 L1) := by
  have HD := Lib.hid hD
  have HJ := Lib.hid hJ
  have HF := Lib.hid hF
  have Hbj := Lib.hid hbj
  have Hbv := Lib.hid hbv
  have HC0 := Lib.hid hc0
  have HC1 := Lib.hid hc1
  have hall : ∀ W, Turned w W p b → JBlk W j p name false ∧ FunsAt W f #[.func (.func 34) #[] #[.pointer (some ⟨bj, 0, none⟩), .pointer (some ⟨bv, 0, none⟩)], .func (.func 35) #[] #[.pointer (some ⟨bj, 0, none⟩)]] ∧ VarAt W bj (.pointer (some ⟨j, 0, none⟩)) 27 ∧ VarAt W bv (.string data) 9  := fun W ht => ⟨hJ.turned hD ht, hF.turned hD ht, hbj.turned (by decide) hD ht, hbv.turned (by decide) hD ht⟩
  have HALL := Lib.hid hall
  clear hall hD hJ hF hbj hbv hc0 hc1
  go_enter Tryz.func24, Tryz.ntmps24
  go_wp2_with fail
  go_loopw [10] (fun i wr => ∃ k : Nat, k ≤ 2 ∧ i = .int .i64 k ∧ (k = 0 → DiskAt wr p b g left N) ∧ (k = 1 → c0 = 0 ∧ DiskAt wr p b G0 L0 (N + 1)) ∧ (k = 2 → c0 = 0 ∧ c1 = 0 ∧ DiskAt wr p b G1 L1 (N + 2)) ∧ Turned w wr p b) (fun i _ => 2 - (intOf i).toNat)
  case atStart => exact ⟨0, by omega, rfl, fun _ => HD.out, fun h => absurd h (by omega), fun h => absurd h (by omega), turned_of_below (Below.refl _ _) p b⟩
  case round =>
    obtain ⟨k, hk, rfl, q0, q1, q2, ht⟩ := hrel
    obtain ⟨hj, hf, v0, v1⟩ := HALL.out wr ht
    have HT := Lib.hid ht
    by_cases k0 : k = 0
    · subst k0
      have hd := q0 rfl
      have hcall := HC0.out wr  hd hj v0 v1
      have hdc := hd
      have f0 : wr.cell? ⟨f, 0, none⟩ = some (.func (.func 34) #[] #[.pointer (some ⟨bj, 0, none⟩), .pointer (some ⟨bv, 0, none⟩)]) := by rw [cell_of_row _ _ _ _ _ _ hf]; rfl
      have HCALL := Lib.hid hcall
      have HDC := Lib.hid hdc
      have HJJ := Lib.hid hj
      clear hcall hdc hd hj hf ht q0 q1 q2 v0 v1 
      by_cases hz : c0 = 0
      · have HZ := Lib.hid hz
        have hcall := HCALL.out
        rw [hz] at hcall
        have HCALL := Lib.hid hcall
        clear hz hcall
        go_wp2_with (go_at_call 34; refine (HCALL.out).mono ?_; rintro e w4 ⟨rfl, hd4, ht4⟩; have D4 := Lib.hid hd4; have T4 := Lib.hid ht4; clear hd4 ht4)
        go_roundw
        case measure => simp [intOf]
        case rel => exact ⟨1, by omega, by go_num, fun h => absurd h (by omega), fun _ => ⟨HZ.out, D4.out⟩, fun h => absurd h (by omega), HT.out.trans T4.out⟩
      · have hzb : (c0 == 0) = false := by simpa using hz
        have HZ := Lib.hid hz
        clear hz
        go_wp2_with (go_at_call 34; refine (HCALL.out).mono ?_; rintro e w4 ⟨rfl, hd4, ht4⟩; have J4 := Lib.hid (HJJ.out.turned HDC.out ht4); obtain ⟨_, _, y2, y3⟩ := J4.out.cells; have D4 := Lib.hid hd4; have T4 := Lib.hid ht4; clear hd4 ht4)
        go_ret
        exact ⟨_, rfl, .inl ⟨HZ.out, rfl, ⟨(D4.out.jset J4.out _ _).cells, (D4.out.jset J4.out _ _).files.mono (by omega)⟩, J4.out.broke⟩, ((HT.out.trans T4.out).to3 j).set 2 _⟩
    by_cases k1 : k = 1
    · subst k1
      obtain ⟨z0, hd⟩ := q1 rfl
      have hcall := HC1.out wr z0 hd hj v0 v1
      have hdc := hd
      have f0 : wr.cell? ⟨f, 1, none⟩ = some (.func (.func 35) #[] #[.pointer (some ⟨bj, 0, none⟩)]) := by rw [cell_of_row _ _ _ _ _ _ hf]; rfl
      have HCALL := Lib.hid hcall
      have HDC := Lib.hid hdc
      have HJJ := Lib.hid hj
      have Z0 := Lib.hid z0
      clear hcall hdc hd hj hf ht q0 q1 q2 v0 v1 z0
      by_cases hz : c1 = 0
      · have HZ := Lib.hid hz
        have hcall := HCALL.out
        rw [hz] at hcall
        have HCALL := Lib.hid hcall
        clear hz hcall
        go_wp2_with (go_at_call 35; refine (HCALL.out).mono ?_; rintro e w4 ⟨rfl, hd4, ht4⟩; have D4 := Lib.hid hd4; have T4 := Lib.hid ht4; clear hd4 ht4)
        go_roundw
        case measure => simp [intOf]
        case rel => exact ⟨2, by omega, by go_num, fun h => absurd h (by omega), fun h => absurd h (by omega), fun _ => ⟨Z0.out, HZ.out, D4.out⟩, HT.out.trans T4.out⟩
      · have hzb : (c1 == 0) = false := by simpa using hz
        have HZ := Lib.hid hz
        clear hz
        go_wp2_with (go_at_call 35; refine (HCALL.out).mono ?_; rintro e w4 ⟨rfl, hd4, ht4⟩; have J4 := Lib.hid (HJJ.out.turned HDC.out ht4); obtain ⟨_, _, y2, y3⟩ := J4.out.cells; have D4 := Lib.hid hd4; have T4 := Lib.hid ht4; clear hd4 ht4)
        go_ret
        exact ⟨_, rfl, .inr (.inl ⟨Z0.out, HZ.out, rfl, (D4.out.jset J4.out _ _), J4.out.broke⟩), ((HT.out.trans T4.out).to3 j).set 2 _⟩
    · have hkn : k = 2 := by omega
      subst hkn
      obtain ⟨z0, z1, hd⟩ := q2 rfl
      have Z0 := Lib.hid z0
      have Z1 := Lib.hid z1
      have HDC := Lib.hid hd
      have HJJ := Lib.hid hj
      clear hd hj hf ht q0 q1 q2 v0 v1 z0 z1
      go_wp2_with fail
      go_ret
      exact ⟨_, rfl, .inr (.inr (⟨Z0.out, Z1.out, rfl, HDC.out, HJJ.out⟩)), HT.out.to3 j⟩
/-- What 'does' leaves of anew's three calls. -/
def doesNOut (w : World) (j p b : Nat) (name : ByteArray) (N : Nat) (c0 : Int) (G0 : FS) (L0 : Int) (c1 : Int) (G1 : FS) (L1 : Int) (c2 : Int) (G2 : FS) (L2 : Int) (code : Int) (w' : World) : Prop :=
  ((c0 ≠ 0 ∧ code = c0 ∧ DiskAt w' p b G0 L0 (N + 3) ∧ JBlk w' j p name true) ∨ (c0 = 0 ∧ c1 ≠ 0 ∧ code = c1 ∧ DiskAt w' p b G1 L1 (N + 3) ∧ JBlk w' j p name true) ∨ (c0 = 0 ∧ c1 = 0 ∧ c2 ≠ 0 ∧ code = c2 ∧ DiskAt w' p b G2 L2 (N + 3) ∧ JBlk w' j p name true) ∨ (c0 = 0 ∧ c1 = 0 ∧ c2 = 0 ∧ code = 0 ∧ DiskAt w' p b G2 L2 (N + 3) ∧ JBlk w' j p name false)) ∧ Turned3 w w' p b j
def doesNPost (w : World) (j p b : Nat) (name : ByteArray) (N : Nat) (c0 : Int) (G0 : FS) (L0 : Int) (c1 : Int) (G1 : FS) (L1 : Int) (c2 : Int) (G2 : FS) (L2 : Int) (e : Ending) (w' : World) : Prop := ∃ code, e = .returned (.int .i64 code) ∧ doesNOut w j p b name N c0 G0 L0 c1 G1 L1 c2 G2 L2 code w'
set_option maxRecDepth 100000 in
set_option maxHeartbeats 2000000 in
theorem doesN_any (j p b N : Nat) (g : FS) (left : Int) (h1 : -1 ≤ left) (h2 : left ≤ 9223372036854775807) (hN : N + 4 < maxLen) (name other data : ByteArray) (f bj bo bv : Nat) (w : World) (hD : DiskAt w p b g left N) (hJ : JBlk w j p name false) (hF : FunsAt w f #[.func (.func 52) #[] #[.pointer (some ⟨bj, 0, none⟩), .pointer (some ⟨bo, 0, none⟩), .pointer (some ⟨bv, 0, none⟩)], .func (.func 53) #[] #[.pointer (some ⟨bj, 0, none⟩), .pointer (some ⟨bo, 0, none⟩)], .func (.func 54) #[] #[.pointer (some ⟨bj, 0, none⟩), .pointer (some ⟨bo, 0, none⟩)]]) (hbj : VarAt w bj (.pointer (some ⟨j, 0, none⟩)) 27) (hbo : VarAt w bo (.string other) 9) (hbv : VarAt w bv (.string data) 9)
    (c0 : Int) (G0 : FS) (L0 : Int) (hc0 : ∀ W, DiskAt W p b g left (N + 0) → JBlk W j p name false → VarAt W bj (.pointer (some ⟨j, 0, none⟩)) 27 → VarAt W bo (.string other) 9 → VarAt W bv (.string data) 9 → Calls Tryz.prog 52 #[.pointer (some ⟨bj, 0, none⟩), .pointer (some ⟨bo, 0, none⟩), .pointer (some ⟨bv, 0, none⟩)] W fun e w' => e = .returned (.int .i64 c0) ∧ DiskAt w' p b G0 L0 (N + 1) ∧ Turned W w' p b)
    (c1 : Int) (G1 : FS) (L1 : Int) (hc1 : ∀ W, c0 = 0 → DiskAt W p b G0 L0 (N + 1) → JBlk W j p name false → VarAt W bj (.pointer (some ⟨j, 0, none⟩)) 27 → VarAt W bo (.string other) 9 → VarAt W bv (.string data) 9 → Calls Tryz.prog 53 #[.pointer (some ⟨bj, 0, none⟩), .pointer (some ⟨bo, 0, none⟩)] W fun e w' => e = .returned (.int .i64 c1) ∧ DiskAt w' p b G1 L1 (N + 2) ∧ Turned W w' p b)
    (c2 : Int) (G2 : FS) (L2 : Int) (hc2 : ∀ W, c0 = 0 → c1 = 0 → DiskAt W p b G1 L1 (N + 2) → JBlk W j p name false → VarAt W bj (.pointer (some ⟨j, 0, none⟩)) 27 → VarAt W bo (.string other) 9 → VarAt W bv (.string data) 9 → Calls Tryz.prog 54 #[.pointer (some ⟨bj, 0, none⟩), .pointer (some ⟨bo, 0, none⟩)] W fun e w' => e = .returned (.int .i64 c2) ∧ DiskAt w' p b G2 L2 (N + 3) ∧ Turned W w' p b)
    : Calls Tryz.prog 24 #[.pointer (some ⟨j, 0, none⟩), .slice (some ⟨f, 0, none⟩) 3 3] w (doesNPost w j p b name N c0 G0 L0 c1 G1 L1 c2 G2 L2) := by
  have HD := Lib.hid hD
  have HJ := Lib.hid hJ
  have HF := Lib.hid hF
  have Hbj := Lib.hid hbj
  have Hbo := Lib.hid hbo
  have Hbv := Lib.hid hbv
  have HC0 := Lib.hid hc0
  have HC1 := Lib.hid hc1
  have HC2 := Lib.hid hc2
  have hall : ∀ W, Turned w W p b → JBlk W j p name false ∧ FunsAt W f #[.func (.func 52) #[] #[.pointer (some ⟨bj, 0, none⟩), .pointer (some ⟨bo, 0, none⟩), .pointer (some ⟨bv, 0, none⟩)], .func (.func 53) #[] #[.pointer (some ⟨bj, 0, none⟩), .pointer (some ⟨bo, 0, none⟩)], .func (.func 54) #[] #[.pointer (some ⟨bj, 0, none⟩), .pointer (some ⟨bo, 0, none⟩)]] ∧ VarAt W bj (.pointer (some ⟨j, 0, none⟩)) 27 ∧ VarAt W bo (.string other) 9 ∧ VarAt W bv (.string data) 9  := fun W ht => ⟨hJ.turned hD ht, hF.turned hD ht, hbj.turned (by decide) hD ht, hbo.turned (by decide) hD ht, hbv.turned (by decide) hD ht⟩
  have HALL := Lib.hid hall
  clear hall hD hJ hF hbj hbo hbv hc0 hc1 hc2
  go_enter Tryz.func24, Tryz.ntmps24
  go_wp2_with fail
  go_loopw [10] (fun i wr => ∃ k : Nat, k ≤ 3 ∧ i = .int .i64 k ∧ (k = 0 → DiskAt wr p b g left N) ∧ (k = 1 → c0 = 0 ∧ DiskAt wr p b G0 L0 (N + 1)) ∧ (k = 2 → c0 = 0 ∧ c1 = 0 ∧ DiskAt wr p b G1 L1 (N + 2)) ∧ (k = 3 → c0 = 0 ∧ c1 = 0 ∧ c2 = 0 ∧ DiskAt wr p b G2 L2 (N + 3)) ∧ Turned w wr p b) (fun i _ => 3 - (intOf i).toNat)
  case atStart => exact ⟨0, by omega, rfl, fun _ => HD.out, fun h => absurd h (by omega), fun h => absurd h (by omega), fun h => absurd h (by omega), turned_of_below (Below.refl _ _) p b⟩
  case round =>
    obtain ⟨k, hk, rfl, q0, q1, q2, q3, ht⟩ := hrel
    obtain ⟨hj, hf, v0, v1, v2⟩ := HALL.out wr ht
    have HT := Lib.hid ht
    by_cases k0 : k = 0
    · subst k0
      have hd := q0 rfl
      have hcall := HC0.out wr  hd hj v0 v1 v2
      have hdc := hd
      have f0 : wr.cell? ⟨f, 0, none⟩ = some (.func (.func 52) #[] #[.pointer (some ⟨bj, 0, none⟩), .pointer (some ⟨bo, 0, none⟩), .pointer (some ⟨bv, 0, none⟩)]) := by rw [cell_of_row _ _ _ _ _ _ hf]; rfl
      have HCALL := Lib.hid hcall
      have HDC := Lib.hid hdc
      have HJJ := Lib.hid hj
      clear hcall hdc hd hj hf ht q0 q1 q2 q3 v0 v1 v2 
      by_cases hz : c0 = 0
      · have HZ := Lib.hid hz
        have hcall := HCALL.out
        rw [hz] at hcall
        have HCALL := Lib.hid hcall
        clear hz hcall
        go_wp2_with (go_at_call 52; refine (HCALL.out).mono ?_; rintro e w4 ⟨rfl, hd4, ht4⟩; have D4 := Lib.hid hd4; have T4 := Lib.hid ht4; clear hd4 ht4)
        go_roundw
        case measure => simp [intOf]
        case rel => exact ⟨1, by omega, by go_num, fun h => absurd h (by omega), fun _ => ⟨HZ.out, D4.out⟩, fun h => absurd h (by omega), fun h => absurd h (by omega), HT.out.trans T4.out⟩
      · have hzb : (c0 == 0) = false := by simpa using hz
        have HZ := Lib.hid hz
        clear hz
        go_wp2_with (go_at_call 52; refine (HCALL.out).mono ?_; rintro e w4 ⟨rfl, hd4, ht4⟩; have J4 := Lib.hid (HJJ.out.turned HDC.out ht4); obtain ⟨_, _, y2, y3⟩ := J4.out.cells; have D4 := Lib.hid hd4; have T4 := Lib.hid ht4; clear hd4 ht4)
        go_ret
        exact ⟨_, rfl, .inl ⟨HZ.out, rfl, ⟨(D4.out.jset J4.out _ _).cells, (D4.out.jset J4.out _ _).files.mono (by omega)⟩, J4.out.broke⟩, ((HT.out.trans T4.out).to3 j).set 2 _⟩
    by_cases k1 : k = 1
    · subst k1
      obtain ⟨z0, hd⟩ := q1 rfl
      have hcall := HC1.out wr z0 hd hj v0 v1 v2
      have hdc := hd
      have f0 : wr.cell? ⟨f, 1, none⟩ = some (.func (.func 53) #[] #[.pointer (some ⟨bj, 0, none⟩), .pointer (some ⟨bo, 0, none⟩)]) := by rw [cell_of_row _ _ _ _ _ _ hf]; rfl
      have HCALL := Lib.hid hcall
      have HDC := Lib.hid hdc
      have HJJ := Lib.hid hj
      have Z0 := Lib.hid z0
      clear hcall hdc hd hj hf ht q0 q1 q2 q3 v0 v1 v2 z0
      by_cases hz : c1 = 0
      · have HZ := Lib.hid hz
        have hcall := HCALL.out
        rw [hz] at hcall
        have HCALL := Lib.hid hcall
        clear hz hcall
        go_wp2_with (go_at_call 53; refine (HCALL.out).mono ?_; rintro e w4 ⟨rfl, hd4, ht4⟩; have D4 := Lib.hid hd4; have T4 := Lib.hid ht4; clear hd4 ht4)
        go_roundw
        case measure => simp [intOf]
        case rel => exact ⟨2, by omega, by go_num, fun h => absurd h (by omega), fun h => absurd h (by omega), fun _ => ⟨Z0.out, HZ.out, D4.out⟩, fun h => absurd h (by omega), HT.out.trans T4.out⟩
      · have hzb : (c1 == 0) = false := by simpa using hz
        have HZ := Lib.hid hz
        clear hz
        go_wp2_with (go_at_call 53; refine (HCALL.out).mono ?_; rintro e w4 ⟨rfl, hd4, ht4⟩; have J4 := Lib.hid (HJJ.out.turned HDC.out ht4); obtain ⟨_, _, y2, y3⟩ := J4.out.cells; have D4 := Lib.hid hd4; have T4 := Lib.hid ht4; clear hd4 ht4)
        go_ret
        exact ⟨_, rfl, .inr (.inl ⟨Z0.out, HZ.out, rfl, ⟨(D4.out.jset J4.out _ _).cells, (D4.out.jset J4.out _ _).files.mono (by omega)⟩, J4.out.broke⟩), ((HT.out.trans T4.out).to3 j).set 2 _⟩
    by_cases k2 : k = 2
    · subst k2
      obtain ⟨z0, z1, hd⟩ := q2 rfl
      have hcall := HC2.out wr z0 z1 hd hj v0 v1 v2
      have hdc := hd
      have f0 : wr.cell? ⟨f, 2, none⟩ = some (.func (.func 54) #[] #[.pointer (some ⟨bj, 0, none⟩), .pointer (some ⟨bo, 0, none⟩)]) := by rw [cell_of_row _ _ _ _ _ _ hf]; rfl
      have HCALL := Lib.hid hcall
      have HDC := Lib.hid hdc
      have HJJ := Lib.hid hj
      have Z0 := Lib.hid z0
      have Z1 := Lib.hid z1
      clear hcall hdc hd hj hf ht q0 q1 q2 q3 v0 v1 v2 z0 z1
      by_cases hz : c2 = 0
      · have HZ := Lib.hid hz
        have hcall := HCALL.out
        rw [hz] at hcall
        have HCALL := Lib.hid hcall
        clear hz hcall
        go_wp2_with (go_at_call 54; refine (HCALL.out).mono ?_; rintro e w4 ⟨rfl, hd4, ht4⟩; have D4 := Lib.hid hd4; have T4 := Lib.hid ht4; clear hd4 ht4)
        go_roundw
        case measure => simp [intOf]
        case rel => exact ⟨3, by omega, by go_num, fun h => absurd h (by omega), fun h => absurd h (by omega), fun h => absurd h (by omega), fun _ => ⟨Z0.out, Z1.out, HZ.out, D4.out⟩, HT.out.trans T4.out⟩
      · have hzb : (c2 == 0) = false := by simpa using hz
        have HZ := Lib.hid hz
        clear hz
        go_wp2_with (go_at_call 54; refine (HCALL.out).mono ?_; rintro e w4 ⟨rfl, hd4, ht4⟩; have J4 := Lib.hid (HJJ.out.turned HDC.out ht4); obtain ⟨_, _, y2, y3⟩ := J4.out.cells; have D4 := Lib.hid hd4; have T4 := Lib.hid ht4; clear hd4 ht4)
        go_ret
        exact ⟨_, rfl, .inr (.inr (.inl ⟨Z0.out, Z1.out, HZ.out, rfl, (D4.out.jset J4.out _ _), J4.out.broke⟩)), ((HT.out.trans T4.out).to3 j).set 2 _⟩
    · have hkn : k = 3 := by omega
      subst hkn
      obtain ⟨z0, z1, z2, hd⟩ := q3 rfl
      have Z0 := Lib.hid z0
      have Z1 := Lib.hid z1
      have Z2 := Lib.hid z2
      have HDC := Lib.hid hd
      have HJJ := Lib.hid hj
      clear hd hj hf ht q0 q1 q2 q3 v0 v1 v2 z0 z1 z2
      go_wp2_with fail
      go_ret
      exact ⟨_, rfl, .inr (.inr (.inr (⟨Z0.out, Z1.out, Z2.out, rfl, HDC.out, HJJ.out⟩))), HT.out.to3 j⟩
end Go.Proofs.YtpllcnpcplbobaaGreat
end
section
namespace Go.Proofs.YtpllcnpcplbobaaGreat
open Go.RowKit Go.Maps
set_option linter.unusedVariables false
theorem leftE_low {c left : Int} (h : -1 ≤ left) : -1 ≤ leftE c left := by unfold leftE; split <;> omega
theorem leftE_high {c left : Int} (h : left ≤ 9223372036854775807) : leftE c left ≤ 9223372036854775807 := by unfold leftE; split <;> omega
theorem isSome_put (g : FS) (x : ByteArray) (f : ByteArray × Int) : ((g.put x f) x) = some f := by simp [FS.put]
theorem below_four (w : World) (o0 o1 o2 o3 : Obj) : Below w.heap.size w ((((w.alloc o0).alloc o1).alloc o2).alloc o3) :=
  ((((Below.refl _ _).alloc (Nat.le_refl _) _).alloc (by simp) _).alloc (by simp; omega) _).alloc (by simp; omega) _
theorem below_two (w : World) (o0 o1 : Obj) : Below w.heap.size w ((w.alloc o0).alloc o1) := ((Below.refl _ _).alloc (Nat.le_refl _) _).alloc (by simp) _
theorem at_two0 (w : World) (o0 o1 : Obj) : ((w.alloc o0).alloc o1).heap[w.heap.size]? = some o0 := (heap_alloc_old _ _ (by simp)).trans (heap_alloc_new w _)
theorem at_two1 (w : World) (o0 o1 : Obj) : ((w.alloc o0).alloc o1).heap[w.heap.size + 1]? = some o1 := by
  have h := heap_alloc_new (w.alloc o0) o1
  simpa using h
theorem at_four0 (w : World) (o0 o1 o2 o3 : Obj) : ((((w.alloc o0).alloc o1).alloc o2).alloc o3).heap[w.heap.size]? = some o0 :=
  (heap_alloc_old _ _ (by simp; try omega)).trans ((heap_alloc_old _ _ (by simp; try omega)).trans ((heap_alloc_old _ _ (by simp)).trans (heap_alloc_new w _)))
theorem at_four1 (w : World) (o0 o1 o2 o3 : Obj) : ((((w.alloc o0).alloc o1).alloc o2).alloc o3).heap[w.heap.size + 1]? = some o1 :=
  (heap_alloc_old _ _ (by simp; try omega)).trans ((heap_alloc_old _ _ (by simp)).trans (by have h := heap_alloc_new (w.alloc o0) o1; simpa using h))
theorem at_four2 (w : World) (o0 o1 o2 o3 : Obj) : ((((w.alloc o0).alloc o1).alloc o2).alloc o3).heap[w.heap.size + 1 + 1]? = some o2 :=
  (heap_alloc_old _ _ (by simp)).trans (by have h := heap_alloc_new ((w.alloc o0).alloc o1) o2; simpa using h)
theorem at_four3 (w : World) (o0 o1 o2 o3 : Obj) : ((((w.alloc o0).alloc o1).alloc o2).alloc o3).heap[w.heap.size + 1 + 1 + 1]? = some o3 := by
  have h := heap_alloc_new (((w.alloc o0).alloc o1).alloc o2) o3
  simpa using h
/-! What anew does: three writing calls on the other file. -/
def n0 (g : FS) (left : Int) (o : ByteArray) : Int := beginE false g left o [o]
def nG0 (g : FS) (left : Int) (o d : ByteArray) : FS := appendG (n0 g left o) g o d
def nL0 (g : FS) (left : Int) (o : ByteArray) : Int := leftE (n0 g left o) left
def n1 (g : FS) (left : Int) (o d : ByteArray) : Int := beginE true (nG0 g left o d) (nL0 g left o) o [o]
def nG1 (g : FS) (left : Int) (o d : ByteArray) : FS := syncG (n1 g left o d) (nG0 g left o d) o
def nL1 (g : FS) (left : Int) (o d : ByteArray) : Int := leftE (n1 g left o d) (nL0 g left o)
def n2 (g : FS) (left : Int) (o d name : ByteArray) : Int := beginE true (nG1 g left o d) (nL1 g left o d) o [o, name]
def nG2 (g : FS) (left : Int) (o d name : ByteArray) : FS := renameG (n2 g left o d name) (nG1 g left o d) o name
def nL2 (g : FS) (left : Int) (o d name : ByteArray) : Int := leftE (n2 g left o d name) (nL1 g left o d)
/-- What anew leaves. -/
def AnewPost (w : World) (j p b : Nat) (name : ByteArray) (N : Nat) (g : FS) (left : Int) (o d : ByteArray) (e : Ending) (w' : World) : Prop :=
  doesNPost w j p b name N (n0 g left o) (nG0 g left o d) (nL0 g left o) (n1 g left o d) (nG1 g left o d) (nL1 g left o d) (n2 g left o d name) (nG2 g left o d name) (nL2 g left o d name) e w'
theorem doesNOut.from {w W : World} {j p b : Nat} {name : ByteArray} {N : Nat} {c0 c1 c2 : Int} {G0 G1 G2 : FS} {L0 L1 L2 : Int} {code : Int} {w' : World} (h : doesNOut W j p b name N c0 G0 L0 c1 G1 L1 c2 G2 L2 code w') (hb : Below w.heap.size w W) : doesNOut w j p b name N c0 G0 L0 c1 G1 L1 c2 G2 L2 code w' :=
  ⟨h.1, (Turned3.of_below hb p b j).trans h.2⟩
set_option maxRecDepth 100000 in
set_option maxHeartbeats 2000000 in
theorem anew_any (j p b N : Nat) (g : FS) (left : Int) (h1 : -1 ≤ left) (h2 : left ≤ 9223372036854775807) (hN : N + 4 < maxLen) (name data : ByteArray) (hn : name.size ≤ 1099511627776) (hsz : ((g (name ++ sufx)).getD noFile).1.size + data.size ≤ 1099511627776) (w : World) (hD : DiskAt w p b g left N) (hJ : JBlk w j p name false) :
    Calls Tryz.prog 29 #[.pointer (some ⟨j, 0, none⟩), .string data] w (AnewPost w j p b name N g left (name ++ sufx) data) := by
  have hx4 : (name ++ sufx).size = name.size + 4 := by rw [ByteArray.size_append]; rfl
  have hmf : ∀ (fn : Fn) (first cap : Array Value) (w : World), (Instr.makeFunc fn first cap).run Tryz.prog w = .ok (.func fn first cap) w := fun _ _ _ _ => rfl
  have hone : name.size ≤ maxLen := by simp only [maxLen]; omega
  have hoth : (name ++ sufx).size ≤ maxLen := by simp only [maxLen]; omega
  obtain ⟨o, ho⟩ : ∃ o, o = name ++ sufx := ⟨_, rfl⟩
  rw [← ho] at hsz hoth
  have hcat : name ++ (⟨#[46, 110, 101, 119]⟩ : ByteArray) = o := ho.symm
  rw [← ho]
  obtain ⟨c0, c1, c2, _⟩ := hJ.cells
  have hjl := hJ.lt
  have hdoes := fun (W : World) (f bj bo bv : Nat) (hd : DiskAt W p b g left N) (hj : JBlk W j p name false) hf h3 h4 h5 => doesN_any j p b N g left h1 h2 hN name o data f bj bo bv W hd hj hf h3 h4 h5
    (n0 g left o) (nG0 g left o data) (nL0 g left o) (fun W' hd' hj' h3' h4' h5' => anew1_any j p b N g left h1 h2 (by omega) name o data false hoth hsz bj bo bv W' hd' hj' h3' h4' h5')
    (n1 g left o data) (nG1 g left o data) (nL1 g left o data) (fun W' _ hd' hj' h3' h4' _ => anew2_any j p b (N + 1) (nG0 g left o data) (nL0 g left o) (leftE_low h1) (leftE_high h2) (by omega) name o false hoth bj bo W' hd' hj' h3' h4')
    (n2 g left o data name) (nG2 g left o data name) (nL2 g left o data name) (fun W' _ _ hd' hj' h3' h4' _ => anew3_any j p b (N + 2) (nG1 g left o data) (nL1 g left o data) (leftE_low (leftE_low h1)) (leftE_high (leftE_high h2)) (by omega) name o false hoth hone bj bo W' hd' hj' h3' h4')
  have HDOES := Lib.hid hdoes
  have HD := Lib.hid hD
  have HJ := Lib.hid hJ
  clear hdoes hD hJ hsz hoth hone ho hx4
  go_enter Tryz.func29, Tryz.ntmps29
  go_wp2_with (go_at_call 24; refine (HDOES.out _ (w.heap.size + 1 + 1 + 1) w.heap.size (w.heap.size + 1 + 1) (w.heap.size + 1) (HD.out.below (below_four w _ _ _ _)) (HJ.out.below (below_four w _ _ _ _)) (at_four3 w _ _ _ _) (at_four0 w _ _ _ _) (at_four2 w _ _ _ _) (at_four1 w _ _ _ _)).mono ?_; rintro e w1 ⟨code, rfl, hp1⟩; have HP1 := Lib.hid hp1; clear hp1)
  go_ret
  exact ⟨code, rfl, HP1.out.from (below_four w _ _ _ _)⟩
end Go.Proofs.YtpllcnpcplbobaaGreat
end
section
namespace Go.Proofs.YtpllcnpcplbobaaGreat
open Go.RowKit Go.Maps
set_option linter.unusedVariables false
/-! What Add does: two writing calls. -/
def a0 (g : FS) (left : Int) (name : ByteArray) : Int := beginE false g left name [name]
def aG0 (g : FS) (left : Int) (name f : ByteArray) : FS := appendG (a0 g left name) g name f
def aL0 (g : FS) (left : Int) (name : ByteArray) : Int := leftE (a0 g left name) left
def a1 (g : FS) (left : Int) (name f : ByteArray) : Int := beginE true (aG0 g left name f) (aL0 g left name) name [name]
def aG1 (g : FS) (left : Int) (name f : ByteArray) : FS := syncG (a1 g left name f) (aG0 g left name f) name
def aL1 (g : FS) (left : Int) (name f : ByteArray) : Int := leftE (a1 g left name f) (aL0 g left name)
theorem doesAOut.from {w W : World} {j p b : Nat} {name : ByteArray} {N : Nat} {c0 c1 : Int} {G0 G1 : FS} {L0 L1 : Int} {code : Int} {w' : World} (h : doesAOut W j p b name N c0 G0 L0 c1 G1 L1 code w') (hb : Below w.heap.size w W) : doesAOut w j p b name N c0 G0 L0 c1 G1 L1 code w' :=
  ⟨h.1, (Turned3.of_below hb p b j).trans h.2⟩
def AddOut (w : World) (j p b : Nat) (name : ByteArray) (N : Nat) (g : FS) (left : Int) (f : ByteArray) (code : Int) (w' : World) : Prop :=
  doesAOut w j p b name N (a0 g left name) (aG0 g left name f) (aL0 g left name) (a1 g left name f) (aG1 g left name f) (aL1 g left name f) code w'
theorem frameV_ok {rec : ByteArray} (h : rec.size ≤ 1048576) : frameV rec = .tuple #[.string (frameS rec), .int .i64 0] := if_pos h
set_option maxRecDepth 100000 in
set_option maxHeartbeats 2000000 in
theorem jadd_any (j p b N : Nat) (g : FS) (left : Int) (h1 : -1 ≤ left) (h2 : left ≤ 9223372036854775807) (hN : N + 3 < maxLen) (name rec : ByteArray) (hn : name.size ≤ maxLen) (hr : rec.size ≤ 1048576) (hsz : ((g name).getD noFile).1.size + (frameS rec).size ≤ 1099511627776) (w : World) (hD : DiskAt w p b g left N) (hJ : JBlk w j p name false) :
    Calls Tryz.prog 10 #[.pointer (some ⟨j, 0, none⟩), .string rec] w fun e w' => ∃ code, e = .returned (.int .i64 code) ∧ AddOut w j p b name N g left (frameS rec) code w' := by
  have hmf : ∀ (fn : Fn) (first cap : Array Value) (w : World), (Instr.makeFunc fn first cap).run Tryz.prog w = .ok (.func fn first cap) w := fun _ _ _ _ => rfl
  have hjl := hJ.lt
  obtain ⟨c0, c1, c2, _⟩ := hJ.cells
  have hfr := fun W => frame_any rec W
  rw [frameV_ok hr] at hfr
  obtain ⟨f, hf⟩ : ∃ f, f = frameS rec := ⟨_, rfl⟩
  rw [← hf] at hsz hfr ⊢
  have hdoes := fun (W : World) (fb bj bv : Nat) (hd : DiskAt W p b g left N) (hj : JBlk W j p name false) h3 h4 h5 => doesA_any j p b N g left h1 h2 hN name f fb bj bv W hd hj h3 h4 h5
    (a0 g left name) (aG0 g left name f) (aL0 g left name) (fun W' hd' hj' h3' h4' => add1_any j p b N g left h1 h2 (by omega) name f false hn hsz bj bv W' hd' hj' h3' h4')
    (a1 g left name f) (aG1 g left name f) (aL1 g left name f) (fun W' _ hd' hj' h3' _ => add2_any j p b (N + 1) (aG0 g left name f) (aL0 g left name) (leftE_low h1) (leftE_high h2) (by omega) name false hn bj W' hd' hj' h3')
  have HDOES := Lib.hid hdoes
  have HFR := Lib.hid hfr
  have HD := Lib.hid hD
  have HJ := Lib.hid hJ
  have hbox : ∀ W : World, Below (w.heap.size + 1) (w.alloc (.cells #[.pointer (some ⟨j, 0, none⟩)] 27)) W → Below w.heap.size w W ∧ VarAt W w.heap.size (.pointer (some ⟨j, 0, none⟩)) 27 ∧ w.heap.size < W.heap.size := fun W hb =>
    ⟨((Below.refl _ _).alloc (Nat.le_refl _) _).trans (hb.mono (by omega)), (hb.block w.heap.size (by omega)).trans (heap_alloc_new w _), by have := hb.size; simp at this; omega⟩
  have HBX := Lib.hid hbox
  clear hdoes hfr hD hJ hsz hf hbox
  go_enter Tryz.func10, Tryz.ntmps10
  go_wp2_with (first | (go_at_call 23; refine (HFR.out _).mono ?_; rintro e w1 ⟨rfl, hb1⟩; obtain ⟨hb2, hv, hz⟩ := HBX.out w1 (hb1.mono (by simp)); have x0 := hv.cell; have HV := Lib.hid hv; have HB := Lib.hid hb2; clear hb1 hv hb2) | (go_at_call 24; refine (HDOES.out _ (w1.heap.size + 1) w.heap.size w1.heap.size ((HD.out.below HB.out).below (below_two w1 _ _)) ((HJ.out.below HB.out).below (below_two w1 _ _)) (at_two1 w1 _ _) (HV.out.below (below_two w1 _ _)) (at_two0 w1 _ _)).mono ?_; rintro e w2 ⟨code, rfl, hp1⟩; have HP1 := Lib.hid hp1; clear hp1))
  go_ret
  exact ⟨code, rfl, HP1.out.from (HB.out.trans ((below_two w1 _ _).mono HB.out.size))⟩
end Go.Proofs.YtpllcnpcplbobaaGreat
end
section
namespace Go.Proofs.YtpllcnpcplbobaaGreat
open Go.RowKit Go.Maps
set_option linter.unusedVariables false
def nCode (g : FS) (left : Int) (o d name : ByteArray) : Int := if n0 g left o ≠ 0 then n0 g left o else if n1 g left o d ≠ 0 then n1 g left o d else n2 g left o d name
def nG (g : FS) (left : Int) (o d name : ByteArray) : FS := if n0 g left o ≠ 0 then nG0 g left o d else if n1 g left o d ≠ 0 then nG1 g left o d else nG2 g left o d name
def nL (g : FS) (left : Int) (o d name : ByteArray) : Int := if n0 g left o ≠ 0 then nL0 g left o else if n1 g left o d ≠ 0 then nL1 g left o d else nL2 g left o d name
/-- What anew leaves, in short. -/
theorem anew_short {w : World} {j p b N : Nat} {name : ByteArray} {g : FS} {left : Int} {o d : ByteArray} {e : Ending} {w' : World} (h : AnewPost w j p b name N g left o d e w') :
    e = .returned (.int .i64 (nCode g left o d name)) ∧ DiskAt w' p b (nG g left o d name) (nL g left o d name) (N + 3) ∧ JBlk w' j p name (decide (nCode g left o d name ≠ 0)) ∧ Turned3 w w' p b j := by
  obtain ⟨code, rfl, h, ht⟩ := h
  rcases h with ⟨h0, rfl, hd, hj⟩ | ⟨h0, h1, rfl, hd, hj⟩ | ⟨h0, h1, h2, rfl, hd, hj⟩ | ⟨h0, h1, h2, rfl, hd, hj⟩
  · have e1 : nCode g left o d name = n0 g left o := if_pos h0
    have e2 : nG g left o d name = nG0 g left o d := if_pos h0
    have e3 : nL g left o d name = nL0 g left o := if_pos h0
    rw [e1, e2, e3]
    exact ⟨rfl, hd, by rw [decide_eq_true h0]; exact hj, ht⟩
  · have e1 : nCode g left o d name = n1 g left o d := (if_neg (fun h => h h0)).trans (if_pos h1)
    have e2 : nG g left o d name = nG1 g left o d := (if_neg (fun h => h h0)).trans (if_pos h1)
    have e3 : nL g left o d name = nL1 g left o d := (if_neg (fun h => h h0)).trans (if_pos h1)
    rw [e1, e2, e3]
    exact ⟨rfl, hd, by rw [decide_eq_true h1]; exact hj, ht⟩
  · have e1 : nCode g left o d name = n2 g left o d name := (if_neg (fun h => h h0)).trans (if_neg (fun h => h h1))
    have e2 : nG g left o d name = nG2 g left o d name := (if_neg (fun h => h h0)).trans (if_neg (fun h => h h1))
    have e3 : nL g left o d name = nL2 g left o d name := (if_neg (fun h => h h0)).trans (if_neg (fun h => h h1))
    rw [e1, e2, e3]
    exact ⟨rfl, hd, by rw [decide_eq_true h2]; exact hj, ht⟩
  · have e1 : nCode g left o d name = n2 g left o d name := (if_neg (fun h => h h0)).trans (if_neg (fun h => h h1))
    have e2 : nG g left o d name = nG2 g left o d name := (if_neg (fun h => h h0)).trans (if_neg (fun h => h h1))
    have e3 : nL g left o d name = nL2 g left o d name := (if_neg (fun h => h h0)).trans (if_neg (fun h => h h1))
    rw [e1, e2, e3, h2]
    exact ⟨rfl, hd, hj, ht⟩
/-! What Open does. -/
def oT (g : FS) (left : Int) (name : ByteArray) : Int := tidyE g left (name ++ sufx)
def oG1 (g : FS) (left : Int) (name : ByteArray) : FS := tidyG g left (name ++ sufx)
def oL1 (g : FS) (left : Int) (name : ByteArray) : Int := tidyL g left (name ++ sufx)
def oData (g : FS) (left : Int) (name : ByteArray) : ByteArray := ((oG1 g left name name).getD noFile).1
def oRecs (g : FS) (left : Int) (name : ByteArray) : List ByteArray := if isB (oG1 g left name) name = true then (scan (oData g left name)).1 else []
def oCut (g : FS) (left : Int) (name : ByteArray) : Prop := isB (oG1 g left name) name = true ∧ (scan (oData g left name)).2 < (oData g left name).size
def oHead (g : FS) (left : Int) (name : ByteArray) : ByteArray := (oData g left name).extract 0 (scan (oData g left name)).2
open Classical in
noncomputable def oCode (g : FS) (left : Int) (name : ByteArray) : Int := if oT g left name ≠ 0 then oT g left name else if oCut g left name then nCode (oG1 g left name) (oL1 g left name) (name ++ sufx) (oHead g left name) name else 0
open Classical in
noncomputable def oG (g : FS) (left : Int) (name : ByteArray) : FS := if oT g left name ≠ 0 then oG1 g left name else if oCut g left name then nG (oG1 g left name) (oL1 g left name) (name ++ sufx) (oHead g left name) name else oG1 g left name
open Classical in
noncomputable def oL (g : FS) (left : Int) (name : ByteArray) : Int := if oT g left name ≠ 0 then oL1 g left name else if oCut g left name then nL (oG1 g left name) (oL1 g left name) (name ++ sufx) (oHead g left name) name else oL1 g left name
/-- A slice of texts in a block from base on, as it can be read. -/
def TextsF (base : Nat) (w : World) (v : Value) (l : List ByteArray) : Prop :=
  ∃ (a : Option Addr) (c : Nat), v = .slice a l.length c ∧ (l.length = 0 ∨ ∃ b o, a = some ⟨b, o, none⟩ ∧ base ≤ b ∧ ∀ i (h : i < l.length), w.cell? ⟨b, o + i, none⟩ = some (.string l[i]))
theorem TextsF.at {base : Nat} {w : World} {v : Value} {l : List ByteArray} (h : TextsF base w v l) : TextsAt w v l := by
  obtain ⟨a, c, hv, h0 | ⟨b, o, ha, _, hc⟩⟩ := h
  · exact ⟨a, c, hv, .inl h0⟩
  · exact ⟨a, c, hv, .inr ⟨b, o, ha, hc⟩⟩
theorem TextsF.mono {base B : Nat} {w : World} {v : Value} {l : List ByteArray} (h : TextsF base w v l) (hB : B ≤ base) : TextsF B w v l := by
  obtain ⟨a, c, hv, h0 | ⟨b, o, ha, hb, hc⟩⟩ := h
  · exact ⟨a, c, hv, .inl h0⟩
  · exact ⟨a, c, hv, .inr ⟨b, o, ha, by omega, hc⟩⟩
theorem TextsF.block {base : Nat} {w w' : World} {v : Value} {l : List ByteArray} (h : TextsF base w v l) (hb : ∀ k, base ≤ k → k < w.heap.size → w'.heap[k]? = w.heap[k]?) : TextsF base w' v l := by
  obtain ⟨a, c, hv, h0 | ⟨b, o, ha, hb2, hc⟩⟩ := h
  · exact ⟨a, c, hv, .inl h0⟩
  · refine ⟨a, c, hv, .inr ⟨b, o, ha, hb2, fun i hi => ?_⟩⟩
    have hx := hc i hi
    exact (World.cell?_of_block (hb b hb2 (block_lt_of_cell hx))).trans hx
theorem textsF_owned {w : World} {base : Nat} {v : Value} {l : List ByteArray} (h : w.ownsRow base 9 1 v l.length (strs l)) : TextsF base w v l := by
  by_cases h0 : l.length = 0
  · obtain ⟨a, c, hv, _⟩ := textsAt_owned h
    exact ⟨a, c, hv, .inl h0⟩
  · obtain ⟨g, cap, rfl, hg, _⟩ := World.ownsRow.form h (by omega)
    refine ⟨_, cap, rfl, .inr ⟨g, 0, rfl, hg, fun i hi => ?_⟩⟩
    rw [Nat.zero_add, h.cellAt i (by omega)]
    simp [strs, hi]
theorem textsF_nil (base : Nat) (w : World) (a : Option Addr) (c : Nat) : TextsF base w (.slice a 0 c) [] := ⟨a, c, rfl, .inl rfl⟩
/-- What Open leaves. -/
def OpenPost (w : World) (p b : Nat) (name : ByteArray) (N : Nat) (g : FS) (left : Int) (e : Ending) (w' : World) : Prop :=
  (∃ jv rv, e = .returned (.tuple #[jv, rv, .int .i64 (oCode g left name)]) ∧ (oCode g left name = 0 → ∃ j, jv = .pointer (some ⟨j, 0, none⟩) ∧ JBlk w' j p name false ∧ w.heap.size ≤ j ∧ TextsF w.heap.size w' rv (oRecs g left name)) ∧
    (oCode g left name ≠ 0 → jv = .pointer none ∧ rv = .slice none 0 0)) ∧ DiskAt w' p b (oG g left name) (oL g left name) (N + 4) ∧ Turned w w' p b
theorem Turned3.to2 {w w' : World} {p b j : Nat} (h : Turned3 w w' p b j) (hj : w.heap.size ≤ j) : Turned w w' p b := ⟨h.os, h.tape, h.output, h.size, fun k hk hp hb => h.block k hk hp hb (by omega)⟩
theorem tidyL_low {g : FS} {left : Int} {x : ByteArray} (h : -1 ≤ left) : -1 ≤ tidyL g left x := by unfold tidyL; split; exact leftE_low h; exact h
theorem tidyL_high {g : FS} {left : Int} {x : ByteArray} (h : left ≤ 9223372036854775807) : tidyL g left x ≤ 9223372036854775807 := by unfold tidyL; split; exact leftE_high h; exact h
theorem scanF_le (s : ByteArray) : ∀ (f p : Nat), p ≤ s.size → (scanF f s p).2 ≤ s.size
  | 0, p, h => by simpa [scanF] using h
  | f + 1, p, h => by
    cases hst : stepAt s p with
    | none => rw [scanF_none hst]; exact h
    | some r => rw [scanF_some hst]; exact scanF_le s f _ (stepAt_some hst)
theorem scan_le (s : ByteArray) : (scan s).2 ≤ s.size := scanF_le s _ 0 (Nat.zero_le _)
/-- A fresh row outlives what a journal does. -/
theorem texts_turned {w w' : World} {base p b j : Nat} {v : Value} {l : List ByteArray} (h : w.ownsRow base 9 1 v l.length (strs l)) (hp : p < base) (hb : b < base) (hj : j < base) (ht : Turned3 w w' p b j) : TextsF base w' v l :=
  (textsF_owned h).block fun k hk hk2 => ht.block k hk2 (by omega) (by omega) (by omega)
set_option maxRecDepth 100000 in
set_option maxHeartbeats 2000000 in
theorem open_any (p b N : Nat) (g : FS) (left : Int) (h1 : -1 ≤ left) (h2 : left ≤ 9223372036854775807) (hN : N ≤ 1099511627000) (name : ByteArray) (hne : name ≠ ⟨#[]⟩) (hn : name.size ≤ 1099511627776) (hs1 : (oData g left name).size ≤ 1099511627776)
    (hs2 : ((oG1 g left name (name ++ sufx)).getD noFile).1.size + (oData g left name).size ≤ 1099511627776) (w : World) (hD : DiskAt w p b g left N) :
    Calls Tryz.prog 8 #[.pointer (some ⟨p, 0, none⟩), .string name] w (OpenPost w p b name N g left) := by
  have hmf : ∀ (fn : Fn) (first cap : Array Value) (w : World), (Instr.makeFunc fn first cap).run Tryz.prog w = .ok (.func fn first cap) w := fun _ _ _ _ => rfl
  have hnb : name.toList.isEmpty = false := by
    rw [ByteArray.toList_eq]
    cases hx : name.data.toList.isEmpty with
    | false => rfl
    | true => exact absurd (WideShapes.bytes_inj (by simpa using hx)) hne
  have hnm : name.size ≤ maxLen := by simp only [maxLen]; omega
  have hdoes := fun (W : World) (j f : Nat) (hd : DiskAt W p b g left N) (hj : JBlk W j p name false) h3 => doesT_any j p b N g left h1 h2 (by simp only [maxLen]; omega) name f W hd hj h3
    (oT g left name) (oG1 g left name) (oL1 g left name) (fun W' hd' hj' => (tidy_any j p b N g left h1 h2 (by omega) name hn false W' (⟨hd'.cells, hd'.files.mono (by omega)⟩) hj').mono fun _ _ ⟨he, hd, ht⟩ => ⟨he, ⟨hd.cells, hd.files.mono (by omega)⟩, ht⟩)
  have HDOES := Lib.hid hdoes
  have HD := Lib.hid hD
  clear hdoes hD hne
  have L1 := tidyL_low (g := g) (x := name ++ sufx) h1
  have L2 := tidyL_high (g := g) (x := name ++ sufx) h2
  by_cases ht : oT g left name = 0
  · have hd2 : ∀ W j f, DiskAt W p b g left N → JBlk W j p name false → FunsAt W f #[.func (.func 25) #[.pointer (some ⟨j, 0, none⟩)] #[]] →
        Calls Tryz.prog 24 #[.pointer (some ⟨j, 0, none⟩), .slice (some ⟨f, 0, none⟩) 1 1] W fun e w' => e = .returned (.int .i64 0) ∧ DiskAt w' p b (oG1 g left name) (oL1 g left name) (N + 1) ∧ JBlk w' j p name false ∧ Turned3 W w' p b j := fun W j f a1 a2 a3 => (HDOES.out W j f a1 a2 a3).mono fun e w' ⟨code, he, h, hT⟩ => by
      rcases h with ⟨h0, _⟩ | ⟨_, rfl, hd, hj⟩
      · exact absurd ht h0
      · exact ⟨he, hd, hj, hT⟩
    have HD2 := Lib.hid hd2
    clear hd2 HDOES
    obtain ⟨G1, hG1⟩ : ∃ G1, G1 = oG1 g left name := ⟨_, rfl⟩
    obtain ⟨Lf, hLf⟩ : ∃ Lf, Lf = oL1 g left name := ⟨_, rfl⟩
    have hL1 : -1 ≤ Lf := by rw [hLf]; exact L1
    have hL2 : Lf ≤ 9223372036854775807 := by rw [hLf]; exact L2
    by_cases hib : isB (oG1 g left name) name = true
    · obtain ⟨dt, hdt⟩ : ∃ dt, dt = oData g left name := ⟨_, rfl⟩
      have hrv : readV G1 name = .tuple #[.string dt, .int .i64 0] := by
        rw [hG1, readV]
        cases hq : oG1 g left name name with
        | none => rw [isB, hq] at hib; cases hib
        | some f => rw [hdt, oData, hq]; rfl
      have hrc : oRecs g left name = (scan dt).1 := by rw [hdt]; exact if_pos hib
      have hsn := scan_le dt
      have hsc := fun W => scan_any dt (by rw [hdt]; exact hs1) W
      have hibt : isB G1 name = true := by rw [hG1]; exact hib
      have hth := fun W j h3 h4 => there_any j p b (N + 1) G1 Lf (by omega) name false name W h3 h4
      rw [hibt] at hth
      have hre := fun (W : World) h => read_disk p b (N + 1) G1 Lf name hnm W h
      rw [hrv] at hre
      obtain ⟨rs, hrs⟩ : ∃ rs, rs = (scan dt).1 := ⟨_, rfl⟩
      obtain ⟨sn, hsn2⟩ : ∃ sn, sn = (scan dt).2 := ⟨_, rfl⟩
      rw [← hrs, ← hsn2] at hsc
      rw [← hsn2] at hsn
      rw [← hrs] at hrc
      rw [← hG1, ← hLf] at HD2
      have hdts : dt.size ≤ 1099511627776 := by rw [hdt]; exact hs1
      by_cases hlt : sn < dt.size
      · have hcut : oCut g left name := ⟨hib, by rw [← hdt, ← hsn2]; exact hlt⟩
        have hhd : oHead g left name = dt.extract 0 sn := by rw [oHead, ← hdt, ← hsn2]
        have hc : oCode g left name = nCode G1 Lf (name ++ sufx) (dt.extract 0 sn) name := ((if_neg (fun h => h ht)).trans (if_pos hcut)).trans (by rw [hG1, hLf, hhd])
        have hg : oG g left name = nG G1 Lf (name ++ sufx) (dt.extract 0 sn) name := ((if_neg (fun h => h ht)).trans (if_pos hcut)).trans (by rw [hG1, hLf, hhd])
        have hl : oL g left name = nL G1 Lf (name ++ sufx) (dt.extract 0 sn) name := ((if_neg (fun h => h ht)).trans (if_pos hcut)).trans (by rw [hG1, hLf, hhd])
        have hcutr := run_cut_high (P := Tryz.prog) 9 Tryz.underlying9 dt sn hsn (sn : Int) rfl
        have han := fun (W : World) (j : Nat) h3 h4 => (anew_any j p b (N + 1) G1 Lf hL1 hL2 (by simp only [maxLen]; omega) name (dt.extract 0 sn) hn (by rw [hG1]; have : (dt.extract 0 sn).size ≤ dt.size := (by rw [ByteArray.size_extract]; omega); rw [hdt] at this ⊢; omega) W h3 h4).mono fun _ _ h => anew_short h
        rw [← hc, ← hg, ← hl] at han
        obtain ⟨hd, hhd2⟩ : ∃ hd, hd = dt.extract 0 sn := ⟨_, rfl⟩
        rw [← hhd2] at hcutr han
        by_cases hz : oCode g left name = 0
        · have hfin : ∀ W' j rv, DiskAt W' p b (oG g left name) (oL g left name) (N + 1 + 3) → JBlk W' j p name false → w.heap.size ≤ j → TextsF w.heap.size W' rv rs → Turned w W' p b → OpenPost w p b name N g left (.returned (.tuple #[.pointer (some ⟨j, 0, none⟩), rv, .int .i64 0])) W' := fun W' j rv hd hj hjw hrv2 hT =>
            ⟨⟨_, rv, by rw [hz], fun _ => ⟨j, rfl, hj, hjw, by rw [hrc]; exact hrv2⟩, fun h => absurd hz h⟩, hd, hT⟩
          rw [hz] at han
          have HTH := Lib.hid hth
          have HRE := Lib.hid hre
          have HSC := Lib.hid hsc
          have HFIN := Lib.hid hfin
          have HAN := Lib.hid han
          clear hfin hth hre hsc han hc hg hl hrc hibt hib hcut hG1 hLf ht L1 L2 hrv hdt hrs hsn2 hhd hhd2
          go_enter Tryz.func8, Tryz.ntmps8
          go_wp2_with (first | (go_at_call 24; refine (HD2.out _ w.heap.size (w.heap.size + 1) (HD.out.below (below_two w _ _)) (at_two0 w _ _) (at_two1 w _ _)).mono ?_; rintro e w1 ⟨rfl, hd1, hj1, ht1⟩; have D1 := Lib.hid hd1; have J1 := Lib.hid hj1; have T1 := Lib.hid ht1; clear hd1 hj1 ht1) | (go_at_call 26; refine (HTH.out _ _ D1.out J1.out).mono ?_; rintro e w2 ⟨rfl, hb2⟩; have B2 := Lib.hid hb2; have D2 := Lib.hid (D1.out.below hb2); have J2 := Lib.hid (J1.out.below hb2); clear hb2) | (go_at_call 27; refine (HRE.out _ D2.out).mono ?_; rintro e w3 ⟨rfl, hb3⟩; have B3 := Lib.hid hb3; have D3 := Lib.hid (D2.out.below hb3); have J3 := Lib.hid (J2.out.below hb3); clear hb3) | (go_at_call 28; refine (HSC.out _).mono ?_; rintro e w4 ⟨v4, rfl, o4, hb4⟩; have B4 := Lib.hid hb4; have D4 := Lib.hid (D3.out.below hb4); have J4 := Lib.hid (J3.out.below hb4); have X4 := Lib.hid (textsAt_owned o4); have O4 := Lib.hid o4; obtain ⟨a4, c4, rfl, _⟩ := textsAt_owned o4; clear hb4 o4) | (go_at_call 29; refine (HAN.out _ _ D4.out J4.out).mono ?_; rintro e w5 ⟨rfl, hd5, hj5, ht5⟩; have D5 := Lib.hid hd5; have J5 := Lib.hid hj5; have T5 := Lib.hid ht5; clear hd5 hj5 ht5))
          go_ret3
          exact HFIN.out _ _ _ D5.out J5.out (Nat.le_refl _) ((texts_turned O4.out D3.out.lt D3.out.files.lt J3.out.lt T5.out).mono (Nat.le_of_lt J3.out.lt)) (((((((Turned3.of_below (below_two w _ _) p b w.heap.size).trans T1.out).trans (.of_below B2.out _ _ _)).trans (.of_below B3.out _ _ _)).trans (.of_below B4.out _ _ _)).trans T5.out).to2 (Nat.le_refl _))
        · obtain ⟨cc, hcc⟩ : ∃ cc, cc = oCode g left name := ⟨_, rfl⟩
          have hfin : ∀ W', DiskAt W' p b (oG g left name) (oL g left name) (N + 1 + 3) → Turned w W' p b → OpenPost w p b name N g left (.returned (.tuple #[.pointer none, .slice none 0 0, .int .i64 cc])) W' := fun W' hd hT =>
            ⟨⟨.pointer none, .slice none 0 0, by rw [hcc], fun h => absurd h hz, fun _ => ⟨rfl, rfl⟩⟩, hd, hT⟩
          rw [← hcc] at han
          have hzb : (cc == 0) = false := by rw [hcc]; simpa using hz
          have HTH := Lib.hid hth
          have HRE := Lib.hid hre
          have HSC := Lib.hid hsc
          have HFIN := Lib.hid hfin
          have HAN := Lib.hid han
          have HZ := Lib.hid hz
          have HCC := Lib.hid hcc
          clear hfin hth hre hsc han hc hg hl hrc hibt hib hcut hG1 hLf ht L1 L2 hrv hdt hrs hsn2 hhd hhd2 hz hcc
          go_enter Tryz.func8, Tryz.ntmps8
          go_wp2_with (first | (go_at_call 24; refine (HD2.out _ w.heap.size (w.heap.size + 1) (HD.out.below (below_two w _ _)) (at_two0 w _ _) (at_two1 w _ _)).mono ?_; rintro e w1 ⟨rfl, hd1, hj1, ht1⟩; have D1 := Lib.hid hd1; have J1 := Lib.hid hj1; have T1 := Lib.hid ht1; clear hd1 hj1 ht1) | (go_at_call 26; refine (HTH.out _ _ D1.out J1.out).mono ?_; rintro e w2 ⟨rfl, hb2⟩; have B2 := Lib.hid hb2; have D2 := Lib.hid (D1.out.below hb2); have J2 := Lib.hid (J1.out.below hb2); clear hb2) | (go_at_call 27; refine (HRE.out _ D2.out).mono ?_; rintro e w3 ⟨rfl, hb3⟩; have B3 := Lib.hid hb3; have D3 := Lib.hid (D2.out.below hb3); have J3 := Lib.hid (J2.out.below hb3); clear hb3) | (go_at_call 28; refine (HSC.out _).mono ?_; rintro e w4 ⟨v4, rfl, o4, hb4⟩; have B4 := Lib.hid hb4; have D4 := Lib.hid (D3.out.below hb4); have J4 := Lib.hid (J3.out.below hb4); have X4 := Lib.hid (textsAt_owned o4); have O4 := Lib.hid o4; obtain ⟨a4, c4, rfl, _⟩ := textsAt_owned o4; clear hb4 o4) | (go_at_call 29; refine (HAN.out _ _ D4.out J4.out).mono ?_; rintro e w5 ⟨rfl, hd5, hj5, ht5⟩; have D5 := Lib.hid hd5; have J5 := Lib.hid hj5; have T5 := Lib.hid ht5; clear hd5 hj5 ht5))
          go_ret3
          exact HFIN.out _ D5.out (((((((Turned3.of_below (below_two w _ _) p b w.heap.size).trans T1.out).trans (.of_below B2.out _ _ _)).trans (.of_below B3.out _ _ _)).trans (.of_below B4.out _ _ _)).trans T5.out).to2 (Nat.le_refl _))
      · have hcut : ¬ oCut g left name := fun h => hlt (by rw [hsn2, hdt]; exact h.2)
        have hc : oCode g left name = 0 := (if_neg (fun h => h ht)).trans (if_neg hcut)
        have hg : oG g left name = G1 := ((if_neg (fun h => h ht)).trans (if_neg hcut)).trans hG1.symm
        have hl : oL g left name = Lf := ((if_neg (fun h => h ht)).trans (if_neg hcut)).trans hLf.symm
        have hfin : ∀ W' j rv, DiskAt W' p b G1 Lf (N + 1) → JBlk W' j p name false → w.heap.size ≤ j → TextsF w.heap.size W' rv rs → Turned w W' p b → OpenPost w p b name N g left (.returned (.tuple #[.pointer (some ⟨j, 0, none⟩), rv, .int .i64 0])) W' := fun W' j rv hd hj hjw hrv2 hT =>
          ⟨⟨_, rv, by rw [hc], fun _ => ⟨j, rfl, hj, hjw, by rw [hrc]; exact hrv2⟩, fun h => absurd hc h⟩, by rw [hg, hl]; exact ⟨hd.cells, hd.files.mono (by omega)⟩, hT⟩
        have HTH := Lib.hid hth
        have HRE := Lib.hid hre
        have HSC := Lib.hid hsc
        have HFIN := Lib.hid hfin
        clear hfin hth hre hsc hc hg hl hrc hibt hib hcut hG1 hLf ht L1 L2 hrv hdt hrs hsn2
        go_enter Tryz.func8, Tryz.ntmps8
        go_wp2_with (first | (go_at_call 24; refine (HD2.out _ w.heap.size (w.heap.size + 1) (HD.out.below (below_two w _ _)) (at_two0 w _ _) (at_two1 w _ _)).mono ?_; rintro e w1 ⟨rfl, hd1, hj1, ht1⟩; have D1 := Lib.hid hd1; have J1 := Lib.hid hj1; have T1 := Lib.hid ht1; clear hd1 hj1 ht1) | (go_at_call 26; refine (HTH.out _ _ D1.out J1.out).mono ?_; rintro e w2 ⟨rfl, hb2⟩; have B2 := Lib.hid hb2; have D2 := Lib.hid (D1.out.below hb2); have J2 := Lib.hid (J1.out.below hb2); clear hb2) | (go_at_call 27; refine (HRE.out _ D2.out).mono ?_; rintro e w3 ⟨rfl, hb3⟩; have B3 := Lib.hid hb3; have D3 := Lib.hid (D2.out.below hb3); have J3 := Lib.hid (J2.out.below hb3); clear hb3) | (go_at_call 28; refine (HSC.out _).mono ?_; rintro e w4 ⟨v4, rfl, o4, hb4⟩; have B4 := Lib.hid hb4; have D4 := Lib.hid (D3.out.below hb4); have J4 := Lib.hid (J3.out.below hb4); have X4 := Lib.hid (textsF_owned o4); have O4 := Lib.hid o4; obtain ⟨a4, c4, rfl, _⟩ := textsAt_owned o4; clear hb4 o4))
        go_ret3
        exact HFIN.out _ _ _ D4.out J4.out (Nat.le_refl _) (X4.out.mono (Nat.le_of_lt J3.out.lt)) ((((((Turned3.of_below (below_two w _ _) p b w.heap.size).trans T1.out).to2 (Nat.le_refl _)).trans (turned_of_below B2.out p b)).trans (turned_of_below B3.out p b)).trans (turned_of_below B4.out p b))
    · have hcut : ¬ oCut g left name := fun h => hib h.1
      have hc : oCode g left name = 0 := (if_neg (fun h => h ht)).trans (if_neg hcut)
      have hg : oG g left name = G1 := ((if_neg (fun h => h ht)).trans (if_neg hcut)).trans hG1.symm
      have hl : oL g left name = Lf := ((if_neg (fun h => h ht)).trans (if_neg hcut)).trans hLf.symm
      have hrc : oRecs g left name = [] := if_neg hib
      have hibf : isB G1 name = false := by rw [hG1]; simpa using hib
      have hfin : ∀ W' j, DiskAt W' p b G1 Lf (N + 1) → JBlk W' j p name false → w.heap.size ≤ j → Turned w W' p b → OpenPost w p b name N g left (.returned (.tuple #[.pointer (some ⟨j, 0, none⟩), .slice none 0 0, .int .i64 0])) W' := fun W' j hd hj hjw hT =>
        ⟨⟨_, _, by rw [hc], fun _ => ⟨j, rfl, hj, hjw, by rw [hrc]; exact textsF_nil _ W' _ _⟩, fun h => absurd hc h⟩, by rw [hg, hl]; exact ⟨hd.cells, hd.files.mono (by omega)⟩, hT⟩
      rw [← hG1, ← hLf] at HD2
      have hth := fun W j h3 h4 => there_any j p b (N + 1) G1 Lf (by omega) name false name W h3 h4
      rw [hibf] at hth
      have HTH := Lib.hid hth
      have HFIN := Lib.hid hfin
      clear hfin hth hc hg hl hrc hibf hib hcut hG1 hLf ht L1 L2
      go_enter Tryz.func8, Tryz.ntmps8
      go_wp2_with (first | (go_at_call 24; refine (HD2.out _ w.heap.size (w.heap.size + 1) (HD.out.below (below_two w _ _)) (at_two0 w _ _) (at_two1 w _ _)).mono ?_; rintro e w1 ⟨rfl, hd1, hj1, ht1⟩; have D1 := Lib.hid hd1; have J1 := Lib.hid hj1; have T1 := Lib.hid ht1; clear hd1 hj1 ht1) | (go_at_call 26; refine (HTH.out _ _ D1.out J1.out).mono ?_; rintro e w2 ⟨rfl, hb2⟩; have B2 := Lib.hid hb2; clear hb2))
      go_ret3
      exact HFIN.out _ _ (D1.out.below B2.out) (J1.out.below B2.out) (Nat.le_refl _) (((Turned3.of_below (below_two w _ _) p b w.heap.size).trans T1.out).to2 (Nat.le_refl _) |>.trans (turned_of_below B2.out p b))
  · have hc : oCode g left name = oT g left name := if_pos ht
    have hg : oG g left name = oG1 g left name := if_pos ht
    have hl : oL g left name = oL1 g left name := if_pos ht
    obtain ⟨tc, htc⟩ : ∃ tc, tc = oT g left name := ⟨_, rfl⟩
    have hzb : (tc == 0) = false := by rw [htc]; simpa using ht
    rw [← htc] at hc
    have hfin : ∀ W', DiskAt W' p b (oG1 g left name) (oL1 g left name) (N + 1) → Turned w W' p b → OpenPost w p b name N g left (.returned (.tuple #[.pointer none, .slice none 0 0, .int .i64 tc])) W' := fun W' hd hT =>
      ⟨⟨.pointer none, .slice none 0 0, by rw [hc], fun h => absurd (by rw [← htc, ← hc]; exact h) ht, fun _ => ⟨rfl, rfl⟩⟩, by rw [hg, hl]; exact ⟨hd.cells, hd.files.mono (by omega)⟩, hT⟩
    have hd2 : ∀ W j f, DiskAt W p b g left N → JBlk W j p name false → FunsAt W f #[.func (.func 25) #[.pointer (some ⟨j, 0, none⟩)] #[]] →
        Calls Tryz.prog 24 #[.pointer (some ⟨j, 0, none⟩), .slice (some ⟨f, 0, none⟩) 1 1] W fun e w' => e = .returned (.int .i64 tc) ∧ DiskAt w' p b (oG1 g left name) (oL1 g left name) (N + 1) ∧ Turned3 W w' p b j := fun W j f a1 a2 a3 => (HDOES.out W j f a1 a2 a3).mono fun e w' ⟨code, he, h, hT⟩ => by
      rcases h with ⟨_, rfl, hd, _⟩ | ⟨h0, _⟩
      · exact ⟨by rw [htc]; exact he, hd, hT⟩
      · exact absurd h0 ht
    have HD2 := Lib.hid hd2
    have HFIN := Lib.hid hfin
    have HTC := Lib.hid htc
    have HT := Lib.hid ht
    clear hd2 hfin htc ht hc hg hl HDOES
    go_enter Tryz.func8, Tryz.ntmps8
    go_wp2_with (go_at_call 24; refine (HD2.out _ w.heap.size (w.heap.size + 1) (HD.out.below (below_two w _ _)) (at_two0 w _ _) (at_two1 w _ _)).mono ?_; rintro e w1 ⟨rfl, hd1, ht1⟩; have D1 := Lib.hid hd1; have T1 := Lib.hid ht1; clear hd1 ht1)
    go_ret3
    exact HFIN.out _ D1.out (((Turned3.of_below (below_two w _ _) p b w.heap.size).trans T1.out).to2 (Nat.le_refl _))
end Go.Proofs.YtpllcnpcplbobaaGreat
end
