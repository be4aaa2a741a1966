import Derived.Test.YtpllcnpcplbobaaDoorDisk7
import Derived.Deep.RegionHeld3
import Derived.Deep.DrawnRows
namespace Go.Proofs.YtpllcnpcplbobaaDoor
open Go.RowKit Go.Maps
set_option linter.unusedVariables false
attribute [local go_sem ↓] Go.wp_at_zero Go.wp_at_succ
/-! A journal over a disk: its own functions. -/
def sufx : ByteArray := ⟨#[46, 110, 101, 119]⟩
theorem memB_names {g : FS} {l : List ByteArray} (h : NamesOf g l) (x : ByteArray) : memB x l = (g x).isSome := by
  cases hm : memB x l with
  | true => exact ((h.all x).1 (memB_iff.1 hm)).symm
  | false =>
    cases hs : (g x).isSome with
    | false => rfl
    | true => rw [memB_iff.2 ((h.all x).2 hs)] at hm; cases hm
/-- A journal at j over the disk at p. -/
def JBlk (w : World) (j p : Nat) (name : ByteArray) (broken : Bool) : Prop := w.heap[j]? = some (.cells #[.pointer (some ⟨p, 0, none⟩), .string name, .bool broken] 46 (0, 0))
theorem JBlk.cells {w : World} {j p : Nat} {name : ByteArray} {broken : Bool} (h : JBlk w j p name broken) :
    w.cell? ⟨j, 0, none⟩ = some (.pointer (some ⟨p, 0, none⟩)) ∧ w.cell? ⟨j, 1, none⟩ = some (.string name) ∧ w.cell? ⟨j, 2, none⟩ = some (.bool broken) ∧ w.frozen? ⟨j, 2, none⟩ = false := by
  unfold JBlk at h
  exact ⟨by rw [cell_of_row _ _ _ _ _ _ h]; rfl, by rw [cell_of_row _ _ _ _ _ _ h]; rfl, by rw [cell_of_row _ _ _ _ _ _ h]; rfl, frozen_of_row _ _ _ _ _ h⟩
theorem JBlk.lt {w : World} {j p : Nat} {name : ByteArray} {broken : Bool} (h : JBlk w j p name broken) : j < w.heap.size := (Array.getElem?_eq_some_iff.1 h).1
theorem JBlk.below {w w' : World} {j p : Nat} {name : ByteArray} {broken : Bool} (h : JBlk w j p name broken) (hb : Below w.heap.size w w') : JBlk w' j p name broken := (hb.block j h.lt).trans h
theorem JBlk.apart {w : World} {j p p' b N : Nat} {name : ByteArray} {broken : Bool} {g : FS} {left : Int} (h : JBlk w j p name broken) (hd : DiskAt w p' b g left N) : j ≠ p' ∧ j ≠ b := by
  refine ⟨fun e => ?_, fun e => ?_⟩
  · subst e
    unfold JBlk at h
    rw [hd.cells] at h
    injection h with h
    injection h with _ h2
    exact absurd h2 (by decide)
  · subst e
    obtain ⟨D, ⟨es, clock, hb, _⟩, _⟩ := hd.files
    unfold JBlk at h
    rw [hb] at h
    cases h
theorem JBlk.turned {w w' : World} {j p p' b N : Nat} {name : ByteArray} {broken : Bool} {g : FS} {left : Int} (h : JBlk w j p name broken) (hd : DiskAt w p' b g left N) (ht : Turned w w' p' b) : JBlk w' j p name broken :=
  (ht.block j h.lt (h.apart hd).1 (h.apart hd).2).trans h
set_option maxRecDepth 100000 in
set_option maxHeartbeats 1000000 in
theorem there_any (j p b N : Nat) (g : FS) (left : Int) (hN : N ≤ 1099511627776) (name : ByteArray) (broken : Bool) (x : ByteArray) (w : World) (hD : DiskAt w p b g left N) (hJ : JBlk w j p name broken) :
    Calls Tryd.prog 16 #[.pointer (some ⟨j, 0, none⟩), .string x] w fun e w' => e = .returned (.bool (isB g x)) ∧ Below w.heap.size w w' := by
  obtain ⟨c0, c1, c2, _⟩ := hJ.cells
  have HD := Lib.hid hD
  clear hD hJ
  go_enter Tryd.func16, Tryd.ntmps16
  go_wp2_with (first | (go_at_call 28; refine (names_disk p b N g left hN _ HD.out).mono ?_; rintro e w1 ⟨v, l, rfl, hn, hl, hr, hb⟩; have NM := Lib.hid hn; have T1 := Lib.hid (textsAt_owned hr); obtain ⟨a1, c1, rfl, _⟩ := textsAt_owned hr; have B1 := Lib.hid hb; clear hn hr hb) | (go_at_call 32; refine (contains_any _ l (by omega) x _ T1.out).mono ?_; rintro e w2 ⟨rfl, rfl⟩; rw [memB_names NM.out]))
  go_ret
  exact ⟨rfl, B1.out⟩
/-! The file beside a journal's goes, if it is there. -/
def tidyE (g : FS) (left : Int) (x : ByteArray) : Int := if isB g x = true ∧ left = 0 then 18 else 0
def tidyG (g : FS) (left : Int) (x : ByteArray) : FS := if isB g x = true ∧ left ≠ 0 then g.del x else g
def tidyL (g : FS) (left : Int) (x : ByteArray) : Int := if isB g x = true then leftE 0 left else left
set_option maxRecDepth 100000 in
set_option maxHeartbeats 1000000 in
theorem tidy_any (j p b N : Nat) (g : FS) (left : Int) (h1 : -1 ≤ left) (h2 : left ≤ 9223372036854775807) (hN : N ≤ 1099511627776) (name : ByteArray) (hn : name.size ≤ 1099511627776) (broken : Bool) (w : World) (hD : DiskAt w p b g left N) (hJ : JBlk w j p name broken) :
    Calls Tryd.prog 15 #[.pointer (some ⟨j, 0, none⟩)] w fun e w' => e = .returned (.int .i64 (tidyE g left (name ++ sufx))) ∧ DiskAt w' p b (tidyG g left (name ++ sufx)) (tidyL g left (name ++ sufx)) N ∧ Turned w w' p b := by
  have hx4 : (name ++ sufx).size = name.size + 4 := by rw [ByteArray.size_append]; rfl
  have hth := there_any j p b N g left hN name broken (name ++ sufx) w hD hJ
  have hne : memB ⟨#[]⟩ [name ++ sufx] = false := by
    cases hm : memB ⟨#[]⟩ [name ++ sufx] with
    | false => rfl
    | true =>
      have := List.mem_singleton.1 (memB_iff.1 hm)
      rw [← this] at hx4
      exact absurd hx4 (by show ¬ (0 = name.size + 4); omega)
  obtain ⟨c0, c1, c2, _⟩ := hJ.cells
  have hkf : ∀ W, Below w.heap.size w W → W.cell? ⟨j, 0, none⟩ = some (.pointer (some ⟨p, 0, none⟩)) ∧ W.cell? ⟨j, 1, none⟩ = some (.string name) := fun W hb => ⟨(hJ.below hb).cells.1, (hJ.below hb).cells.2.1⟩
  have hkt : ∀ W W', Below w.heap.size w W → Turned W W' p b → W'.cell? ⟨j, 0, none⟩ = some (.pointer (some ⟨p, 0, none⟩)) ∧ W'.cell? ⟨j, 1, none⟩ = some (.string name) := fun W W' hb ht => by
    have h := (hJ.below hb).turned (hD.below hb) ht
    exact ⟨h.cells.1, h.cells.2.1⟩
  have KT := Lib.hid hkt
  clear hkt
  cases hib : isB g (name ++ sufx) with
  | false =>
    have e1 : tidyE g left (name ++ sufx) = 0 := by rw [tidyE, hib]; simp
    have e2 : tidyG g left (name ++ sufx) = g := by rw [tidyG, hib]; simp
    have e3 : tidyL g left (name ++ sufx) = left := by rw [tidyL, hib]; simp
    rw [e1, e2, e3]
    rw [hib] at hth
    unfold sufx at hth hx4
    have HTH := Lib.hid hth
    have HD := Lib.hid hD
    clear hth hD hJ hkf hib hne e1 e2 e3
    go_enter Tryd.func15, Tryd.ntmps15
    go_wp2_with (go_at_call 16; refine (HTH.out).mono ?_; rintro e w1 ⟨rfl, hb1⟩)
    go_ret
    exact ⟨rfl, HD.out.below hb1, turned_of_below hb1 p b⟩
  | true =>
    have hrm := fun (W : World) h => remove_disk p b N g left h1 h2 (name ++ sufx) (by simp only [maxLen]; omega) W h
    obtain ⟨code, hcode⟩ : ∃ code, code = tidyE g left (name ++ sufx) := ⟨_, rfl⟩
    have hc2 : beginE true g left (name ++ sufx) [name ++ sufx] = code := by
      rw [hcode, beginE, hne, hib, tidyE, hib]; simp
    have e2 : removeG code g (name ++ sufx) = tidyG g left (name ++ sufx) := by
      rw [hcode, removeG, tidyG, tidyE, hib]
      by_cases hz : left = 0 <;> simp [hz]
    have e3 : leftE code left = tidyL g left (name ++ sufx) := by
      rw [hcode, tidyL, tidyE, hib]
      by_cases hz : left = 0 <;> simp [hz, leftE]
    rw [hc2, e2, e3] at hrm
    rw [← hcode]
    rw [hib] at hth
    generalize tidyG g left (name ++ sufx) = G2, tidyL g left (name ++ sufx) = L2 at hrm ⊢
    unfold sufx at hth hx4 hrm
    have hcc : ∀ W, (Op.stringOp .add name ⟨#[46, 110, 101, 119]⟩).run Tryd.prog W = .ok (.string (name ++ ⟨#[46, 110, 101, 119]⟩)) W := fun W => run_string_add_sum W _ _ (by have : ((⟨#[46, 110, 101, 119]⟩ : ByteArray).size : Int) = 4 := rfl; omega)
    have HTH := Lib.hid hth
    have HD := Lib.hid hD
    have HRM := Lib.hid hrm
    have KF := Lib.hid hkf
    clear hth hD hJ hrm hkf hib hne hcode hc2 e2 e3
    go_enter Tryd.func15, Tryd.ntmps15
    go_upto_region 3 with (go_at_call 16; refine (HTH.out).mono ?_; rintro e w1 ⟨rfl, hb1⟩; obtain ⟨c0, c1⟩ := KF.out w1 hb1; have B1 := Lib.hid hb1; clear hb1)
    go_region_held3 (fun W => W.cell? ⟨j, 0, none⟩ = some (.pointer (some ⟨p, 0, none⟩)) ∧ W.cell? ⟨j, 1, none⟩ = some (.string name)) (first | exact KF.out _ B1.out.drew | exact KT.out _ _ B1.out.drew T2.out) ((first
      | (go_at_call 31; refine (HRM.out _ (HD.out.below B1.out.drew)).mono ?_; rintro e w2 ⟨rfl, hd2, ht2⟩; have D2 := Lib.hid hd2; have T2 := Lib.hid ht2; clear hd2 ht2)))
    go_wp2
    go_ret
    exact ⟨rfl, D2.out, (turned_of_below B1.out.drew p b).trans T2.out⟩
end Go.Proofs.YtpllcnpcplbobaaDoor
