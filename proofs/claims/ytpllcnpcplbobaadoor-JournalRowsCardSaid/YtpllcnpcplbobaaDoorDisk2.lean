import Derived.Test.YtpllcnpcplbobaaDoorDisk1
import Derived.BigRegion
import Derived.RegionTactic
import Derived.Deep.DeepCutAuto
import Derived.Deep.CutBlock
import Derived.Deep.RegionHeld3
import Derived.Outline
namespace Go.Proofs.YtpllcnpcplbobaaDoor
open Go.RowKit Go.Maps
def isB (g : FS) (x : ByteArray) : Bool := (g x).isSome
/-- The error's number of a writing call's beginning. -/
def beginE (there : Bool) (g : FS) (left : Int) (x : ByteArray) (l : List ByteArray) : Int :=
  if memB ⟨#[]⟩ l then 1 else if there && !isB g x then 10 else if left = 0 then 18 else 0
def leftE (code left : Int) : Int := if code = 0 ∧ 0 < left then left - 1 else left
set_option maxRecDepth 100000 in
set_option maxHeartbeats 1000000 in
theorem begin_disk (p b N : Nat) (g : FS) (left : Int) (hl1 : -1 ≤ left) (hl2 : left ≤ 9223372036854775807) (there : Bool) (va : Value) (x : ByteArray) (hx : x.size ≤ maxLen) (A : List ByteArray) (hAm : A.length ≤ 1000) (w : World)
    (hD : DiskAt w p b g left N) (hA : TextsAt w va (x :: A)) :
    Calls Tryd.prog 38 #[.pointer (some ⟨p, 0, none⟩), .bool there, va] w fun e w' => e = .returned (.int .i64 (beginE there g left x (x :: A))) ∧ DiskAt w' p b g (leftE (beginE there g left x (x :: A)) left) N ∧ Turned w w' p b := by
  have hA2 := hA
  obtain ⟨a, ca, rfl, ha⟩ := hA
  rcases ha with h0 | ⟨b1, o1, rfl, hc1⟩
  · simp at h0
  have d0 : w.cell? ⟨b1, o1, none⟩ = some (.string x) := by
    have h := hc1 0 (by simp)
    rw [Nat.add_zero] at h
    exact h
  have c0 := hD.cell0
  have hltp := hD.lt
  have hlt1 : b1 < w.heap.size := block_lt_of_cell d0
  have hk1 := ((hD.files.of_heap (w' := w.drew) rfl).look x hx).1
  have hk2 := ((hD.files.of_heap (w' := (w.alloc (.cells #[.string ⟨#[]⟩, .int .i64 0] 66)).drew) (heap_alloc_old _ _ hD.files.lt)).look x hx).1
  obtain ⟨is, his⟩ : ∃ is, is = (g x).isSome := ⟨_, rfl⟩
  obtain ⟨⟨fd, fs⟩, hfv⟩ : ∃ f : ByteArray × Int, f = (g x).getD noFile := ⟨_, rfl⟩
  rw [← his, ← hfv] at hk1 hk2
  simp only [fileV] at hk1 hk2
  have HIS := Lib.hid his
  have HD := Lib.hid hD
  have HA := Lib.hid hA2
  obtain ⟨n, hn⟩ : ∃ n, n = (x :: A).length := ⟨_, rfl⟩
  rw [← hn] at hA2 ⊢
  have hn1 : (0 : Int) < (n : Int) := by rw [hn]; simp
  have hn2 : 0 < n := by rw [hn]; simp
  have HN := Lib.hid hn
  clear hA2 hc1 his hfv hD hn
  go_enter Tryd.func38, Tryd.ntmps38
  go_upto_region 1 with (fail)
  go_cut [8] (fun s8 wx => s8 = .bool is ∧ Below w.heap.size w wx)
  case first =>
    go_region
    all_goals go_wp2_with fail
    all_goals go_meet
    all_goals exact ⟨rfl, ((Below.refl _ _).alloc (Nat.le_refl _) _).drew⟩
  case rest =>
    obtain ⟨rfl, hbw⟩ := hcut
    have hDc := HD.out.below hbw
    have hT := turned_of_below hbw p b
    obtain ⟨mb, hmb⟩ : ∃ mb, mb = memB ⟨#[]⟩ (x :: A) := ⟨_, rfl⟩
    have hcon := contains_any _ _ (by simp; omega) ⟨#[]⟩ wc (HA.out.below hbw)
    rw [← hmb, ← HN.out] at hcon
    have c1 := hDc.cell1
    have cf := frozen_of_row wc p 1 _ _ hDc.cells
    have hltc := hDc.lt
    have HDC := Lib.hid hDc
    have HT := Lib.hid hT
    have HMB := Lib.hid hmb
    have HCON := Lib.hid hcon
    clear hk1 hk2 hDc hT hmb hcon hbw c0 d0
    have hE : ∀ c, beginE there g left x (x :: A) = c → beginE there g left x (x :: A) = c := fun _ h => h
    cases mb with
    | true =>
      have he : beginE there g left x (x :: A) = 1 := by rw [beginE, ← HMB.out]; rfl
      have HE := Lib.hid he
      clear he hE
      go_wp2_with (go_at_call 32; refine (HCON.out).mono ?_; rintro e w1 ⟨rfl, rfl⟩)
      go_ret
      rw [HE.out]
      exact ⟨rfl, HDC.out, HT.out⟩
    | false =>
      by_cases hnone : there = true ∧ is = false
      · obtain ⟨rfl, rfl⟩ := hnone
        have he : beginE true g left x (x :: A) = 10 := by rw [beginE, ← HMB.out, isB, ← HIS.out]; rfl
        have HE := Lib.hid he
        clear he hE
        go_wp2_with (go_at_call 32; refine (HCON.out).mono ?_; rintro e w1 ⟨rfl, rfl⟩)
        go_ret
        rw [HE.out]
        exact ⟨rfl, HDC.out, HT.out⟩
      · have hti : (there && !is) = false := by
          cases there <;> cases is <;> simp_all
        have hcase : there = false ∨ (there = true ∧ is = true) := by
          cases there <;> cases is <;> simp_all
        clear hnone
        have hb0 : isB g x = is := HIS.out.symm
        have HB0 := Lib.hid hb0
        clear hb0
        by_cases hz : left = 0
        · subst hz
          have he : beginE there g 0 x (x :: A) = 18 := by rw [beginE, ← HMB.out, HB0.out, hti]; rfl
          have HE := Lib.hid he
          clear he hE hti
          rcases hcase with rfl | ⟨rfl, rfl⟩
          all_goals
            go_wp2_with (go_at_call 32; refine (HCON.out).mono ?_; rintro e w1 ⟨rfl, rfl⟩)
            go_ret
            rw [HE.out]
            exact ⟨rfl, HDC.out, HT.out⟩
        · have he : beginE there g left x (x :: A) = 0 := by rw [beginE, ← HMB.out, HB0.out, hti]; simp [hz]
          have hzb : (left == 0) = false := by simpa using hz
          have HE := Lib.hid he
          clear he hE hti
          by_cases hp : 0 < left
          · rcases hcase with rfl | ⟨rfl, rfl⟩
            all_goals
              go_wp2_with (go_at_call 32; refine (HCON.out).mono ?_; rintro e w1 ⟨rfl, rfl⟩)
              go_ret
              rw [HE.out]
              refine ⟨rfl, ⟨?_, HDC.out.files.of_heap (heap_setCell_other _ _ _ _ ?_)⟩, HT.out.trans ⟨rfl, rfl, rfl, by simp [World.setCell], fun k _ hk _ => heap_setCell_other _ _ _ _ (by simpa using hk)⟩⟩
              · rw [heap_setCell_same _ _ _ _ _ _ HDC.out.cells, leftE, if_pos ⟨rfl, hp⟩]; rfl
              · exact Ne.symm HDC.out.ne
          · rcases hcase with rfl | ⟨rfl, rfl⟩
            all_goals
              go_wp2_with (go_at_call 32; refine (HCON.out).mono ?_; rintro e w1 ⟨rfl, rfl⟩)
              go_ret
              rw [HE.out]
              refine ⟨rfl, ?_, HT.out⟩
              rw [leftE, if_neg (by omega)]
              exact HDC.out
end Go.Proofs.YtpllcnpcplbobaaDoor
