import Derived.Test.YtpllcnpcplbobaaDoorScanPure
import Derived.Test.YtpllcnpcplbobaaDoorText
import Derived.BigQuiet
import Derived.Laws.StructEq
import Derived.Deep.QuietTactic
import Derived.Deep.RegionHeld3
namespace Go.Proofs.YtpllcnpcplbobaaDoor
open Go.RowKit
/-- What journal.first answers: the record that bytes begin with, and whether one does. -/
def FirstOk (s : ByteArray) (e : Ending) : Prop := ∃ r b, e = .returned (.tuple #[.string r, .bool b]) ∧ stepAt s 0 = if b then some r else none
theorem text_beq (a b : ByteArray) : (a.toList == b.toList) = decide (a = b) := by
  have inj : a.toList = b.toList → a = b := fun h => by
    rw [ByteArray.toList_eq, ByteArray.toList_eq] at h
    exact WideShapes.bytes_inj h
  by_cases h : a = b
  · subst h; simp
  · rw [decide_eq_false h]
    simpa using fun e => h (inj e)
set_option maxRecDepth 100000 in
set_option maxHeartbeats 1000000 in
theorem first_any (s : ByteArray) (hs : s.size ≤ 1099511627776) (w : World) :
    Calls Tryd.prog 33 #[.string s] w fun e w' => FirstOk s e ∧ Below w.heap.size w w' := by
  by_cases h12 : s.size < 12
  · have hn : stepAt s 0 = none := if_neg (by omega)
    go_enter Tryd.func33, Tryd.ntmps33
    go_wp2_with fail
    go_ret2
    exact ⟨⟨⟨#[]⟩, false, rfl, hn⟩, Below.refl _ _⟩
  · have i0 : (0 : Int) < (s.size : Int) := by omega
    have i1 : (1 : Int) < (s.size : Int) := by omega
    have i2 : (2 : Int) < (s.size : Int) := by omega
    have i3 : (3 : Int) < (s.size : Int) := by omega
    have j0 : 0 < s.size := by omega
    have j1 : 1 < s.size := by omega
    have j2 : 2 < s.size := by omega
    have j3 : 3 < s.size := by omega
    have hnum := numAt_or (bat s 0) (bat s 1) (bat s 2) (bat s 3) (bat_lt _ _) (bat_lt _ _) (bat_lt _ _) (bat_lt _ _)
    rw [← bat_eq s 0 j0, ← bat_eq s 1 j1, ← bat_eq s 2 j2, ← bat_eq s 3 j3] at hnum
    obtain ⟨n, hn⟩ : ∃ n, n = ((s[0].toNat * 256 + s[1].toNat) * 256 + s[2].toNat) * 256 + s[3].toNat := ⟨_, rfl⟩
    rw [← hn] at hnum
    have hnA : n = numAt s 0 := by rw [hn, bat_eq s 0 j0, bat_eq s 1 j1, bat_eq s 2 j2, bat_eq s 3 j3]; rfl
    have HN := Lib.hid hnA
    have HM := Lib.hid hnum
    clear hn hnA hnum
    go_enter Tryd.func33, Tryd.ntmps33
    go_upto_region 3 with (fail)
    go_quiet (fail)
    rw [HM.out]
    by_cases hg : 1048576 < n
    · go_wp2_with fail
      go_ret2
      exact ⟨⟨⟨#[]⟩, false, rfl, if_neg (by rw [← HN.out]; omega)⟩, below_drewN (Below.refl _ _) _⟩
    · by_cases hl : s.size - 12 < n
      · go_wp2_with fail
        go_ret2
        exact ⟨⟨⟨#[]⟩, false, rfl, if_neg (by rw [← HN.out]; omega)⟩, below_drewN (Below.refl _ _) _⟩
      · have c1 := run_cut (P := Tryd.prog) 9 Tryd.underlying9 s 12 (12 + n) (by omega) (by omega) 12 (12 + (n : Int)) rfl (by omega)
        have c2 := run_cut_high (P := Tryd.prog) 9 Tryd.underlying9 s 12 (by omega) 12 rfl
        obtain ⟨r, hr⟩ : ∃ r, r = s.extract 12 (12 + n) := ⟨_, rfl⟩
        obtain ⟨q, hq⟩ : ∃ q, q = s.extract 0 12 := ⟨_, rfl⟩
        have hd := fun W => heading_any r (by rw [hr, ByteArray.size_extract]; omega) W
        rw [← hr] at c1
        rw [← hq] at c2
        have hst : stepAt s 0 = if strOfNums (headL r) = q then some r else none := by
          have e : stepAt s 0 = if 0 + 12 ≤ s.size ∧ n ≤ 1048576 ∧ 0 + 12 + n ≤ s.size ∧ strOfNums (headL (s.extract 12 (12 + n))) = s.extract 0 12 then some (s.extract 12 (12 + n)) else none := by
            rw [HN.out]; simp [stepAt]
          rw [e, ← hr, ← hq]
          congr 1
          apply propext
          exact ⟨fun h => h.2.2.2, fun h => ⟨by omega, by omega, by omega, h⟩⟩
        have HD := Lib.hid hd
        have HST := Lib.hid hst
        clear hr hq hd hst
        go_upto_region 7 with (fail)
        go_region_held3 (fun _ => True) (trivial) ((first | (go_simp; go_at_call 30; refine (HD.out _).mono ?_; rintro e w1 ⟨rfl, hb1⟩)))
        go_wp2
        go_ret2
        refine ⟨⟨r, _, rfl, ?_⟩, (below_drewN (Below.refl w.heap.size w) _).trans hb1⟩
        rw [HST.out, text_beq]
        simp
end Go.Proofs.YtpllcnpcplbobaaDoor
