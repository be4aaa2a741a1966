import Derived.Test.YtpllcnpcplbobaaGreatM19
import Derived.Test.YtpllcnpcplbobaaGreatM02
import Derived.Test.YtpllcnpcplbobaaGreatM06
import Derived.Deep.RegionHeld3
import Derived.Outline
import Derived.IntWalk
import Derived.Deep.AppendLies
import Derived.Laws.OwnMore
import Derived.Deep.DeepCutAuto
import Derived.Deep.CutBlock
namespace Go.Proofs.YtpllcnpcplbobaaGreat
open Go.RowKit
theorem quiet_add_of {P : Program} {f : FuncId} {args : Array Value} {w : World} {a n : Nat} {v : Value}
    (h : Calls P f args (w.drewN (a + n)) fun e w' => e = .returned v ∧ ∃ m, w' = (w.drewN (a + n)).drewN m) :
    Calls P f args (w.drewN (a + n)) fun e w'' => e = .returned v ∧ ∃ m, w'' = w.drewN (a + m) :=
  h.mono fun _ _ ⟨he, m, hm⟩ => ⟨he, n + m, by rw [hm]; simp [World.drewN, Nat.add_assoc]⟩
theorem Sha.round_cells (W V : List Int) (k : Nat) : (#[.int .u32 ((Sha.t1 W V k % 4294967296 + Sha.t2 V % 4294967296) % 4294967296), .int .u32 (Sha.nth V 0), .int .u32 (Sha.nth V 1), .int .u32 (Sha.nth V 2),
    .int .u32 ((Sha.nth V 3 + Sha.t1 W V k % 4294967296) % 4294967296), .int .u32 (Sha.nth V 4), .int .u32 (Sha.nth V 5), .int .u32 (Sha.nth V 6)] : Array Value) = Sha.words (Sha.round W V k) := by
  have e1 : (Sha.t1 W V k % 4294967296 + Sha.t2 V % 4294967296) % 4294967296 = (Sha.t1 W V k + Sha.t2 V) % 4294967296 := by omega
  have e2 : (Sha.nth V 3 + Sha.t1 W V k % 4294967296) % 4294967296 = (Sha.nth V 3 + Sha.t1 W V k) % 4294967296 := by omega
  rw [e1, e2]
  rfl
/-- The sums of eight words, one behind the other. -/
def Sha.refMix (S V : List Int) : Nat → List Int
  | 0 => []
  | k + 1 => Sha.refMix S V k ++ [(Sha.nth S k + Sha.nth V k) % 4294967296]
theorem Sha.length_refMix (S V : List Int) : ∀ k, (Sha.refMix S V k).length = k
  | 0 => rfl
  | k + 1 => by simp [Sha.refMix, Sha.length_refMix S V k]
theorem Sha.refMix_eq (S V : List Int) (hS : S.length = 8) (hV : V.length = 8) : Sha.refMix S V 8 = Sha.mixTo S V 8 := by
  obtain ⟨a0, a1, a2, a3, a4, a5, a6, a7, rfl⟩ := Sha.list8 hS
  obtain ⟨b0, b1, b2, b3, b4, b5, b6, b7, rfl⟩ := Sha.list8 hV
  simp [Sha.refMix, Sha.mixTo, Sha.nth]
theorem cell_alloc_at (w : World) (n : Nat) (cs : Array Value) (t : TypeId) (j : Nat) : ((w.drewN n).alloc (.cells cs t)).cell? ⟨w.heap.size, j, none⟩ = cs[j]? :=
  cell_of_row _ _ _ _ _ _ (heap_alloc_new (w.drewN n) (.cells cs t))
theorem Sha.wrap4 (a b c d : Int) : IntKind.u32.wrap (IntKind.u32.wrap (IntKind.u32.wrap (a + b) + c) + d) = (a + b + c + d) % 4294967296 := by
  simp only [IntKind.wrap_u32]; omega
def W32 (l : List Int) : List Value := l.map (Value.int .u32)
theorem length_W32 (l : List Int) : (W32 l).length = l.length := by simp [W32]
theorem W32_get (l : List Int) (i : Nat) (h : i < l.length) : (W32 l)[i]? = some (.int .u32 (Sha.nth l i)) := by simp [W32, Sha.nth, h]
set_option maxRecDepth 100000 in
set_option maxHeartbeats 2000000 in
theorem rblock_any (hb ho hcap bk off cap : Nat) (S B : List Int) (hS : S.length = 8) (hB : Sha.IsBytes B) (hcp : 64 ≤ cap) (w : World)
    (hs : ∀ j, j < 8 → w.cell? ⟨hb, ho + j, none⟩ = some (.int .u32 (Sha.nth S j)))
    (hc : ∀ j, j < 64 → w.cell? ⟨bk, off + j, none⟩ = some (.int .u8 (Sha.nth B j))) :
    Calls Tryz.prog 74 #[.slice (some ⟨hb, ho, none⟩) 8 hcap, .slice (some ⟨bk, off, none⟩) 64 cap] w fun e w' => ∃ v, e = .returned v ∧
      OwnM w' w.heap.size 119 v (W32 (Sha.block S B)) ∧ Below w.heap.size w w' := by
  have hbk : bk < w.heap.size := block_lt_of_cell (hc 0 (by omega))
  have hhb : hb < w.heap.size := block_lt_of_cell (hs 0 (by omega))
  obtain ⟨i0, hi0, hz0, hz1, hz2⟩ := info_parts (show (Tryz.prog.info? 119).map (fun i => (i.zero, i.size, i.bytes)) = some (some (.int .u32 0), 1, 4) by kernel_rfl)
  have HI := Lib.hid hi0
  have HZ0 := Lib.hid hz0
  have HZ1 := Lib.hid hz1
  have HZ2 := Lib.hid hz2
  clear hi0 hz0 hz1 hz2
  have HC := Lib.hid hc
  have HS := Lib.hid hs
  have HB := Lib.hid hB
  clear hs hc hB
  go_enter Tryz.func74, Tryz.ntmps74
  go_wp2_with (go_at_call 80; refine (rks_any _).mono ?_; rintro e w1 ⟨rfl, rfl⟩)
  go_loopw [6, 7] (fun s i wr => ∃ k : Nat, k ≤ 64 ∧ i = .int .i64 k ∧ OwnM wr (w.heap.size + 1) 119 s (W32 (Sha.refW B k)) ∧ Below (w.heap.size + 1) (w.alloc (.cells (Sha.words Sha.KS) 119)) wr)
    (fun _ i _ => 64 - (intOf i).toNat)
  case atStart => exact ⟨0, by omega, rfl, OwnM.nil0 _ _ _ _ (by simp) (by have := heap_alloc2_new w (.cells (Sha.words Sha.KS) 119) (.cells #[] 119); simpa using this), (Below.refl _ _).alloc (by simp) _⟩
  case round =>
    obtain ⟨k, hk, rfl, hown, hbel⟩ := hrel
    have hbw : Below w.heap.size w wr := ((Below.refl _ _).alloc (Nat.le_refl _) _).trans (hbel.mono (by omega))
    by_cases hlt : k < 64
    · by_cases h16 : k < 16
      · have q0 : wr.cell? ⟨bk, off + 4 * k, none⟩ = _ := (hbw.cell hbk).trans (HC.out (4 * k) (by omega))
        have q1 : wr.cell? ⟨bk, off + 4 * k + 1, none⟩ = _ := (hbw.cell hbk).trans (HC.out (4 * k + 1) (by omega))
        have q2 : wr.cell? ⟨bk, off + 4 * k + 2, none⟩ = _ := (hbw.cell hbk).trans (HC.out (4 * k + 2) (by omega))
        have q3 : wr.cell? ⟨bk, off + 4 * k + 3, none⟩ = _ := (hbw.cell hbk).trans (HC.out (4 * k + 3) (by omega))
        have hwd := fun cap' => rword_any bk (off + 4 * k) cap' _ _ _ _ wr q0 q1 q2 q3 (HB.out _) (HB.out _) (HB.out _) (HB.out _)
        have HWD := Lib.hid hwd
        have HOWN := Lib.hid hown
        clear q0 q1 q2 q3 hwd hown
        go_wp2_with (first | (go_at_call 81; go_must (refine (HWD.out _).mono ?_; rintro e w2 ⟨rfl, hb2⟩; have HB2 := Lib.hid hb2; clear hb2)) | (at_builtin; go_must (refine wpList_append_m _ rfl _ _ 120 rfl (w.heap.size + 1) 119 i0 (.int .u32 0) Tryz.underlying120 HI.out HZ0.out HZ1.out rfl _ (W32 (Sha.refW B k)) rfl ((HOWN.out.below HB2.out).alloc _) ⟨_, 0, none⟩ 1 (.int .u32 (Sha.word4 (Sha.nth B (4 * k)) (Sha.nth B (4 * k + 1)) (Sha.nth B (4 * k + 2)) (Sha.nth B (4 * k + 3)))) rfl (cell_new1 _ _ _) rfl ?g1 ?g2 ?g3 ?g4)))
        case g1 => rw [length_W32, Sha.length_refW]; simp only [maxLen]; omega
        case g2 => rw [length_W32, Sha.length_refW, HZ2.out]; omega
        case g3 => have h1 := hbel.size; have h2 := HB2.out.size; simp at h1 ⊢; omega
        intro v' w' hown' hgrow'
        go_wp2
        go_roundw
        case measure => simp [intOf]; omega
        case rel =>
          have h2 := HB2.out
          have hb := HOWN.out.base
          refine ⟨k + 1, by omega, by go_num, ?_, ?_⟩
          · simp only [Sha.refW, if_pos h16]; simpa [W32] using hown'
          · exact below_grow ((hbel.trans (h2.mono (by have := hbel.size; simp at this; omega))).alloc (by have := hbel.size; have := h2.size; simp at *; omega) _) hgrow' hb (by have := hbel.size; have := h2.size; simp at *; omega)
      · obtain ⟨g, cp, hv, hg, hlc, hgs, hcell⟩ := hown.cell
        rw [length_W32, Sha.length_refW] at hv hlc
        subst hv
        have hcw : ∀ j, j < k → wr.cell? ⟨g, j, none⟩ = some (.int .u32 (Sha.nth (Sha.refW B k) j)) := fun j hj => hcell j _ (W32_get _ _ (by rw [Sha.length_refW]; exact hj))
        have h15 := hcw (k - 15) (by omega)
        have h2 := hcw (k - 2) (by omega)
        have h7 := hcw (k - 7) (by omega)
        have hk16 := hcw (k - 16) (by omega)
        have HOWN := Lib.hid hown
        have HBEL := Lib.hid hbel
        have HL3 := Lib.hid (show k - 16 < (W32 (Sha.refW B k)).length by rw [length_W32, Sha.length_refW]; omega)
        have HL4 := Lib.hid (show k - 7 < (W32 (Sha.refW B k)).length by rw [length_W32, Sha.length_refW]; omega)
        have HL1 := Lib.hid (show (W32 (Sha.refW B k)).length + 1 ≤ maxLen by rw [length_W32, Sha.length_refW]; simp only [maxLen]; omega)
        have HL2 := Lib.hid (show ((W32 (Sha.refW B k)).length + 1) * i0.bytes ≤ 140737488355328 by rw [length_W32, Sha.length_refW, HZ2.out]; omega)
        clear hcw hcell hown hbel hbw
        go_wp2_with fail
        go_quiet (fail)
        go_wp2_with fail
        have a1 : IntKind.i64.wrap ((k : Int) - 16) = (k : Int) - 16 := IntWalk.i64_in _ (by omega)
        have a2 : (0 : Int) ≤ (k : Int) - 16 := by omega
        have a3 : (k : Int) - 16 < (k : Int) := by omega
        have a4 : ((k : Int) - 16).toNat = k - 16 := by omega
        have b1 : IntKind.i64.wrap ((k : Int) - 7) = (k : Int) - 7 := IntWalk.i64_in _ (by omega)
        have b2 : (0 : Int) ≤ (k : Int) - 7 := by omega
        have b3 : (k : Int) - 7 < (k : Int) := by omega
        have b4 : ((k : Int) - 7).toNat = k - 7 := by omega
        have b5 : (7 : Int) ≤ (k : Int) := by omega
        have b6 : 7 ≤ k := by omega
        have b7 : ¬ (k : Int) < 7 := by omega
        have b8 : ¬ k < 7 := by omega
        go_region_held3 (fun W => W.cell? ⟨g, k - 16, none⟩ = some (.int .u32 (Sha.nth (Sha.refW B k) (k - 16))) ∧ W.cell? ⟨g, k - 7, none⟩ = some (.int .u32 (Sha.nth (Sha.refW B k) (k - 7))))
            (first | exact ⟨hk16, h7⟩ | (go_split_ands; exact ⟨hkept' _ _ _ (by assumption) (.inr HL3.out), hkept' _ _ _ (by assumption) (.inr HL4.out)⟩) | go_keep)
            ((first | (refine step_append_k _ (by rfl) _ _ 120 (by rfl) (w.heap.size + 1) 119 i0 (.int .u32 0) Tryz.underlying120 HI.out HZ0.out HZ1.out rfl _ (W32 (Sha.refW B k)) (by rfl) ((HOWN.out.of_heap rfl).alloc _) ⟨_, 0, none⟩ 1 _ (by rfl) (cell_new1 _ _ _) rfl HL1.out HL2.out (by have := HBEL.out.size; simp at this ⊢; omega) ?_; intro v' w' hown' hgrow' hkept') | (go_simp; go_at_call 82; refine (rturn_any _ (by decide) _ _).mono ?_; rintro e w' ⟨rfl, m, rfl⟩)))
        go_wp2
        go_roundw
        case measure => simp [intOf]; omega
        case rel =>
          have hb := HOWN.out.base
          refine ⟨k + 1, by omega, by go_num, ?_, ?_⟩
          · simp only [Sha.refW, if_neg h16]
            refine Eq.mp (congrArg (OwnM w' _ _ v') ?_) hown'
            simp only [W32, List.map_append, List.map_cons, List.map_nil]
            rw [Sha.wrap4]
            rfl
          · have hbel := HBEL.out
            exact below_grow ((below_drewN hbel _).alloc (by have := hbel.size; simp at *; omega) _) hgrow' hb (by have := hbel.size; simp at *; omega)
    · have hk64 : k = 64 := by omega
      rw [hk64, Sha.refW_eq B HB.out] at hown
      have hq : ∀ j u, (W32 S)[j]? = some u → wr.cell? ((⟨hb, ho, none⟩ : Addr).add j) = some u := fun j u hj => by
        have hj8 : j < 8 := by
          have := (List.getElem?_eq_some_iff.1 hj).1
          rw [length_W32, hS] at this; exact this
        rw [W32_get S j (by omega)] at hj
        rw [← Option.some.inj hj, Addr.add_lit]
        exact (hbw.cell hhb).trans (HS.out j hj8)
      have HQ := Lib.hid hq
      have HOWN := Lib.hid hown
      have HBEL := Lib.hid hbel
      have HBW := Lib.hid hbw
      have HS8 := Lib.hid hS
      have HLW := Lib.hid (show (W32 S).length = 8 by rw [length_W32, hS])
      clear hk64 hk hq hown hbel hbw hS
      go_wp2_with (at_builtin; go_must (refine wpList_append_grows _ rfl _ _ 120 rfl 119 i0 (.int .u32 0) 1 4 Tryz.underlying120 HI.out HZ0.out HZ1.out HZ2.out rfl (by omega) (some ⟨wr.heap.size, 0, none⟩) 0 0 [] rfl (by simp) rfl (by simp) ⟨hb, ho, none⟩ 8 hcap (W32 S) rfl (HLW.out.trans rfl) (fun j u hj => by have := HQ.out j u hj; rw [World.cell?_alloc_lt _ _ _ (World.block_lt_of_cell? _ _ this)]; exact this) (by simp [W32, Value.oneCell']) (by omega) (by decide) (by decide) ?_))
      intro v w2 hrow hgr
      go_wp2_with fail
      obtain ⟨g2, cp2, rfl, hg2, hlt2⟩ := hrow.form (by omega)
      have hl0 : ∀ j, j < 8 → w2.cell? ⟨g2, j, none⟩ = some (.int .u32 (Sha.nth S j)) := fun j hj => by
        rw [hrow.cellAt j (by omega)]
        exact W32_get S j (by rw [HS8.out]; exact hj)
      have hb2 : Below wr.heap.size wr w2 := ((Below.refl _ _).alloc (Nat.le_refl _) _).trans ⟨hgr.os, hgr.tape, hgr.output, hgr.size, fun k hk => hgr.block k (by simp; omega) (by simp)⟩
      have hks : ∀ j, j < 64 → wr.cell? ⟨w.heap.size, j, none⟩ = some (.int .u32 (Sha.nth Sha.KS j)) := fun j hj => by
        rw [HBEL.out.cell (by simp), cell_of_row _ _ _ _ _ _ (heap_alloc_new w _)]
        exact Sha.words_get _ _ hj
      obtain ⟨g6, cp6, hv6, hg6, hl6, hs6, hc6⟩ := HOWN.out.cell
      rw [length_W32, Sha.spread, Sha.length_spreadTo] at hv6 hl6
      have hw6 : ∀ j, j < 64 → wr.cell? ⟨g6, j, none⟩ = some (.int .u32 (Sha.nth (Sha.spread B) j)) := fun j hj => hc6 j _ (W32_get _ _ (by rw [Sha.spread, Sha.length_spreadTo]; exact hj))
      subst hv6
      have hsw : w.heap.size < wr.heap.size := by have := HBEL.out.size; simp at this; omega
      have HKS := Lib.hid hks
      have HW6 := Lib.hid hw6
      have HLR := Lib.hid (Sha.length_roundsTo (Sha.spread B) S HS8.out)
      have HB2 := Lib.hid hb2
      have HL0 := Lib.hid hl0
      clear hks hw6 hc6 hb2 hl0 hrow hgr
      obtain ⟨wo, rfl⟩ : ∃ wo : World, wo = wr := ⟨_, rfl⟩
      go_loopw [10, 11] (fun s i wx => ∃ (k g cp : Nat), k ≤ 64 ∧ i = .int .i64 k ∧ s = .slice (some ⟨g, 0, none⟩) 8 cp ∧ (∀ j, j < 8 → wx.cell? ⟨g, j, none⟩ = some (.int .u32 (Sha.nth (Sha.roundsTo (Sha.spread B) S k) j))) ∧ Below wo.heap.size wo wx)
        (fun _ i _ => 64 - (intOf i).toNat)
      case atStart => exact ⟨0, g2, cp2, by omega, rfl, rfl, HL0.out, HB2.out⟩
      case round =>
        clear HB2 HL0 hg2 hlt2
        obtain ⟨k, g, cp, hk, rfl, rfl, hl, hbx⟩ := hrel
        by_cases hlt : k < 64
        · have d0 := hl 0 (by omega)
          have d1 := hl 1 (by omega)
          have d2 := hl 2 (by omega)
          have d3 := hl 3 (by omega)
          have d4 := hl 4 (by omega)
          have d5 := hl 5 (by omega)
          have d6 := hl 6 (by omega)
          have d7 := hl 7 (by omega)
          have dk : wr.cell? ⟨w.heap.size, k, none⟩ = some (.int .u32 (Sha.nth Sha.KS k)) := (hbx.cell hsw).trans (HKS.out k hlt)
          have dw : wr.cell? ⟨g6, k, none⟩ = some (.int .u32 (Sha.nth (Sha.spread B) k)) := (hbx.cell hs6).trans (HW6.out k hlt)
          clear hl
          obtain ⟨V, hV⟩ : ∃ V, V = Sha.roundsTo (Sha.spread B) S k := ⟨_, rfl⟩
          rw [← hV] at d0 d1 d2 d3 d4 d5 d6 d7
          have HV := Lib.hid hV
          have HBX := Lib.hid hbx
          clear hV hbx
          go_wp2_with fail
          go_quiet (fail)
          go_wp2_with fail
          go_quiet ((go_at_call 82; exact quiet_add_of (rturn_any _ (by decide) _ _)))
          go_wp2_with fail
          go_quiet ((go_at_call 82; exact quiet_add_of (rturn_any _ (by decide) _ _)))
          go_wp2_with fail
          go_region_held3 (fun W => W.cell? ⟨g, 1, none⟩ = some (.int .u32 (Sha.nth V 1)) ∧ W.cell? ⟨g, 2, none⟩ = some (.int .u32 (Sha.nth V 2)) ∧ W.cell? ⟨g, 3, none⟩ = some (.int .u32 (Sha.nth V 3)) ∧ W.cell? ⟨g, 5, none⟩ = some (.int .u32 (Sha.nth V 5)) ∧ W.cell? ⟨g, 6, none⟩ = some (.int .u32 (Sha.nth V 6)))
            (first | exact ⟨d1, d2, d3, d5, d6⟩ | go_keep)
            (fail)
          go_wp2
          go_roundw
          case measure => simp [intOf]; omega
          case rel =>
            refine ⟨k + 1, _, 8, by omega, by go_num, rfl, fun j hj => ?_, (below_drewN HBX.out _).alloc HBX.out.size _⟩
            refine (cell_alloc_at wr _ _ _ j).trans ((congrArg (fun a : Array Value => a[j]?) (Sha.round_cells (Sha.spread B) V k)).trans ?_)
            rw [HV.out]
            exact Sha.words_get _ _ hj
        · have hk64 : k = 64 := by omega
          obtain ⟨V, hV⟩ : ∃ V, V = Sha.roundsTo (Sha.spread B) S 64 := ⟨_, rfl⟩
          rw [hk64, ← hV] at hl
          have hgl : g < wr.heap.size := block_lt_of_cell (hl 0 (by omega))
          have hh : ∀ j, j < 8 → wr.cell? ⟨hb, ho + j, none⟩ = some (.int .u32 (Sha.nth S j)) := fun j hj => (HBW.out.trans (hbx.mono (by omega))).cell hhb |>.trans (HS.out j hj)
          have HH := Lib.hid hh
          have HL := Lib.hid hl
          have HV := Lib.hid hV
          have HV8 := Lib.hid (show V.length = 8 by rw [hV]; exact HLR.out 64)
          have HBX := Lib.hid (HBW.out.trans (hbx.mono (by omega)) : Below w.heap.size w wr)
          clear hl hbx hh hV hk64
          go_wp2_with fail
          obtain ⟨wo, rfl⟩ : ∃ wo : World, wo = wr := ⟨_, rfl⟩
          go_loopw [16, 17] (fun s i wx => ∃ k : Nat, k ≤ 8 ∧ i = .int .i64 k ∧ OwnM wx wo.heap.size 119 s (W32 (Sha.refMix S V k)) ∧ Below wo.heap.size wo wx)
            (fun _ i _ => 8 - (intOf i).toNat)
          case atStart => exact ⟨0, by omega, rfl, OwnM.nil0 _ _ _ _ (Nat.le_refl _) (heap_alloc_new _ _), (Below.refl _ _).alloc (Nat.le_refl _) _⟩
          case round =>
            obtain ⟨k, hk, rfl, hown, hbx⟩ := hrel
            by_cases hlt : k < 8
            · have d0 : wr.cell? ⟨hb, ho + k, none⟩ = _ := (hbx.cell (World.block_lt_of_cell? _ _ (HH.out k hlt))).trans (HH.out k hlt)
              have d1 : wr.cell? ⟨g, k, none⟩ = _ := (hbx.cell hgl).trans (HL.out k hlt)
              have HOWN2 := Lib.hid hown
              have HBX2 := Lib.hid hbx
              have HL1 := Lib.hid (show (W32 (Sha.refMix S V k)).length + 1 ≤ maxLen by rw [length_W32, Sha.length_refMix]; simp only [maxLen]; omega)
              have HL2 := Lib.hid (show ((W32 (Sha.refMix S V k)).length + 1) * i0.bytes ≤ 140737488355328 by rw [length_W32, Sha.length_refMix, HZ2.out]; omega)
              have HN1 := Lib.hid (show u16.ownBlock ≠ some hb from fun e => by have := hown.base _ e; have := HBX.out.size; omega)
              have HN2 := Lib.hid (show u16.ownBlock ≠ some g from fun e => by have := hown.base _ e; omega)
              clear hown hbx
              go_wp2_with fail
              go_region_held3 (fun W => W.cell? ⟨hb, ho + k, none⟩ = some (.int .u32 (Sha.nth S k)) ∧ W.cell? ⟨g, k, none⟩ = some (.int .u32 (Sha.nth V k)))
                (first | exact ⟨d0, d1⟩ | (go_split_ands; exact ⟨hkept' _ _ _ (by assumption) (.inl HN1.out), hkept' _ _ _ (by assumption) (.inl HN2.out)⟩) | go_keep)
                ((refine step_append_k _ (by rfl) _ _ 120 (by rfl) wo.heap.size 119 i0 (.int .u32 0) Tryz.underlying120 HI.out HZ0.out HZ1.out rfl _ (W32 (Sha.refMix S V k)) (by rfl) ((HOWN2.out.of_heap rfl).alloc _) ⟨_, 0, none⟩ 1 _ (by rfl) (cell_new1 _ _ _) rfl HL1.out HL2.out (by have := HBX2.out.size; simp at this ⊢; omega) ?_; intro v' w' hown' hgrow' hkept'))
              go_wp2
              go_roundw
              case measure => simp [intOf]; omega
              case rel =>
                have hb := HOWN2.out.base
                have hbx := HBX2.out
                refine ⟨k + 1, by omega, by go_num, ?_, below_grow ((below_drewN hbx _).alloc (by have := hbx.size; simp at *; omega) _) hgrow' hb (by have := hbx.size; simp at *; omega)⟩
                refine Eq.mp (congrArg (OwnM w' _ _ v') ?_) hown'
                simp only [W32, Sha.refMix, List.map_append, List.map_cons, List.map_nil]
                rfl
            · have hk8 : k = 8 := by omega
              rw [hk8, Sha.refMix_eq S V HS8.out HV8.out] at hown
              have HOWN2 := Lib.hid hown
              clear hown hk8
              go_wp2_with fail
              go_ret
              refine ⟨_, rfl, ?_, HBX.out.trans (hbx.mono HBX.out.size)⟩
              have h := HOWN2.out
              rw [HV.out] at h
              exact h.rebase HBX.out.size
end Go.Proofs.YtpllcnpcplbobaaGreat
