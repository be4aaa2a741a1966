import Derived.Test.YtpllcnpcplbobaaGreatM09
import Derived.Test.YtpllcnpcplbobaaGreatM22
import Derived.IntWalk
namespace Go.Proofs.YtpllcnpcplbobaaGreat
open Go.RowKit
def numTo (s : ByteArray) (p : Nat) : Nat → Nat
  | 0 => 0
  | k + 1 => 256 * numTo s p k + bat s (p + k)
theorem numTo_lt (s : ByteArray) (p : Nat) : ∀ k, numTo s p k < 256 ^ k
  | 0 => by simp [numTo]
  | k + 1 => by
    have := numTo_lt s p k
    have := bat_lt s (p + k)
    rw [numTo, Nat.pow_succ]
    omega
theorem numTo_four (s : ByteArray) (p : Nat) : numTo s p 4 = numAt s p := by
  simp only [numTo, numAt, Nat.add_zero]; omega
theorem stepAt_eq (s : ByteArray) (p : Nat) : stepAt s p = if p + 12 ≤ s.size ∧ numTo s p 4 ≤ 1048576 ∧ p + 12 + numTo s p 4 ≤ s.size ∧ strOfNums (headL (s.extract (p + 12) (p + 12 + numTo s p 4))) = s.extract p (p + 12) then some (s.extract (p + 12) (p + 12 + numTo s p 4)) else none := by
  rw [numTo_four]; rfl
theorem index_bat (s : ByteArray) (p k : Nat) (h : p + k < s.size) (w : World) : (Instr.index 9 (.string s) (.int .i64 ((p : Int) + (k : Int)))).run Tryz.prog w = .ok (.int .u8 (bat s (p + k) : Nat)) w := by
  rw [run_index_string _ _ _ _ _ Tryz.underlying9, dif_pos (by omega)]
  have e : ((p : Int) + (k : Int)).toNat = p + k := by omega
  simp only [e, bat_eq s (p + k) h]
theorem owns_nil0 (w : World) (base : Nat) (hb : base ≤ w.heap.size) (e : TypeId) : (w.alloc (.cells #[] e)).ownsRow base e 1 (.slice (some ⟨w.heap.size, 0, none⟩) 0 0) 0 [] :=
  ⟨rfl, .inr ⟨w.heap.size, 0, #[], rfl, hb, heap_alloc_new _ _, Nat.le_refl _, by decide, rfl, rfl⟩⟩
set_option maxRecDepth 100000 in
set_option maxHeartbeats 1000000 in
theorem rscan_any (s : ByteArray) (hs : s.size ≤ 1099511627776) (w : World) :
    Calls Tryz.prog 32 #[.string s] w fun e w' => ∃ v, e = .returned (.tuple #[v, .int .i64 ((scan s).2 : Nat)]) ∧ w'.ownsRow w.heap.size 9 1 v (scan s).1.length (strs (scan s).1) ∧ Below w.heap.size w w' := by
  obtain ⟨i0, hi, hz0, hz1, hz2⟩ := info_parts infoStr
  obtain ⟨L, hL⟩ : ∃ L, L = scan s := ⟨_, rfl⟩
  rw [← hL]
  have HL := Lib.hid hL
  have HI := Lib.hid hi
  have HZ0 := Lib.hid hz0
  have HZ1 := Lib.hid hz1
  have HZ2 := Lib.hid hz2
  clear hL hi hz0 hz1 hz2
  go_enter Tryz.func32, Tryz.ntmps32
  go_wp2_with fail
  go_loopg [4, 5] (s.size) (fun gk v i wr => ∃ (f p : Nat) (acc : List ByteArray), i = .int .i64 p ∧ p ≤ s.size ∧ gk + p = s.size ∧ s.size < f + p ∧ acc.length ≤ p ∧ wr.ownsRow w.heap.size 9 1 v acc.length (strs acc) ∧
      acc ++ (scanF f s p).1 = L.1 ∧ (scanF f s p).2 = L.2 ∧ Below w.heap.size w wr)
  case atStart => exact ⟨s.size + 1, 0, [], rfl, by omega, by omega, by omega, by simp, owns_nil0 _ _ (Nat.le_refl _) _, by rw [HL.out]; rfl, by rw [HL.out]; rfl, (Below.refl _ _).alloc (Nat.le_refl _) _⟩
  case round =>
    obtain ⟨f, p, acc, rfl, hp, hgk, hf, hacc, hown, h1, h2, hbel⟩ := hrel
    have HO := Lib.hid hown
    have HB := Lib.hid hbel
    have hbase := hbel.size
    have HGK := Lib.hid hgk
    have HFF := Lib.hid hf
    have HAC := Lib.hid hacc
    have H1 := Lib.hid h1
    have H2 := Lib.hid h2
    have hst := stepAt_eq s p
    clear hgk hf hown h1 h2 hbel hacc
    have hout : stepAt s p = none → acc = L.1 ∧ p = L.2 := fun h => by
      have h1 := H1.out
      have h2 := H2.out
      rw [scanF_none h] at h1 h2
      exact ⟨by simpa using h1, h2⟩
    have HOUT := Lib.hid hout
    have HST := Lib.hid hst
    clear hout hst
    by_cases h12 : p + 12 ≤ s.size
    · go_wp2_with fail
      go_loopw [6, 7] (fun a i wq => ∃ k : Nat, k ≤ 4 ∧ i = .int .i64 k ∧ a = .int .i64 (numTo s p k : Nat) ∧ wq = wr) (fun _ i _ => 4 - (intOf i).toNat)
      case atStart => exact ⟨0, by omega, rfl, rfl, rfl⟩
      case round =>
        obtain ⟨k, hk, rfl, rfl, rfl⟩ := hrel
        by_cases hk4 : k < 4
        · have hix := index_bat s p k (by omega)
          have hb := bat_lt s (p + k)
          have hn1 := numTo_lt s p k
          have hn2 : numTo s p k < 16777216 := Nat.lt_of_lt_of_le hn1 (by
            have : (256 : Nat) ^ k ≤ 256 ^ 3 := Nat.pow_le_pow_right (by omega) (by omega)
            simpa using this)
          clear hn1
          go_wp2
          go_roundw
          case measure => simp [intOf]; omega
          case rel => exact ⟨k + 1, by omega, by go_num, by rw [numTo]; go_num, by first | rfl | trivial⟩
        · have hk4 : k = 4 := by omega
          obtain ⟨n, hn⟩ : ∃ n, n = numTo s p k := ⟨_, rfl⟩
          rw [← hn]
          have hst := HST.out
          rw [← hk4, ← hn] at hst
          have hnb : n < 4294967296 := by rw [hn, hk4]; exact numTo_lt s p 4
          have hk : ¬ k < 4 := by omega
          have HST2 := Lib.hid hst
          clear hk4 hn hst HST
          by_cases hg : 1048576 < n
          · have hn := HOUT.out (by rw [HST2.out]; exact if_neg (by omega))
            go_wp2_with fail
            go_ret2
            refine ⟨_, by rw [← hn.2]; rfl, ?_, HB.out⟩
            rw [← hn.1]
            exact HO.out
          · by_cases hl : s.size < p + 12 + n
            · have hn := HOUT.out (by rw [HST2.out]; exact if_neg (by omega))
              go_wp2_with fail
              go_ret2
              refine ⟨_, by rw [← hn.2]; rfl, ?_, HB.out⟩
              rw [← hn.1]
              exact HO.out
            · have c1 := run_cut (P := Tryz.prog) 9 Tryz.underlying9 s (p + 12) (p + 12 + n) (by omega) (by omega) ((p : Int) + 12) ((p : Int) + 12 + (n : Int)) (by omega) (by omega)
              have c2 := run_cut (P := Tryz.prog) 9 Tryz.underlying9 s p (p + 12) (by omega) (by omega) (p : Int) ((p : Int) + 12) rfl (by omega)
              obtain ⟨r, hr⟩ : ∃ r, r = s.extract (p + 12) (p + 12 + n) := ⟨_, rfl⟩
              obtain ⟨q, hq⟩ : ∃ q, q = s.extract p (p + 12) := ⟨_, rfl⟩
              have hrs : r.size = n := by rw [hr, ByteArray.size_extract]; omega
              have hd := fun W => rhead_any r (by omega) W
              have hst := HST2.out
              rw [← hr, ← hq] at hst
              rw [← hr] at c1
              rw [← hq] at c2
              have HD := Lib.hid hd
              have HR := Lib.hid hrs
              have x1 : IntKind.i64.wrap ((p : Int) + 12) = (p : Int) + 12 := IntWalk.i64_in _ (by omega)
              clear hr hq hd hrs
              by_cases heq : strOfNums (headL r) = q
              · have hsp : stepAt s p = some r := by rw [hst]; exact if_pos ⟨h12, by omega, by omega, heq⟩
                have ht : ((strOfNums (headL r)).toList == q.toList) = true := by rw [text_beq, heq]; exact decide_eq_true rfl
                have HSP := Lib.hid hsp
                clear hst hsp heq
                go_upto_region 12 with (fail)
                go_region_held3 (fun _ => True) (trivial) ((first | (go_simp; go_at_call 57; refine (HD.out _).mono ?_; rintro e w1 ⟨rfl, hb1⟩)))
                have f1 := H1.out
                have f2 := H2.out
                have hf := HFF.out
                have hac := HAC.out
                obtain ⟨f, rfl⟩ : ∃ f', f = f' + 1 := ⟨f - 1, by omega⟩
                rw [scanF_some HSP.out, HR.out] at f1 f2
                have hb2 : Below wr.heap.size wr w1 := (below_drewN (Below.refl wr.heap.size wr) 1).trans hb1
                have F1 := Lib.hid f1
                have F2 := Lib.hid f2
                have B2 := Lib.hid hb2
                have hr2 := HR.out
                clear f1 f2 hb2 hb1 hf hac hr2
                go_wp2_with (at_builtin; go_must (refine wpList_append_own_at _ rfl _ _ 34 rfl w.heap.size 9 i0 (.string ⟨#[]⟩) 1 16 Tryz.underlying34 HI.out HZ0.out HZ1.out HZ2.out rfl (by omega) _ acc.length (strs acc) rfl ((owns_below HO.out B2.out).alloc _) ⟨_, 0, none⟩ 1 1 [.string r] rfl rfl (World.news_of_block (heap_alloc_new _ _)) (by simp [Value.oneCell']) ?g1 ?g2 ?g3 ?g4))
                case g1 => have := HAC.out; simp only [maxLen]; omega
                case g2 => have := HAC.out; omega
                case g3 => have := B2.out.size; simp; omega
                intro v' w' hown' hgrow' _ _
                go_wp2
                go_roundg (gk - (12 + n))
                case measure => have := HGK.out; omega
                case rel =>
                  have hgk := HGK.out
                  have hf := HFF.out
                  have hb2 := B2.out
                  refine ⟨f, p + 12 + n, acc ++ [r], by go_num, by omega, by omega, by omega, by have := HAC.out; simp; omega, ?_, by rw [List.append_assoc]; exact F1.out, F2.out, ?_⟩
                  · simpa [strs] using hown'
                  · exact below_grow ((HB.out.trans (hb2.mono hbase)).alloc (by have := hb2.size; omega) _) hgrow' (fun g e => ((owns_below HO.out hb2).lt g e).1) (by have := hb2.size; simp; omega)
              · have hsp : stepAt s p = none := by rw [hst]; exact if_neg (fun h => heq h.2.2.2)
                have ht : ((strOfNums (headL r)).toList == q.toList) = false := by rw [text_beq]; exact decide_eq_false heq
                have HNN := Lib.hid (HOUT.out hsp)
                clear hst hsp heq
                go_upto_region 12 with (fail)
                go_region_held3 (fun _ => True) (trivial) ((first | (go_simp; go_at_call 57; refine (HD.out _).mono ?_; rintro e w1 ⟨rfl, hb1⟩)))
                go_wp2_with fail
                go_ret2
                have hb2 := (below_drewN (Below.refl wr.heap.size wr) 1).trans hb1
                have hn := HNN.out
                refine ⟨_, by rw [← hn.2]; rfl, ?_, HB.out.trans (hb2.mono hbase)⟩
                rw [← hn.1]
                exact owns_below HO.out hb2
    · have hn := HOUT.out (by rw [HST.out]; exact if_neg (by omega))
      go_wp2_with fail
      go_ret2
      refine ⟨_, by rw [← hn.2]; rfl, ?_, HB.out⟩
      rw [← hn.1]
      exact HO.out
end Go.Proofs.YtpllcnpcplbobaaGreat
