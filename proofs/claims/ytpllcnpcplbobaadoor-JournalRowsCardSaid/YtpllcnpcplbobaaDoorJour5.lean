import Derived.Test.YtpllcnpcplbobaaDoorJour4
import Derived.Test.YtpllcnpcplbobaaDoorOwnM2
import Derived.Laws.AppendOwn
import Derived.Deep.AppendLies
import Derived.Deep.LoopGhost
namespace Go.Proofs.YtpllcnpcplbobaaDoor
open Go.RowKit
/-- A row of texts that a call owns. -/
def strs (l : List ByteArray) : List Value := l.map Value.string
theorem length_strs (l : List ByteArray) : (strs l).length = l.length := by simp [strs]
theorem owns_below {w w' : World} {base : Nat} {e : TypeId} {size : Nat} {v : Value} {n : Nat} {xs : List Value} (h : w.ownsRow base e size v n xs) (hb : Below w.heap.size w w') : w'.ownsRow base e size v n xs :=
  h.kept (row := none) (only_of_below hb none) (by
    cases hv : v.ownBlock with
    | none => exact .inl rfl
    | some g => exact .inr (by simp))
theorem infoStr : (Tryd.prog.info? 9).map (fun i => (i.zero, i.size, i.bytes)) = some (some (.string ⟨#[]⟩), 1, 16) := by kernel_rfl
set_option maxRecDepth 100000 in
set_option maxHeartbeats 1000000 in
theorem scan_any (s : ByteArray) (hs : s.size ≤ 1099511627776) (w : World) :
    Calls Tryd.prog 18 #[.string s] w fun e w' => ∃ v, e = .returned (.tuple #[v, .int .i64 ((scan s).2 : Nat)]) ∧ w'.ownsRow w.heap.size 9 1 v (scan s).1.length (strs (scan s).1) ∧ Below w.heap.size w w' := by
  obtain ⟨i0, hi, hz0, hz1, hz2⟩ := info_parts infoStr
  obtain ⟨L, hL⟩ : ∃ L, L = scan s := ⟨_, rfl⟩
  rw [← hL]
  have HL := Lib.hid hL
  have HI := Lib.hid hi
  have HZ0 := Lib.hid hz0
  have HZ1 := Lib.hid hz1
  have HZ2 := Lib.hid hz2
  clear hL hi hz0 hz1 hz2
  go_enter Tryd.func18, Tryd.ntmps18
  go_wp2_with fail
  go_loopg [4, 5] (s.size) (fun gk v i wr => ∃ (f p : Nat) (acc : List ByteArray), i = .int .i64 p ∧ p ≤ s.size ∧ gk + p = s.size ∧ s.size < f + p ∧ acc.length ≤ p ∧ wr.ownsRow w.heap.size 9 1 v acc.length (strs acc) ∧
      acc ++ (scanF f s p).1 = L.1 ∧ (scanF f s p).2 = L.2 ∧ Below w.heap.size w wr)
  case atStart => exact ⟨s.size + 1, 0, [], rfl, by omega, by omega, by omega, by simp, World.ownsRow_nil _ _ _ _, by rw [HL.out]; rfl, by rw [HL.out]; rfl, Below.refl _ _⟩
  case round =>
    obtain ⟨f, p, acc, rfl, hp, hgk, hf, hacc, hown, h1, h2, hbel⟩ := hrel
    have hcut := run_cut_low (P := Tryd.prog) 9 Tryd.underlying9 s p hp (p : Int) rfl
    have hfi := first_any (s.extract p s.size) (by rw [ByteArray.size_extract]; omega) wr
    obtain ⟨t, ht⟩ : ∃ t, t = s.extract p s.size := ⟨_, rfl⟩
    have hst := stepAt_extract s p hp
    rw [← ht] at hcut hfi hst
    have HO := Lib.hid hown
    have HB := Lib.hid hbel
    have hbase := hbel.size
    cases hsp : stepAt s p with
    | none =>
      have hf2 : Calls Tryd.prog 33 #[.string t] wr fun e w' => (∃ r, e = .returned (.tuple #[.string r, .bool false])) ∧ Below wr.heap.size wr w' :=
        hfi.mono fun e w' ⟨⟨r, b, he, h⟩, hb⟩ => ⟨⟨r, by
          rw [hst, hsp] at h
          cases b
          · exact he
          · cases h⟩, hb⟩
      rw [scanF_none hsp] at h1 h2
      have HF := Lib.hid hf2
      have H1 := Lib.hid h1
      have H2 := Lib.hid h2
      clear hfi ht hgk hf hown h1 h2 hbel hf2 hst hsp hacc
      go_wp2_with (go_at_call 33; refine (HF.out).mono ?_; rintro e w1 ⟨⟨r, rfl⟩, hb1⟩)
      go_ret2
      have h1 := H1.out
      rw [List.append_nil] at h1
      refine ⟨_, by rw [← H2.out]; rfl, ?_, HB.out.trans (hb1.mono hbase)⟩
      rw [← h1]
      exact owns_below HO.out hb1
    | some r =>
      have hr := stepAt_some hsp
      have hf2 : Calls Tryd.prog 33 #[.string t] wr fun e w' => e = .returned (.tuple #[.string r, .bool true]) ∧ Below wr.heap.size wr w' :=
        hfi.mono fun e w' ⟨⟨r', b, he, h⟩, hb⟩ => ⟨by
          rw [hst, hsp] at h
          cases b
          · cases h
          · rw [if_pos rfl] at h
            rw [he, Option.some.inj h], hb⟩
      obtain ⟨f, rfl⟩ : ∃ f', f = f' + 1 := ⟨f - 1, by omega⟩
      rw [scanF_some hsp] at h1 h2
      have HF := Lib.hid hf2
      have H1 := Lib.hid h1
      have H2 := Lib.hid h2
      have HGK := Lib.hid hgk
      have HFF := Lib.hid hf
      have HAC := Lib.hid hacc
      clear hfi ht hgk hf hown h1 h2 hbel hf2 hst hsp hacc
      go_wp2_with (first | (go_at_call 33; refine (HF.out).mono ?_; rintro e w1 ⟨rfl, hb1⟩; have B1 := Lib.hid hb1; clear hb1) | (at_builtin; go_must (refine wpList_append_own_at _ rfl _ _ 28 rfl w.heap.size 9 i0 (.string ⟨#[]⟩) 1 16 Tryd.underlying28 HI.out HZ0.out HZ1.out HZ2.out rfl (by omega) _ acc.length (strs acc) rfl ((owns_below HO.out B1.out).alloc _) ⟨_, 0, none⟩ 1 1 [.string r] rfl rfl (World.news_of_block (heap_alloc_new _ _)) (by simp [Value.oneCell']) ?g1 ?g2 ?g3 ?g4)))
      case g1 => have := HAC.out; simp only [maxLen]; omega
      case g2 => have := HAC.out; omega
      case g3 => have := B1.out.size; simp; omega
      intro v' w' hown' hgrow' _ _
      go_wp2
      go_roundg (gk - (12 + r.size))
      case measure => have := HGK.out; omega
      case rel =>
        have hgk := HGK.out
        have hf := HFF.out
        have hb1 := B1.out
        refine ⟨f, p + 12 + r.size, acc ++ [r], by go_num, by omega, by omega, by omega, by have := HAC.out; simp; omega, ?_, by rw [List.append_assoc]; exact H1.out, H2.out, ?_⟩
        · simpa [strs] using hown'
        · exact below_grow ((HB.out.trans (hb1.mono hbase)).alloc (by have := hb1.size; omega) _) hgrow' (fun g e => ((owns_below HO.out hb1).lt g e).1) (by have := hb1.size; simp; omega)
end Go.Proofs.YtpllcnpcplbobaaDoor
