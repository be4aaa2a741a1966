import Derived.Test.YtpllcnpcplbobaaGreatM08
import Derived.Test.YtpllcnpcplbobaaGreatM06
import Derived.Laws.AppendOwn
import Derived.Deep.AppendLies
import Derived.Deep.LoopGhost
import Derived.BigQuiet
import Derived.Deep.QuietTactic
section
namespace Go.Proofs.YtpllcnpcplbobaaGreat
open Go.RowKit
/-- A row of texts that a call owns. -/
def strs (l : List ByteArray) : List Value := l.map Value.string
theorem length_strs (l : List ByteArray) : (strs l).length = l.length := by simp [strs]
theorem owns_below {w w' : World} {base : Nat} {e : TypeId} {size : Nat} {v : Value} {n : Nat} {xs : List Value} (h : w.ownsRow base e size v n xs) (hb : Below w.heap.size w w') : w'.ownsRow base e size v n xs :=
  h.kept (row := none) (only_of_below hb none) (by
    cases hv : v.ownBlock with
    | none => exact .inl rfl
    | some g => exact .inr (by simp))
theorem infoStr : (Tryz.prog.info? 9).map (fun i => (i.zero, i.size, i.bytes)) = some (some (.string ⟨#[]⟩), 1, 16) := by kernel_rfl
set_option maxRecDepth 100000 in
set_option maxHeartbeats 1000000 in
theorem scan_any (s : ByteArray) (hs : s.size ≤ 1099511627776) (w : World) :
    Calls Tryz.prog 28 #[.string s] w fun e w' => ∃ v, e = .returned (.tuple #[v, .int .i64 ((scan s).2 : Nat)]) ∧ w'.ownsRow w.heap.size 9 1 v (scan s).1.length (strs (scan s).1) ∧ Below w.heap.size w w' := by
  obtain ⟨i0, hi, hz0, hz1, hz2⟩ := info_parts infoStr
  obtain ⟨L, hL⟩ : ∃ L, L = scan s := ⟨_, rfl⟩
  rw [← hL]
  have HL := Lib.hid hL
  have HI := Lib.hid hi
  have HZ0 := Lib.hid hz0
  have HZ1 := Lib.hid hz1
  have HZ2 := Lib.hid hz2
  clear hL hi hz0 hz1 hz2
  go_enter Tryz.func28, Tryz.ntmps28
  go_wp2_with fail
  go_loopg [4, 5] (s.size) (fun gk v i wr => ∃ (f p : Nat) (acc : List ByteArray), i = .int .i64 p ∧ p ≤ s.size ∧ gk + p = s.size ∧ s.size < f + p ∧ acc.length ≤ p ∧ wr.ownsRow w.heap.size 9 1 v acc.length (strs acc) ∧
      acc ++ (scanF f s p).1 = L.1 ∧ (scanF f s p).2 = L.2 ∧ Below w.heap.size w wr)
  case atStart => exact ⟨s.size + 1, 0, [], rfl, by omega, by omega, by omega, by simp, World.ownsRow_nil _ _ _ _, by rw [HL.out]; rfl, by rw [HL.out]; rfl, Below.refl _ _⟩
  case round =>
    obtain ⟨f, p, acc, rfl, hp, hgk, hf, hacc, hown, h1, h2, hbel⟩ := hrel
    have hcut := run_cut_low (P := Tryz.prog) 9 Tryz.underlying9 s p hp (p : Int) rfl
    have hfi := first_any (s.extract p s.size) (by rw [ByteArray.size_extract]; omega) wr
    obtain ⟨t, ht⟩ : ∃ t, t = s.extract p s.size := ⟨_, rfl⟩
    have hst := stepAt_extract s p hp
    rw [← ht] at hcut hfi hst
    have HO := Lib.hid hown
    have HB := Lib.hid hbel
    have hbase := hbel.size
    cases hsp : stepAt s p with
    | none =>
      have hf2 : Calls Tryz.prog 51 #[.string t] wr fun e w' => (∃ r, e = .returned (.tuple #[.string r, .bool false])) ∧ Below wr.heap.size wr w' :=
        hfi.mono fun e w' ⟨⟨r, b, he, h⟩, hb⟩ => ⟨⟨r, by
          rw [hst, hsp] at h
          cases b
          · exact he
          · cases h⟩, hb⟩
      rw [scanF_none hsp] at h1 h2
      have HF := Lib.hid hf2
      have H1 := Lib.hid h1
      have H2 := Lib.hid h2
      clear hfi ht hgk hf hown h1 h2 hbel hf2 hst hsp hacc
      go_wp2_with (go_at_call 51; refine (HF.out).mono ?_; rintro e w1 ⟨⟨r, rfl⟩, hb1⟩)
      go_ret2
      have h1 := H1.out
      rw [List.append_nil] at h1
      refine ⟨_, by rw [← H2.out]; rfl, ?_, HB.out.trans (hb1.mono hbase)⟩
      rw [← h1]
      exact owns_below HO.out hb1
    | some r =>
      have hr := stepAt_some hsp
      have hf2 : Calls Tryz.prog 51 #[.string t] wr fun e w' => e = .returned (.tuple #[.string r, .bool true]) ∧ Below wr.heap.size wr w' :=
        hfi.mono fun e w' ⟨⟨r', b, he, h⟩, hb⟩ => ⟨by
          rw [hst, hsp] at h
          cases b
          · cases h
          · rw [if_pos rfl] at h
            rw [he, Option.some.inj h], hb⟩
      obtain ⟨f, rfl⟩ : ∃ f', f = f' + 1 := ⟨f - 1, by omega⟩
      rw [scanF_some hsp] at h1 h2
      have HF := Lib.hid hf2
      have H1 := Lib.hid h1
      have H2 := Lib.hid h2
      have HGK := Lib.hid hgk
      have HFF := Lib.hid hf
      have HAC := Lib.hid hacc
      clear hfi ht hgk hf hown h1 h2 hbel hf2 hst hsp hacc
      go_wp2_with (first | (go_at_call 51; refine (HF.out).mono ?_; rintro e w1 ⟨rfl, hb1⟩; have B1 := Lib.hid hb1; clear hb1) | (at_builtin; go_must (refine wpList_append_own_at _ rfl _ _ 34 rfl w.heap.size 9 i0 (.string ⟨#[]⟩) 1 16 Tryz.underlying34 HI.out HZ0.out HZ1.out HZ2.out rfl (by omega) _ acc.length (strs acc) rfl ((owns_below HO.out B1.out).alloc _) ⟨_, 0, none⟩ 1 1 [.string r] rfl rfl (World.news_of_block (heap_alloc_new _ _)) (by simp [Value.oneCell']) ?g1 ?g2 ?g3 ?g4)))
      case g1 => have := HAC.out; simp only [maxLen]; omega
      case g2 => have := HAC.out; omega
      case g3 => have := B1.out.size; simp; omega
      intro v' w' hown' hgrow' _ _
      go_wp2
      go_roundg (gk - (12 + r.size))
      case measure => have := HGK.out; omega
      case rel =>
        have hgk := HGK.out
        have hf := HFF.out
        have hb1 := B1.out
        refine ⟨f, p + 12 + r.size, acc ++ [r], by go_num, by omega, by omega, by omega, by have := HAC.out; simp; omega, ?_, by rw [List.append_assoc]; exact H1.out, H2.out, ?_⟩
        · simpa [strs] using hown'
        · exact below_grow ((HB.out.trans (hb1.mono hbase)).alloc (by have := hb1.size; omega) _) hgrow' (fun g e => ((owns_below HO.out hb1).lt g e).1) (by have := hb1.size; simp; omega)
end Go.Proofs.YtpllcnpcplbobaaGreat
end
section
namespace Go.Proofs.YtpllcnpcplbobaaGreat
open Go.RowKit
/-- A slice of texts, as it can be read. -/
def TextsAt (w : World) (v : Value) (l : List ByteArray) : Prop :=
  ∃ (a : Option Addr) (c : Nat), v = .slice a l.length c ∧ (l.length = 0 ∨ ∃ b o, a = some ⟨b, o, none⟩ ∧ ∀ i (h : i < l.length), w.cell? ⟨b, o + i, none⟩ = some (.string l[i]))
theorem TextsAt.cells {w w' : World} {v : Value} {l : List ByteArray} (h : TextsAt w v l) (hk : ∀ p u, w.cell? p = some u → w'.cell? p = some u) : TextsAt w' v l := by
  obtain ⟨a, c, hv, h0 | ⟨b, o, ha, hc⟩⟩ := h
  · exact ⟨a, c, hv, .inl h0⟩
  · exact ⟨a, c, hv, .inr ⟨b, o, ha, fun i hi => hk _ _ (hc i hi)⟩⟩
theorem TextsAt.below {w w' : World} {v : Value} {l : List ByteArray} (h : TextsAt w v l) (hb : Below w.heap.size w w') : TextsAt w' v l :=
  h.cells fun _ _ hp => (hb.cell (World.block_lt_of_cell? w _ hp)).trans hp
theorem textsAt_owned {w : World} {base : Nat} {v : Value} {l : List ByteArray} (h : w.ownsRow base 9 1 v l.length (strs l)) : TextsAt w v l := by
  by_cases h0 : l.length = 0
  · rcases h.2 with ⟨rfl, _⟩ | ⟨g, cap, cur, rfl, _⟩
    · exact ⟨none, 0, by rw [h0], .inl h0⟩
    · exact ⟨_, cap, rfl, .inl h0⟩
  · obtain ⟨g, cap, rfl, _, _⟩ := World.ownsRow.form h (by omega)
    refine ⟨_, cap, rfl, .inr ⟨g, 0, rfl, fun i hi => ?_⟩⟩
    rw [Nat.zero_add, h.cellAt i (by omega)]
    simp [strs, hi]
theorem textsAt_nil (w : World) : TextsAt w (.slice none 0 0) [] := ⟨none, 0, rfl, .inl rfl⟩
set_option maxRecDepth 100000 in
set_option maxHeartbeats 1000000 in
theorem same08_any (va vb : Value) (A B : List ByteArray) (hAm : A.length ≤ 1099511627776) (w : World) (hA : TextsAt w va A) (hB : TextsAt w vb B) :
    Calls Tryz.prog 20 #[va, vb] w fun e w' => e = .returned (.bool (decide (A = B))) ∧ ∃ m, w' = w.drewN m := by
  obtain ⟨a, ca, rfl, ha⟩ := hA
  obtain ⟨b, cb, rfl, hb⟩ := hB
  by_cases hl : A.length = B.length
  · have HAB := Lib.hid (show (A = B ↔ ∀ k, k < A.length → A[k]? = B[k]?) from ⟨fun h => by subst h; simp, fun h => List.ext_getElem? fun i => by
      by_cases hi : i < A.length
      · exact h i hi
      · rw [List.getElem?_eq_none (by omega), List.getElem?_eq_none (by omega)]⟩)
    have HA := Lib.hid ha
    have HB := Lib.hid hb
    have HL := Lib.hid hl
    rw [← hl]
    obtain ⟨n, hn⟩ : ∃ n, n = A.length := ⟨_, rfl⟩
    rw [← hn] at hAm ⊢
    have HN := Lib.hid hn
    clear ha hb hl hn
    go_enter Tryz.func20, Tryz.ntmps20
    go_wp2_with fail
    go_loopw [13] (fun i wr => ∃ k : Nat, k ≤ n ∧ i = .int .i64 k ∧ (∀ j, j < k → A[j]? = B[j]?) ∧ ∃ m, wr = w.drewN m) (fun i _ => n - (intOf i).toNat)
    case atStart => exact ⟨0, by omega, rfl, fun j hj => by omega, 0, rfl⟩
    case round =>
      obtain ⟨k, hk, rfl, hsame, m, hm⟩ := hrel
      have HM := Lib.hid hm
      by_cases hlt : k < n
      · have hAk : k < A.length := by rw [← HN.out]; exact hlt
        have hBk : k < B.length := by rw [← HL.out]; exact hAk
        rcases HA.out with h0 | ⟨b1, o1, rfl, hc1⟩
        · omega
        rcases HB.out with h0 | ⟨b2, o2, rfl, hc2⟩
        · omega
        have d1 : wr.cell? ⟨b1, o1 + k, none⟩ = some (.string A[k]) := by rw [hm]; exact hc1 k hAk
        have d2 : wr.cell? ⟨b2, o2 + k, none⟩ = some (.string B[k]) := by rw [hm]; exact hc2 k hBk
        obtain ⟨x, hx⟩ : ∃ x, x = A[k] := ⟨_, rfl⟩
        obtain ⟨y, hy⟩ : ∃ y, y = B[k] := ⟨_, rfl⟩
        rw [← hx] at d1
        rw [← hy] at d2
        have HS := Lib.hid hsame
        have HX := Lib.hid hx
        have HY := Lib.hid hy
        clear hsame hc1 hc2 HA HB hx hy hm
        by_cases hxy : x = y
        · have ht : (x.toList == y.toList) = true := by rw [text_beq]; exact decide_eq_true hxy
          have HXY := Lib.hid hxy
          clear hxy
          go_wp2_with fail
          go_quiet (fail)
          go_wp2
          go_roundw
          case measure => simp [intOf]; omega
          case rel =>
            refine ⟨k + 1, by omega, by go_num, fun j hj => ?_, m + nq, by rw [HM.out]; simp [World.drewN, Nat.add_assoc]⟩
            by_cases hjk : j < k
            · exact HS.out j hjk
            · obtain rfl : j = k := by omega
              rw [List.getElem?_eq_getElem hAk, List.getElem?_eq_getElem hBk, ← HX.out, ← HY.out, HXY.out]
        · have ht : (x.toList == y.toList) = false := by rw [text_beq]; exact decide_eq_false hxy
          have hne : decide (A = B) = false := decide_eq_false fun e => hxy (by
            have := HAB.out.1 e k hAk
            rw [List.getElem?_eq_getElem hAk, List.getElem?_eq_getElem hBk] at this
            rw [HX.out, HY.out]
            exact Option.some.inj this)
          have HXY := Lib.hid hxy
          clear hxy
          go_wp2_with fail
          go_quiet (fail)
          go_wp2
          go_ret
          exact ⟨by rw [hne]; rfl, m + nq, by rw [HM.out]; simp [World.drewN, Nat.add_assoc]⟩
      · have heq : decide (A = B) = true := decide_eq_true (HAB.out.2 fun j hj => hsame j (by rw [← HN.out] at hj; omega))
        clear hsame hm
        go_wp2
        go_ret
        exact ⟨by rw [heq]; rfl, m, HM.out⟩
  · have hne : decide (A = B) = false := decide_eq_false fun e => hl (by rw [e])
    clear ha hb
    go_enter Tryz.func20, Tryz.ntmps20
    go_wp2_with fail
    go_ret
    exact ⟨by rw [hne]; rfl, 0, rfl⟩
/-- More than twelve texts, or one of more than 100 bytes? -/
def greatL (l : List ByteArray) : Bool := l.any (fun x => decide (100 < x.size)) || decide (12 < l.length)
set_option maxRecDepth 100000 in
set_option maxHeartbeats 1000000 in
theorem great_any (va : Value) (A : List ByteArray) (hAm : A.length ≤ 9223372036854775807) (w : World) (hA : TextsAt w va A) :
    Calls Tryz.prog 22 #[va] w fun e w' => e = .returned (.bool (greatL A)) ∧ w = w' := by
  obtain ⟨a, ca, rfl, ha⟩ := hA
  have HA := Lib.hid ha
  obtain ⟨n, hn⟩ : ∃ n, n = A.length := ⟨_, rfl⟩
  rw [← hn] at hAm ⊢
  have HN := Lib.hid hn
  clear ha hn
  go_enter Tryz.func22, Tryz.ntmps22
  go_wp2_with fail
  go_loopw [6] (fun i wr => ∃ k : Nat, k ≤ n ∧ i = .int .i64 k ∧ (∀ j, j < k → ∀ x, A[j]? = some x → x.size ≤ 100) ∧ wr = w) (fun i _ => n - (intOf i).toNat)
  case atStart => exact ⟨0, by omega, rfl, fun j hj => by omega, rfl⟩
  case round =>
    obtain ⟨k, hk, rfl, hsmall, rfl⟩ := hrel
    by_cases hlt : k < n
    · have hAk : k < A.length := by rw [← HN.out]; exact hlt
      rcases HA.out with h0 | ⟨b1, o1, rfl, hc1⟩
      · omega
      have d1 : wr.cell? ⟨b1, o1 + k, none⟩ = some (.string A[k]) := hc1 k hAk
      obtain ⟨x, hx⟩ : ∃ x, x = A[k] := ⟨_, rfl⟩
      rw [← hx] at d1
      have HS := Lib.hid hsmall
      have HX := Lib.hid hx
      clear hsmall hc1 HA hx
      by_cases hx1 : 100 < x.size
      · have hg : greatL A = true := by
          rw [greatL, Bool.or_eq_true]
          left
          rw [List.any_eq_true]
          exact ⟨x, by rw [HX.out]; exact List.getElem_mem hAk, by simpa using hx1⟩
        go_wp2
        go_ret
        exact ⟨by rw [hg]; rfl, rfl⟩
      · go_wp2
        go_roundw
        case measure => simp [intOf]; omega
        case rel =>
          refine ⟨k + 1, by omega, by go_num, fun j hj z hz => ?_, by first | rfl | trivial⟩
          by_cases hjk : j < k
          · exact HS.out j hjk z hz
          · obtain rfl : j = k := by omega
            rw [List.getElem?_eq_getElem hAk, ← HX.out] at hz
            rw [← Option.some.inj hz]; omega
    · have hg : greatL A = decide (12 < n) := by
        have h0 : A.any (fun x => decide (100 < x.size)) = false := by
          rw [List.any_eq_false]
          intro x hx
          obtain ⟨j, hj, rfl⟩ := List.getElem_of_mem hx
          have := hsmall j (by rw [← HN.out] at hj; omega) _ (List.getElem?_eq_getElem hj)
          simp; omega
        rw [greatL, h0, HN.out]
        rfl
      clear hsmall
      go_wp2
      go_ret
      exact ⟨by rw [hg]; simp; omega, rfl⟩
end Go.Proofs.YtpllcnpcplbobaaGreat
end
