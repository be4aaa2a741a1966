import Derived.Test.YtpllcnpcplbobaaDoorProg
import Derived.Test.YtpllcnpcplbobaaDoorShaPure2
import Derived.Test.YtpllcnpcplbobaaDoorBase
import Derived.Test.YtpllcnpcplbobaaDoorSha2
import Derived.Lib.AppendStr
import Derived.Deep.LoopGhost
import Derived.Deep.RegionWith
namespace Go.Proofs.YtpllcnpcplbobaaDoor
open Go.RowKit
/-- Where a slice's m elements lie, behind the place o of block g. -/
def AddrOk (A : Option Addr) (g m o : Nat) : Prop := (A = none ∧ m = 0) ∨ ∃ o', A = some ⟨g, o', none⟩ ∧ (0 < m → o' = o)
theorem AddrOk.pos {A : Option Addr} {g m o : Nat} (h : AddrOk A g m o) (hm : 0 < m) : A = some ⟨g, o, none⟩ := by
  rcases h with ⟨_, h⟩ | ⟨o', rfl, h⟩
  · omega
  · rw [h hm]
theorem own_view {w : World} {base : Nat} {e : TypeId} {v : Value} {n : Nat} {xs : List Value} (h : w.ownsRow base e 1 v n xs) (_hb : base ≤ w.heap.size) :
    ∃ (A : Option Addr) (c g : Nat), v = .slice A n c ∧ n ≤ c ∧ base ≤ g ∧ AddrOk A g n 0 ∧ ∀ i u, xs[i]? = some u → w.cell? ⟨g, i, none⟩ = some u := by
  rcases h.2 with ⟨rfl, hn⟩ | ⟨g, cap, cur, rfl, hg, hh, hnc, hcm, hsz, htake⟩
  · have : xs = [] := List.eq_nil_of_length_eq_zero (by rw [h.1, hn])
    subst this
    subst hn
    exact ⟨none, 0, base, rfl, Nat.le_refl _, Nat.le_refl _, .inl ⟨rfl, rfl⟩, fun i u hu => by simp at hu⟩
  · refine ⟨_, cap, g, rfl, hnc, hg, .inr ⟨0, rfl, fun _ => rfl⟩, fun i u hu => ?_⟩
    rw [cell_of_row w g i cur e (0, 0) hh]
    rw [← htake, List.getElem?_take] at hu
    split at hu
    · simpa using hu
    · cases hu
theorem strCells_bytesI (s : ByteArray) : Lib.strCells s = Sha.u8s (Sha.bytesI s) := by simp [Lib.strCells, Sha.u8s, Sha.bytesI]
theorem u8s_get (l : List Int) (i : Nat) (h : i < l.length) : (Sha.u8s l)[i]? = some (.int .u8 (Sha.nth l i)) := by
  simp [Sha.u8s, Sha.nth, h]
theorem info5 : (Tryd.prog.info? 5).map (fun i => (i.zero, i.size, i.bytes)) = some (some (.int .u8 0), 1, 1) := by kernel_rfl
theorem ownsRow_other {w w' : World} {base : Nat} {e : TypeId} {size : Nat} {v : Value} {n : Nat} {xs : List Value} (h : w.ownsRow base e size v n xs) {g : Nat} (hg : w.grownBy w' (some g)) (hlt : g < base) : w'.ownsRow base e size v n xs :=
  h.kept hg (by
    rcases h.2 with ⟨rfl, _⟩ | ⟨g', cap, cur, rfl, hb, _⟩
    · exact .inl rfl
    · refine .inr ?_
      simp only [Value.ownBlock, ne_eq, Option.some.injEq]
      omega)
def HashAt (w : World) (hb : Nat) (S R : List Int) (n : Nat) : Prop := ∃ (A : Option Addr) (c g o : Nat), w.heap[hb]? = some (.cells (Sha.hashCells S (.slice A R.length c) (n : Int)) 108 (0, 0)) ∧ R.length ≤ c ∧
  AddrOk A g R.length o ∧ hb + 1 ≤ g ∧ ∀ i, i < R.length → w.cell? ⟨g, o + i, none⟩ = some (.int .u8 (Sha.nth R i))
def HashOwn (w : World) (hb : Nat) (S R : List Int) (n : Nat) : Prop := ∃ v : Value, w.heap[hb]? = some (.cells (Sha.hashCells S v (n : Int)) 108 (0, 0)) ∧ w.ownsRow (hb + 1) 5 1 v R.length (Sha.u8s R)
theorem cut64 (g o m c : Nat) (hm : 64 ≤ m) (hc : m ≤ c) : ∃ A' : Option Addr, (∀ W : World, (Instr.slice 54 (.slice (some ⟨g, o, none⟩) m c) (some (.int .i64 64)) none none).run Tryd.prog W = .ok (.slice A' (m - 64) (c - 64)) W) ∧ AddrOk A' g (m - 64) (o + 64) := by
  refine ⟨if c = 64 then some ⟨g, o, none⟩ else some ⟨g, o + 64, none⟩, fun W => ?_, .inr ⟨if c = 64 then o else o + 64, by split <;> rfl, fun h => if_neg (by omega)⟩⟩
  have hel : Tryd.prog.elem 54 = 5 := by kernel_rfl
  have hu : Tryd.prog.underlying 54 = some (.slice (Tryd.prog.elem 54)) := by rw [hel]; exact Tryd.underlying54
  obtain ⟨i0, hi, hz0, hz1, hz2⟩ := info_parts info5
  rw [run_slice_l W 54 (some ⟨g, o, none⟩) m c hu .i64 64 (by omega) (by omega), hel]
  simp [sizeOf, typeInfo, hi, hz1, sliced, Result.andThen, Addr.add]
theorem own_ne {w : World} {base : Nat} {e : TypeId} {size : Nat} {v : Value} {n : Nat} {xs : List Value} {k : Nat} (hk : k < base) (h : w.ownsRow base e size v n xs) : some k ≠ v.ownBlock := by
  rcases h.2 with ⟨rfl, _⟩ | ⟨g', cap, cur, rfl, hb, _⟩
  · simp [Value.ownBlock]
  · simp only [Value.ownBlock, ne_eq, Option.some.injEq]
    omega
theorem take_open (S : List Int) (v : Value) (n : Int) (h : S.length = 8) : ((S.map (Value.int .u32) ++ [v, .int .u64 n]).toArray)[8]? = some v := Sha.hash_open S v n h
theorem add_mid {w w1 : World} {hb : Nat} {S : List Int} {v : Value} {n m : Int} {T : TypeId} (hH : w.heap[hb]? = some (.cells (Sha.hashCells S v n) T (0, 0))) (hS : S.length = 8) {row : Option Nat}
    (hg : (w.setCell ⟨hb, 9, none⟩ (.int .u64 m)).grownBy w1 row) (hr : row ≠ some hb) : w1.heap[hb]? = some (.cells (Sha.hashCells S v m) T (0, 0)) := by
  rw [hg.block hb (by rw [size_setCell_]; exact (Array.getElem?_eq_some_iff.1 hH).1) (Ne.symm hr), heap_setCell_same w _ _ _ _ _ hH, Sha.hash_set_n _ _ _ _ hS]
set_option maxRecDepth 100000 in
set_option maxHeartbeats 1000000 in
theorem add_any (hb : Nat) (S ob : List Int) (hS : S.length = 8) (n : Nat) (hn1 : n ≤ 140737488355328) (s : ByteArray) (w : World) (hob : Sha.IsBytes (ob ++ Sha.bytesI s))
    (hA : HashOwn w hb S ob n) (hlen : ob.length + s.size ≤ 140737488355328) :
    Calls Tryd.prog 51 #[.pointer (some ⟨hb, 0, none⟩), .string s] w fun e w' => e = .returned (.tuple #[]) ∧
      HashAt w' hb (Sha.blocks S (ob ++ Sha.bytesI s) ((ob.length + s.size) / 64)) ((ob ++ Sha.bytesI s).drop (64 * ((ob.length + s.size) / 64))) (n + s.size) ∧ Below hb w w' ∧
      (ob.length + s.size < 64 → HashOwn w' hb S (ob ++ Sha.bytesI s) (n + s.size)) := by
  obtain ⟨openv, hH, hO⟩ := hA
  have hlt : hb < w.heap.size := (Array.getElem?_eq_some_iff.1 hH).1
  have c9 : w.cell? ⟨hb, 9, none⟩ = some (.int .u64 n) := by rw [cell_of_row w _ _ _ _ _ hH]; exact Sha.hash_n _ _ _ hS
  have f9 : w.frozen? ⟨hb, 9, none⟩ = false := frozen_of_row w _ _ _ _ hH
  obtain ⟨A0, c0, g0, rfl, h0c, h0g, hA0, hc0⟩ := own_view hO (by omega)
  have c8 : w.cell? ⟨hb, 8, none⟩ = some (.slice A0 ob.length c0) := by rw [cell_of_row w _ _ _ _ _ hH]; exact Sha.hash_open _ _ _ hS
  have hO1 : ∀ u, (w.setCell ⟨hb, 9, none⟩ u).ownsRow (hb + 1) 5 1 (.slice A0 ob.length c0) ob.length (Sha.u8s ob) := fun u => ownsRow_setCell_below hO (by simp) u
  obtain ⟨i0, hi, hz0, hz1, hz2⟩ := info_parts info5
  have HI := Lib.hid hi
  have HO1 := Lib.hid hO1
  have HOW := Lib.hid hO
  have HH := Lib.hid hH
  have HS := Lib.hid hS
  clear hA0 hc0 hO hO1 hi hH hS
  go_enter Tryd.func51, Tryd.ntmps51
  go_wp2_with (at_builtin; refine Lib.wpList_append_own_string _ rfl _ _ 54 9 rfl (hb + 1) 5 i0 Tryd.underlying54 Tryd.underlying9 HI.out hz0 hz1 hz2 _ _ _ rfl (HO1.out _) s rfl (by simp only [maxLen]; omega) hlen (by simp [World.setCell]; omega) ?_; intro v1 w1 hown1 hgrow1 hiff; clear hiff; obtain ⟨A, c, g, rfl, hLc, hgb, hA, hcells⟩ := own_view hown1 (by have := hgrow1.size; simp [World.setCell] at this; omega); have hb1 := add_mid HH.out HS.out hgrow1 (Ne.symm (own_ne (by omega) HOW.out)); have c8 := (cell_of_row w1 hb 8 _ _ _ hb1).trans (Sha.hash_open _ _ _ HS.out); have f8 := frozen_of_row w1 hb 8 _ _ hb1; have HA := Lib.hid hA; have HC := Lib.hid hcells; have HB := Lib.hid hb1; have HO := Lib.hid hown1; have HG := Lib.hid hgrow1; clear hA hcells hb1 hown1 hgrow1)
  obtain ⟨L, hL⟩ : ∃ L, L = ob ++ Sha.bytesI s := ⟨_, rfl⟩
  obtain ⟨len, hlenE⟩ : ∃ len, len = ob.length + s.size := ⟨_, rfl⟩
  rw [← hlenE]
  have hLl : L.length = len := by rw [hL, hlenE]; simp [Sha.length_bytesI]
  have hcellsL : ∀ i u, (Sha.u8s L)[i]? = some u → w1.cell? ⟨g, i, none⟩ = some u := by
    have h := HC.out
    rw [strCells_bytesI] at h
    have e : Sha.u8s L = Sha.u8s ob ++ Sha.u8s (Sha.bytesI s) := by rw [hL]; simp [Sha.u8s]
    rw [e]; exact h
  have hownL : w1.ownsRow (hb + 1) 5 1 (.slice A len c) len (Sha.u8s L) := by
    have h := HO.out
    rw [strCells_bytesI, ← hlenE] at h
    have e : Sha.u8s L = Sha.u8s ob ++ Sha.u8s (Sha.bytesI s) := by rw [hL]; simp [Sha.u8s]
    rw [e]; exact h
  have hbel : Below hb w (w1.setCell ⟨hb, 8, none⟩ (.slice A len c)) := by
    have h := HG.out
    refine Below.setCell ?_ (by simp) _
    refine ⟨h.os, h.tape, h.output, by have := h.size; rw [size_setCell_] at this; exact this, fun k hk => ?_⟩
    rw [h.block k (by rw [size_setCell_]; omega) (own_ne (by omega) HOW.out), heap_setCell_other _ _ _ _ (by simp; omega)]
  have hHB : (w1.setCell ⟨hb, 8, none⟩ (.slice A len c)).heap[hb]? = some (.cells (Sha.hashCells S (.slice A len c) ((n + s.size : Nat) : Int)) 108 (0, 0)) := by
    rw [heap_setCell_same w1 _ _ _ _ _ HB.out, Sha.hash_set_open _ _ _ _ HS.out]
    simp
  have hA := HA.out
  rw [← hlenE] at hA hLc hlen
  obtain ⟨ws, hws⟩ : ∃ ws, ws = w1.setCell ⟨hb, 8, none⟩ (.slice A len c) := ⟨_, rfl⟩
  have hown2 : ws.ownsRow (hb + 1) 5 1 (.slice A len c) len (Sha.u8s L) := by rw [hws]; exact ownsRow_setCell_below hownL (by simp) _
  have hcells2 : ∀ i u, (Sha.u8s L)[i]? = some u → ws.cell? ⟨g, i, none⟩ = some u := fun i u hu => by
    rw [hws]
    exact (World.cell?_of_block (heap_setCell_other w1 _ _ _ (by simp; omega))).trans (hcellsL i u hu)
  rw [← hws] at hHB hbel ⊢
  have HLe := Lib.hid hL
  have Hlen := Lib.hid hlenE
  have HLl := Lib.hid hLl
  have HHB := Lib.hid hHB
  have HC2 := Lib.hid hcells2
  have HA2 := Lib.hid hA
  have HLB : Hid (Sha.IsBytes L) := by rw [hL]; exact hob
  clear hL hlenE hLl hHB hcells2 hA hws hcellsL hownL HC HO HG HB HH HI HO1 HOW HA hob c8 f8 c9 f9
  have hb1' : hb < ws.heap.size := Nat.lt_of_lt_of_le hlt hbel.size
  go_loopg [] (len / 64) (fun gk wr => ∃ (j : Nat) (A : Option Addr) (c : Nat), gk + j = len / 64 ∧
      wr.heap[hb]? = some (.cells (Sha.hashCells (Sha.blocks S L j) (.slice A (len - 64 * j) c) ((n + s.size : Nat) : Int)) 108 (0, 0)) ∧ len - 64 * j ≤ c ∧
      AddrOk A g (len - 64 * j) (64 * j) ∧ (∀ i u, (Sha.u8s L)[i]? = some u → wr.cell? ⟨g, i, none⟩ = some u) ∧ Below hb w wr ∧
      (j = 0 → wr.ownsRow (hb + 1) 5 1 (.slice A len c) len (Sha.u8s L)))
  case atStart => exact ⟨0, A, c, by omega, HHB.out, hLc, HA2.out, HC2.out, hbel, fun _ => hown2⟩
  case round =>
    clear hown2 hbel hb1' HHB HC2 HA2 hLc
    clear c8
    obtain ⟨j, A1, c1, hj, hH, hc, hA, hcl, hbel, hown⟩ := hrel
    have hlS : (Sha.blocks S L j).length = 8 := by rw [Sha.length_blocks]; exact HS.out
    have c8 := (cell_of_row wr hb 8 _ _ _ hH).trans (Sha.hash_open _ _ _ hlS)
    have f8 := frozen_of_row wr hb 8 _ _ hH
    obtain ⟨m, hm⟩ : ∃ m, m = len - 64 * j := ⟨_, rfl⟩
    rw [← hm] at hH hc hA c8
    have hmlen : m ≤ len := by omega
    by_cases hlt64 : 64 ≤ m
    · obtain rfl : A1 = some ⟨g, 64 * j, none⟩ := hA.pos (by omega)
      obtain ⟨v0, v1, v2, v3, v4, v5, v6, v7, hV⟩ := Sha.list8 hlS
      obtain ⟨A', hcut, hA'⟩ := cut64 g (64 * j) m c1 hlt64 hc
      have hT := take_any hb g (64 * j) c1 v0 v1 v2 v3 v4 v5 v6 v7 (L.drop (64 * j)) [.slice (some ⟨g, 64 * j, none⟩) m c1, .int .u64 ((n + s.size : Nat) : Int)] 108
        (fun i _ => by rw [Sha.nth_drop]; exact HLB.out _) wr.drew (by rw [heap_drew, hH, hV]; rfl) (fun i hi => by rw [Sha.nth_drop]; exact hcl _ _ (u8s_get _ _ (by rw [HLl.out]; omega)))
      rw [← hV] at hT
      have HT := Lib.hid hT
      have HH := Lib.hid hH
      have HM := Lib.hid hm
      have HLS := Lib.hid hlS
      have HCL := Lib.hid hcl
      have HB := Lib.hid hbel
      have HA' := Lib.hid hA'
      have HJ := Lib.hid hj
      have hbr : hb < wr.heap.size := (Array.getElem?_eq_some_iff.1 hH).1
      clear hT hH hm hlS hown hcl hV hA hA' hbel hj
      have hc64 : 64 ≤ c1 := by omega
      go_wp2_with fail
      go_region_with (go_at_call 61; refine (HT.out).mono ?_; rintro e w2 ⟨rfl, hb2, hg2⟩; have q8 := (cell_of_row w2 hb 8 _ _ _ hb2).trans (take_open _ _ _ (Sha.length_block8 _ _ HLS.out)); have g8 := frozen_of_row w2 hb 8 _ _ hb2; have HB2 := Lib.hid hb2; have HG2 := Lib.hid hg2; clear hb2 hg2)
      go_wp2
      go_roundg (gk - 1)
      case measure => have := HJ.out; have := HM.out; omega
      case rel =>
        have hj := HJ.out
        have hm := HM.out
        have hg2 := HG2.out
        refine ⟨j + 1, A', c1 - 64, by omega, ?_, by omega, ?_, fun i u hu => ?_, ?_, fun h => by omega⟩
        · rw [heap_setCell_same w2 _ _ _ _ _ HB2.out, show len - 64 * (j + 1) = m - 64 by omega]
          exact congrArg (fun x => some (Obj.cells x _ _)) (Sha.hash_set_open _ _ _ _ (Sha.length_block8 _ _ HLS.out))
        · rw [show len - 64 * (j + 1) = m - 64 by omega]
          exact HA'.out
        · rw [World.cell?_of_block (heap_setCell_other w2 _ _ _ (by simp; omega))]
          have hlt' := World.block_lt_of_cell? wr _ (HCL.out i u hu)
          exact (World.cell?_of_block (hg2.block g hlt' (by simp; omega))).trans (HCL.out i u hu)
        · exact Below.setCell ((HB.out).trans ⟨hg2.os, hg2.tape, hg2.output, hg2.size, fun k hk => hg2.block k (by show k < wr.heap.size; omega) (by simp; omega)⟩) (by simp) _
    · have hj0 : gk = 0 := by omega
      go_wp2
      go_end0
      have hq : j = len / 64 := by omega
      refine ⟨rfl, ?_, hbel, fun h => ?_⟩
      · rw [← HLe.out, ← Hlen.out, ← hq]
        refine ⟨A1, c1, g, 64 * j, ?_, ?_, ?_, hgb, fun i hi => ?_⟩
        · rw [List.length_drop, HLl.out, ← hm]; exact hH
        · rw [List.length_drop, HLl.out, ← hm]; exact hc
        · rw [List.length_drop, HLl.out, ← hm]; exact hA
        · rw [List.length_drop, HLl.out] at hi
          rw [Sha.nth_drop]
          exact hcl _ _ (u8s_get _ _ (by rw [HLl.out]; omega))
      · rw [← Hlen.out] at h
        have hj1 : j = 0 := by omega
        subst hj1
        rw [← HLe.out]
        refine ⟨_, hH, ?_⟩
        rw [HLl.out]
        have := hown rfl
        rw [show m = len by omega]
        exact this
end Go.Proofs.YtpllcnpcplbobaaDoor
