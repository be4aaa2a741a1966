import Derived.Test.YtpllcnpcplbobaaDoorJr2
namespace Go.Proofs.YtpllcnpcplbobaaDoor
open Go.RowKit Go.Maps
set_option linter.unusedVariables false
/-- Nothing has turned but the disk's two blocks and the journal's. -/
structure Turned3 (w w' : World) (p b j : Nat) : Prop where
  os : w'.os = w.os
  tape : w'.tape = w.tape
  output : w'.output = w.output
  size : w.heap.size ≤ w'.heap.size
  block : ∀ k, k < w.heap.size → k ≠ p → k ≠ b → k ≠ j → w'.heap[k]? = w.heap[k]?
theorem Turned.to3 {w w' : World} {p b : Nat} (h : Turned w w' p b) (j : Nat) : Turned3 w w' p b j := ⟨h.os, h.tape, h.output, h.size, fun k hk hp hb _ => h.block k hk hp hb⟩
theorem Turned3.of_below {w w' : World} (h : Below w.heap.size w w') (p b j : Nat) : Turned3 w w' p b j := ⟨h.os, h.tape, h.output, h.size, fun k hk _ _ _ => h.block k hk⟩
theorem Turned3.trans {w w' w'' : World} {p b j : Nat} (h : Turned3 w w' p b j) (k : Turned3 w' w'' p b j) : Turned3 w w'' p b j :=
  ⟨k.os.trans h.os, k.tape.trans h.tape, k.output.trans h.output, Nat.le_trans h.size k.size, fun i hi hp hb hj => (k.block i (Nat.lt_of_lt_of_le hi h.size) hp hb hj).trans (h.block i hi hp hb hj)⟩
theorem Turned3.set {w w' : World} {p b j : Nat} (h : Turned3 w w' p b j) (i : Nat) (u : Value) : Turned3 w (w'.setCell ⟨j, i, none⟩ u) p b j :=
  ⟨h.os, h.tape, h.output, by simpa [World.setCell] using h.size, fun k hk hp hb hj => (heap_setCell_other _ _ _ _ (by show k ≠ j; exact hj)).trans (h.block k hk hp hb hj)⟩
theorem Turned3.below {w w' : World} {p b j B : Nat} (h : Turned3 w w' p b j) (hp : B ≤ p) (hb : B ≤ b) (hj : B ≤ j) (hB : B ≤ w.heap.size) : Below B w w' :=
  ⟨h.os, h.tape, h.output, h.size, fun k hk => h.block k (by omega) (by omega) (by omega) (by omega)⟩
theorem JBlk.broke {w : World} {j p : Nat} {name : ByteArray} {broken : Bool} (h : JBlk w j p name broken) : JBlk (w.setCell ⟨j, 2, none⟩ (.bool true)) j p name true :=
  heap_setCell_same w j 2 _ _ (.bool true) h
theorem DiskAt.jset {w : World} {j p b N : Nat} {g : FS} {left : Int} {name : ByteArray} {broken : Bool} (hd : DiskAt w p b g left N) (h : JBlk w j p name broken) (i : Nat) (u : Value) : DiskAt (w.setCell ⟨j, i, none⟩ u) p b g left N :=
  ⟨(heap_setCell_other _ _ _ _ (by show p ≠ j; exact fun e => (h.apart hd).1 e.symm)).trans hd.cells, hd.files.of_heap (heap_setCell_other _ _ _ _ (by show b ≠ j; exact fun e => (h.apart hd).2 e.symm))⟩
/-- The functions that 'does' is handed. -/
def FunsAt (w : World) (f : Nat) (cs : Array Value) : Prop := w.heap[f]? = some (.cells cs 48 (0, 0))
theorem FunsAt.lt {w : World} {f : Nat} {cs : Array Value} (h : FunsAt w f cs) : f < w.heap.size := (Array.getElem?_eq_some_iff.1 h).1
theorem FunsAt.below {w w' : World} {f : Nat} {cs : Array Value} (h : FunsAt w f cs) (hb : Below w.heap.size w w') : FunsAt w' f cs := (hb.block f h.lt).trans h
theorem FunsAt.turned {w w' : World} {f p b N : Nat} {cs : Array Value} {g : FS} {left : Int} (h : FunsAt w f cs) (hd : DiskAt w p b g left N) (hT : Turned w w' p b) : FunsAt w' f cs :=
  (hT.block f h.lt (hd.no_blk1 h (by decide)).1 (hd.no_blk1 h (by decide)).2).trans h
/-- What 'does' leaves of tidy. -/
def doesTOut (w : World) (j p b : Nat) (name : ByteArray) (N : Nat) (c0 : Int) (G0 : FS) (L0 : Int) (code : Int) (w' : World) : Prop :=
  ((c0 ≠ 0 ∧ code = c0 ∧ DiskAt w' p b G0 L0 (N + 1) ∧ JBlk w' j p name true) ∨ (c0 = 0 ∧ code = 0 ∧ DiskAt w' p b G0 L0 (N + 1) ∧ JBlk w' j p name false)) ∧ Turned3 w w' p b j
def doesTPost (w : World) (j p b : Nat) (name : ByteArray) (N : Nat) (c0 : Int) (G0 : FS) (L0 : Int) (e : Ending) (w' : World) : Prop := ∃ code, e = .returned (.int .i64 code) ∧ doesTOut w j p b name N c0 G0 L0 code w'
set_option maxRecDepth 100000 in
set_option maxHeartbeats 2000000 in
theorem doesT_any (j p b N : Nat) (g : FS) (left : Int) (h1 : -1 ≤ left) (h2 : left ≤ 9223372036854775807) (hN : N + 2 < maxLen) (name : ByteArray) (f : Nat) (w : World) (hD : DiskAt w p b g left N) (hJ : JBlk w j p name false) (hF : FunsAt w f #[.func (.func 15) #[.pointer (some ⟨j, 0, none⟩)] #[]]) 
    (c0 : Int) (G0 : FS) (L0 : Int) (hc0 : ∀ W, DiskAt W p b g left (N + 0) → JBlk W j p name false → Calls Tryd.prog 15 #[.pointer (some ⟨j, 0, none⟩)] W fun e w' => e = .returned (.int .i64 c0) ∧ DiskAt w' p b G0 L0 (N + 1) ∧ Turned W w' p b)
    : Calls Tryd.prog 14 #[.pointer (some ⟨j, 0, none⟩), .slice (some ⟨f, 0, none⟩) 1 1] w (doesTPost w j p b name N c0 G0 L0) := by
  have HD := Lib.hid hD
  have HJ := Lib.hid hJ
  have HF := Lib.hid hF
  have HC0 := Lib.hid hc0
  have hall : ∀ W, Turned w W p b → JBlk W j p name false ∧ FunsAt W f #[.func (.func 15) #[.pointer (some ⟨j, 0, none⟩)] #[]]  := fun W ht => ⟨hJ.turned hD ht, hF.turned hD ht⟩
  have HALL := Lib.hid hall
  clear hall hD hJ hF  hc0
  go_enter Tryd.func14, Tryd.ntmps14
  go_wp2_with fail
  go_loopw [10] (fun i wr => ∃ k : Nat, k ≤ 1 ∧ i = .int .i64 k ∧ (k = 0 → DiskAt wr p b g left N) ∧ (k = 1 → c0 = 0 ∧ DiskAt wr p b G0 L0 (N + 1)) ∧ Turned w wr p b) (fun i _ => 1 - (intOf i).toNat)
  case atStart => exact ⟨0, by omega, rfl, fun _ => HD.out, fun h => absurd h (by omega), turned_of_below (Below.refl _ _) p b⟩
  case round =>
    obtain ⟨k, hk, rfl, q0, q1, ht⟩ := hrel
    obtain ⟨hj, hf⟩ := HALL.out wr ht
    have HT := Lib.hid ht
    by_cases k0 : k = 0
    · subst k0
      have hd := q0 rfl
      have hcall := HC0.out wr  hd hj
      have hdc := hd
      have f0 : wr.cell? ⟨f, 0, none⟩ = some (.func (.func 15) #[.pointer (some ⟨j, 0, none⟩)] #[]) := by rw [cell_of_row _ _ _ _ _ _ hf]; rfl
      have HCALL := Lib.hid hcall
      have HDC := Lib.hid hdc
      have HJJ := Lib.hid hj
      clear hcall hdc hd hj hf ht q0 q1 
      by_cases hz : c0 = 0
      · have HZ := Lib.hid hz
        have hcall := HCALL.out
        rw [hz] at hcall
        have HCALL := Lib.hid hcall
        clear hz hcall
        go_wp2_with (go_at_call 15; refine (HCALL.out).mono ?_; rintro e w4 ⟨rfl, hd4, ht4⟩; have D4 := Lib.hid hd4; have T4 := Lib.hid ht4; clear hd4 ht4)
        go_roundw
        case measure => simp [intOf]
        case rel => exact ⟨1, by omega, by go_num, fun h => absurd h (by omega), fun _ => ⟨HZ.out, D4.out⟩, HT.out.trans T4.out⟩
      · have hzb : (c0 == 0) = false := by simpa using hz
        have HZ := Lib.hid hz
        clear hz
        go_wp2_with (go_at_call 15; refine (HCALL.out).mono ?_; rintro e w4 ⟨rfl, hd4, ht4⟩; have J4 := Lib.hid (HJJ.out.turned HDC.out ht4); obtain ⟨_, _, y2, y3⟩ := J4.out.cells; have D4 := Lib.hid hd4; have T4 := Lib.hid ht4; clear hd4 ht4)
        go_ret
        exact ⟨_, rfl, .inl ⟨HZ.out, rfl, (D4.out.jset J4.out _ _), J4.out.broke⟩, ((HT.out.trans T4.out).to3 j).set 2 _⟩
    · have hkn : k = 1 := by omega
      subst hkn
      obtain ⟨z0, hd⟩ := q1 rfl
      have Z0 := Lib.hid z0
      have HDC := Lib.hid hd
      have HJJ := Lib.hid hj
      clear hd hj hf ht q0 q1 z0
      go_wp2_with fail
      go_ret
      exact ⟨_, rfl, .inr (⟨Z0.out, rfl, HDC.out, HJJ.out⟩), HT.out.to3 j⟩
/-- What 'does' leaves of Add's two calls. -/
def doesAOut (w : World) (j p b : Nat) (name : ByteArray) (N : Nat) (c0 : Int) (G0 : FS) (L0 : Int) (c1 : Int) (G1 : FS) (L1 : Int) (code : Int) (w' : World) : Prop :=
  ((c0 ≠ 0 ∧ code = c0 ∧ DiskAt w' p b G0 L0 (N + 2) ∧ JBlk w' j p name true) ∨ (c0 = 0 ∧ c1 ≠ 0 ∧ code = c1 ∧ DiskAt w' p b G1 L1 (N + 2) ∧ JBlk w' j p name true) ∨ (c0 = 0 ∧ c1 = 0 ∧ code = 0 ∧ DiskAt w' p b G1 L1 (N + 2) ∧ JBlk w' j p name false)) ∧ Turned3 w w' p b j
def doesAPost (w : World) (j p b : Nat) (name : ByteArray) (N : Nat) (c0 : Int) (G0 : FS) (L0 : Int) (c1 : Int) (G1 : FS) (L1 : Int) (e : Ending) (w' : World) : Prop := ∃ code, e = .returned (.int .i64 code) ∧ doesAOut w j p b name N c0 G0 L0 c1 G1 L1 code w'
set_option maxRecDepth 100000 in
set_option maxHeartbeats 2000000 in
theorem doesA_any (j p b N : Nat) (g : FS) (left : Int) (h1 : -1 ≤ left) (h2 : left ≤ 9223372036854775807) (hN : N + 3 < maxLen) (name data : ByteArray) (f bj bv : Nat) (w : World) (hD : DiskAt w p b g left N) (hJ : JBlk w j p name false) (hF : FunsAt w f #[.func (.func 20) #[] #[.pointer (some ⟨bj, 0, none⟩), .pointer (some ⟨bv, 0, none⟩)], .func (.func 22) #[] #[.pointer (some ⟨bj, 0, none⟩)]]) (hbj : VarAt w bj (.pointer (some ⟨j, 0, none⟩)) 27) (hbv : VarAt w bv (.string data) 9)
    (c0 : Int) (G0 : FS) (L0 : Int) (hc0 : ∀ W, DiskAt W p b g left (N + 0) → JBlk W j p name false → VarAt W bj (.pointer (some ⟨j, 0, none⟩)) 27 → VarAt W bv (.string data) 9 → Calls Tryd.prog 20 #[.pointer (some ⟨bj, 0, none⟩), .pointer (some ⟨bv, 0, none⟩)] W fun e w' => e = .returned (.int .i64 c0) ∧ DiskAt w' p b G0 L0 (N + 1) ∧ Turned W w' p b)
    (c1 : Int) (G1 : FS) (L1 : Int) (hc1 : ∀ W, c0 = 0 → DiskAt W p b G0 L0 (N + 1) → JBlk W j p name false → VarAt W bj (.pointer (some ⟨j, 0, none⟩)) 27 → VarAt W bv (.string data) 9 → Calls Tryd.prog 22 #[.pointer (some ⟨bj, 0, none⟩)] W fun e w' => e = .returned (.int .i64 c1) ∧ DiskAt w' p b G1 L1 (N + 2) ∧ Turned W w' p b)
    : Calls Tryd.prog 14 #[.pointer (some ⟨j, 0, none⟩), .slice (some ⟨f, 0, none⟩) 2 2] w (doesAPost w j p b name N c0 G0 L0 c1 G1 L1) := by
  have HD := Lib.hid hD
  have HJ := Lib.hid hJ
  have HF := Lib.hid hF
  have Hbj := Lib.hid hbj
  have Hbv := Lib.hid hbv
  have HC0 := Lib.hid hc0
  have HC1 := Lib.hid hc1
  have hall : ∀ W, Turned w W p b → JBlk W j p name false ∧ FunsAt W f #[.func (.func 20) #[] #[.pointer (some ⟨bj, 0, none⟩), .pointer (some ⟨bv, 0, none⟩)], .func (.func 22) #[] #[.pointer (some ⟨bj, 0, none⟩)]] ∧ VarAt W bj (.pointer (some ⟨j, 0, none⟩)) 27 ∧ VarAt W bv (.string data) 9  := fun W ht => ⟨hJ.turned hD ht, hF.turned hD ht, hbj.turned (by decide) hD ht, hbv.turned (by decide) hD ht⟩
  have HALL := Lib.hid hall
  clear hall hD hJ hF hbj hbv hc0 hc1
  go_enter Tryd.func14, Tryd.ntmps14
  go_wp2_with fail
  go_loopw [10] (fun i wr => ∃ k : Nat, k ≤ 2 ∧ i = .int .i64 k ∧ (k = 0 → DiskAt wr p b g left N) ∧ (k = 1 → c0 = 0 ∧ DiskAt wr p b G0 L0 (N + 1)) ∧ (k = 2 → c0 = 0 ∧ c1 = 0 ∧ DiskAt wr p b G1 L1 (N + 2)) ∧ Turned w wr p b) (fun i _ => 2 - (intOf i).toNat)
  case atStart => exact ⟨0, by omega, rfl, fun _ => HD.out, fun h => absurd h (by omega), fun h => absurd h (by omega), turned_of_below (Below.refl _ _) p b⟩
  case round =>
    obtain ⟨k, hk, rfl, q0, q1, q2, ht⟩ := hrel
    obtain ⟨hj, hf, v0, v1⟩ := HALL.out wr ht
    have HT := Lib.hid ht
    by_cases k0 : k = 0
    · subst k0
      have hd := q0 rfl
      have hcall := HC0.out wr  hd hj v0 v1
      have hdc := hd
      have f0 : wr.cell? ⟨f, 0, none⟩ = some (.func (.func 20) #[] #[.pointer (some ⟨bj, 0, none⟩), .pointer (some ⟨bv, 0, none⟩)]) := by rw [cell_of_row _ _ _ _ _ _ hf]; rfl
      have HCALL := Lib.hid hcall
      have HDC := Lib.hid hdc
      have HJJ := Lib.hid hj
      clear hcall hdc hd hj hf ht q0 q1 q2 v0 v1 
      by_cases hz : c0 = 0
      · have HZ := Lib.hid hz
        have hcall := HCALL.out
        rw [hz] at hcall
        have HCALL := Lib.hid hcall
        clear hz hcall
        go_wp2_with (go_at_call 20; refine (HCALL.out).mono ?_; rintro e w4 ⟨rfl, hd4, ht4⟩; have D4 := Lib.hid hd4; have T4 := Lib.hid ht4; clear hd4 ht4)
        go_roundw
        case measure => simp [intOf]
        case rel => exact ⟨1, by omega, by go_num, fun h => absurd h (by omega), fun _ => ⟨HZ.out, D4.out⟩, fun h => absurd h (by omega), HT.out.trans T4.out⟩
      · have hzb : (c0 == 0) = false := by simpa using hz
        have HZ := Lib.hid hz
        clear hz
        go_wp2_with (go_at_call 20; refine (HCALL.out).mono ?_; rintro e w4 ⟨rfl, hd4, ht4⟩; have J4 := Lib.hid (HJJ.out.turned HDC.out ht4); obtain ⟨_, _, y2, y3⟩ := J4.out.cells; have D4 := Lib.hid hd4; have T4 := Lib.hid ht4; clear hd4 ht4)
        go_ret
        exact ⟨_, rfl, .inl ⟨HZ.out, rfl, ⟨(D4.out.jset J4.out _ _).cells, (D4.out.jset J4.out _ _).files.mono (by omega)⟩, J4.out.broke⟩, ((HT.out.trans T4.out).to3 j).set 2 _⟩
    by_cases k1 : k = 1
    · subst k1
      obtain ⟨z0, hd⟩ := q1 rfl
      have hcall := HC1.out wr z0 hd hj v0 v1
      have hdc := hd
      have f0 : wr.cell? ⟨f, 1, none⟩ = some (.func (.func 22) #[] #[.pointer (some ⟨bj, 0, none⟩)]) := by rw [cell_of_row _ _ _ _ _ _ hf]; rfl
      have HCALL := Lib.hid hcall
      have HDC := Lib.hid hdc
      have HJJ := Lib.hid hj
      have Z0 := Lib.hid z0
      clear hcall hdc hd hj hf ht q0 q1 q2 v0 v1 z0
      by_cases hz : c1 = 0
      · have HZ := Lib.hid hz
        have hcall := HCALL.out
        rw [hz] at hcall
        have HCALL := Lib.hid hcall
        clear hz hcall
        go_wp2_with (go_at_call 22; refine (HCALL.out).mono ?_; rintro e w4 ⟨rfl, hd4, ht4⟩; have D4 := Lib.hid hd4; have T4 := Lib.hid ht4; clear hd4 ht4)
        go_roundw
        case measure => simp [intOf]
        case rel => exact ⟨2, by omega, by go_num, fun h => absurd h (by omega), fun h => absurd h (by omega), fun _ => ⟨Z0.out, HZ.out, D4.out⟩, HT.out.trans T4.out⟩
      · have hzb : (c1 == 0) = false := by simpa using hz
        have HZ := Lib.hid hz
        clear hz
        go_wp2_with (go_at_call 22; refine (HCALL.out).mono ?_; rintro e w4 ⟨rfl, hd4, ht4⟩; have J4 := Lib.hid (HJJ.out.turned HDC.out ht4); obtain ⟨_, _, y2, y3⟩ := J4.out.cells; have D4 := Lib.hid hd4; have T4 := Lib.hid ht4; clear hd4 ht4)
        go_ret
        exact ⟨_, rfl, .inr (.inl ⟨Z0.out, HZ.out, rfl, (D4.out.jset J4.out _ _), J4.out.broke⟩), ((HT.out.trans T4.out).to3 j).set 2 _⟩
    · have hkn : k = 2 := by omega
      subst hkn
      obtain ⟨z0, z1, hd⟩ := q2 rfl
      have Z0 := Lib.hid z0
      have Z1 := Lib.hid z1
      have HDC := Lib.hid hd
      have HJJ := Lib.hid hj
      clear hd hj hf ht q0 q1 q2 v0 v1 z0 z1
      go_wp2_with fail
      go_ret
      exact ⟨_, rfl, .inr (.inr (⟨Z0.out, Z1.out, rfl, HDC.out, HJJ.out⟩)), HT.out.to3 j⟩
/-- What 'does' leaves of anew's three calls. -/
def doesNOut (w : World) (j p b : Nat) (name : ByteArray) (N : Nat) (c0 : Int) (G0 : FS) (L0 : Int) (c1 : Int) (G1 : FS) (L1 : Int) (c2 : Int) (G2 : FS) (L2 : Int) (code : Int) (w' : World) : Prop :=
  ((c0 ≠ 0 ∧ code = c0 ∧ DiskAt w' p b G0 L0 (N + 3) ∧ JBlk w' j p name true) ∨ (c0 = 0 ∧ c1 ≠ 0 ∧ code = c1 ∧ DiskAt w' p b G1 L1 (N + 3) ∧ JBlk w' j p name true) ∨ (c0 = 0 ∧ c1 = 0 ∧ c2 ≠ 0 ∧ code = c2 ∧ DiskAt w' p b G2 L2 (N + 3) ∧ JBlk w' j p name true) ∨ (c0 = 0 ∧ c1 = 0 ∧ c2 = 0 ∧ code = 0 ∧ DiskAt w' p b G2 L2 (N + 3) ∧ JBlk w' j p name false)) ∧ Turned3 w w' p b j
def doesNPost (w : World) (j p b : Nat) (name : ByteArray) (N : Nat) (c0 : Int) (G0 : FS) (L0 : Int) (c1 : Int) (G1 : FS) (L1 : Int) (c2 : Int) (G2 : FS) (L2 : Int) (e : Ending) (w' : World) : Prop := ∃ code, e = .returned (.int .i64 code) ∧ doesNOut w j p b name N c0 G0 L0 c1 G1 L1 c2 G2 L2 code w'
set_option maxRecDepth 100000 in
set_option maxHeartbeats 2000000 in
theorem doesN_any (j p b N : Nat) (g : FS) (left : Int) (h1 : -1 ≤ left) (h2 : left ≤ 9223372036854775807) (hN : N + 4 < maxLen) (name other data : ByteArray) (f bj bo bv : Nat) (w : World) (hD : DiskAt w p b g left N) (hJ : JBlk w j p name false) (hF : FunsAt w f #[.func (.func 34) #[] #[.pointer (some ⟨bj, 0, none⟩), .pointer (some ⟨bo, 0, none⟩), .pointer (some ⟨bv, 0, none⟩)], .func (.func 35) #[] #[.pointer (some ⟨bj, 0, none⟩), .pointer (some ⟨bo, 0, none⟩)], .func (.func 36) #[] #[.pointer (some ⟨bj, 0, none⟩), .pointer (some ⟨bo, 0, none⟩)]]) (hbj : VarAt w bj (.pointer (some ⟨j, 0, none⟩)) 27) (hbo : VarAt w bo (.string other) 9) (hbv : VarAt w bv (.string data) 9)
    (c0 : Int) (G0 : FS) (L0 : Int) (hc0 : ∀ W, DiskAt W p b g left (N + 0) → JBlk W j p name false → VarAt W bj (.pointer (some ⟨j, 0, none⟩)) 27 → VarAt W bo (.string other) 9 → VarAt W bv (.string data) 9 → Calls Tryd.prog 34 #[.pointer (some ⟨bj, 0, none⟩), .pointer (some ⟨bo, 0, none⟩), .pointer (some ⟨bv, 0, none⟩)] W fun e w' => e = .returned (.int .i64 c0) ∧ DiskAt w' p b G0 L0 (N + 1) ∧ Turned W w' p b)
    (c1 : Int) (G1 : FS) (L1 : Int) (hc1 : ∀ W, c0 = 0 → DiskAt W p b G0 L0 (N + 1) → JBlk W j p name false → VarAt W bj (.pointer (some ⟨j, 0, none⟩)) 27 → VarAt W bo (.string other) 9 → VarAt W bv (.string data) 9 → Calls Tryd.prog 35 #[.pointer (some ⟨bj, 0, none⟩), .pointer (some ⟨bo, 0, none⟩)] W fun e w' => e = .returned (.int .i64 c1) ∧ DiskAt w' p b G1 L1 (N + 2) ∧ Turned W w' p b)
    (c2 : Int) (G2 : FS) (L2 : Int) (hc2 : ∀ W, c0 = 0 → c1 = 0 → DiskAt W p b G1 L1 (N + 2) → JBlk W j p name false → VarAt W bj (.pointer (some ⟨j, 0, none⟩)) 27 → VarAt W bo (.string other) 9 → VarAt W bv (.string data) 9 → Calls Tryd.prog 36 #[.pointer (some ⟨bj, 0, none⟩), .pointer (some ⟨bo, 0, none⟩)] W fun e w' => e = .returned (.int .i64 c2) ∧ DiskAt w' p b G2 L2 (N + 3) ∧ Turned W w' p b)
    : Calls Tryd.prog 14 #[.pointer (some ⟨j, 0, none⟩), .slice (some ⟨f, 0, none⟩) 3 3] w (doesNPost w j p b name N c0 G0 L0 c1 G1 L1 c2 G2 L2) := by
  have HD := Lib.hid hD
  have HJ := Lib.hid hJ
  have HF := Lib.hid hF
  have Hbj := Lib.hid hbj
  have Hbo := Lib.hid hbo
  have Hbv := Lib.hid hbv
  have HC0 := Lib.hid hc0
  have HC1 := Lib.hid hc1
  have HC2 := Lib.hid hc2
  have hall : ∀ W, Turned w W p b → JBlk W j p name false ∧ FunsAt W f #[.func (.func 34) #[] #[.pointer (some ⟨bj, 0, none⟩), .pointer (some ⟨bo, 0, none⟩), .pointer (some ⟨bv, 0, none⟩)], .func (.func 35) #[] #[.pointer (some ⟨bj, 0, none⟩), .pointer (some ⟨bo, 0, none⟩)], .func (.func 36) #[] #[.pointer (some ⟨bj, 0, none⟩), .pointer (some ⟨bo, 0, none⟩)]] ∧ VarAt W bj (.pointer (some ⟨j, 0, none⟩)) 27 ∧ VarAt W bo (.string other) 9 ∧ VarAt W bv (.string data) 9  := fun W ht => ⟨hJ.turned hD ht, hF.turned hD ht, hbj.turned (by decide) hD ht, hbo.turned (by decide) hD ht, hbv.turned (by decide) hD ht⟩
  have HALL := Lib.hid hall
  clear hall hD hJ hF hbj hbo hbv hc0 hc1 hc2
  go_enter Tryd.func14, Tryd.ntmps14
  go_wp2_with fail
  go_loopw [10] (fun i wr => ∃ k : Nat, k ≤ 3 ∧ i = .int .i64 k ∧ (k = 0 → DiskAt wr p b g left N) ∧ (k = 1 → c0 = 0 ∧ DiskAt wr p b G0 L0 (N + 1)) ∧ (k = 2 → c0 = 0 ∧ c1 = 0 ∧ DiskAt wr p b G1 L1 (N + 2)) ∧ (k = 3 → c0 = 0 ∧ c1 = 0 ∧ c2 = 0 ∧ DiskAt wr p b G2 L2 (N + 3)) ∧ Turned w wr p b) (fun i _ => 3 - (intOf i).toNat)
  case atStart => exact ⟨0, by omega, rfl, fun _ => HD.out, fun h => absurd h (by omega), fun h => absurd h (by omega), fun h => absurd h (by omega), turned_of_below (Below.refl _ _) p b⟩
  case round =>
    obtain ⟨k, hk, rfl, q0, q1, q2, q3, ht⟩ := hrel
    obtain ⟨hj, hf, v0, v1, v2⟩ := HALL.out wr ht
    have HT := Lib.hid ht
    by_cases k0 : k = 0
    · subst k0
      have hd := q0 rfl
      have hcall := HC0.out wr  hd hj v0 v1 v2
      have hdc := hd
      have f0 : wr.cell? ⟨f, 0, none⟩ = some (.func (.func 34) #[] #[.pointer (some ⟨bj, 0, none⟩), .pointer (some ⟨bo, 0, none⟩), .pointer (some ⟨bv, 0, none⟩)]) := by rw [cell_of_row _ _ _ _ _ _ hf]; rfl
      have HCALL := Lib.hid hcall
      have HDC := Lib.hid hdc
      have HJJ := Lib.hid hj
      clear hcall hdc hd hj hf ht q0 q1 q2 q3 v0 v1 v2 
      by_cases hz : c0 = 0
      · have HZ := Lib.hid hz
        have hcall := HCALL.out
        rw [hz] at hcall
        have HCALL := Lib.hid hcall
        clear hz hcall
        go_wp2_with (go_at_call 34; refine (HCALL.out).mono ?_; rintro e w4 ⟨rfl, hd4, ht4⟩; have D4 := Lib.hid hd4; have T4 := Lib.hid ht4; clear hd4 ht4)
        go_roundw
        case measure => simp [intOf]
        case rel => exact ⟨1, by omega, by go_num, fun h => absurd h (by omega), fun _ => ⟨HZ.out, D4.out⟩, fun h => absurd h (by omega), fun h => absurd h (by omega), HT.out.trans T4.out⟩
      · have hzb : (c0 == 0) = false := by simpa using hz
        have HZ := Lib.hid hz
        clear hz
        go_wp2_with (go_at_call 34; refine (HCALL.out).mono ?_; rintro e w4 ⟨rfl, hd4, ht4⟩; have J4 := Lib.hid (HJJ.out.turned HDC.out ht4); obtain ⟨_, _, y2, y3⟩ := J4.out.cells; have D4 := Lib.hid hd4; have T4 := Lib.hid ht4; clear hd4 ht4)
        go_ret
        exact ⟨_, rfl, .inl ⟨HZ.out, rfl, ⟨(D4.out.jset J4.out _ _).cells, (D4.out.jset J4.out _ _).files.mono (by omega)⟩, J4.out.broke⟩, ((HT.out.trans T4.out).to3 j).set 2 _⟩
    by_cases k1 : k = 1
    · subst k1
      obtain ⟨z0, hd⟩ := q1 rfl
      have hcall := HC1.out wr z0 hd hj v0 v1 v2
      have hdc := hd
      have f0 : wr.cell? ⟨f, 1, none⟩ = some (.func (.func 35) #[] #[.pointer (some ⟨bj, 0, none⟩), .pointer (some ⟨bo, 0, none⟩)]) := by rw [cell_of_row _ _ _ _ _ _ hf]; rfl
      have HCALL := Lib.hid hcall
      have HDC := Lib.hid hdc
      have HJJ := Lib.hid hj
      have Z0 := Lib.hid z0
      clear hcall hdc hd hj hf ht q0 q1 q2 q3 v0 v1 v2 z0
      by_cases hz : c1 = 0
      · have HZ := Lib.hid hz
        have hcall := HCALL.out
        rw [hz] at hcall
        have HCALL := Lib.hid hcall
        clear hz hcall
        go_wp2_with (go_at_call 35; refine (HCALL.out).mono ?_; rintro e w4 ⟨rfl, hd4, ht4⟩; have D4 := Lib.hid hd4; have T4 := Lib.hid ht4; clear hd4 ht4)
        go_roundw
        case measure => simp [intOf]
        case rel => exact ⟨2, by omega, by go_num, fun h => absurd h (by omega), fun h => absurd h (by omega), fun _ => ⟨Z0.out, HZ.out, D4.out⟩, fun h => absurd h (by omega), HT.out.trans T4.out⟩
      · have hzb : (c1 == 0) = false := by simpa using hz
        have HZ := Lib.hid hz
        clear hz
        go_wp2_with (go_at_call 35; refine (HCALL.out).mono ?_; rintro e w4 ⟨rfl, hd4, ht4⟩; have J4 := Lib.hid (HJJ.out.turned HDC.out ht4); obtain ⟨_, _, y2, y3⟩ := J4.out.cells; have D4 := Lib.hid hd4; have T4 := Lib.hid ht4; clear hd4 ht4)
        go_ret
        exact ⟨_, rfl, .inr (.inl ⟨Z0.out, HZ.out, rfl, ⟨(D4.out.jset J4.out _ _).cells, (D4.out.jset J4.out _ _).files.mono (by omega)⟩, J4.out.broke⟩), ((HT.out.trans T4.out).to3 j).set 2 _⟩
    by_cases k2 : k = 2
    · subst k2
      obtain ⟨z0, z1, hd⟩ := q2 rfl
      have hcall := HC2.out wr z0 z1 hd hj v0 v1 v2
      have hdc := hd
      have f0 : wr.cell? ⟨f, 2, none⟩ = some (.func (.func 36) #[] #[.pointer (some ⟨bj, 0, none⟩), .pointer (some ⟨bo, 0, none⟩)]) := by rw [cell_of_row _ _ _ _ _ _ hf]; rfl
      have HCALL := Lib.hid hcall
      have HDC := Lib.hid hdc
      have HJJ := Lib.hid hj
      have Z0 := Lib.hid z0
      have Z1 := Lib.hid z1
      clear hcall hdc hd hj hf ht q0 q1 q2 q3 v0 v1 v2 z0 z1
      by_cases hz : c2 = 0
      · have HZ := Lib.hid hz
        have hcall := HCALL.out
        rw [hz] at hcall
        have HCALL := Lib.hid hcall
        clear hz hcall
        go_wp2_with (go_at_call 36; refine (HCALL.out).mono ?_; rintro e w4 ⟨rfl, hd4, ht4⟩; have D4 := Lib.hid hd4; have T4 := Lib.hid ht4; clear hd4 ht4)
        go_roundw
        case measure => simp [intOf]
        case rel => exact ⟨3, by omega, by go_num, fun h => absurd h (by omega), fun h => absurd h (by omega), fun h => absurd h (by omega), fun _ => ⟨Z0.out, Z1.out, HZ.out, D4.out⟩, HT.out.trans T4.out⟩
      · have hzb : (c2 == 0) = false := by simpa using hz
        have HZ := Lib.hid hz
        clear hz
        go_wp2_with (go_at_call 36; refine (HCALL.out).mono ?_; rintro e w4 ⟨rfl, hd4, ht4⟩; have J4 := Lib.hid (HJJ.out.turned HDC.out ht4); obtain ⟨_, _, y2, y3⟩ := J4.out.cells; have D4 := Lib.hid hd4; have T4 := Lib.hid ht4; clear hd4 ht4)
        go_ret
        exact ⟨_, rfl, .inr (.inr (.inl ⟨Z0.out, Z1.out, HZ.out, rfl, (D4.out.jset J4.out _ _), J4.out.broke⟩)), ((HT.out.trans T4.out).to3 j).set 2 _⟩
    · have hkn : k = 3 := by omega
      subst hkn
      obtain ⟨z0, z1, z2, hd⟩ := q3 rfl
      have Z0 := Lib.hid z0
      have Z1 := Lib.hid z1
      have Z2 := Lib.hid z2
      have HDC := Lib.hid hd
      have HJJ := Lib.hid hj
      clear hd hj hf ht q0 q1 q2 q3 v0 v1 v2 z0 z1 z2
      go_wp2_with fail
      go_ret
      exact ⟨_, rfl, .inr (.inr (.inr (⟨Z0.out, Z1.out, Z2.out, rfl, HDC.out, HJJ.out⟩))), HT.out.to3 j⟩
end Go.Proofs.YtpllcnpcplbobaaDoor
