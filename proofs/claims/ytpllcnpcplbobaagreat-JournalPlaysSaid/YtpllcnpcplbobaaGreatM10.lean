import Derived.Test.YtpllcnpcplbobaaGreatM01
import Derived.Test.YtpllcnpcplbobaaGreatM09
import Derived.BigRegion
import Derived.RegionTactic
import Derived.Deep.DeepCutAuto
import Derived.Deep.CutBlock
import Derived.Deep.RegionHeld3
import Derived.Outline
section
namespace Go.Proofs.YtpllcnpcplbobaaGreat
open Go.RowKit Go.Maps
/-! The disk's own functions. -/
/-- Nothing has turned but the disk's own two blocks. -/
structure Turned (w w' : World) (p b : Nat) : Prop where
  os : w'.os = w.os
  tape : w'.tape = w.tape
  output : w'.output = w.output
  size : w.heap.size ≤ w'.heap.size
  block : ∀ k, k < w.heap.size → k ≠ p → k ≠ b → w'.heap[k]? = w.heap[k]?
theorem Turned.below {w w' : World} {p b B : Nat} (h : Turned w w' p b) (hp : B ≤ p) (hb : B ≤ b) (hB : B ≤ w.heap.size) : Below B w w' :=
  ⟨h.os, h.tape, h.output, h.size, fun k hk => h.block k (by omega) (by omega) (by omega)⟩
theorem turned_of_below {w w' : World} (h : Below w.heap.size w w') (p b : Nat) : Turned w w' p b := ⟨h.os, h.tape, h.output, h.size, fun k hk _ _ => h.block k hk⟩
theorem Turned.trans {w w' w'' : World} {p b : Nat} (h : Turned w w' p b) (k : Turned w' w'' p b) : Turned w w'' p b :=
  ⟨k.os.trans h.os, k.tape.trans h.tape, k.output.trans h.output, Nat.le_trans h.size k.size, fun i hi hp hb => (k.block i (Nat.lt_of_lt_of_le hi h.size) hp hb).trans (h.block i hi hp hb)⟩
/-- A disk at p over the map at b: its files, and how many writing calls may pass. -/
structure DiskAt (w : World) (p b : Nat) (g : FS) (left : Int) (N : Nat) : Prop where
  cells : w.heap[p]? = some (.cells #[.map (some b), .int .i64 left] 62 (0, 0))
  files : MapAt w b N g
theorem DiskAt.lt {w : World} {p b N : Nat} {g : FS} {left : Int} (h : DiskAt w p b g left N) : p < w.heap.size := (Array.getElem?_eq_some_iff.1 h.cells).1
theorem DiskAt.ne {w : World} {p b N : Nat} {g : FS} {left : Int} (h : DiskAt w p b g left N) : p ≠ b := by
  rintro rfl
  obtain ⟨D, ⟨es, clock, hb, _⟩, _⟩ := h.files
  rw [h.cells] at hb
  cases hb
theorem DiskAt.cell0 {w : World} {p b N : Nat} {g : FS} {left : Int} (h : DiskAt w p b g left N) : w.cell? ⟨p, 0, none⟩ = some (.map (some b)) := by rw [cell_of_row _ _ _ _ _ _ h.cells]; rfl
theorem DiskAt.cell1 {w : World} {p b N : Nat} {g : FS} {left : Int} (h : DiskAt w p b g left N) : w.cell? ⟨p, 1, none⟩ = some (.int .i64 left) := by rw [cell_of_row _ _ _ _ _ _ h.cells]; rfl
theorem DiskAt.below {w w' : World} {p b N : Nat} {g : FS} {left : Int} (h : DiskAt w p b g left N) (hb : Below w.heap.size w w') : DiskAt w' p b g left N :=
  ⟨(hb.block p h.lt).trans h.cells, h.files.of_heap (hb.block b h.files.lt)⟩
/-- Another disk's doings leave this one as it is. -/
theorem DiskAt.beside {w w' : World} {p b N p' b' : Nat} {g : FS} {left : Int} (h : DiskAt w p b g left N) (ht : Turned w w' p' b') (h1 : p ≠ p') (h2 : p ≠ b') (h3 : b ≠ p') (h4 : b ≠ b') : DiskAt w' p b g left N :=
  ⟨(ht.block p h.lt h1 h2).trans h.cells, h.files.of_heap (ht.block b h.files.lt h3 h4)⟩
set_option maxRecDepth 100000 in
set_option maxHeartbeats 1000000 in
theorem index_any (va : Value) (A : List ByteArray) (hAm : A.length ≤ 1099511627776) (x : ByteArray) (w : World) (hA : TextsAt w va A) :
    Calls Tryz.prog 63 #[va, .string x] w fun e w' => ∃ i : Int, e = .returned (.int .i64 i) ∧ (0 ≤ i ↔ x ∈ A) ∧ w = w' := by
  obtain ⟨a, ca, rfl, ha⟩ := hA
  obtain ⟨n, hn⟩ : ∃ n, n = A.length := ⟨_, rfl⟩
  rw [← hn] at hAm ⊢
  have HA := Lib.hid ha
  have HN := Lib.hid hn
  clear ha hn
  go_enter Tryz.func63, Tryz.ntmps63
  go_wp2_with fail
  go_loopw [8] (fun i wr => ∃ k : Nat, k ≤ n ∧ i = .int .i64 k ∧ (∀ j, j < k → A[j]? ≠ some x) ∧ wr = w) (fun i _ => n - (intOf i).toNat)
  case atStart => exact ⟨0, by omega, rfl, fun j hj => by omega, rfl⟩
  case round =>
    obtain ⟨k, hk, rfl, hno, rfl⟩ := hrel
    by_cases hlt : k < n
    · have hAk : k < A.length := by rw [← HN.out]; exact hlt
      rcases HA.out with h0 | ⟨b1, o1, rfl, hc1⟩
      · omega
      have d1 : wr.cell? ⟨b1, o1 + k, none⟩ = some (.string A[k]) := hc1 k hAk
      obtain ⟨y, hy⟩ : ∃ y, y = A[k] := ⟨_, rfl⟩
      rw [← hy] at d1
      have HNO := Lib.hid hno
      have HY := Lib.hid hy
      clear hno hc1 HA hy
      by_cases hxy : x = y
      · have ht : (x.toList == y.toList) = true := by rw [text_beq]; exact decide_eq_true hxy
        have HXY := Lib.hid hxy
        clear hxy
        go_wp2
        go_ret
        exact ⟨_, rfl, ⟨fun _ => by rw [HXY.out, HY.out]; exact List.getElem_mem hAk, fun _ => by omega⟩, rfl⟩
      · have ht : (x.toList == y.toList) = false := by rw [text_beq]; exact decide_eq_false hxy
        have HXY := Lib.hid hxy
        clear hxy
        go_wp2
        go_roundw
        case measure => simp [intOf]; omega
        case rel =>
          refine ⟨k + 1, by omega, by go_num, fun j hj => ?_, by first | rfl | trivial⟩
          by_cases hjk : j < k
          · exact HNO.out j hjk
          · obtain rfl : j = k := by omega
            rw [List.getElem?_eq_getElem hAk, ← HY.out]
            exact fun e => HXY.out (Option.some.inj e).symm
    · have hni : ¬ x ∈ A := fun hx => by
        obtain ⟨j, hj, e⟩ := List.getElem_of_mem hx
        exact hno j (by rw [← HN.out] at hj; omega) (by rw [List.getElem?_eq_getElem hj, e])
      clear hno
      go_wp2
      go_ret
      exact ⟨-1, rfl, ⟨fun h => by omega, fun h => absurd h hni⟩, rfl⟩
def memB (x : ByteArray) (l : List ByteArray) : Bool := l.any fun y => decide (y = x)
theorem memB_iff {x : ByteArray} {l : List ByteArray} : memB x l = true ↔ x ∈ l := by
  unfold memB
  rw [List.any_eq_true]
  constructor
  · rintro ⟨y, hy, h⟩
    rw [← of_decide_eq_true h]; exact hy
  · exact fun h => ⟨x, h, decide_eq_true rfl⟩
set_option maxRecDepth 100000 in
theorem contains_any (va : Value) (A : List ByteArray) (hAm : A.length ≤ 1099511627776) (x : ByteArray) (w : World) (hA : TextsAt w va A) :
    Calls Tryz.prog 50 #[va, .string x] w fun e w' => e = .returned (.bool (memB x A)) ∧ w = w' := by
  have hi := index_any va A hAm x w hA
  go_enter Tryz.func50, Tryz.ntmps50
  go_wp2_with (go_at_call 63; refine hi.mono ?_; rintro e w1 ⟨i, rfl, hmem, rfl⟩)
  go_ret
  refine ⟨?_, rfl⟩
  have e : decide (0 ≤ i) = memB x A := by
    by_cases h : 0 ≤ i
    · rw [decide_eq_true h, memB_iff.2 (hmem.1 h)]
    · rw [decide_eq_false h]
      cases hm : memB x A with
      | false => rfl
      | true => exact absurd (hmem.2 (memB_iff.1 hm)) h
  rw [← e]
  rfl
set_option maxRecDepth 100000 in
theorem new_disk (w : World) : Calls Tryz.prog 6 #[] w fun e w' => ∃ p b, e = .returned (.pointer (some ⟨p, 0, none⟩)) ∧ DiskAt w' p b (fun _ => none) (-1) 0 ∧ Below w.heap.size w w' ∧ w.heap.size ≤ p ∧ w.heap.size ≤ b ∧ p ≠ b := by
  have hmm := @run_makeMap Tryz.prog
  go_enter Tryz.func6, Tryz.ntmps6
  go_wp2
  go_ret
  have e : (w.alloc (.map #[] 0)).heap.size = w.heap.size + 1 := by simp
  refine ⟨_, w.heap.size, rfl, ⟨?_, ?_⟩, (((Below.refl _ _).alloc (Nat.le_refl _) _).alloc (by simp) _), by omega, Nat.le_refl _, by omega⟩
  · exact heap_alloc2_new w (.map #[] 0) (.cells #[.map (some w.heap.size), .int .i64 (-1)] 62)
  · exact (mapAt_new w).of_heap (heap_alloc_old _ _ (by simp))
end Go.Proofs.YtpllcnpcplbobaaGreat
end
section
namespace Go.Proofs.YtpllcnpcplbobaaGreat
open Go.RowKit Go.Maps
def isB (g : FS) (x : ByteArray) : Bool := (g x).isSome
/-- The error's number of a writing call's beginning. -/
def beginE (there : Bool) (g : FS) (left : Int) (x : ByteArray) (l : List ByteArray) : Int :=
  if memB ⟨#[]⟩ l then 1 else if there && !isB g x then 10 else if left = 0 then 18 else 0
def leftE (code left : Int) : Int := if code = 0 ∧ 0 < left then left - 1 else left
set_option maxRecDepth 100000 in
set_option maxHeartbeats 1000000 in
theorem begin_disk (p b N : Nat) (g : FS) (left : Int) (hl1 : -1 ≤ left) (hl2 : left ≤ 9223372036854775807) (there : Bool) (va : Value) (x : ByteArray) (hx : x.size ≤ maxLen) (A : List ByteArray) (hAm : A.length ≤ 1000) (w : World)
    (hD : DiskAt w p b g left N) (hA : TextsAt w va (x :: A)) :
    Calls Tryz.prog 43 #[.pointer (some ⟨p, 0, none⟩), .bool there, va] w fun e w' => e = .returned (.int .i64 (beginE there g left x (x :: A))) ∧ DiskAt w' p b g (leftE (beginE there g left x (x :: A)) left) N ∧ Turned w w' p b := by
  have hA2 := hA
  obtain ⟨a, ca, rfl, ha⟩ := hA
  rcases ha with h0 | ⟨b1, o1, rfl, hc1⟩
  · simp at h0
  have d0 : w.cell? ⟨b1, o1, none⟩ = some (.string x) := by
    have h := hc1 0 (by simp)
    rw [Nat.add_zero] at h
    exact h
  have c0 := hD.cell0
  have hltp := hD.lt
  have hlt1 : b1 < w.heap.size := block_lt_of_cell d0
  have hk1 := ((hD.files.of_heap (w' := w.drew) rfl).look x hx).1
  have hk2 := ((hD.files.of_heap (w' := (w.alloc (.cells #[.string ⟨#[]⟩, .int .i64 0] 86)).drew) (heap_alloc_old _ _ hD.files.lt)).look x hx).1
  obtain ⟨is, his⟩ : ∃ is, is = (g x).isSome := ⟨_, rfl⟩
  obtain ⟨⟨fd, fs⟩, hfv⟩ : ∃ f : ByteArray × Int, f = (g x).getD noFile := ⟨_, rfl⟩
  rw [← his, ← hfv] at hk1 hk2
  simp only [fileV] at hk1 hk2
  have HIS := Lib.hid his
  have HD := Lib.hid hD
  have HA := Lib.hid hA2
  obtain ⟨n, hn⟩ : ∃ n, n = (x :: A).length := ⟨_, rfl⟩
  rw [← hn] at hA2 ⊢
  have hn1 : (0 : Int) < (n : Int) := by rw [hn]; simp
  have hn2 : 0 < n := by rw [hn]; simp
  have HN := Lib.hid hn
  clear hA2 hc1 his hfv hD hn
  go_enter Tryz.func43, Tryz.ntmps43
  go_upto_region 1 with (fail)
  go_cut [8] (fun s8 wx => s8 = .bool is ∧ Below w.heap.size w wx)
  case first =>
    go_region
    all_goals go_wp2_with fail
    all_goals go_meet
    all_goals exact ⟨rfl, ((Below.refl _ _).alloc (Nat.le_refl _) _).drew⟩
  case rest =>
    obtain ⟨rfl, hbw⟩ := hcut
    have hDc := HD.out.below hbw
    have hT := turned_of_below hbw p b
    obtain ⟨mb, hmb⟩ : ∃ mb, mb = memB ⟨#[]⟩ (x :: A) := ⟨_, rfl⟩
    have hcon := contains_any _ _ (by simp; omega) ⟨#[]⟩ wc (HA.out.below hbw)
    rw [← hmb, ← HN.out] at hcon
    have c1 := hDc.cell1
    have cf := frozen_of_row wc p 1 _ _ hDc.cells
    have hltc := hDc.lt
    have HDC := Lib.hid hDc
    have HT := Lib.hid hT
    have HMB := Lib.hid hmb
    have HCON := Lib.hid hcon
    clear hk1 hk2 hDc hT hmb hcon hbw c0 d0
    have hE : ∀ c, beginE there g left x (x :: A) = c → beginE there g left x (x :: A) = c := fun _ h => h
    cases mb with
    | true =>
      have he : beginE there g left x (x :: A) = 1 := by rw [beginE, ← HMB.out]; rfl
      have HE := Lib.hid he
      clear he hE
      go_wp2_with (go_at_call 50; refine (HCON.out).mono ?_; rintro e w1 ⟨rfl, rfl⟩)
      go_ret
      rw [HE.out]
      exact ⟨rfl, HDC.out, HT.out⟩
    | false =>
      by_cases hnone : there = true ∧ is = false
      · obtain ⟨rfl, rfl⟩ := hnone
        have he : beginE true g left x (x :: A) = 10 := by rw [beginE, ← HMB.out, isB, ← HIS.out]; rfl
        have HE := Lib.hid he
        clear he hE
        go_wp2_with (go_at_call 50; refine (HCON.out).mono ?_; rintro e w1 ⟨rfl, rfl⟩)
        go_ret
        rw [HE.out]
        exact ⟨rfl, HDC.out, HT.out⟩
      · have hti : (there && !is) = false := by
          cases there <;> cases is <;> simp_all
        have hcase : there = false ∨ (there = true ∧ is = true) := by
          cases there <;> cases is <;> simp_all
        clear hnone
        have hb0 : isB g x = is := HIS.out.symm
        have HB0 := Lib.hid hb0
        clear hb0
        by_cases hz : left = 0
        · subst hz
          have he : beginE there g 0 x (x :: A) = 18 := by rw [beginE, ← HMB.out, HB0.out, hti]; rfl
          have HE := Lib.hid he
          clear he hE hti
          rcases hcase with rfl | ⟨rfl, rfl⟩
          all_goals
            go_wp2_with (go_at_call 50; refine (HCON.out).mono ?_; rintro e w1 ⟨rfl, rfl⟩)
            go_ret
            rw [HE.out]
            exact ⟨rfl, HDC.out, HT.out⟩
        · have he : beginE there g left x (x :: A) = 0 := by rw [beginE, ← HMB.out, HB0.out, hti]; simp [hz]
          have hzb : (left == 0) = false := by simpa using hz
          have HE := Lib.hid he
          clear he hE hti
          by_cases hp : 0 < left
          · rcases hcase with rfl | ⟨rfl, rfl⟩
            all_goals
              go_wp2_with (go_at_call 50; refine (HCON.out).mono ?_; rintro e w1 ⟨rfl, rfl⟩)
              go_ret
              rw [HE.out]
              refine ⟨rfl, ⟨?_, HDC.out.files.of_heap (heap_setCell_other _ _ _ _ ?_)⟩, HT.out.trans ⟨rfl, rfl, rfl, by simp [World.setCell], fun k _ hk _ => heap_setCell_other _ _ _ _ (by simpa using hk)⟩⟩
              · rw [heap_setCell_same _ _ _ _ _ _ HDC.out.cells, leftE, if_pos ⟨rfl, hp⟩]; rfl
              · exact Ne.symm HDC.out.ne
          · rcases hcase with rfl | ⟨rfl, rfl⟩
            all_goals
              go_wp2_with (go_at_call 50; refine (HCON.out).mono ?_; rintro e w1 ⟨rfl, rfl⟩)
              go_ret
              rw [HE.out]
              refine ⟨rfl, ?_, HT.out⟩
              rw [leftE, if_neg (by omega)]
              exact HDC.out
end Go.Proofs.YtpllcnpcplbobaaGreat
end
section
namespace Go.Proofs.YtpllcnpcplbobaaGreat
open Go.RowKit Go.Maps
theorem texts_one (w : World) (x : ByteArray) (t : TypeId) : TextsAt (w.alloc (.cells #[.string x] t)) (.slice (some ⟨w.heap.size, 0, none⟩) 1 1) [x] :=
  ⟨_, 1, rfl, .inr ⟨_, 0, rfl, fun i hi => by
    have : i = 0 := by simp at hi; omega
    subst this
    exact cell_new1 w (.string x) t⟩⟩
theorem texts_two (w : World) (x y : ByteArray) (t : TypeId) : TextsAt (w.alloc (.cells #[.string x, .string y] t)) (.slice (some ⟨w.heap.size, 0, none⟩) 2 2) [x, y] :=
  ⟨_, 2, rfl, .inr ⟨_, 0, rfl, fun i hi => by
    have : i = 0 ∨ i = 1 := by simp at hi; omega
    rcases this with rfl | rfl
    · exact cell_of_row _ _ _ _ _ _ (heap_alloc_new w _)
    · exact cell_of_row _ _ _ _ _ _ (heap_alloc_new w _)⟩⟩
/-- A file with more bytes behind it. -/
def moreF (f : ByteArray × Int) (data : ByteArray) : ByteArray × Int := (f.1 ++ data, f.2)
def sureF (f : ByteArray × Int) : ByteArray × Int := (f.1, (f.1.size : Int))
def appendG (code : Int) (g : FS) (name data : ByteArray) : FS := if code = 0 then g.put name (moreF ((g name).getD noFile) data) else g
theorem MapAt.store {w : World} {b N : Nat} {g : FS} (h : MapAt w b N g) (hN : N < maxLen) (name : ByteArray) (hn : name.size ≤ maxLen) (f : ByteArray × Int) :
    ∃ w', (Instr.mapUpdate 60 (.map (some b)) (.string name) (fileV f)).run Tryz.prog w = .ok () w' ∧ MapAt w' b (N + 1) (g.put name f) ∧ w.grownBy w' (some b) := by
  obtain ⟨D, h, hr⟩ := h
  obtain ⟨w', hrun, hown, hg⟩ := h.update keyed Tryz.underlying60 hN (keyOf_name hn) (fileR_mk f)
  exact ⟨w', hrun, ⟨_, hown, mapAt_put h.isMap hr name f⟩, hg⟩
theorem MapAt.drop {w : World} {b N : Nat} {g : FS} (h : MapAt w b N g) (name : ByteArray) (hn : name.size ≤ maxLen) (ty : TypeId) :
    ∃ w', (Builtin.delete_ #[60, 9] ty #[.map (some b), .string name]).run Tryz.prog w = .ok (.tuple #[]) w' ∧ MapAt w' b N (g.del name) ∧ w.grownBy w' (some b) := by
  obtain ⟨D, h, hr⟩ := h
  obtain ⟨w', hrun, hown, hg⟩ := h.drop keyed Tryz.underlying60 (keyOf_name hn) ty
  exact ⟨w', hrun, ⟨_, hown, mapAt_del hr name⟩, hg.grown⟩
theorem turned_of_grown {w w' : World} {p b : Nat} (h : w.grownBy w' (some b)) : Turned w w' p b := ⟨h.os, h.tape, h.output, h.size, fun k hk _ hb => h.block k hk (by simpa using hb)⟩
theorem DiskAt.put {w w' : World} {p b N N' : Nat} {g g' : FS} {left : Int} (h : DiskAt w p b g left N) (hg : w.grownBy w' (some b)) (hm : MapAt w' b N' g') : DiskAt w' p b g' left N' :=
  ⟨(hg.block p h.lt (by simpa using h.ne)).trans h.cells, hm⟩
set_option maxRecDepth 100000 in
set_option maxHeartbeats 1000000 in
theorem append_disk (p b N : Nat) (g : FS) (left : Int) (hl1 : -1 ≤ left) (hl2 : left ≤ 9223372036854775807) (hN : N < maxLen) (name data : ByteArray) (hx : name.size ≤ maxLen) (hsz : ((g name).getD noFile).1.size + data.size ≤ 1099511627776) (w : World)
    (hD : DiskAt w p b g left N) :
    Calls Tryz.prog 18 #[.pointer (some ⟨p, 0, none⟩), .string name, .string data] w fun e w' => e = .returned (.int .i64 (beginE false g left name [name])) ∧
      DiskAt w' p b (appendG (beginE false g left name [name]) g name data) (leftE (beginE false g left name [name]) left) (N + 1) ∧ Turned w w' p b := by
  obtain ⟨code, hcode⟩ : ∃ code, code = beginE false g left name [name] := ⟨_, rfl⟩
  have hbeg := begin_disk p b N g left hl1 hl2 false _ name hx [] (by simp) (w.alloc (.cells #[.string name] 9)) (hD.below ((Below.refl _ _).alloc (Nat.le_refl _) _)) (texts_one w name 9)
  rw [← hcode] at hbeg ⊢
  obtain ⟨⟨fd, fs⟩, hfv⟩ : ∃ f : ByteArray × Int, f = (g name).getD noFile := ⟨_, rfl⟩
  rw [← hfv] at hsz
  simp only at hsz
  have HB := Lib.hid hbeg
  have HFV := Lib.hid hfv
  have hcs : code = 0 ∨ code ≠ 0 := by omega
  clear hbeg hcode hfv
  rcases hcs with rfl | hne
  · go_enter Tryz.func18, Tryz.ntmps18
    go_upto_region 3 with (go_at_call 43; refine (HB.out).mono ?_; rintro e w1 ⟨rfl, hd1, ht1⟩; have HD1 := Lib.hid hd1; have HT1 := Lib.hid ht1; clear hd1 ht1)
    have hD1 := HD1.out
    have c0 := hD1.cell0
    have hk := (hD1.files.look name hx).2
    rw [← HFV.out] at hk
    simp only [fileV] at hk
    have hltp := hD1.lt
    clear hD1
    obtain ⟨w2, hrun, hm2, hg2⟩ := (HD1.out.files.of_heap (w' := (w1.alloc (.cells #[.string (fd ++ data), .int .i64 fs] 86)).drew) (heap_alloc_old _ _ HD1.out.files.lt)).store hN name hx (fd ++ data, fs)
    simp only [fileV] at hrun
    have HM2 := Lib.hid hm2
    have HG2 := Lib.hid hg2
    clear hm2 hg2
    go_upto_region 5 with (fail)
    go_region
    go_wp2
    go_ret
    have hD2 : DiskAt (w1.alloc (.cells #[.string (fd ++ data), .int .i64 fs] 86)) p b g (leftE 0 left) N := HD1.out.below ((Below.refl _ _).alloc (Nat.le_refl _) _)
    refine ⟨rfl, ?_, ?_⟩
    · rw [appendG, if_pos rfl, ← HFV.out]
      exact DiskAt.put (w := (w1.alloc (.cells #[.string (fd ++ data), .int .i64 fs] 86)).drew) ⟨hD2.cells, hD2.files.of_heap rfl⟩ HG2.out HM2.out
    · exact ((turned_of_below ((Below.refl _ _).alloc (Nat.le_refl _) _) p b).trans HT1.out).trans ((turned_of_below (((Below.refl _ _).alloc (Nat.le_refl _) _).drew) p b).trans (turned_of_grown HG2.out))
  · have hneb : (code == 0) = false := by simpa using hne
    go_enter Tryz.func18, Tryz.ntmps18
    go_wp2_with (go_at_call 43; refine (HB.out).mono ?_; rintro e w1 ⟨rfl, hd1, ht1⟩)
    go_ret
    refine ⟨rfl, ?_, (turned_of_below ((Below.refl _ _).alloc (Nat.le_refl _) _) p b).trans ht1⟩
    rw [appendG, if_neg hne]
    exact ⟨hd1.cells, hd1.files.mono (by omega)⟩
end Go.Proofs.YtpllcnpcplbobaaGreat
end
section
namespace Go.Proofs.YtpllcnpcplbobaaGreat
open Go.RowKit Go.Maps
def syncG (code : Int) (g : FS) (name : ByteArray) : FS := if code = 0 then g.put name (sureF ((g name).getD noFile)) else g
def removeG (code : Int) (g : FS) (name : ByteArray) : FS := if code = 0 then g.del name else g
def renameG (code : Int) (g : FS) (x y : ByteArray) : FS := if code = 0 ∧ x ≠ y then (g.put y ((g x).getD noFile)).del x else g
def readV (g : FS) (name : ByteArray) : Value := match g name with
  | none => .tuple #[.string ⟨#[]⟩, .int .i64 10]
  | some f => .tuple #[.string f.1, .int .i64 0]
set_option maxRecDepth 100000 in
set_option maxHeartbeats 1000000 in
theorem sync_disk (p b N : Nat) (g : FS) (left : Int) (hl1 : -1 ≤ left) (hl2 : left ≤ 9223372036854775807) (hN : N < maxLen) (name : ByteArray) (hx : name.size ≤ maxLen) (w : World)
    (hD : DiskAt w p b g left N) :
    Calls Tryz.prog 36 #[.pointer (some ⟨p, 0, none⟩), .string name] w fun e w' => e = .returned (.int .i64 (beginE true g left name [name])) ∧
      DiskAt w' p b (syncG (beginE true g left name [name]) g name) (leftE (beginE true g left name [name]) left) (N + 1) ∧ Turned w w' p b := by
  obtain ⟨code, hcode⟩ : ∃ code, code = beginE true g left name [name] := ⟨_, rfl⟩
  have hbeg := begin_disk p b N g left hl1 hl2 true _ name hx [] (by simp) (w.alloc (.cells #[.string name] 9)) (hD.below ((Below.refl _ _).alloc (Nat.le_refl _) _)) (texts_one w name 9)
  rw [← hcode] at hbeg ⊢
  obtain ⟨⟨fd, fs⟩, hfv⟩ : ∃ f : ByteArray × Int, f = (g name).getD noFile := ⟨_, rfl⟩
  have HB := Lib.hid hbeg
  have HFV := Lib.hid hfv
  have hcs : code = 0 ∨ code ≠ 0 := by omega
  clear hbeg hcode hfv
  rcases hcs with rfl | hne
  · go_enter Tryz.func36, Tryz.ntmps36
    go_upto_region 3 with (go_at_call 43; refine (HB.out).mono ?_; rintro e w1 ⟨rfl, hd1, ht1⟩; have HD1 := Lib.hid hd1; have HT1 := Lib.hid ht1; clear hd1 ht1)
    have hD1 := HD1.out
    have c0 := hD1.cell0
    have hk := (hD1.files.look name hx).2
    rw [← HFV.out] at hk
    simp only [fileV] at hk
    have hltp := hD1.lt
    clear hD1
    obtain ⟨w2, hrun, hm2, hg2⟩ := (HD1.out.files.of_heap (w' := (w1.alloc (.cells #[.string fd, .int .i64 (fd.size : Int)] 86)).drew) (heap_alloc_old _ _ HD1.out.files.lt)).store hN name hx (fd, (fd.size : Int))
    simp only [fileV] at hrun
    have HM2 := Lib.hid hm2
    have HG2 := Lib.hid hg2
    clear hm2 hg2
    go_upto_region 5 with (fail)
    go_region
    go_wp2
    go_ret
    have hD2 : DiskAt (w1.alloc (.cells #[.string fd, .int .i64 (fd.size : Int)] 86)) p b g (leftE 0 left) N := HD1.out.below ((Below.refl _ _).alloc (Nat.le_refl _) _)
    refine ⟨rfl, ?_, ?_⟩
    · rw [syncG, if_pos rfl, ← HFV.out]
      exact DiskAt.put (w := (w1.alloc (.cells #[.string fd, .int .i64 (fd.size : Int)] 86)).drew) ⟨hD2.cells, hD2.files.of_heap rfl⟩ HG2.out HM2.out
    · exact ((turned_of_below ((Below.refl _ _).alloc (Nat.le_refl _) _) p b).trans HT1.out).trans ((turned_of_below (((Below.refl _ _).alloc (Nat.le_refl _) _).drew) p b).trans (turned_of_grown HG2.out))
  · have hneb : (code == 0) = false := by simpa using hne
    go_enter Tryz.func36, Tryz.ntmps36
    go_wp2_with (go_at_call 43; refine (HB.out).mono ?_; rintro e w1 ⟨rfl, hd1, ht1⟩)
    go_ret
    refine ⟨rfl, ?_, (turned_of_below ((Below.refl _ _).alloc (Nat.le_refl _) _) p b).trans ht1⟩
    rw [syncG, if_neg hne]
    exact ⟨hd1.cells, hd1.files.mono (by omega)⟩
set_option maxRecDepth 100000 in
set_option maxHeartbeats 1000000 in
theorem remove_disk (p b N : Nat) (g : FS) (left : Int) (hl1 : -1 ≤ left) (hl2 : left ≤ 9223372036854775807) (name : ByteArray) (hx : name.size ≤ maxLen) (w : World)
    (hD : DiskAt w p b g left N) :
    Calls Tryz.prog 49 #[.pointer (some ⟨p, 0, none⟩), .string name] w fun e w' => e = .returned (.int .i64 (beginE true g left name [name])) ∧
      DiskAt w' p b (removeG (beginE true g left name [name]) g name) (leftE (beginE true g left name [name]) left) N ∧ Turned w w' p b := by
  obtain ⟨code, hcode⟩ : ∃ code, code = beginE true g left name [name] := ⟨_, rfl⟩
  have hbeg := begin_disk p b N g left hl1 hl2 true _ name hx [] (by simp) (w.alloc (.cells #[.string name] 9)) (hD.below ((Below.refl _ _).alloc (Nat.le_refl _) _)) (texts_one w name 9)
  rw [← hcode] at hbeg ⊢
  have HB := Lib.hid hbeg
  have hcs : code = 0 ∨ code ≠ 0 := by omega
  clear hbeg hcode
  rcases hcs with rfl | hne
  · go_enter Tryz.func49, Tryz.ntmps49
    go_upto_region 3 with (go_at_call 43; refine (HB.out).mono ?_; rintro e w1 ⟨rfl, hd1, ht1⟩; have HD1 := Lib.hid hd1; have HT1 := Lib.hid ht1; clear hd1 ht1)
    have c0 := HD1.out.cell0
    obtain ⟨w2, hrun, hm2, hg2⟩ := HD1.out.files.drop name hx 0
    have HM2 := Lib.hid hm2
    have HG2 := Lib.hid hg2
    clear hm2 hg2
    go_wp2_with fail
    go_ret
    refine ⟨rfl, ?_, ((turned_of_below ((Below.refl _ _).alloc (Nat.le_refl _) _) p b).trans HT1.out).trans (turned_of_grown HG2.out)⟩
    rw [removeG, if_pos rfl]
    exact DiskAt.put HD1.out HG2.out HM2.out
  · have hneb : (code == 0) = false := by simpa using hne
    go_enter Tryz.func49, Tryz.ntmps49
    go_wp2_with (go_at_call 43; refine (HB.out).mono ?_; rintro e w1 ⟨rfl, hd1, ht1⟩)
    go_ret
    refine ⟨rfl, ?_, (turned_of_below ((Below.refl _ _).alloc (Nat.le_refl _) _) p b).trans ht1⟩
    rw [removeG, if_neg hne]
    exact hd1
set_option maxRecDepth 100000 in
set_option maxHeartbeats 1000000 in
theorem read_disk (p b N : Nat) (g : FS) (left : Int) (name : ByteArray) (hx : name.size ≤ maxLen) (w : World) (hD : DiskAt w p b g left N) :
    Calls Tryz.prog 27 #[.pointer (some ⟨p, 0, none⟩), .string name] w fun e w' => e = .returned (readV g name) ∧ Below w.heap.size w w' := by
  have c0 := hD.cell0
  have hk := (hD.files.look name hx).1
  cases hg : g name with
  | none =>
    have e : readV g name = .tuple #[.string ⟨#[]⟩, .int .i64 10] := by rw [readV, hg]
    rw [hg] at hk
    simp only [Option.getD_none, Option.isSome_none, noFile, fileV] at hk
    have HE := Lib.hid e
    clear e hg hD
    go_enter Tryz.func27, Tryz.ntmps27
    go_wp2
    go_ret2
    exact ⟨by rw [HE.out]; rfl, (Below.refl _ _).alloc (Nat.le_refl _) _⟩
  | some f =>
    obtain ⟨fd, fs⟩ := f
    have e : readV g name = .tuple #[.string fd, .int .i64 0] := by rw [readV, hg]
    rw [hg] at hk
    simp only [Option.getD_some, Option.isSome_some, fileV] at hk
    have HE := Lib.hid e
    clear e hg hD
    go_enter Tryz.func27, Tryz.ntmps27
    go_wp2
    go_ret2
    exact ⟨by rw [HE.out]; rfl, (Below.refl _ _).alloc (Nat.le_refl _) _⟩
set_option maxRecDepth 100000 in
set_option maxHeartbeats 1000000 in
theorem budget_disk (p b N : Nat) (g : FS) (left n : Int) (w : World) (hD : DiskAt w p b g left N) :
    Calls Tryz.prog 14 #[.pointer (some ⟨p, 0, none⟩), .int .i64 n] w fun e w' => e = .returned (.tuple #[]) ∧ DiskAt w' p b g (max n (-1)) N ∧ Turned w w' p b := by
  have c1 := hD.cell1
  have cf := frozen_of_row w p 1 _ _ hD.cells
  have HD := Lib.hid hD
  clear hD
  go_enter Tryz.func14, Tryz.ntmps14
  have hfin : ∀ m : Int, m = max n (-1) → DiskAt (w.setCell ⟨p, 1, none⟩ (.int .i64 m)) p b g (max n (-1)) N ∧ Turned w (w.setCell ⟨p, 1, none⟩ (.int .i64 m)) p b := fun m hm => by
    subst hm
    refine ⟨⟨?_, HD.out.files.of_heap (heap_setCell_other _ _ _ _ (Ne.symm HD.out.ne))⟩, ⟨rfl, rfl, rfl, by simp [World.setCell], fun k _ hk _ => heap_setCell_other _ _ _ _ (by simpa using hk)⟩⟩
    rw [heap_setCell_same _ _ _ _ _ _ HD.out.cells]; rfl
  have HFIN := Lib.hid hfin
  clear hfin
  go_wp2
  all_goals go_end0
  · exact ⟨rfl, HFIN.out _ (by omega)⟩
  · exact ⟨rfl, HFIN.out _ (by omega)⟩
set_option maxRecDepth 100000 in
set_option maxHeartbeats 1000000 in
theorem rename_disk (p b N : Nat) (g : FS) (left : Int) (hl1 : -1 ≤ left) (hl2 : left ≤ 9223372036854775807) (hN : N < maxLen) (x y : ByteArray) (hx : x.size ≤ maxLen) (hy : y.size ≤ maxLen) (w : World)
    (hD : DiskAt w p b g left N) :
    Calls Tryz.prog 55 #[.pointer (some ⟨p, 0, none⟩), .string x, .string y] w fun e w' => e = .returned (.int .i64 (beginE true g left x [x, y])) ∧
      DiskAt w' p b (renameG (beginE true g left x [x, y]) g x y) (leftE (beginE true g left x [x, y]) left) (N + 1) ∧ Turned w w' p b := by
  obtain ⟨code, hcode⟩ : ∃ code, code = beginE true g left x [x, y] := ⟨_, rfl⟩
  have hbeg := begin_disk p b N g left hl1 hl2 true _ x hx [y] (by simp) (w.alloc (.cells #[.string x, .string y] 9)) (hD.below ((Below.refl _ _).alloc (Nat.le_refl _) _)) (texts_two w x y 9)
  rw [← hcode] at hbeg ⊢
  obtain ⟨⟨fd, fs⟩, hfv⟩ : ∃ f : ByteArray × Int, f = (g x).getD noFile := ⟨_, rfl⟩
  have HB := Lib.hid hbeg
  have HFV := Lib.hid hfv
  have hcs : code = 0 ∨ code ≠ 0 := by omega
  clear hbeg hcode hfv
  rcases hcs with rfl | hne
  · by_cases hxy : x = y
    · have ht : (x.toList == y.toList) = true := by rw [text_beq]; exact decide_eq_true hxy
      have HXY := Lib.hid hxy
      clear hxy
      go_enter Tryz.func55, Tryz.ntmps55
      go_wp2_with (go_at_call 43; refine (HB.out).mono ?_; rintro e w1 ⟨rfl, hd1, ht1⟩)
      go_ret
      refine ⟨rfl, ?_, (turned_of_below ((Below.refl _ _).alloc (Nat.le_refl _) _) p b).trans ht1⟩
      rw [renameG, if_neg (fun h => h.2 HXY.out)]
      exact ⟨hd1.cells, hd1.files.mono (by omega)⟩
    · have ht : (x.toList == y.toList) = false := by rw [text_beq]; exact decide_eq_false hxy
      have HXY := Lib.hid hxy
      clear hxy
      go_enter Tryz.func55, Tryz.ntmps55
      go_upto_region 3 with (go_at_call 43; refine (HB.out).mono ?_; rintro e w1 ⟨rfl, hd1, ht1⟩; have HD1 := Lib.hid hd1; have HT1 := Lib.hid ht1; clear hd1 ht1)
      have hD1 := HD1.out
      have c0 := hD1.cell0
      have hk := ((hD1.files.of_heap (w' := w1.drew) rfl).look x hx).2
      rw [← HFV.out] at hk
      simp only [fileV] at hk
      have hltp := hD1.lt
      clear hD1
      obtain ⟨w2, hrun, hm2, hg2⟩ := (HD1.out.files.of_heap (w' := w1.drew) rfl).store hN y hy (fd, fs)
      simp only [fileV] at hrun
      have hD2 : DiskAt w2 p b (g.put y (fd, fs)) (leftE 0 left) (N + 1) := DiskAt.put (w := w1.drew) ⟨HD1.out.cells, HD1.out.files.of_heap rfl⟩ hg2 hm2
      have d0 := hD2.cell0
      obtain ⟨w3, hrun3, hm3, hg3⟩ := hm2.drop x hx 0
      have HM3 := Lib.hid hm3
      have HG2 := Lib.hid hg2
      have HG3 := Lib.hid hg3
      have HD2 := Lib.hid hD2
      clear hm2 hg2 hm3 hg3 hD2
      go_region
      go_wp2
      go_ret
      refine ⟨rfl, ?_, (((turned_of_below ((Below.refl _ _).alloc (Nat.le_refl _) _) p b).trans HT1.out).trans ((turned_of_below ((Below.refl _ _).drew) p b).trans (turned_of_grown HG2.out))).trans (turned_of_grown HG3.out)⟩
      rw [renameG, if_pos ⟨rfl, HXY.out⟩, ← HFV.out]
      exact DiskAt.put HD2.out HG3.out HM3.out
  · have hneb : (code == 0) = false := by simpa using hne
    go_enter Tryz.func55, Tryz.ntmps55
    go_wp2_with (go_at_call 43; refine (HB.out).mono ?_; rintro e w1 ⟨rfl, hd1, ht1⟩)
    go_ret
    refine ⟨rfl, ?_, (turned_of_below ((Below.refl _ _).alloc (Nat.le_refl _) _) p b).trans ht1⟩
    rw [renameG, if_neg (fun h => hne h.1)]
    exact ⟨hd1.cells, hd1.files.mono (by omega)⟩
end Go.Proofs.YtpllcnpcplbobaaGreat
end
