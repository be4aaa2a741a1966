import Derived.Test.YtpllcnpcplbobaaGreatM30
import Derived.Test.YtpllcnpcplbobaaGreatM32
import Derived.Test.YtpllcnpcplbobaaGreatM12
import Derived.Deep.RegionWith
section
namespace Go.Proofs.YtpllcnpcplbobaaGreat
open Go.RowKit Go.Maps
set_option linter.unusedVariables false
attribute [local go_sem ↓] Go.wp_at_zero Go.wp_at_succ
set_option maxRecDepth 100000 in
set_option maxHeartbeats 2000000 in
/-- ref08.Open at the empty name. -/
theorem ropen_empty (va : Value) (g : FS) (N : Nat) (left : Int) (w : World) (hA : RefAt w va g N) :
    Calls Tryz.prog 9 #[.agg #[va, .int .i64 left], .string ⟨#[]⟩] w fun e w' => ∃ rv, e = .returned (.tuple #[.agg #[va, .int .i64 left, .string ⟨#[]⟩, .bool false, .bool false], rv, .int .i64 1]) ∧ TextsAt w' rv [] ∧ Below w.heap.size w w' := by
  obtain ⟨l, ⟨a, c, rfl, _⟩, _, _⟩ := hA
  generalize l.length = n
  go_enter Tryz.func9, Tryz.ntmps9
  go_wp2
  refine bodyPost_ret (v := .tuple #[.agg #[.slice a n c, .int .i64 left, .string ⟨#[]⟩, .bool false, .bool false], .slice (some ⟨w.heap.size + 1 + 1, 0, none⟩) 0 0, .int .i64 1]) (by simp [results, Tryz.results9, go_sem]) rfl ⟨_, rfl, ⟨_, 0, rfl, .inl rfl⟩, (((Below.refl _ _).alloc (Nat.le_refl _) _).alloc (by simp) _).alloc (by simp; omega) _⟩
set_option maxRecDepth 100000 in
/-- journal.Open at the empty name. -/
theorem open_empty (p : Nat) (w : World) : Calls Tryz.prog 8 #[.pointer (some ⟨p, 0, none⟩), .string ⟨#[]⟩] w fun e w' => e = .returned (.tuple #[.pointer none, .slice none 0 0, .int .i64 1]) ∧ w' = w := by
  go_enter Tryz.func8, Tryz.ntmps8
  go_wp2_with (fail)
  go_ret3
  exact ⟨rfl, rfl⟩
set_option maxRecDepth 100000 in
/-- Add to no journal. -/
theorem jadd_nil (rec : ByteArray) (w : World) : Calls Tryz.prog 10 #[.pointer none, .string rec] w fun e w' => e = .returned (.int .i64 19) ∧ Below w.heap.size w w' := by
  go_enter Tryz.func10, Tryz.ntmps10
  go_wp2_with (fail)
  go_ret
  exact ⟨rfl, (Below.refl _ _).alloc (Nat.le_refl _) _⟩
set_option maxRecDepth 100000 in
/-- Add to a broken journal. -/
theorem jadd_broken (j p : Nat) (name rec : ByteArray) (w : World) (hJ : JBlk w j p name true) : Calls Tryz.prog 10 #[.pointer (some ⟨j, 0, none⟩), .string rec] w fun e w' => e = .returned (.int .i64 19) ∧ Below w.heap.size w w' := by
  have hjl := hJ.lt
  obtain ⟨c0, c1, c2, _⟩ := hJ.cells
  go_enter Tryz.func10, Tryz.ntmps10
  go_wp2_with (fail)
  go_ret
  exact ⟨rfl, (Below.refl _ _).alloc (Nat.le_refl _) _⟩
set_option maxRecDepth 100000 in
theorem swap_nil (v : Value) (w : World) : Calls Tryz.prog 12 #[.pointer none, v] w fun e w' => e = .returned (.int .i64 19) ∧ w' = w := by
  go_enter Tryz.func12, Tryz.ntmps12
  go_wp2_with (fail)
  go_ret
  exact ⟨rfl, rfl⟩
set_option maxRecDepth 100000 in
theorem swap_broken (j p : Nat) (name : ByteArray) (v : Value) (w : World) (hJ : JBlk w j p name true) : Calls Tryz.prog 12 #[.pointer (some ⟨j, 0, none⟩), v] w fun e w' => e = .returned (.int .i64 19) ∧ w' = w := by
  have hjl := hJ.lt
  obtain ⟨c0, c1, c2, _⟩ := hJ.cells
  go_enter Tryz.func12, Tryz.ntmps12
  go_wp2_with (fail)
  go_ret
  exact ⟨rfl, rfl⟩
end Go.Proofs.YtpllcnpcplbobaaGreat
end
section
namespace Go.Proofs.YtpllcnpcplbobaaGreat
open Go.RowKit Go.Maps
set_option linter.unusedVariables false
/-! Files do not grow beyond what was written. -/
def Bnd (g : FS) (S : Nat) : Prop := ∀ x f, g x = some f → 0 ≤ f.2 ∧ f.2 ≤ (f.1.size : Int) ∧ f.1.size ≤ S
theorem Bnd.ok {g : FS} {S : Nat} (h : Bnd g S) (hS : S ≤ 1099511627776) : FilesOk g := fun x f hf => by
  obtain ⟨h0, h1, h2⟩ := h x f hf
  exact ⟨h0, h1, by omega⟩
theorem Bnd.mono {g : FS} {S T : Nat} (h : Bnd g S) (hT : S ≤ T) : Bnd g T := fun x f hf => by
  obtain ⟨h0, h1, h2⟩ := h x f hf
  exact ⟨h0, h1, by omega⟩
theorem Bnd.none : Bnd (fun _ => none) 0 := fun _ _ h => by cases h
theorem Bnd.get {g : FS} {S : Nat} (h : Bnd g S) (x : ByteArray) : 0 ≤ ((g x).getD noFile).2 ∧ ((g x).getD noFile).2 ≤ (((g x).getD noFile).1.size : Int) ∧ ((g x).getD noFile).1.size ≤ S := by
  cases hg : g x with
  | none => exact ⟨by decide, by decide, Nat.zero_le _⟩
  | some f => exact h x f hg
theorem Bnd.put {g : FS} {S : Nat} (h : Bnd g S) (x : ByteArray) {f : ByteArray × Int} (h0 : 0 ≤ f.2) (h1 : f.2 ≤ (f.1.size : Int)) (h2 : f.1.size ≤ S) : Bnd (g.put x f) S := fun y f' hf => by
  unfold FS.put at hf
  split at hf
  · rw [← Option.some.inj hf]; exact ⟨h0, h1, h2⟩
  · exact h y f' hf
theorem Bnd.del {g : FS} {S : Nat} (h : Bnd g S) (x : ByteArray) : Bnd (g.del x) S := fun y f' hf => by
  unfold FS.del at hf
  split at hf
  · cases hf
  · exact h y f' hf
theorem Bnd.append {g : FS} {S : Nat} (h : Bnd g S) (code : Int) (x d : ByteArray) : Bnd (appendG code g x d) (S + d.size) := by
  unfold appendG
  split
  · obtain ⟨h0, h1, h2⟩ := h.get x
    refine (h.mono (by omega)).put x h0 ?_ ?_
    · simp only [moreF, ByteArray.size_append]; omega
    · simp only [moreF, ByteArray.size_append]; omega
  · exact h.mono (by omega)
theorem Bnd.sync {g : FS} {S : Nat} (h : Bnd g S) (code : Int) (x : ByteArray) : Bnd (syncG code g x) S := by
  unfold syncG
  split
  · obtain ⟨h0, h1, h2⟩ := h.get x
    exact h.put x (by simp only [sureF]; omega) (by simp only [sureF]; omega) h2
  · exact h
theorem Bnd.remove {g : FS} {S : Nat} (h : Bnd g S) (code : Int) (x : ByteArray) : Bnd (removeG code g x) S := by
  unfold removeG
  split
  · exact h.del x
  · exact h
theorem Bnd.rename {g : FS} {S : Nat} (h : Bnd g S) (code : Int) (x y : ByteArray) : Bnd (renameG code g x y) S := by
  unfold renameG
  split
  · obtain ⟨h0, h1, h2⟩ := h.get x
    exact (h.put y h0 h1 h2).del x
  · exact h
theorem Bnd.crash {g : FS} {S : Nat} (h : Bnd g S) (hS : S ≤ 1099511627776) (P : List Int) (l : List ByteArray) : Bnd (crashG g l P).1 S := fun x f hf => by
  obtain ⟨h1, h2⟩ := crash_get g (h.ok hS) P l x
  by_cases hx : x ∈ l
  · obtain ⟨n, ha, hb, hc⟩ := h1 hx
    rw [hc] at hf
    obtain ⟨g0, g1, g2⟩ := h.get x
    rw [← Option.some.inj hf]
    simp only [cutF, ByteArray.size_extract]
    omega
  · rw [h2 hx] at hf; cases hf
theorem DiskAt.apart {w : World} {p b N : Nat} {g : FS} {left : Int} (h : DiskAt w p b g left N) {k o : Nat} {s : ByteArray} (hc : w.cell? ⟨k, o, none⟩ = some (.string s)) : k ≠ p ∧ k ≠ b := by
  refine ⟨fun e => ?_, fun e => ?_⟩
  · subst e
    rw [cell_of_row _ _ _ _ _ _ h.cells] at hc
    match o, hc with
    | 0, hc => simp at hc
    | 1, hc => simp at hc
    | _ + 2, hc => simp at hc
  · subst e
    obtain ⟨D, ⟨es, clock, hb, _⟩, _⟩ := h.files
    simp [World.cell?, hb] at hc
/-- What the disk does leaves the reference's files as they are. -/
theorem RefAt.turned {w w' : World} {v : Value} {g g' : FS} {M p b N : Nat} {left : Int} (h : RefAt w v g M) (hd : DiskAt w p b g' left N) (ht : Turned w w' p b) : RefAt w' v g M := by
  obtain ⟨l, ⟨a, c, hv, h0 | ⟨k, o, ha, hc⟩⟩, h2, h3⟩ := h
  · exact ⟨l, ⟨a, c, hv, .inl h0⟩, h2, h3⟩
  · refine ⟨l, ⟨a, c, hv, .inr ⟨k, o, ha, fun i hi j u hu => ?_⟩⟩, h2, h3⟩
    obtain ⟨n1, n2⟩ := hd.apart (hc i hi 0 _ rfl)
    have h1 := hc i hi j u hu
    exact (World.cell?_of_block (ht.block k (block_lt_of_cell h1) n1 n2)).trans h1
theorem no_string {W : World} {q : Nat} {u v : Value} {t : TypeId} (h : W.heap[q]? = some (.cells #[u, v] t (0, 0))) (hu : ∀ s, u ≠ .string s) (hv : ∀ s, v ≠ .string s) (o : Nat) (s : ByteArray) : W.cell? ⟨q, o, none⟩ ≠ some (.string s) := fun hc => by
  rw [cell_of_row _ _ _ _ _ _ h] at hc
  match o, hc with
  | 0, hc => simp at hc; exact hu s hc
  | 1, hc => simp at hc; exact hv s hc
  | _ + 2, hc => simp at hc
/-- A block without texts is written: the reference's files are as they were. -/
theorem RefAt.beside {w w' : World} {v : Value} {g : FS} {M q : Nat} (h : RefAt w v g M) (hq : ∀ o s, w.cell? ⟨q, o, none⟩ ≠ some (.string s)) (hb : ∀ k, k < w.heap.size → k ≠ q → w'.heap[k]? = w.heap[k]?) : RefAt w' v g M := by
  obtain ⟨l, ⟨a, c, hv, h0 | ⟨k, o, ha, hc⟩⟩, h2, h3⟩ := h
  · exact ⟨l, ⟨a, c, hv, .inl h0⟩, h2, h3⟩
  · refine ⟨l, ⟨a, c, hv, .inr ⟨k, o, ha, fun i hi j u hu => ?_⟩⟩, h2, h3⟩
    have hk : k ≠ q := fun e => by subst e; exact hq _ _ (hc i hi 0 _ rfl)
    have h1 := hc i hi j u hu
    exact (World.cell?_of_block (hb k (block_lt_of_cell h1) hk)).trans h1
theorem DiskAt.mono {w : World} {p b N M : Nat} {g : FS} {left : Int} (h : DiskAt w p b g left N) (hn : N ≤ M) : DiskAt w p b g left M := ⟨h.cells, h.files.mono hn⟩
theorem Bnd.put0 {g : FS} {S : Nat} (h : Bnd g S) (left : Int) (o d : ByteArray) : Bnd (nG0 g left o d) (S + d.size) := h.append _ _ _
theorem Bnd.put0_none {g : FS} {S : Nat} (h : Bnd g S) (left : Int) (o d : ByteArray) (ho : g o = Option.none) (hd : d.size ≤ S) : Bnd (nG0 g left o d) S := by
  unfold nG0 appendG
  split
  · have e : moreF ((g o).getD noFile) d = (d, 0) := by
      rw [ho]
      refine Prod.ext ?_ rfl
      apply ByteArray.ext
      simp [moreF, noFile]
    rw [e]
    exact h.put o (Int.le_refl _) (Int.natCast_nonneg _) hd
  · exact h
theorem Bnd.anew {g : FS} {S : Nat} {left : Int} {o d name : ByteArray} (h : Bnd (nG0 g left o d) S) : Bnd (nG g left o d name) S := by
  unfold nG
  split
  · exact h
  · split
    · exact h.sync _ _
    · exact (h.sync _ _).rename _ _ _
theorem Bnd.tidy1 {g : FS} {S : Nat} (h : Bnd g S) (left : Int) (name : ByteArray) : Bnd (oG1 g left name) S := by
  unfold oG1 tidyG
  split
  · exact h.del _
  · exact h
theorem oG1_none {g : FS} {left : Int} {name : ByteArray} (h0 : oT g left name = 0) : oG1 g left name (name ++ sufx) = none := by
  unfold oT tidyE at h0
  unfold oG1 tidyG
  by_cases hb : isB g (name ++ sufx) = true
  · have hl : left ≠ 0 := fun e => by rw [if_pos ⟨hb, e⟩] at h0; cases h0
    rw [if_pos ⟨hb, hl⟩]
    simp [FS.del]
  · rw [if_neg (fun h => hb h.1)]
    cases hq : g (name ++ sufx) with
    | none => rfl
    | some f => exact absurd (show isB g (name ++ sufx) = true by rw [isB, hq]; rfl) hb
theorem oHead_le (g : FS) (left : Int) (name : ByteArray) : (oHead g left name).size ≤ (oData g left name).size := by
  unfold oHead
  rw [ByteArray.size_extract]
  omega
theorem Bnd.open1 {g : FS} {S : Nat} (h : Bnd g S) (left : Int) (name : ByteArray) : Bnd (oG g left name) S := by
  unfold oG
  split
  · exact h.tidy1 _ _
  · split
    · rename_i ht _
      refine Bnd.anew ((h.tidy1 left name).put0_none _ _ _ (oG1_none (by simpa using ht)) ?_)
      exact Nat.le_trans (oHead_le g left name) ((h.tidy1 left name).get name).2.2
    · exact h.tidy1 _ _
theorem nL_low {g : FS} {left : Int} {o d name : ByteArray} (h : -1 ≤ left) : -1 ≤ nL g left o d name := by
  unfold nL
  split
  · exact leftE_low h
  · split
    · exact leftE_low (leftE_low h)
    · exact leftE_low (leftE_low (leftE_low h))
theorem nL_high {g : FS} {left : Int} {o d name : ByteArray} (h : left ≤ 9223372036854775807) : nL g left o d name ≤ 9223372036854775807 := by
  unfold nL
  split
  · exact leftE_high h
  · split
    · exact leftE_high (leftE_high h)
    · exact leftE_high (leftE_high (leftE_high h))
theorem oL_low {g : FS} {left : Int} {name : ByteArray} (h : -1 ≤ left) : -1 ≤ oL g left name := by
  unfold oL
  split
  · exact tidyL_low h
  · split
    · exact nL_low (tidyL_low h)
    · exact tidyL_low h
theorem oL_high {g : FS} {left : Int} {name : ByteArray} (h : left ≤ 9223372036854775807) : oL g left name ≤ 9223372036854775807 := by
  unfold oL
  split
  · exact tidyL_high h
  · split
    · exact nL_high (tidyL_high h)
    · exact tidyL_high h
/-! What an act of the law may turn: the disk's two blocks, and the journal's. -/
structure TurnJ (w w' : World) (p b : Nat) (jv : Value) : Prop where
  os : w'.os = w.os
  tape : w'.tape = w.tape
  output : w'.output = w.output
  size : w.heap.size ≤ w'.heap.size
  block : ∀ k, k < w.heap.size → k ≠ p → k ≠ b → jv ≠ .pointer (some ⟨k, 0, none⟩) → w'.heap[k]? = w.heap[k]?
theorem Turned.toJ {w w' : World} {p b : Nat} (h : Turned w w' p b) (jv : Value) : TurnJ w w' p b jv := ⟨h.os, h.tape, h.output, h.size, fun k hk hp hb _ => h.block k hk hp hb⟩
theorem Turned3.toJ {w w' : World} {p b j : Nat} (h : Turned3 w w' p b j) : TurnJ w w' p b (.pointer (some ⟨j, 0, none⟩)) := ⟨h.os, h.tape, h.output, h.size, fun k hk hp hb hj => h.block k hk hp hb (fun e => hj (by rw [e]))⟩
theorem turnJ_below {w w' : World} (h : Below w.heap.size w w') (p b : Nat) (jv : Value) : TurnJ w w' p b jv := (turned_of_below h p b).toJ jv
theorem TurnJ.below {w w' : World} {p b B : Nat} {jv : Value} (h : TurnJ w w' p b jv) (hp : B ≤ p) (hb : B ≤ b) (hj : ∀ k, jv = .pointer (some ⟨k, 0, none⟩) → B ≤ k) (hB : B ≤ w.heap.size) : Below B w w' :=
  ⟨h.os, h.tape, h.output, h.size, fun k hk => h.block k (by omega) (by omega) (by omega) (fun e => by have := hj k e; omega)⟩
/-- The journal, or none; the reference's marks. -/
def JouAt (W : World) (p : Nat) (jv : Value) (nm : ByteArray) (is br : Bool) : Prop :=
  (jv = .pointer none ∧ is = false) ∨ ∃ j, jv = .pointer (some ⟨j, 0, none⟩) ∧ is = true ∧ JBlk W j p nm br ∧ nm ≠ ⟨#[]⟩ ∧ nm.size ≤ 20
theorem JouAt.below {W W' : World} {p : Nat} {jv : Value} {nm : ByteArray} {is br : Bool} (h : JouAt W p jv nm is br) (hb : Below W.heap.size W W') : JouAt W' p jv nm is br := by
  rcases h with h | ⟨j, h1, h2, h3, h4⟩
  · exact .inl h
  · exact .inr ⟨j, h1, h2, h3.below hb, h4⟩
theorem RefAt.turnJ {w w' : World} {v : Value} {g g' : FS} {M p b N : Nat} {left : Int} {jv : Value} {nm : ByteArray} {is br : Bool} (h : RefAt w v g M) (hd : DiskAt w p b g' left N) (hj : JouAt w p jv nm is br) (ht : TurnJ w w' p b jv) : RefAt w' v g M := by
  obtain ⟨l, ⟨a, c, hv, h0 | ⟨k, o, ha, hc⟩⟩, h2, h3⟩ := h
  · exact ⟨l, ⟨a, c, hv, .inl h0⟩, h2, h3⟩
  · refine ⟨l, ⟨a, c, hv, .inr ⟨k, o, ha, fun i hi j u hu => ?_⟩⟩, h2, h3⟩
    obtain ⟨n1, n2⟩ := hd.apart (hc i hi 0 _ rfl)
    have h1 := hc i hi j u hu
    refine (World.cell?_of_block (ht.block k (block_lt_of_cell h1) n1 n2 fun e => ?_)).trans h1
    rcases hj with ⟨e2, _⟩ | ⟨j2, e2, _, hb, _⟩
    · rw [e2] at e; cases e
    · rw [e2] at e
      obtain rfl : j2 = k := by simpa using e
      have x0 := hc i hi 0 _ rfl
      have x1 := hc i hi 1 _ rfl
      rw [cell_of_row _ _ _ _ _ _ hb] at x0 x1
      match hoi : o + i * 3 with
      | 0 => rw [hoi] at x0; simp at x0
      | 1 => rw [hoi] at x1; simp at x1
      | q + 2 =>
        rw [hoi] at x0 x1
        match q with
        | 0 => simp at x0
        | _ + 1 => simp at x0
/-- The law's own journal of the reference. -/
def JBox (W : World) (q : Nat) (a : Option Addr) (n c : Nat) (left : Int) (nm : ByteArray) (is br : Bool) : Prop :=
  W.heap[q]? = some (.cells #[.slice a n c, .int .i64 left, .string nm, .bool is, .bool br] 33 (0, 0))
theorem JBox.lt {W : World} {q : Nat} {a : Option Addr} {n c : Nat} {left : Int} {nm : ByteArray} {is br : Bool} (h : JBox W q a n c left nm is br) : q < W.heap.size := (Array.getElem?_eq_some_iff.1 h).1
theorem JBox.apart {W : World} {q p b N : Nat} {a : Option Addr} {n c : Nat} {left l2 : Int} {nm n2 : ByteArray} {is br i2 b2 : Bool} {g : FS} {jv : Value} (h : JBox W q a n c left nm is br) (hd : DiskAt W p b g l2 N) (hj : JouAt W p jv n2 i2 b2) : q ≠ p ∧ q ≠ b ∧ jv ≠ .pointer (some ⟨q, 0, none⟩) := by
  obtain ⟨h1, h2⟩ := hd.no_blk1 h (by decide)
  refine ⟨h1, h2, fun e => ?_⟩
  rcases hj with ⟨e2, _⟩ | ⟨j2, e2, _, hb, _⟩
  · rw [e2] at e; cases e
  · rw [e2] at e
    obtain rfl : j2 = q := by simpa using e
    have := hb.symm.trans h
    injection this with this
    injection this with h1 _
    have := congrArg Array.size h1
    simp at this
theorem JBox.turnJ {W W' : World} {q p b N : Nat} {a : Option Addr} {n c : Nat} {left l2 : Int} {nm n2 : ByteArray} {is br i2 b2 : Bool} {g : FS} {jv : Value} (h : JBox W q a n c left nm is br) (hd : DiskAt W p b g l2 N) (hj : JouAt W p jv n2 i2 b2) (ht : TurnJ W W' p b jv) : JBox W' q a n c left nm is br := by
  obtain ⟨h1, h2, h3⟩ := h.apart hd hj
  exact (ht.block q h.lt h1 h2 h3).trans h
theorem JBox.below {W W' : World} {q : Nat} {a : Option Addr} {n c : Nat} {left : Int} {nm : ByteArray} {is br : Bool} (h : JBox W q a n c left nm is br) (hb : Below W.heap.size W W') : JBox W' q a n c left nm is br := (hb.block q h.lt).trans h
theorem RefAt.set5 {w : World} {v : Value} {g : FS} {N q : Nat} {a : Option Addr} {n c : Nat} {left : Int} {nm : ByteArray} {is br : Bool} (hr : RefAt w v g N) (h : JBox w q a n c left nm is br) (u0 u1 u2 u3 u4 : Value) : RefAt (set5 w q u0 u1 u2 u3 u4) v g N := by
  obtain ⟨l, h1, h2, h3⟩ := hr
  exact ⟨l, h1.set5 u0 u1 u2 u3 u4 h (fun _ e => by cases e) (fun _ e => by cases e) (fun _ e => by cases e) (fun _ e => by cases e), h2, h3⟩
theorem RefAt.setJ {w : World} {v : Value} {g : FS} {N q i : Nat} {a : Option Addr} {n c : Nat} {left : Int} {nm : ByteArray} {is br : Bool} (hr : RefAt w v g N) (h : JBox w q a n c left nm is br) (u : Value) : RefAt (w.setCell ⟨q, i, none⟩ u) v g N := by
  obtain ⟨l, h1, h2, h3⟩ := hr
  exact ⟨l, h1.setJ u h (fun _ e => by cases e) (fun _ e => by cases e) (fun _ e => by cases e) (fun _ e => by cases e), h2, h3⟩
theorem scanF_len (s : ByteArray) : ∀ (f p : Nat), (scanF f s p).1.length ≤ f
  | 0, p => by simp [scanF]
  | f + 1, p => by
    cases hst : stepAt s p with
    | none => rw [scanF_none hst]; exact Nat.zero_le _
    | some r =>
      rw [scanF_some hst]
      have := scanF_len s f (p + 12 + r.size)
      simpa using this
theorem scan_len (s : ByteArray) : (scan s).1.length ≤ s.size + 1 := scanF_len s _ 0
/-! One act each, on both sides. -/
def OpenA (p b N : Nat) (g : FS) (left : Int) (name : ByteArray) (code : Int) (G : FS) (L : Int) (recs : List ByteArray) (nm : ByteArray) : Prop :=
  ∀ w, DiskAt w p b g left N → Calls Tryz.prog 8 #[.pointer (some ⟨p, 0, none⟩), .string name] w fun e w' => ∃ jv rv, e = .returned (.tuple #[jv, rv, .int .i64 code]) ∧ TextsF w.heap.size w' rv recs ∧ DiskAt w' p b G L (N + 4) ∧
    JouAt w' p jv nm (decide (code = 0)) false ∧ (∀ j, jv = .pointer (some ⟨j, 0, none⟩) → w.heap.size ≤ j) ∧ Turned w w' p b
def OpenB (N : Nat) (g : FS) (left : Int) (name : ByteArray) (code : Int) (G : FS) (L : Int) (recs : List ByteArray) (nm : ByteArray) : Prop :=
  ∀ va w, RefAt w va g N → Calls Tryz.prog 9 #[.agg #[va, .int .i64 left], .string name] w fun e w' => ∃ v' rv, e = .returned (.tuple #[.agg #[v', .int .i64 L, .string nm, .bool (decide (code = 0)), .bool false], rv, .int .i64 code]) ∧
    RefAt w' v' G (N + 4) ∧ TextsF w.heap.size w' rv recs ∧ Below w.heap.size w w'
theorem TextsAt.nilF {w w' : World} {rv : Value} {B : Nat} (h : TextsAt w rv []) : TextsF B w' rv [] := by
  obtain ⟨a, c, hv, _⟩ := h
  exact ⟨a, c, hv, .inl rfl⟩
theorem open_both (p b N : Nat) (g : FS) (left : Int) (h1 : -1 ≤ left) (h2 : left ≤ 9223372036854775807) (hN : N ≤ 1000000) (S : Nat) (hS : S ≤ 1000000000) (hb : Bnd g S) (name : ByteArray) (hn : name.size ≤ 20) :
    ∃ code G L recs nm, Bnd G S ∧ -1 ≤ L ∧ L ≤ 9223372036854775807 ∧ recs.length ≤ 1000000001 ∧ OpenA p b N g left name code G L recs nm ∧ OpenB N g left name code G L recs nm := by
  by_cases hne : name = ⟨#[]⟩
  · subst hne
    refine ⟨1, g, left, [], ⟨#[]⟩, hb, h1, h2, Nat.zero_le _, fun w hD => (open_empty p w).mono ?_, fun va w hA => (ropen_empty va g N left w hA).mono ?_⟩
    · rintro e w' ⟨rfl, rfl⟩
      exact ⟨_, _, rfl, textsF_nil _ _ _ _, hD.mono (by omega), .inl ⟨rfl, rfl⟩, (fun j e => by cases e), turned_of_below (Below.refl _ _) _ _⟩
    · rintro e w' ⟨rv, rfl, ht, hb2⟩
      exact ⟨_, _, rfl, (hA.below hb2).mono (by omega), ht.nilF, hb2⟩
  have hd1 : (oData g left name).size ≤ S := ((hb.tidy1 left name).get name).2.2
  have hd2 : ((oG1 g left name (name ++ sufx)).getD noFile).1.size ≤ S := ((hb.tidy1 left name).get _).2.2
  have hA0 := fun w hD => open_any p b N g left h1 h2 (by omega) name hne (by omega) (by omega) (by omega) w hD
  have hrl : (scan (oData g left name)).1.length ≤ 1000000001 := Nat.le_trans (scan_len _) (by omega)
  by_cases ht : oT g left name = 0
  · by_cases hcut : (scan (oData g left name)).2 < (oData g left name).size
    · have hB : isB (oG1 g left name) name = true := by
        cases hq : oG1 g left name name with
        | none =>
          have h0 : (oData g left name).size = 0 := by unfold oData; rw [hq]; rfl
          omega
        | some f => rw [isB, hq]; rfl
      have hoc : oCut g left name := ⟨hB, hcut⟩
      have ec : oCode g left name = nCode (oG1 g left name) (oL1 g left name) (name ++ sufx) (oHead g left name) name := (if_neg (fun h => h ht)).trans (if_pos hoc)
      have eg : oG g left name = nG (oG1 g left name) (oL1 g left name) (name ++ sufx) (oHead g left name) name := (if_neg (fun h => h ht)).trans (if_pos hoc)
      have el : oL g left name = nL (oG1 g left name) (oL1 g left name) (name ++ sufx) (oHead g left name) name := (if_neg (fun h => h ht)).trans (if_pos hoc)
      by_cases hz : nCode (oG1 g left name) (oL1 g left name) (name ++ sufx) (oHead g left name) name = 0
      · refine ⟨0, oG g left name, oL g left name, (scan (oData g left name)).1, name, hb.open1 left name, oL_low h1, oL_high h2, hrl, fun w hD => (hA0 w hD).mono ?_, fun va w hA => (ropen_cut va g N (by omega) left h1 h2 name hne (by omega) ht (by omega) hcut (by omega) hz w hA).mono ?_⟩
        · rintro e w' ⟨⟨jv, rv, rfl, k1, k2⟩, hd, hT⟩
          rw [ec, hz] at k1 k2 ⊢
          obtain ⟨j, rfl, hj, hjw, htx⟩ := k1 rfl
          rw [oRecs, if_pos hB] at htx
          exact ⟨_, _, rfl, htx, hd, .inr ⟨j, rfl, rfl, hj, hne, hn⟩, (fun j2 e => by obtain rfl : j = j2 := by simpa using e
                                                                                      exact hjw), hT⟩
        · rintro e w' ⟨v', rv, rfl, hr, htx, hb2⟩
          rw [eg, el]
          exact ⟨_, _, rfl, hr.mono (by omega), htx, hb2⟩
      · refine ⟨oCode g left name, oG g left name, oL g left name, [], ⟨#[]⟩, hb.open1 left name, oL_low h1, oL_high h2, Nat.zero_le _, fun w hD => (hA0 w hD).mono ?_, fun va w hA => (ropen_cutnot va g N (by omega) left h1 h2 name hne (by omega) ht (by omega) hcut (by omega) hz w hA).mono ?_⟩
        · rintro e w' ⟨⟨jv, rv, rfl, k1, k2⟩, hd, hT⟩
          have hcz : oCode g left name ≠ 0 := by rw [ec]; exact hz
          obtain ⟨rfl, rfl⟩ := k2 hcz
          exact ⟨_, _, rfl, textsF_nil _ _ _ _, hd, .inl ⟨rfl, decide_eq_false hcz⟩, (fun j e => by cases e), hT⟩
        · rintro e w' ⟨v', rv, rfl, hr, htx, hb2⟩
          rw [eg, el, ec, decide_eq_false hz]
          exact ⟨_, _, rfl, hr.mono (by omega), htx.nilF, hb2⟩
    · have hoc : ¬ oCut g left name := fun h => hcut h.2
      have ec : oCode g left name = 0 := (if_neg (fun h => h ht)).trans (if_neg hoc)
      have eg : oG g left name = oG1 g left name := (if_neg (fun h => h ht)).trans (if_neg hoc)
      have el : oL g left name = oL1 g left name := (if_neg (fun h => h ht)).trans (if_neg hoc)
      refine ⟨0, oG g left name, oL g left name, (scan (oData g left name)).1, name, hb.open1 left name, oL_low h1, oL_high h2, hrl, fun w hD => (hA0 w hD).mono ?_, fun va w hA => (ropen_fine va g N (by omega) left h1 h2 name hne (by omega) ht (by omega) hcut w hA).mono ?_⟩
      · rintro e w' ⟨⟨jv, rv, rfl, k1, k2⟩, hd, hT⟩
        rw [ec] at k1 k2 ⊢
        obtain ⟨j, rfl, hj, hjw, htx⟩ := k1 rfl
        have er : oRecs g left name = (scan (oData g left name)).1 := by
          unfold oRecs
          split
          · rfl
          · rename_i hB
            have h0 : oData g left name = ⟨#[]⟩ := by
              unfold oData
              cases hq : oG1 g left name name with
              | none => rfl
              | some f => exact absurd (show isB (oG1 g left name) name = true by rw [isB, hq]; rfl) hB
            rw [h0, scan_empty]
        rw [er] at htx
        exact ⟨_, _, rfl, htx, hd, .inr ⟨j, rfl, rfl, hj, hne, hn⟩, (fun j2 e => by obtain rfl : j = j2 := by simpa using e
                                                                                    exact hjw), hT⟩
      · rintro e w' ⟨v', rv, rfl, hr, htx, hb2⟩
        rw [eg, el]
        exact ⟨_, _, rfl, hr.mono (by omega), htx, hb2⟩
  · have ec : oCode g left name = oT g left name := if_pos ht
    have eg : oG g left name = oG1 g left name := if_pos ht
    have el : oL g left name = oL1 g left name := if_pos ht
    refine ⟨oCode g left name, oG g left name, oL g left name, [], ⟨#[]⟩, hb.open1 left name, oL_low h1, oL_high h2, Nat.zero_le _, fun w hD => (hA0 w hD).mono ?_, fun va w hA => (ropen_tidy va g N (by omega) left h1 h2 name hne (by omega) ht w hA).mono ?_⟩
    · rintro e w' ⟨⟨jv, rv, rfl, k1, k2⟩, hd, hT⟩
      have hcz : oCode g left name ≠ 0 := by rw [ec]; exact ht
      obtain ⟨rfl, rfl⟩ := k2 hcz
      exact ⟨_, _, rfl, textsF_nil _ _ _ _, hd, .inl ⟨rfl, decide_eq_false hcz⟩, (fun j e => by cases e), hT⟩
    · rintro e w' ⟨v', rv, rfl, hr, htx, hb2⟩
      rw [eg, el, ec, decide_eq_false ht]
      exact ⟨_, _, rfl, hr.mono (by omega), htx.nilF, hb2⟩
end Go.Proofs.YtpllcnpcplbobaaGreat
end
section
namespace Go.Proofs.YtpllcnpcplbobaaGreat
open Go.RowKit Go.Maps
set_option linter.unusedVariables false
def AddA (p b N : Nat) (g : FS) (left : Int) (jv : Value) (nm : ByteArray) (is br : Bool) (rec : ByteArray) (code : Int) (G : FS) (L : Int) (B : Bool) : Prop :=
  ∀ w, DiskAt w p b g left N → JouAt w p jv nm is br → Calls Tryz.prog 10 #[jv, .string rec] w fun e w' => e = .returned (.int .i64 code) ∧ DiskAt w' p b G L (N + 4) ∧ JouAt w' p jv nm is B ∧ TurnJ w w' p b jv
def AddB (N : Nat) (g : FS) (left : Int) (nm : ByteArray) (is br : Bool) (rec : ByteArray) (code : Int) (G : FS) (L : Int) (B : Bool) : Prop :=
  ∀ va w, RefAt w va g N → Calls Tryz.prog 11 #[.agg #[va, .int .i64 left, .string nm, .bool is, .bool br], .string rec] w fun e w' => ∃ v', e = .returned (.tuple #[.agg #[v', .int .i64 L, .string nm, .bool is, .bool B], .int .i64 code]) ∧ RefAt w' v' G (N + 4) ∧ Below w.heap.size w w'
theorem aL_low {g : FS} {left : Int} {nm f : ByteArray} (h : -1 ≤ left) : -1 ≤ aL0 g left nm ∧ -1 ≤ aL1 g left nm f := ⟨leftE_low h, leftE_low (leftE_low h)⟩
theorem aL_high {g : FS} {left : Int} {nm f : ByteArray} (h : left ≤ 9223372036854775807) : aL0 g left nm ≤ 9223372036854775807 ∧ aL1 g left nm f ≤ 9223372036854775807 := ⟨leftE_high h, leftE_high (leftE_high h)⟩
theorem decide_bne (c : Int) : decide (c ≠ 0) = (c != 0) := by
  by_cases h : c = 0 <;> simp [h]
theorem add_both (p b N : Nat) (g : FS) (left : Int) (h1 : -1 ≤ left) (h2 : left ≤ 9223372036854775807) (hN : N ≤ 1000000) (S : Nat) (hS : S ≤ 1000000000) (hb : Bnd g S) (jv : Value) (nm : ByteArray) (is br : Bool) (rec : ByteArray) (hr : rec.size ≤ 100) :
    ∃ code G L B, Bnd G (S + 2000) ∧ -1 ≤ L ∧ L ≤ 9223372036854775807 ∧ AddA p b N g left jv nm is br rec code G L B ∧ AddB N g left nm is br rec code G L B := by
  have hf : (frameS rec).size = 12 + rec.size := size_frameS rec
  have hsz := (hb.get nm).2.2
  by_cases hib : (!is || br) = true
  · refine ⟨19, g, left, br, hb.mono (by omega), h1, h2, fun w hD hJ => ?_, fun va w hA => (radd_not va g N left nm rec is br hib w hA).mono ?_⟩
    · rcases hJ with ⟨rfl, rfl⟩ | ⟨j, rfl, rfl, hj, hne, hn⟩
      · refine (jadd_nil rec w).mono ?_
        rintro e w' ⟨rfl, hb2⟩
        exact ⟨rfl, (hD.below hb2).mono (by omega), .inl ⟨rfl, rfl⟩, turnJ_below hb2 _ _ _⟩
      · obtain rfl : br = true := by simpa using hib
        refine (jadd_broken j p nm rec w hj).mono ?_
        rintro e w' ⟨rfl, hb2⟩
        exact ⟨rfl, (hD.below hb2).mono (by omega), .inr ⟨j, rfl, rfl, hj.below hb2, hne, hn⟩, turnJ_below hb2 _ _ _⟩
    · rintro e w' ⟨rfl, hb2⟩
      exact ⟨_, rfl, (hA.below hb2).mono (by omega), hb2⟩
  · have his : is = true := by cases is <;> simp_all
    have hbr : br = false := by cases br <;> simp_all
    subst his hbr
    have hA0 := fun (j : Nat) (w : World) (hn : nm.size ≤ 20) hD hJ => jadd_any j p b N g left h1 h2 (by simp only [maxLen]; omega) nm rec (by simp only [maxLen]; omega) (by omega) (by omega) w hD hJ
    have hB0 := fun va w hA => radd_any va g N (by omega) left h1 h2 nm rec (by omega) (by omega) w hA
    by_cases h0 : a0 g left nm = 0
    · refine ⟨a1 g left nm (frameS rec), aG1 g left nm (frameS rec), aL1 g left nm (frameS rec), a1 g left nm (frameS rec) != 0, ?_, (aL_low h1).2, (aL_high h2).2, fun w hD hJ => ?_, fun va w hA => (hB0 va w hA).mono ?_⟩
      · exact ((hb.append _ _ _).mono (by omega)).sync _ _
      · rcases hJ with ⟨_, hc⟩ | ⟨j, rfl, _, hj, hne, hn⟩
        · cases hc
        · refine (hA0 j w hn hD hj).mono ?_
          rintro e w' ⟨code, rfl, hO, hT⟩
          rcases hO with ⟨k0, _⟩ | ⟨_, k1, rfl, hd, hj2⟩ | ⟨_, k1, rfl, hd, hj2⟩
          · exact absurd h0 k0
          · refine ⟨rfl, hd.mono (by omega), .inr ⟨j, rfl, rfl, ?_, hne, hn⟩, hT.toJ⟩
            rw [show (a1 g left nm (frameS rec) != 0) = true by simpa using k1]; exact hj2
          · refine ⟨by rw [k1], hd.mono (by omega), .inr ⟨j, rfl, rfl, ?_, hne, hn⟩, hT.toJ⟩
            rw [k1]; exact hj2
      · rintro e w' ⟨v', _, k2, hb2⟩
        obtain ⟨rfl, hr2⟩ := k2 h0
        exact ⟨_, rfl, hr2.mono (by omega), hb2⟩
    · refine ⟨a0 g left nm, aG0 g left nm (frameS rec), aL0 g left nm, true, ?_, leftE_low h1, leftE_high h2, fun w hD hJ => ?_, fun va w hA => (hB0 va w hA).mono ?_⟩
      · exact (hb.append _ _ _).mono (by omega)
      · rcases hJ with ⟨_, hc⟩ | ⟨j, rfl, _, hj, hne, hn⟩
        · cases hc
        · refine (hA0 j w hn hD hj).mono ?_
          rintro e w' ⟨code, rfl, hO, hT⟩
          rcases hO with ⟨_, rfl, hd, hj2⟩ | ⟨k0, _⟩ | ⟨k0, _⟩
          · exact ⟨rfl, hd.mono (by omega), .inr ⟨j, rfl, rfl, hj2, hne, hn⟩, hT.toJ⟩
          · exact absurd k0 h0
          · exact absurd k0 h0
      · rintro e w' ⟨v', k1, _, hb2⟩
        obtain ⟨rfl, hr2⟩ := k1 h0
        exact ⟨_, rfl, hr2.mono (by omega), hb2⟩
def SwapA (p b N : Nat) (g : FS) (left : Int) (jv : Value) (nm : ByteArray) (is br : Bool) (vr : Value) (A : List ByteArray) (code : Int) (G : FS) (L : Int) (B : Bool) : Prop :=
  ∀ w, DiskAt w p b g left N → JouAt w p jv nm is br → TextsAt w vr A → Calls Tryz.prog 12 #[jv, vr] w fun e w' => e = .returned (.int .i64 code) ∧ DiskAt w' p b G L (N + 4) ∧ JouAt w' p jv nm is B ∧ TurnJ w w' p b jv
def SwapB (N : Nat) (g : FS) (left : Int) (nm : ByteArray) (is br : Bool) (vr : Value) (A : List ByteArray) (code : Int) (G : FS) (L : Int) (B : Bool) : Prop :=
  ∀ va w, RefAt w va g N → TextsAt w vr A → Calls Tryz.prog 13 #[.agg #[va, .int .i64 left, .string nm, .bool is, .bool br], vr] w fun e w' => ∃ v', e = .returned (.tuple #[.agg #[v', .int .i64 L, .string nm, .bool is, .bool B], .int .i64 code]) ∧ RefAt w' v' G (N + 4) ∧ Below w.heap.size w w'
theorem swap_both (p b N : Nat) (g : FS) (left : Int) (h1 : -1 ≤ left) (h2 : left ≤ 9223372036854775807) (hN : N ≤ 1000000) (S : Nat) (hS : S ≤ 900000000) (hb : Bnd g S) (jv : Value) (nm : ByteArray) (is br : Bool) (hnm : is = true → nm.size ≤ 20) (vr : Value) (A : List ByteArray) (h12 : A.length ≤ 12) (h100 : ∀ x ∈ A, x.size ≤ 100) :
    ∃ code G L B, Bnd G (S + 2000) ∧ -1 ≤ L ∧ L ≤ 9223372036854775807 ∧ SwapA p b N g left jv nm is br vr A code G L B ∧ SwapB N g left nm is br vr A code G L B := by
  have hf : (framesL A).size ≤ 112 * A.length := framesL_le A h100
  have hsz := ((hb.tidy1 left nm).get (nm ++ sufx)).2.2
  by_cases hib : (!is || br) = true
  · refine ⟨19, g, left, br, hb.mono (by omega), h1, h2, fun w hD hJ hR => ?_, fun va w hA hR => (rswap_not va g N left nm vr is br hib w hA).mono ?_⟩
    · rcases hJ with ⟨rfl, rfl⟩ | ⟨j, rfl, rfl, hj, hne, hn⟩
      · refine (swap_nil vr w).mono ?_
        rintro e w' ⟨rfl, rfl⟩
        exact ⟨rfl, hD.mono (by omega), .inl ⟨rfl, rfl⟩, turnJ_below (Below.refl _ _) _ _ _⟩
      · obtain rfl : br = true := by simpa using hib
        refine (swap_broken j p nm vr w hj).mono ?_
        rintro e w' ⟨rfl, rfl⟩
        exact ⟨rfl, hD.mono (by omega), .inr ⟨j, rfl, rfl, hj, hne, hn⟩, turnJ_below (Below.refl _ _) _ _ _⟩
    · rintro e w' ⟨rfl, hb2⟩
      exact ⟨_, rfl, (hA.below hb2).mono (by omega), hb2⟩
  · have his : is = true := by cases is <;> simp_all
    have hbr : br = false := by cases br <;> simp_all
    subst his hbr
    have hn := hnm rfl
    have hA0 := fun (j : Nat) (w : World) hD hJ hR => swap_any j p b N g left h1 h2 (by omega) nm (by omega) vr A h12 h100 (by omega) w hD hJ hR
    have hB0 := fun va w hA hR => rswap_any va g N (by omega) left h1 h2 nm (by omega) vr A h12 h100 (by omega) w hA hR
    by_cases h0 : oT g left nm = 0
    · obtain ⟨c, hc⟩ : ∃ c, c = nCode (oG1 g left nm) (oL1 g left nm) (nm ++ sufx) (framesL A) nm := ⟨_, rfl⟩
      refine ⟨c, nG (oG1 g left nm) (oL1 g left nm) (nm ++ sufx) (framesL A) nm, nL (oG1 g left nm) (oL1 g left nm) (nm ++ sufx) (framesL A) nm, c != 0, ?_, nL_low (tidyL_low h1), nL_high (tidyL_high h2), fun w hD hJ hR => ?_, fun va w hA hR => (hB0 va w hA hR).mono ?_⟩
      · exact Bnd.anew (((hb.tidy1 left nm).put0 _ _ _).mono (by omega))
      · rcases hJ with ⟨_, hc⟩ | ⟨j, rfl, _, hj, hne, hn⟩
        · cases hc
        · refine (hA0 j w hD hj hR).mono ?_
          rintro e w' ⟨code, rfl, hO, hT⟩
          rcases hO with ⟨k0, _⟩ | ⟨_, rfl, hd, hj2⟩
          · exact absurd h0 k0
          · rw [← hc, decide_bne] at hj2
            exact ⟨by rw [hc], hd, .inr ⟨j, rfl, rfl, hj2, hne, hn⟩, hT.toJ⟩
      · rintro e w' ⟨v', _, k2, hb2⟩
        obtain ⟨rfl, hr2⟩ := k2 h0
        rw [← hc]
        exact ⟨_, rfl, hr2.mono (by omega), hb2⟩
    · refine ⟨oT g left nm, oG1 g left nm, oL1 g left nm, true, (hb.tidy1 left nm).mono (by omega), tidyL_low h1, tidyL_high h2, fun w hD hJ hR => ?_, fun va w hA hR => (hB0 va w hA hR).mono ?_⟩
      · rcases hJ with ⟨_, hc⟩ | ⟨j, rfl, _, hj, hne, hn⟩
        · cases hc
        · refine (hA0 j w hD hj hR).mono ?_
          rintro e w' ⟨code, rfl, hO, hT⟩
          rcases hO with ⟨_, rfl, hd, hj2⟩ | ⟨k0, _⟩
          · exact ⟨rfl, hd, .inr ⟨j, rfl, rfl, hj2, hne, hn⟩, hT.toJ⟩
          · exact absurd k0 h0
      · rintro e w' ⟨v', k1, _, hb2⟩
        obtain ⟨rfl, hr2⟩ := k1 h0
        exact ⟨_, rfl, hr2.mono (by omega), hb2⟩
def PutA (p b N : Nat) (g : FS) (left : Int) (name data : ByteArray) (code : Int) (G : FS) (L : Int) : Prop :=
  ∀ w, DiskAt w p b g left N → Calls Tryz.prog 18 #[.pointer (some ⟨p, 0, none⟩), .string name, .string data] w fun e w' => e = .returned (.int .i64 code) ∧ DiskAt w' p b G L (N + 4) ∧ Turned w w' p b
def PutB (N : Nat) (g : FS) (left : Int) (name data : ByteArray) (code : Int) (G : FS) (L : Int) : Prop :=
  ∀ va w, RefAt w va g N → Calls Tryz.prog 19 #[.agg #[va, .int .i64 left], .string name, .string data] w fun e w' => ∃ v', e = .returned (.tuple #[.agg #[v', .int .i64 L], .int .i64 code]) ∧ RefAt w' v' G (N + 4) ∧ Below w.heap.size w w'
theorem put_both (p b N : Nat) (g : FS) (left : Int) (h1 : -1 ≤ left) (h2 : left ≤ 9223372036854775807) (hN : N ≤ 1000000) (S : Nat) (hS : S ≤ 1000000000) (hb : Bnd g S) (name data : ByteArray) (hn : name.size ≤ 20) (hd : data.size ≤ 100) :
    ∃ code G L, Bnd G (S + 2000) ∧ -1 ≤ L ∧ L ≤ 9223372036854775807 ∧ PutA p b N g left name data code G L ∧ PutB N g left name data code G L := by
  have hsz := (hb.get name).2.2
  refine ⟨beginE false g left name [name], appendG (beginE false g left name [name]) g name data, leftE (beginE false g left name [name]) left, (hb.append _ _ _).mono (by omega), leftE_low h1, leftE_high h2,
    fun w hD => (append_disk p b N g left h1 h2 (by simp only [maxLen]; omega) name data (by simp only [maxLen]; omega) (by omega) w hD).mono ?_, fun va w hA => (rappend_any va g N (by omega) left h1 h2 name data (by omega) w hA).mono ?_⟩
  · rintro e w' ⟨rfl, k1, k2⟩
    exact ⟨rfl, k1.mono (by omega), k2⟩
  · rintro e w' ⟨v', rfl, k1, k2⟩
    exact ⟨_, rfl, k1.mono (by omega), k2⟩
theorem rcrash_of (va vp : Value) (g : FS) (N : Nat) (hN : N ≤ 1099511627775) (hg : FilesOk g) (left : Int) (P : List Int) (hPm : P.length ≤ 140737488351232) (l : List ByteArray) (hl : NamesOf g l) (w : World) (hA : RefAt w va g N) (hP : NumsAt w vp P) :
    Calls Tryz.prog 17 #[.agg #[va, .int .i64 left], vp] w fun e w' => ∃ v', e = .returned (.agg #[v', .int .i64 (-1)]) ∧ RefAt w' v' (crashG g l P).1 N ∧ Below w.heap.size w w' :=
  (rcrash_any va vp g N hN hg left P hPm w hA hP).mono fun _ _ ⟨v', m, he, hm, hr, hb⟩ => ⟨v', he, by rw [← hm l hl]; exact hr, hb⟩
end Go.Proofs.YtpllcnpcplbobaaGreat
end
section
namespace Go.Proofs.YtpllcnpcplbobaaGreat
open Go.RowKit Go.Maps
set_option linter.unusedVariables false
set_option maxRecDepth 100000 in
set_option maxHeartbeats 2000000 in
theorem dsame8_any (p b N M : Nat) (g : FS) (left left2 : Int) (hN : N ≤ 1099511627776) (hM : M ≤ 1099511627775) (va : Value) (w : World) (hD : DiskAt w p b g left N) (hA : RefAt w va g M) :
    Calls Tryz.prog 21 #[.pointer (some ⟨p, 0, none⟩), .agg #[va, .int .i64 left2]] w fun e w' => e = .returned (.bool true) ∧ Below w.heap.size w w' := by
  have hRA := hA
  obtain ⟨l, hF, hL, hn⟩ := hA
  have hF2 := hF
  obtain ⟨a, c, rfl, ha⟩ := hF
  obtain ⟨n, hnl⟩ : ∃ n, n = l.length := ⟨_, rfl⟩
  rw [← hnl] at hn hF2 hRA ⊢
  have HF := Lib.hid hF2
  have HL := Lib.hid hL
  have HNL := Lib.hid hnl
  have HRA := Lib.hid hRA
  have HD := Lib.hid hD
  clear hD hF2 ha hL hnl hRA
  go_enter Tryz.func21, Tryz.ntmps21
  go_upto_region 4 with (first | (go_at_call 42; refine (names_disk p b N g left hN _ (HD.out.below ((Below.refl _ _).alloc (Nat.le_refl _) _))).mono ?_; rintro e w1 ⟨v1, l1, rfl, hn1, hl1, hr1, hb1⟩; have N1 := Lib.hid hn1; have T1 := Lib.hid (textsAt_owned hr1); obtain ⟨a1, c1, rfl, _⟩ := textsAt_owned hr1; have B1 := Lib.hid hb1; have HB1 := Lib.hid (show Below w.heap.size w w1 from ((Below.refl _ _).alloc (Nat.le_refl _) _).trans (hb1.mono (by simp))); have HL1 := Lib.hid hl1; obtain ⟨c00, c01, _, _⟩ := blk2 ((hb1.block w.heap.size (by simp)).trans (heap_alloc_new w _)); clear hn1 hl1 hr1 hb1) | (go_at_call 47; refine (rnames_any (.slice a n c) l (by rw [← HNL.out]; omega) left2 _ (HF.out.below HB1.out)).mono ?_; rintro e w2 ⟨v2, rfl, hr2, hb2⟩; have ht2 := textsAt_owned hr2; obtain ⟨a2, c2, rfl, _⟩ := id ht2; rw [List.length_map] at ht2 ⊢; have T2 := Lib.hid ht2; have B2 := Lib.hid hb2; have HB2 := Lib.hid (HB1.out.trans (hb2.mono HB1.out.size)); clear hr2 hb2 ht2) | (go_at_call 20; refine (same08_any _ _ l1 (l.map (·.1)) (by have := HL1.out; omega) _ (T1.out.below B2.out) (by have := T2.out; exact this)).mono ?_; rintro e w3 ⟨rfl, m3, rfl⟩; rw [decide_eq_true (HL.out.names N1.out).symm]))
  obtain ⟨W, hW⟩ : ∃ W, W = w2.drewN m3 := ⟨_, rfl⟩
  rw [← hW]
  have hWB : Below w.heap.size w W := by rw [hW]; exact below_drewN HB2.out m3
  have hT : TextsAt W (.slice a1 l1.length c1) l1 := (T1.out.below B2.out).below (by rw [hW]; exact below_drewN (Below.refl _ _) m3)
  have hbx : w.heap.size < W.heap.size ∧ W.cell? ⟨w.heap.size, 0, none⟩ = some (.slice a n c) ∧ W.cell? ⟨w.heap.size, 1, none⟩ = some (.int .i64 left2) := by
    have h1 := B1.out.size
    simp at h1
    have h2 : Below w1.heap.size w1 W := by rw [hW]; exact below_drewN B2.out m3
    have h3 := h2.size
    exact ⟨by omega, (h2.cell (by show w.heap.size < _; omega)).trans c00, (h2.cell (by show w.heap.size < _; omega)).trans c01⟩
  obtain ⟨q, hq⟩ : ∃ q, q = l1.length := ⟨_, rfl⟩
  rw [← hq] at hT ⊢
  have hqs : q ≤ N := by rw [hq]; exact HL1.out
  have HT := Lib.hid hT
  have HQ := Lib.hid hq
  have HWB := Lib.hid hWB
  have HBX := Lib.hid hbx
  clear hW hT hWB hbx hq c00 c01 HB1 HB2 B1 B2 T1 T2
  go_wp2_with fail
  go_loopw [6] (fun i wr => ∃ k : Nat, k ≤ q ∧ i = .int .i64 k ∧ Below W.heap.size W wr) (fun i _ => q - (intOf i).toNat)
  case atStart => exact ⟨0, by omega, rfl, Below.refl _ _⟩
  case round =>
    obtain ⟨k, hk, rfl, hb⟩ := hrel
    have HB := Lib.hid hb
    have hww := HWB.out.trans (hb.mono HWB.out.size)
    have HWW := Lib.hid hww
    by_cases hlt : k < q
    · have hAk : k < l1.length := by rw [← HQ.out]; exact hlt
      obtain ⟨a', c', he', hc'⟩ := HT.out
      rcases hc' with h0 | ⟨b1, o1, ha1, hc1⟩
      · rw [← HQ.out] at h0; omega
      obtain rfl := (Value.slice.inj he').1.trans ha1
      have d1 : wr.cell? ⟨b1, o1 + k, none⟩ = some (.string l1[k]) := (hb.cell (World.block_lt_of_cell? _ _ (hc1 k hAk))).trans (hc1 k hAk)
      have x0 := (hb.cell (p := ⟨w.heap.size, 0, none⟩) HBX.out.1).trans HBX.out.2.1
      have x1 := (hb.cell (p := ⟨w.heap.size, 1, none⟩) HBX.out.1).trans HBX.out.2.2
      have hsm := N1.out.small l1[k] (List.getElem_mem hAk)
      have hsome := (N1.out.all l1[k]).1 (List.getElem_mem hAk)
      obtain ⟨x, hx⟩ : ∃ x, x = l1[k] := ⟨_, rfl⟩
      rw [← hx] at d1 hsm hsome
      have hrd := fun W h => read_disk p b N g left x hsm W h
      have hrr := fun W h => rread_any (.slice a n c) g M hM left2 x W h
      obtain ⟨f, hf⟩ := Option.isSome_iff_exists.1 hsome
      have hrv : readV g x = .tuple #[.string f.1, .int .i64 0] := by rw [readV, hf]
      rw [hrv] at hrd hrr
      have HRD := Lib.hid hrd
      have HRR := Lib.hid hrr
      clear hrd hrr hrv hf hsome hsm hx hc1 he' hb hww HT
      obtain ⟨fd, fs⟩ := f
      simp only at HRD HRR
      have hq0 : (fd.toList == fd.toList) = true := by simp
      go_upto_region 8 with (go_at_call 27; refine (HRD.out _ (HD.out.below HWW.out)).mono ?_; rintro e w4 ⟨rfl, hb4⟩; have B4 := Lib.hid hb4; have y0 := (hb4.cell (World.block_lt_of_cell? _ _ x0)).trans x0; have y1 := (hb4.cell (World.block_lt_of_cell? _ _ x1)).trans x1; have y2 := (hb4.cell (World.block_lt_of_cell? _ _ d1)).trans d1; clear hb4)
      go_region_with (go_at_call 31; refine (HRR.out _ (HRA.out.below ((HWW.out.trans (B4.out.mono HWW.out.size)).drew))).mono ?_; rintro e w5 ⟨rfl, hb5⟩; have B5 := Lib.hid hb5; clear hb5)
      go_wp2
      all_goals
        have h4 := HB.out.trans (B4.out.mono HB.out.size)
        exact ⟨⟨k + 1, by omega, by go_num, h4.drew.trans (B5.out.mono h4.size)⟩, by simp [intOf]; omega⟩
    · go_wp2
      go_ret
      exact ⟨rfl, HWW.out⟩
end Go.Proofs.YtpllcnpcplbobaaGreat
end
