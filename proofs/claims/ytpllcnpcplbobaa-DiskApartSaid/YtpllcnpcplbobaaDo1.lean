import Derived.Test.YtpllcnpcplbobaaRf11
import Derived.Test.YtpllcnpcplbobaaSure1
namespace Go.Proofs.Ytpllcnpcplbobaa
open Go.RowKit Go.Maps
set_option linter.unusedVariables false
theorem remove_disk1 (p b N : Nat) (g : FS) (left : Int) (hl1 : -1 ≤ left) (hl2 : left ≤ 9223372036854775807) (name : ByteArray) (hx : name.size ≤ maxLen) (w : World) (hD : DiskAt w p b g left N) :
    Calls Try.prog 26 #[.pointer (some ⟨p, 0, none⟩), .string name] w fun e w' => e = .returned (.int .i64 (beginE true g left name [name])) ∧
      DiskAt w' p b (removeG (beginE true g left name [name]) g name) (leftE (beginE true g left name [name]) left) (N + 1) ∧ Turned w w' p b :=
  (remove_disk p b N g left hl1 hl2 name hx w hD).mono fun _ _ ⟨he, hd, ht⟩ => ⟨he, ⟨hd.cells, hd.files.mono (by omega)⟩, ht⟩
theorem rremove1_any (va : Value) (g : FS) (N : Nat) (hN : N ≤ 1099511627775) (left : Int) (h1 : -1 ≤ left) (h2 : left ≤ 9223372036854775807) (name : ByteArray) (w : World) (hA : RefAt w va g N) :
    Calls Try.prog 51 #[.agg #[va, .int .i64 left], .string name] w fun e w' => ∃ v', e = .returned (.tuple #[.agg #[v', .int .i64 (leftE (beginE true g left name [name]) left)], .int .i64 (beginE true g left name [name])]) ∧
      RefAt w' v' (removeG (beginE true g left name [name]) g name) (N + 1) ∧ Below w.heap.size w w' :=
  (rremove_any va g N hN left h1 h2 name w hA).mono fun _ _ ⟨v', he, hr, hb⟩ => ⟨v', he, hr.mono (by omega), hb⟩
/-! One act of writing, done to the disk and to the reference's. -/
def codeA (x : ActL) (g : FS) (left : Int) : Int :=
  if x.kind = 0 then beginE false g left x.name [x.name] else if x.kind = 1 then beginE true g left x.name [x.name] else if x.kind = 2 then beginE true g left x.name [x.name, x.to_] else if x.kind = 3 then beginE true g left x.name [x.name] else 0
def leftA (x : ActL) (g : FS) (left : Int) : Int :=
  if x.kind = 0 ∨ x.kind = 1 ∨ x.kind = 2 ∨ x.kind = 3 then leftE (codeA x g left) left else if x.kind = 4 then max x.n (-1) else left
def filesA (x : ActL) (g : FS) (left : Int) : FS :=
  if x.kind = 0 then appendG (codeA x g left) g x.name x.data else if x.kind = 1 then syncG (codeA x g left) g x.name else if x.kind = 2 then renameG (codeA x g left) g x.name x.to_ else if x.kind = 3 then removeG (codeA x g left) g x.name else g
def DoPost (w : World) (p b : Nat) (x : ActL) (g : FS) (left : Int) (N M : Nat) (e : Ending) (w' : World) : Prop :=
  ∃ v', e = .returned (.tuple #[.int .i64 (codeA x g left), .int .i64 (codeA x g left), .agg #[v', .int .i64 (leftA x g left)]]) ∧ DiskAt w' p b (filesA x g left) (leftA x g left) (N + 1) ∧ RefAt w' v' (filesA x g left) (M + 1) ∧ Turned w w' p b
theorem DiskAt.apart {w : World} {p b N : Nat} {g : FS} {left : Int} (h : DiskAt w p b g left N) {k o : Nat} {s : ByteArray} (hc : w.cell? ⟨k, o, none⟩ = some (.string s)) : k ≠ p ∧ k ≠ b := by
  refine ⟨fun e => ?_, fun e => ?_⟩
  · subst e
    rw [cell_of_row _ _ _ _ _ _ h.cells] at hc
    match o, hc with
    | 0, hc => simp at hc
    | 1, hc => simp at hc
    | _ + 2, hc => simp at hc
  · subst e
    obtain ⟨D, ⟨es, clock, hb, _⟩, _⟩ := h.files
    simp [World.cell?, hb] at hc
/-- What the disk does leaves the reference's files as they are. -/
theorem RefAt.turned {w w' : World} {v : Value} {g g' : FS} {M p b N : Nat} {left : Int} (h : RefAt w v g M) (hd : DiskAt w p b g' left N) (ht : Turned w w' p b) : RefAt w' v g M := by
  obtain ⟨l, ⟨a, c, hv, h0 | ⟨k, o, ha, hc⟩⟩, h2, h3⟩ := h
  · exact ⟨l, ⟨a, c, hv, .inl h0⟩, h2, h3⟩
  · refine ⟨l, ⟨a, c, hv, .inr ⟨k, o, ha, fun i hi j u hu => ?_⟩⟩, h2, h3⟩
    obtain ⟨n1, n2⟩ := hd.apart (hc i hi 0 _ rfl)
    have h1 := hc i hi j u hu
    exact (World.cell?_of_block (ht.block k (block_lt_of_cell h1) n1 n2)).trans h1
/-- The three blocks that 'do' makes for itself. -/
def DoBlk (w W : World) (va : Value) (left : Int) (a0 a1 a2 a3 a4 a5 : Value) : Prop :=
  W.heap[w.heap.size]? = some (.cells #[va, .int .i64 left] 57 (0, 0)) ∧ W.heap[w.heap.size + 1]? = some (.cells #[a0, a1, a2, a3, a4, a5] 51 (0, 0)) ∧
  W.heap[w.heap.size + 1 + 1]? = some (.cells #[.slice none 0 0, .int .i64 0] 57 (0, 0)) ∧ w.heap.size + 3 ≤ W.heap.size
section
variable {w W W' : World} {va a0 a1 a2 a3 a4 a5 : Value} {left : Int}
theorem doBlk_new (w : World) (va a0 a1 a2 a3 a4 a5 : Value) (left : Int) : DoBlk w (((w.alloc (.cells #[va, .int .i64 left] 57)).alloc (.cells #[a0, a1, a2, a3, a4, a5] 51)).alloc (.cells #[.slice none 0 0, .int .i64 0] 57)) va left a0 a1 a2 a3 a4 a5 := by
  obtain ⟨q0, q1, q2, _, q4⟩ := three_blocks w _ _ _ _ (Below.refl _ _)
  exact ⟨q0, q1, q2, q4⟩
theorem DoBlk.turned {p b : Nat} (h : DoBlk w W va left a0 a1 a2 a3 a4 a5) (ht : Turned W W' p b) (hp : p < w.heap.size) (hb : b < w.heap.size) : DoBlk w W' va left a0 a1 a2 a3 a4 a5 := by
  obtain ⟨h0, h1, h2, h3⟩ := h
  exact ⟨(ht.block _ (by omega) (by omega) (by omega)).trans h0, (ht.block _ (by omega) (by omega) (by omega)).trans h1, (ht.block _ (by omega) (by omega) (by omega)).trans h2, Nat.le_trans h3 ht.size⟩
theorem DoBlk.below (h : DoBlk w W va left a0 a1 a2 a3 a4 a5) (hb : Below W.heap.size W W') : DoBlk w W' va left a0 a1 a2 a3 a4 a5 := by
  obtain ⟨h0, h1, h2, h3⟩ := h
  exact ⟨(hb.block _ (by omega)).trans h0, (hb.block _ (by omega)).trans h1, (hb.block _ (by omega)).trans h2, Nat.le_trans h3 hb.size⟩
theorem DoBlk.cells (h : DoBlk w W va left a0 a1 a2 a3 a4 a5) :
    W.cell? ⟨w.heap.size, 0, none⟩ = some va ∧ W.cell? ⟨w.heap.size, 1, none⟩ = some (.int .i64 left) ∧ W.cell? ⟨w.heap.size + 1, 0, none⟩ = some a0 ∧ W.cell? ⟨w.heap.size + 1, 1, none⟩ = some a1 ∧ W.cell? ⟨w.heap.size + 1, 2, none⟩ = some a2 ∧ W.cell? ⟨w.heap.size + 1, 3, none⟩ = some a3 ∧
    W.cell? ⟨w.heap.size + 1, 4, none⟩ = some a4 ∧ W.cell? ⟨w.heap.size + 1, 5, none⟩ = some a5 ∧ W.cell? ⟨w.heap.size + 1 + 1, 0, none⟩ = some (.slice none 0 0) ∧ W.cell? ⟨w.heap.size + 1 + 1, 1, none⟩ = some (.int .i64 0) ∧
    W.frozen? ⟨w.heap.size + 1 + 1, 0, none⟩ = false ∧ W.frozen? ⟨w.heap.size + 1 + 1, 1, none⟩ = false ∧ w.heap.size + 3 ≤ W.heap.size := by
  obtain ⟨h0, h1, h2, h3⟩ := h
  obtain ⟨x0, x1, _, _⟩ := blk2 h0
  obtain ⟨y0, y1, y2, y3⟩ := blk2 h2
  exact ⟨x0, x1, by rw [cell_of_row _ _ _ _ _ _ h1]; rfl, by rw [cell_of_row _ _ _ _ _ _ h1]; rfl, by rw [cell_of_row _ _ _ _ _ _ h1]; rfl, by rw [cell_of_row _ _ _ _ _ _ h1]; rfl, by rw [cell_of_row _ _ _ _ _ _ h1]; rfl, by rw [cell_of_row _ _ _ _ _ _ h1]; rfl, y0, y1, y2, y3, h3⟩
end
theorem Turned.drew {w W : World} {p b : Nat} (h : Turned w W p b) : Turned w W.drew p b := ⟨h.os, h.tape, h.output, h.size, h.block⟩
theorem no_string {W : World} {q : Nat} {u v : Value} {t : TypeId} (h : W.heap[q]? = some (.cells #[u, v] t (0, 0))) (hu : ∀ s, u ≠ .string s) (hv : ∀ s, v ≠ .string s) (o : Nat) (s : ByteArray) : W.cell? ⟨q, o, none⟩ ≠ some (.string s) := fun hc => by
  rw [cell_of_row _ _ _ _ _ _ h] at hc
  match o, hc with
  | 0, hc => simp at hc; exact hu s hc
  | 1, hc => simp at hc; exact hv s hc
  | _ + 2, hc => simp at hc
/-- A block without texts is written: the reference's files are as they were. -/
theorem RefAt.beside {w w' : World} {v : Value} {g : FS} {M q : Nat} (h : RefAt w v g M) (hq : ∀ o s, w.cell? ⟨q, o, none⟩ ≠ some (.string s)) (hb : ∀ k, k < w.heap.size → k ≠ q → w'.heap[k]? = w.heap[k]?) : RefAt w' v g M := by
  obtain ⟨l, ⟨a, c, hv, h0 | ⟨k, o, ha, hc⟩⟩, h2, h3⟩ := h
  · exact ⟨l, ⟨a, c, hv, .inl h0⟩, h2, h3⟩
  · refine ⟨l, ⟨a, c, hv, .inr ⟨k, o, ha, fun i hi j u hu => ?_⟩⟩, h2, h3⟩
    have hk : k ≠ q := fun e => by subst e; exact hq _ _ (hc i hi 0 _ rfl)
    have h1 := hc i hi j u hu
    exact (World.cell?_of_block (hb k (block_lt_of_cell h1) hk)).trans h1
theorem last_block (W : World) (q : Nat) (u v : Value) (k : Nat) (hk : k ≠ q) : (((W.setCell ⟨q, 0, none⟩ u).setCell ⟨q, 1, none⟩ v).drew).heap[k]? = W.heap[k]? :=
  (heap_setCell_other _ _ _ _ (by show k ≠ q; exact hk)).trans (heap_setCell_other _ _ _ _ (by show k ≠ q; exact hk))
/-- What is written into the last block changes nothing that lay there. -/
theorem turned_last {w W : World} {p b : Nat} (h : Turned w W p b) (u v : Value) : Turned w ((W.setCell ⟨w.heap.size + 1 + 1, 0, none⟩ u).setCell ⟨w.heap.size + 1 + 1, 1, none⟩ v) p b :=
  ⟨h.os, h.tape, h.output, by simpa [World.setCell] using h.size, fun k hk hp hb => (heap_setCell_other _ _ _ _ (by show k ≠ w.heap.size + 1 + 1; omega)).trans ((heap_setCell_other _ _ _ _ (by show k ≠ w.heap.size + 1 + 1; omega)).trans (h.block k hk hp hb))⟩
set_option maxRecDepth 100000 in
set_option maxHeartbeats 2000000 in
theorem do0_any (p b N M : Nat) (g : FS) (left : Int) (h1 : -1 ≤ left) (h2 : left ≤ 9223372036854775807) (hN : N < maxLen) (hM : M ≤ 1099511627775) (va : Value) (nn : Int) (xn tn dt : ByteArray) (pa : Option Addr) (pn pc : Nat) (pk : List Int) (hx : xn.size ≤ maxLen) (hto : tn.size ≤ maxLen) (hsz : ((g xn).getD noFile).1.size + dt.size ≤ 1099511627776) (w : World) (hD : DiskAt w p b g left N) (hA : RefAt w va g M) :
    Calls Try.prog 33 #[.pointer (some ⟨p, 0, none⟩), .agg #[va, .int .i64 left], .agg #[.int .i64 0, .int .i64 nn, .string xn, .string tn, .string dt, .slice pa pn pc]] w (DoPost w p b ⟨0, nn, xn, tn, dt, .slice pa pn pc, pk⟩ g left N M) := by
  obtain ⟨l0, ⟨a, c, rfl, _⟩, _, _⟩ := id hA
  obtain ⟨n, hn⟩ : ∃ n, n = l0.length := ⟨_, rfl⟩
  rw [← hn] at hA ⊢
  clear hn
  have hap := fun W h => append_disk p b N g left h1 h2 hN xn dt hx hsz W h
  have har := fun W h => rappend_any (.slice a n c) g M hM left h1 h2 xn dt hsz W h
  obtain ⟨code, hcode⟩ : ∃ code, code = codeA ⟨0, nn, xn, tn, dt, .slice pa pn pc, pk⟩ g left := ⟨_, rfl⟩
  have hc2 : code = beginE false g left xn [xn] := hcode
  rw [← hc2] at hap har
  obtain ⟨G, hG⟩ : ∃ G, G = appendG code g xn dt := ⟨_, rfl⟩
  rw [← hG] at hap har
  obtain ⟨lf, hlf⟩ : ∃ lf, lf = leftE code left := ⟨_, rfl⟩
  rw [← hlf] at hap har
  have hfin : ∀ v' W', DiskAt W' p b G lf (N + 1) → RefAt W' v' G (M + 1) → Turned w W' p b → DoPost w p b ⟨0, nn, xn, tn, dt, .slice pa pn pc, pk⟩ g left N M (.returned (.tuple #[.int .i64 code, .int .i64 code, .agg #[v', .int .i64 lf]])) W' := fun v' W' x1 x2 x3 => by
    have e1 : leftA ⟨0, nn, xn, tn, dt, .slice pa pn pc, pk⟩ g left = lf := by rw [hlf, hcode]; rfl
    have e2 : filesA ⟨0, nn, xn, tn, dt, .slice pa pn pc, pk⟩ g left = G := by rw [hG, hcode]; rfl
    refine ⟨v', ?_, ?_, ?_, x3⟩
    · rw [e1, ← hcode]
    · rw [e1, e2]; exact x1
    · rw [e2]; exact x2
  have hplt := hD.lt
  have hblt := hD.files.lt
  have HAP := Lib.hid hap
  have HAR := Lib.hid har
  have HFIN := Lib.hid hfin
  have HD := Lib.hid hD
  have HA := Lib.hid hA
  clear hap har hfin hD hA hc2 hcode hG hlf hsz hN hM
  go_enter Try.func33, Try.ntmps33
  go_upto_region 5 with (first
    | (go_at_call 23; refine (HAP.out _ (HD.out.below ((((Below.refl _ _).alloc (Nat.le_refl _) _).alloc (by simp) _).alloc (by simp; omega) _))).mono ?_; rintro e w1 ⟨rfl, hd1, ht1⟩; have K1 := Lib.hid ((doBlk_new w (.slice a n c) (.int .i64 0) (.int .i64 nn) (.string xn) (.string tn) (.string dt) (.slice pa pn pc) left).turned ht1 hplt hblt); have D1 := Lib.hid hd1; have T1 := Lib.hid ((turned_of_below ((((Below.refl _ _).alloc (Nat.le_refl _) _).alloc (by simp) _).alloc (by simp; omega) _) p b).trans ht1); clear hd1 ht1; obtain ⟨x00, x01, y0, y1, y2, y3, y4, y5, z0, z1, z2, z3, zs⟩ := K1.out.cells)
    | (go_at_call 47; refine (HAR.out _ (HA.out.turned HD.out T1.out)).mono ?_; rintro e w2 ⟨v', rfl, hr2, hb2⟩; have K2 := Lib.hid (K1.out.below hb2); have D2 := Lib.hid (D1.out.below hb2); have T2 := Lib.hid (T1.out.trans (turned_of_below hb2 p b)); obtain ⟨l2, ⟨a2, c2, rfl, _⟩, _, _⟩ := id hr2; have R2 := Lib.hid hr2; clear hr2 hb2; obtain ⟨x00, x01, y0, y1, y2, y3, y4, y5, z0, z1, z2, z3, zs⟩ := K2.out.cells))
  have K3 := Lib.hid (K2.out.below ((Below.refl _ _).alloc (Nat.le_refl _) (.cells #[.slice a2 l2.length c2, .int .i64 lf] 57)))
  clear x00 x01 y0 y1 y2 y3 y4 y5 z0 z1 z2 z3 zs
  obtain ⟨x00, x01, y0, y1, y2, y3, y4, y5, z0, z1, z2, z3, zs⟩ := K3.out.cells
  go_region
  go_wp2
  obtain ⟨r0, r1, r2⟩ := last_cells K3.out.2.2.1 (.slice a2 l2.length c2) (.int .i64 lf)
  refine bodyPost_ret (v := .tuple #[.int .i64 code, .int .i64 code, .agg #[.slice a2 l2.length c2, .int .i64 lf]]) (by simp [results, Try.results33, go_sem, r1, r2]) rfl (HFIN.out _ _ ?_ ?_ ?_)
  · have hd := D2.out.below ((Below.refl _ _).alloc (Nat.le_refl _) (.cells #[.slice a2 l2.length c2, .int .i64 lf] 57))
    exact ⟨(last_block _ _ _ _ p (by omega)).trans hd.cells, hd.files.of_heap (last_block _ _ _ _ b (by omega))⟩
  · exact (R2.out.below ((Below.refl _ _).alloc (Nat.le_refl _) (.cells #[.slice a2 l2.length c2, .int .i64 lf] 57))).beside (no_string K3.out.2.2.1 (fun _ e => by cases e) (fun _ e => by cases e)) (fun k _ hk => last_block _ _ _ _ k hk)
  · exact (turned_last (T2.out.trans (turned_of_below ((Below.refl _ _).alloc (Nat.le_refl _) _) p b)) _ _).drew
set_option maxRecDepth 100000 in
set_option maxHeartbeats 2000000 in
theorem do1_any (p b N M : Nat) (g : FS) (left : Int) (h1 : -1 ≤ left) (h2 : left ≤ 9223372036854775807) (hN : N < maxLen) (hM : M ≤ 1099511627775) (va : Value) (nn : Int) (xn tn dt : ByteArray) (pa : Option Addr) (pn pc : Nat) (pk : List Int) (hx : xn.size ≤ maxLen) (hto : tn.size ≤ maxLen) (hsz : ((g xn).getD noFile).1.size + dt.size ≤ 1099511627776) (w : World) (hD : DiskAt w p b g left N) (hA : RefAt w va g M) :
    Calls Try.prog 33 #[.pointer (some ⟨p, 0, none⟩), .agg #[va, .int .i64 left], .agg #[.int .i64 1, .int .i64 nn, .string xn, .string tn, .string dt, .slice pa pn pc]] w (DoPost w p b ⟨1, nn, xn, tn, dt, .slice pa pn pc, pk⟩ g left N M) := by
  obtain ⟨l0, ⟨a, c, rfl, _⟩, _, _⟩ := id hA
  obtain ⟨n, hn⟩ : ∃ n, n = l0.length := ⟨_, rfl⟩
  rw [← hn] at hA ⊢
  clear hn
  have hap := fun W h => sync_disk p b N g left h1 h2 hN xn hx W h
  have har := fun W h => rsync_any (.slice a n c) g M hM left h1 h2 xn W h
  obtain ⟨code, hcode⟩ : ∃ code, code = codeA ⟨1, nn, xn, tn, dt, .slice pa pn pc, pk⟩ g left := ⟨_, rfl⟩
  have hc2 : code = beginE true g left xn [xn] := hcode
  rw [← hc2] at hap har
  obtain ⟨G, hG⟩ : ∃ G, G = syncG code g xn := ⟨_, rfl⟩
  rw [← hG] at hap har
  obtain ⟨lf, hlf⟩ : ∃ lf, lf = leftE code left := ⟨_, rfl⟩
  rw [← hlf] at hap har
  have hfin : ∀ v' W', DiskAt W' p b G lf (N + 1) → RefAt W' v' G (M + 1) → Turned w W' p b → DoPost w p b ⟨1, nn, xn, tn, dt, .slice pa pn pc, pk⟩ g left N M (.returned (.tuple #[.int .i64 code, .int .i64 code, .agg #[v', .int .i64 lf]])) W' := fun v' W' x1 x2 x3 => by
    have e1 : leftA ⟨1, nn, xn, tn, dt, .slice pa pn pc, pk⟩ g left = lf := by rw [hlf, hcode]; rfl
    have e2 : filesA ⟨1, nn, xn, tn, dt, .slice pa pn pc, pk⟩ g left = G := by rw [hG, hcode]; rfl
    refine ⟨v', ?_, ?_, ?_, x3⟩
    · rw [e1, ← hcode]
    · rw [e1, e2]; exact x1
    · rw [e2]; exact x2
  have hplt := hD.lt
  have hblt := hD.files.lt
  have HAP := Lib.hid hap
  have HAR := Lib.hid har
  have HFIN := Lib.hid hfin
  have HD := Lib.hid hD
  have HA := Lib.hid hA
  clear hap har hfin hD hA hc2 hcode hG hlf hsz hN hM
  go_enter Try.func33, Try.ntmps33
  go_upto_region 9 with (first
    | (go_at_call 24; refine (HAP.out _ (HD.out.below ((((Below.refl _ _).alloc (Nat.le_refl _) _).alloc (by simp) _).alloc (by simp; omega) _))).mono ?_; rintro e w1 ⟨rfl, hd1, ht1⟩; have K1 := Lib.hid ((doBlk_new w (.slice a n c) (.int .i64 1) (.int .i64 nn) (.string xn) (.string tn) (.string dt) (.slice pa pn pc) left).turned ht1 hplt hblt); have D1 := Lib.hid hd1; have T1 := Lib.hid ((turned_of_below ((((Below.refl _ _).alloc (Nat.le_refl _) _).alloc (by simp) _).alloc (by simp; omega) _) p b).trans ht1); clear hd1 ht1; obtain ⟨x00, x01, y0, y1, y2, y3, y4, y5, z0, z1, z2, z3, zs⟩ := K1.out.cells)
    | (go_at_call 48; refine (HAR.out _ (HA.out.turned HD.out T1.out)).mono ?_; rintro e w2 ⟨v', rfl, hr2, hb2⟩; have K2 := Lib.hid (K1.out.below hb2); have D2 := Lib.hid (D1.out.below hb2); have T2 := Lib.hid (T1.out.trans (turned_of_below hb2 p b)); obtain ⟨l2, ⟨a2, c2, rfl, _⟩, _, _⟩ := id hr2; have R2 := Lib.hid hr2; clear hr2 hb2; obtain ⟨x00, x01, y0, y1, y2, y3, y4, y5, z0, z1, z2, z3, zs⟩ := K2.out.cells))
  have K3 := Lib.hid (K2.out.below ((Below.refl _ _).alloc (Nat.le_refl _) (.cells #[.slice a2 l2.length c2, .int .i64 lf] 57)))
  clear x00 x01 y0 y1 y2 y3 y4 y5 z0 z1 z2 z3 zs
  obtain ⟨x00, x01, y0, y1, y2, y3, y4, y5, z0, z1, z2, z3, zs⟩ := K3.out.cells
  go_region
  go_wp2
  obtain ⟨r0, r1, r2⟩ := last_cells K3.out.2.2.1 (.slice a2 l2.length c2) (.int .i64 lf)
  refine bodyPost_ret (v := .tuple #[.int .i64 code, .int .i64 code, .agg #[.slice a2 l2.length c2, .int .i64 lf]]) (by simp [results, Try.results33, go_sem, r1, r2]) rfl (HFIN.out _ _ ?_ ?_ ?_)
  · have hd := D2.out.below ((Below.refl _ _).alloc (Nat.le_refl _) (.cells #[.slice a2 l2.length c2, .int .i64 lf] 57))
    exact ⟨(last_block _ _ _ _ p (by omega)).trans hd.cells, hd.files.of_heap (last_block _ _ _ _ b (by omega))⟩
  · exact (R2.out.below ((Below.refl _ _).alloc (Nat.le_refl _) (.cells #[.slice a2 l2.length c2, .int .i64 lf] 57))).beside (no_string K3.out.2.2.1 (fun _ e => by cases e) (fun _ e => by cases e)) (fun k _ hk => last_block _ _ _ _ k hk)
  · exact (turned_last (T2.out.trans (turned_of_below ((Below.refl _ _).alloc (Nat.le_refl _) _) p b)) _ _).drew
set_option maxRecDepth 100000 in
set_option maxHeartbeats 2000000 in
theorem do2_any (p b N M : Nat) (g : FS) (left : Int) (h1 : -1 ≤ left) (h2 : left ≤ 9223372036854775807) (hN : N < maxLen) (hM : M ≤ 1099511627775) (va : Value) (nn : Int) (xn tn dt : ByteArray) (pa : Option Addr) (pn pc : Nat) (pk : List Int) (hx : xn.size ≤ maxLen) (hto : tn.size ≤ maxLen) (hsz : ((g xn).getD noFile).1.size + dt.size ≤ 1099511627776) (w : World) (hD : DiskAt w p b g left N) (hA : RefAt w va g M) :
    Calls Try.prog 33 #[.pointer (some ⟨p, 0, none⟩), .agg #[va, .int .i64 left], .agg #[.int .i64 2, .int .i64 nn, .string xn, .string tn, .string dt, .slice pa pn pc]] w (DoPost w p b ⟨2, nn, xn, tn, dt, .slice pa pn pc, pk⟩ g left N M) := by
  obtain ⟨l0, ⟨a, c, rfl, _⟩, _, _⟩ := id hA
  obtain ⟨n, hn⟩ : ∃ n, n = l0.length := ⟨_, rfl⟩
  rw [← hn] at hA ⊢
  clear hn
  have hap := fun W h => rename_disk p b N g left h1 h2 hN xn tn hx hto W h
  have har := fun W h => rrename_any (.slice a n c) g M hM left h1 h2 xn tn W h
  obtain ⟨code, hcode⟩ : ∃ code, code = codeA ⟨2, nn, xn, tn, dt, .slice pa pn pc, pk⟩ g left := ⟨_, rfl⟩
  have hc2 : code = beginE true g left xn [xn, tn] := hcode
  rw [← hc2] at hap har
  obtain ⟨G, hG⟩ : ∃ G, G = renameG code g xn tn := ⟨_, rfl⟩
  rw [← hG] at hap har
  obtain ⟨lf, hlf⟩ : ∃ lf, lf = leftE code left := ⟨_, rfl⟩
  rw [← hlf] at hap har
  have hfin : ∀ v' W', DiskAt W' p b G lf (N + 1) → RefAt W' v' G (M + 1) → Turned w W' p b → DoPost w p b ⟨2, nn, xn, tn, dt, .slice pa pn pc, pk⟩ g left N M (.returned (.tuple #[.int .i64 code, .int .i64 code, .agg #[v', .int .i64 lf]])) W' := fun v' W' x1 x2 x3 => by
    have e1 : leftA ⟨2, nn, xn, tn, dt, .slice pa pn pc, pk⟩ g left = lf := by rw [hlf, hcode]; rfl
    have e2 : filesA ⟨2, nn, xn, tn, dt, .slice pa pn pc, pk⟩ g left = G := by rw [hG, hcode]; rfl
    refine ⟨v', ?_, ?_, ?_, x3⟩
    · rw [e1, ← hcode]
    · rw [e1, e2]; exact x1
    · rw [e2]; exact x2
  have hplt := hD.lt
  have hblt := hD.files.lt
  have HAP := Lib.hid hap
  have HAR := Lib.hid har
  have HFIN := Lib.hid hfin
  have HD := Lib.hid hD
  have HA := Lib.hid hA
  clear hap har hfin hD hA hc2 hcode hG hlf hsz hN hM
  go_enter Try.func33, Try.ntmps33
  go_upto_region 13 with (first
    | (go_at_call 49; refine (HAP.out _ (HD.out.below ((((Below.refl _ _).alloc (Nat.le_refl _) _).alloc (by simp) _).alloc (by simp; omega) _))).mono ?_; rintro e w1 ⟨rfl, hd1, ht1⟩; have K1 := Lib.hid ((doBlk_new w (.slice a n c) (.int .i64 2) (.int .i64 nn) (.string xn) (.string tn) (.string dt) (.slice pa pn pc) left).turned ht1 hplt hblt); have D1 := Lib.hid hd1; have T1 := Lib.hid ((turned_of_below ((((Below.refl _ _).alloc (Nat.le_refl _) _).alloc (by simp) _).alloc (by simp; omega) _) p b).trans ht1); clear hd1 ht1; obtain ⟨x00, x01, y0, y1, y2, y3, y4, y5, z0, z1, z2, z3, zs⟩ := K1.out.cells)
    | (go_at_call 50; refine (HAR.out _ (HA.out.turned HD.out T1.out)).mono ?_; rintro e w2 ⟨v', rfl, hr2, hb2⟩; have K2 := Lib.hid (K1.out.below hb2); have D2 := Lib.hid (D1.out.below hb2); have T2 := Lib.hid (T1.out.trans (turned_of_below hb2 p b)); obtain ⟨l2, ⟨a2, c2, rfl, _⟩, _, _⟩ := id hr2; have R2 := Lib.hid hr2; clear hr2 hb2; obtain ⟨x00, x01, y0, y1, y2, y3, y4, y5, z0, z1, z2, z3, zs⟩ := K2.out.cells))
  have K3 := Lib.hid (K2.out.below ((Below.refl _ _).alloc (Nat.le_refl _) (.cells #[.slice a2 l2.length c2, .int .i64 lf] 57)))
  clear x00 x01 y0 y1 y2 y3 y4 y5 z0 z1 z2 z3 zs
  obtain ⟨x00, x01, y0, y1, y2, y3, y4, y5, z0, z1, z2, z3, zs⟩ := K3.out.cells
  go_region
  go_wp2
  obtain ⟨r0, r1, r2⟩ := last_cells K3.out.2.2.1 (.slice a2 l2.length c2) (.int .i64 lf)
  refine bodyPost_ret (v := .tuple #[.int .i64 code, .int .i64 code, .agg #[.slice a2 l2.length c2, .int .i64 lf]]) (by simp [results, Try.results33, go_sem, r1, r2]) rfl (HFIN.out _ _ ?_ ?_ ?_)
  · have hd := D2.out.below ((Below.refl _ _).alloc (Nat.le_refl _) (.cells #[.slice a2 l2.length c2, .int .i64 lf] 57))
    exact ⟨(last_block _ _ _ _ p (by omega)).trans hd.cells, hd.files.of_heap (last_block _ _ _ _ b (by omega))⟩
  · exact (R2.out.below ((Below.refl _ _).alloc (Nat.le_refl _) (.cells #[.slice a2 l2.length c2, .int .i64 lf] 57))).beside (no_string K3.out.2.2.1 (fun _ e => by cases e) (fun _ e => by cases e)) (fun k _ hk => last_block _ _ _ _ k hk)
  · exact (turned_last (T2.out.trans (turned_of_below ((Below.refl _ _).alloc (Nat.le_refl _) _) p b)) _ _).drew
set_option maxRecDepth 100000 in
set_option maxHeartbeats 2000000 in
theorem do3_any (p b N M : Nat) (g : FS) (left : Int) (h1 : -1 ≤ left) (h2 : left ≤ 9223372036854775807) (hN : N < maxLen) (hM : M ≤ 1099511627775) (va : Value) (nn : Int) (xn tn dt : ByteArray) (pa : Option Addr) (pn pc : Nat) (pk : List Int) (hx : xn.size ≤ maxLen) (hto : tn.size ≤ maxLen) (hsz : ((g xn).getD noFile).1.size + dt.size ≤ 1099511627776) (w : World) (hD : DiskAt w p b g left N) (hA : RefAt w va g M) :
    Calls Try.prog 33 #[.pointer (some ⟨p, 0, none⟩), .agg #[va, .int .i64 left], .agg #[.int .i64 3, .int .i64 nn, .string xn, .string tn, .string dt, .slice pa pn pc]] w (DoPost w p b ⟨3, nn, xn, tn, dt, .slice pa pn pc, pk⟩ g left N M) := by
  obtain ⟨l0, ⟨a, c, rfl, _⟩, _, _⟩ := id hA
  obtain ⟨n, hn⟩ : ∃ n, n = l0.length := ⟨_, rfl⟩
  rw [← hn] at hA ⊢
  clear hn
  have hap := fun W h => remove_disk1 p b N g left h1 h2 xn hx W h
  have har := fun W h => rremove1_any (.slice a n c) g M hM left h1 h2 xn W h
  obtain ⟨code, hcode⟩ : ∃ code, code = codeA ⟨3, nn, xn, tn, dt, .slice pa pn pc, pk⟩ g left := ⟨_, rfl⟩
  have hc2 : code = beginE true g left xn [xn] := hcode
  rw [← hc2] at hap har
  obtain ⟨G, hG⟩ : ∃ G, G = removeG code g xn := ⟨_, rfl⟩
  rw [← hG] at hap har
  obtain ⟨lf, hlf⟩ : ∃ lf, lf = leftE code left := ⟨_, rfl⟩
  rw [← hlf] at hap har
  have hfin : ∀ v' W', DiskAt W' p b G lf (N + 1) → RefAt W' v' G (M + 1) → Turned w W' p b → DoPost w p b ⟨3, nn, xn, tn, dt, .slice pa pn pc, pk⟩ g left N M (.returned (.tuple #[.int .i64 code, .int .i64 code, .agg #[v', .int .i64 lf]])) W' := fun v' W' x1 x2 x3 => by
    have e1 : leftA ⟨3, nn, xn, tn, dt, .slice pa pn pc, pk⟩ g left = lf := by rw [hlf, hcode]; rfl
    have e2 : filesA ⟨3, nn, xn, tn, dt, .slice pa pn pc, pk⟩ g left = G := by rw [hG, hcode]; rfl
    refine ⟨v', ?_, ?_, ?_, x3⟩
    · rw [e1, ← hcode]
    · rw [e1, e2]; exact x1
    · rw [e2]; exact x2
  have hplt := hD.lt
  have hblt := hD.files.lt
  have HAP := Lib.hid hap
  have HAR := Lib.hid har
  have HFIN := Lib.hid hfin
  have HD := Lib.hid hD
  have HA := Lib.hid hA
  clear hap har hfin hD hA hc2 hcode hG hlf hsz hN hM
  go_enter Try.func33, Try.ntmps33
  go_upto_region 17 with (first
    | (go_at_call 26; refine (HAP.out _ (HD.out.below ((((Below.refl _ _).alloc (Nat.le_refl _) _).alloc (by simp) _).alloc (by simp; omega) _))).mono ?_; rintro e w1 ⟨rfl, hd1, ht1⟩; have K1 := Lib.hid ((doBlk_new w (.slice a n c) (.int .i64 3) (.int .i64 nn) (.string xn) (.string tn) (.string dt) (.slice pa pn pc) left).turned ht1 hplt hblt); have D1 := Lib.hid hd1; have T1 := Lib.hid ((turned_of_below ((((Below.refl _ _).alloc (Nat.le_refl _) _).alloc (by simp) _).alloc (by simp; omega) _) p b).trans ht1); clear hd1 ht1; obtain ⟨x00, x01, y0, y1, y2, y3, y4, y5, z0, z1, z2, z3, zs⟩ := K1.out.cells)
    | (go_at_call 51; refine (HAR.out _ (HA.out.turned HD.out T1.out)).mono ?_; rintro e w2 ⟨v', rfl, hr2, hb2⟩; have K2 := Lib.hid (K1.out.below hb2); have D2 := Lib.hid (D1.out.below hb2); have T2 := Lib.hid (T1.out.trans (turned_of_below hb2 p b)); obtain ⟨l2, ⟨a2, c2, rfl, _⟩, _, _⟩ := id hr2; have R2 := Lib.hid hr2; clear hr2 hb2; obtain ⟨x00, x01, y0, y1, y2, y3, y4, y5, z0, z1, z2, z3, zs⟩ := K2.out.cells))
  have K3 := Lib.hid (K2.out.below ((Below.refl _ _).alloc (Nat.le_refl _) (.cells #[.slice a2 l2.length c2, .int .i64 lf] 57)))
  clear x00 x01 y0 y1 y2 y3 y4 y5 z0 z1 z2 z3 zs
  obtain ⟨x00, x01, y0, y1, y2, y3, y4, y5, z0, z1, z2, z3, zs⟩ := K3.out.cells
  go_region
  go_wp2
  obtain ⟨r0, r1, r2⟩ := last_cells K3.out.2.2.1 (.slice a2 l2.length c2) (.int .i64 lf)
  refine bodyPost_ret (v := .tuple #[.int .i64 code, .int .i64 code, .agg #[.slice a2 l2.length c2, .int .i64 lf]]) (by simp [results, Try.results33, go_sem, r1, r2]) rfl (HFIN.out _ _ ?_ ?_ ?_)
  · have hd := D2.out.below ((Below.refl _ _).alloc (Nat.le_refl _) (.cells #[.slice a2 l2.length c2, .int .i64 lf] 57))
    exact ⟨(last_block _ _ _ _ p (by omega)).trans hd.cells, hd.files.of_heap (last_block _ _ _ _ b (by omega))⟩
  · exact (R2.out.below ((Below.refl _ _).alloc (Nat.le_refl _) (.cells #[.slice a2 l2.length c2, .int .i64 lf] 57))).beside (no_string K3.out.2.2.1 (fun _ e => by cases e) (fun _ e => by cases e)) (fun k _ hk => last_block _ _ _ _ k hk)
  · exact (turned_last (T2.out.trans (turned_of_below ((Below.refl _ _).alloc (Nat.le_refl _) _) p b)) _ _).drew
set_option maxRecDepth 100000 in
set_option maxHeartbeats 2000000 in
theorem do4_any (p b N M : Nat) (g : FS) (left : Int) (va : Value) (nn : Int) (xn tn dt : ByteArray) (pa : Option Addr) (pn pc : Nat) (pk : List Int) (w : World) (hD : DiskAt w p b g left N) (hA : RefAt w va g M) :
    Calls Try.prog 33 #[.pointer (some ⟨p, 0, none⟩), .agg #[va, .int .i64 left], .agg #[.int .i64 4, .int .i64 nn, .string xn, .string tn, .string dt, .slice pa pn pc]] w (DoPost w p b ⟨4, nn, xn, tn, dt, .slice pa pn pc, pk⟩ g left N M) := by
  obtain ⟨l0, ⟨a, c, rfl, _⟩, _, _⟩ := id hA
  obtain ⟨n, hn⟩ : ∃ n, n = l0.length := ⟨_, rfl⟩
  rw [← hn] at hA ⊢
  clear hn
  have hap := fun W h => budget_disk p b N g left nn W h
  have har := fun W h => rbudget_any (.slice a n c) g M left nn W h
  obtain ⟨lf, hlf⟩ : ∃ lf, lf = max nn (-1) := ⟨_, rfl⟩
  rw [← hlf] at hap har
  have hfin : ∀ W', DiskAt W' p b g lf N → RefAt W' (.slice a n c) g M → Turned w W' p b → DoPost w p b ⟨4, nn, xn, tn, dt, .slice pa pn pc, pk⟩ g left N M (.returned (.tuple #[.int .i64 0, .int .i64 0, .agg #[.slice a n c, .int .i64 lf]])) W' := fun W' x1 x2 x3 => by
    have e1 : leftA ⟨4, nn, xn, tn, dt, .slice pa pn pc, pk⟩ g left = lf := by rw [hlf]; rfl
    refine ⟨_, ?_, ?_, x2.mono (by omega), x3⟩
    · rw [e1]; rfl
    · rw [e1]; exact ⟨x1.cells, x1.files.mono (by omega)⟩
  have hplt := hD.lt
  have hblt := hD.files.lt
  have HAP := Lib.hid hap
  have HAR := Lib.hid har
  have HFIN := Lib.hid hfin
  have HD := Lib.hid hD
  have HA := Lib.hid hA
  clear hap har hfin hD hA hlf
  go_enter Try.func33, Try.ntmps33
  go_wp2_with (first
    | (go_at_call 22; refine (HAP.out _ (HD.out.below ((((Below.refl _ _).alloc (Nat.le_refl _) _).alloc (by simp) _).alloc (by simp; omega) _))).mono ?_; rintro e w1 ⟨rfl, hd1, ht1⟩; have K1 := Lib.hid ((doBlk_new w (.slice a n c) (.int .i64 4) (.int .i64 nn) (.string xn) (.string tn) (.string dt) (.slice pa pn pc) left).turned ht1 hplt hblt); have D1 := Lib.hid hd1; have T1 := Lib.hid ((turned_of_below ((((Below.refl _ _).alloc (Nat.le_refl _) _).alloc (by simp) _).alloc (by simp; omega) _) p b).trans ht1); clear hd1 ht1; obtain ⟨x00, x01, y0, y1, y2, y3, y4, y5, z0, z1, z2, z3, zs⟩ := K1.out.cells)
    | (go_at_call 52; refine (HAR.out _ (HA.out.turned HD.out T1.out)).mono ?_; rintro e w2 ⟨rfl, hb2⟩; have K2 := Lib.hid (K1.out.below hb2); have D2 := Lib.hid (D1.out.below hb2); have T2 := Lib.hid (T1.out.trans (turned_of_below hb2 p b)); have R2 := Lib.hid ((HA.out.turned HD.out T1.out).below hb2); clear hb2; obtain ⟨x00, x01, y0, y1, y2, y3, y4, y5, z0, z1, z2, z3, zs⟩ := K2.out.cells))
  obtain ⟨r0, r1, r2⟩ := last_cells K2.out.2.2.1 (.slice a n c) (.int .i64 lf)
  refine bodyPost_ret (v := .tuple #[.int .i64 0, .int .i64 0, .agg #[.slice a n c, .int .i64 lf]]) (by simp [results, Try.results33, go_sem, r1, r2]) rfl (HFIN.out _ ?_ ?_ ?_)
  · exact ⟨(last_block _ _ _ _ p (by omega)).trans D2.out.cells, D2.out.files.of_heap (last_block _ _ _ _ b (by omega))⟩
  · exact R2.out.beside (no_string K2.out.2.2.1 (fun _ e => by cases e) (fun _ e => by cases e)) (fun k _ hk => last_block _ _ _ _ k hk)
  · exact turned_last T2.out _ _
set_option maxRecDepth 100000 in
set_option maxHeartbeats 2000000 in
theorem do5_any (p b N M : Nat) (g : FS) (left kd : Int) (hkd : kd ≠ 0 ∧ kd ≠ 1 ∧ kd ≠ 2 ∧ kd ≠ 3 ∧ kd ≠ 4) (va : Value) (nn : Int) (xn tn dt : ByteArray) (pa : Option Addr) (pn pc : Nat) (pk : List Int) (w : World) (hD : DiskAt w p b g left N) (hA : RefAt w va g M) :
    Calls Try.prog 33 #[.pointer (some ⟨p, 0, none⟩), .agg #[va, .int .i64 left], .agg #[.int .i64 kd, .int .i64 nn, .string xn, .string tn, .string dt, .slice pa pn pc]] w (DoPost w p b ⟨kd, nn, xn, tn, dt, .slice pa pn pc, pk⟩ g left N M) := by
  obtain ⟨l0, ⟨a, c, rfl, _⟩, _, _⟩ := id hA
  obtain ⟨n, hn⟩ : ∃ n, n = l0.length := ⟨_, rfl⟩
  rw [← hn] at hA ⊢
  clear hn
  obtain ⟨k0, k1, k2, k3, k4⟩ := hkd
  have hfin : ∀ W', DiskAt W' p b g left N → RefAt W' (.slice a n c) g M → Turned w W' p b → DoPost w p b ⟨kd, nn, xn, tn, dt, .slice pa pn pc, pk⟩ g left N M (.returned (.tuple #[.int .i64 0, .int .i64 0, .agg #[.slice a n c, .int .i64 left]])) W' := fun W' x1 x2 x3 => by
    have e0 : codeA ⟨kd, nn, xn, tn, dt, .slice pa pn pc, pk⟩ g left = 0 := by simp [codeA, k0, k1, k2, k3]
    have e1 : leftA ⟨kd, nn, xn, tn, dt, .slice pa pn pc, pk⟩ g left = left := by simp [leftA, k0, k1, k2, k3, k4]
    have e2 : filesA ⟨kd, nn, xn, tn, dt, .slice pa pn pc, pk⟩ g left = g := by simp [filesA, k0, k1, k2, k3]
    refine ⟨.slice a n c, ?_, ?_, ?_, x3⟩
    · rw [e1, e0]
    · rw [e1, e2]; exact ⟨x1.cells, x1.files.mono (by omega)⟩
    · rw [e2]; exact x2.mono (by omega)
  have t0 : (kd == 0) = false := by simpa using k0
  have t1 : (kd == 1) = false := by simpa using k1
  have t2 : (kd == 2) = false := by simpa using k2
  have t3 : (kd == 3) = false := by simpa using k3
  have t4 : (kd == 4) = false := by simpa using k4
  have hplt := hD.lt
  have hblt := hD.files.lt
  have HFIN := Lib.hid hfin
  have HD := Lib.hid hD
  have HA := Lib.hid hA
  clear hfin hD hA k0 k1 k2 k3 k4
  go_enter Try.func33, Try.ntmps33
  go_upto_region 21 with (fail)
  have K3 := Lib.hid (doBlk_new w (.slice a n c) (.int .i64 kd) (.int .i64 nn) (.string xn) (.string tn) (.string dt) (.slice pa pn pc) left)
  go_region
  go_wp2
  have hbw : Below w.heap.size w ((((w.alloc (.cells #[.slice a n c, .int .i64 left] 57)).alloc (.cells #[.int .i64 kd, .int .i64 nn, .string xn, .string tn, .string dt, .slice pa pn pc] 51)).alloc (.cells #[.slice a n c, .int .i64 left] 57)).drew) := ((((Below.refl _ _).alloc (Nat.le_refl _) _).alloc (by simp) _).alloc (by simp; omega) _).drew
  exact bodyPost_ret (v := .tuple #[.int .i64 0, .int .i64 0, .agg #[.slice a n c, .int .i64 left]]) (by simp [results, Try.results33, go_sem]) rfl (HFIN.out _ (HD.out.below hbw) (HA.out.below hbw) (turned_of_below hbw p b))
end Go.Proofs.Ytpllcnpcplbobaa
