import Derived.Test.YtpllcnpcplbobaaDo2
namespace Go.Proofs.Ytpllcnpcplbobaa
open Go.RowKit Go.Maps
set_option linter.unusedVariables false
/-! 'do' over a reference's disk that is new each time: what it does to the disk. -/
def DoPostB (w : World) (p b : Nat) (x : ActL) (g : FS) (left : Int) (N : Nat) (e : Ending) (w' : World) : Prop :=
  ∃ c1 c2 v, e = .returned (.tuple #[.int .i64 c1, .int .i64 c2, v]) ∧ DiskAt w' p b (filesA x g left) (leftA x g left) (N + 1) ∧ Turned w w' p b
set_option maxRecDepth 100000 in
set_option maxHeartbeats 2000000 in
theorem dob0_any (p b N : Nat) (g : FS) (left : Int) (h1 : -1 ≤ left) (h2 : left ≤ 9223372036854775807) (hN : N < maxLen) (nn : Int) (xn tn dt : ByteArray) (pa : Option Addr) (pn pc : Nat) (pk : List Int) (hx : xn.size ≤ maxLen) (hto : tn.size ≤ maxLen) (hsz : ((g xn).getD noFile).1.size + dt.size ≤ 1099511627776) (w : World) (hD : DiskAt w p b g left N) :
    Calls Try.prog 33 #[.pointer (some ⟨p, 0, none⟩), .agg #[.slice none 0 0, .int .i64 (-1)], .agg #[.int .i64 0, .int .i64 nn, .string xn, .string tn, .string dt, .slice pa pn pc]] w (DoPostB w p b ⟨0, nn, xn, tn, dt, .slice pa pn pc, pk⟩ g left N) := by
  have hA := refAt_nil w
  have hsz2 : (((fun _ => none : FS) xn).getD noFile).1.size + dt.size ≤ 1099511627776 := by show 0 + dt.size ≤ _; omega
  have hap := fun W h => append_disk p b N g left h1 h2 hN xn dt hx hsz W h
  have har := fun W h => rappend_any (.slice none 0 0) (fun _ => none) 0 (by omega) (-1) (by omega) (by omega) xn dt hsz2 W h
  obtain ⟨code, hcode⟩ : ∃ code, code = codeA ⟨0, nn, xn, tn, dt, .slice pa pn pc, pk⟩ g left := ⟨_, rfl⟩
  have hc2 : code = beginE false g left xn [xn] := hcode
  rw [← hc2] at hap
  obtain ⟨G, hG⟩ : ∃ G, G = appendG code g xn dt := ⟨_, rfl⟩
  rw [← hG] at hap
  obtain ⟨lf, hlf⟩ : ∃ lf, lf = leftE code left := ⟨_, rfl⟩
  rw [← hlf] at hap
  obtain ⟨code2, hcode2⟩ : ∃ c, c = beginE false (fun _ => none) (-1) xn [xn] := ⟨_, rfl⟩
  obtain ⟨lf2, hlf2⟩ : ∃ c, c = leftE code2 (-1) := ⟨_, rfl⟩
  rw [← hcode2, ← hlf2] at har
  clear hcode2 hlf2
  have hfin : ∀ v' W', DiskAt W' p b G lf (N + 1) → Turned w W' p b → DoPostB w p b ⟨0, nn, xn, tn, dt, .slice pa pn pc, pk⟩ g left N (.returned (.tuple #[.int .i64 code, .int .i64 code2, .agg #[v', .int .i64 lf2]])) W' := fun v' W' x1 x3 => by
    have e1 : leftA ⟨0, nn, xn, tn, dt, .slice pa pn pc, pk⟩ g left = lf := by rw [hlf, hcode]; rfl
    have e2 : filesA ⟨0, nn, xn, tn, dt, .slice pa pn pc, pk⟩ g left = G := by rw [hG, hcode]; rfl
    refine ⟨_, _, _, rfl, ?_, x3⟩
    rw [e1, e2]; exact x1
  have hplt := hD.lt
  have hblt := hD.files.lt
  have HAP := Lib.hid hap
  have HAR := Lib.hid har
  have HFIN := Lib.hid hfin
  have HD := Lib.hid hD
  have HA := Lib.hid hA
  clear hap har hfin hD hA hc2 hcode hG hlf hsz hsz2 hN
  go_enter Try.func33, Try.ntmps33
  go_upto_region 5 with (first
    | (go_at_call 23; refine (HAP.out _ (HD.out.below ((((Below.refl _ _).alloc (Nat.le_refl _) _).alloc (by simp) _).alloc (by simp; omega) _))).mono ?_; rintro e w1 ⟨rfl, hd1, ht1⟩; have K1 := Lib.hid ((doBlk_new w (.slice none 0 0) (.int .i64 0) (.int .i64 nn) (.string xn) (.string tn) (.string dt) (.slice pa pn pc) (-1)).turned ht1 hplt hblt); have D1 := Lib.hid hd1; have T1 := Lib.hid ((turned_of_below ((((Below.refl _ _).alloc (Nat.le_refl _) _).alloc (by simp) _).alloc (by simp; omega) _) p b).trans ht1); clear hd1 ht1; obtain ⟨x00, x01, y0, y1, y2, y3, y4, y5, z0, z1, z2, z3, zs⟩ := K1.out.cells)
    | (go_at_call 47; refine (HAR.out _ (HA.out.turned HD.out T1.out)).mono ?_; rintro e w2 ⟨v', rfl, hr2, hb2⟩; have K2 := Lib.hid (K1.out.below hb2); have D2 := Lib.hid (D1.out.below hb2); have T2 := Lib.hid (T1.out.trans (turned_of_below hb2 p b)); obtain ⟨l2, ⟨a2, c2, rfl, _⟩, _, _⟩ := id hr2; have R2 := Lib.hid hr2; clear hr2 hb2; obtain ⟨x00, x01, y0, y1, y2, y3, y4, y5, z0, z1, z2, z3, zs⟩ := K2.out.cells))
  have K3 := Lib.hid (K2.out.below ((Below.refl _ _).alloc (Nat.le_refl _) (.cells #[.slice a2 l2.length c2, .int .i64 lf2] 57)))
  clear x00 x01 y0 y1 y2 y3 y4 y5 z0 z1 z2 z3 zs
  obtain ⟨x00, x01, y0, y1, y2, y3, y4, y5, z0, z1, z2, z3, zs⟩ := K3.out.cells
  go_region
  go_wp2
  obtain ⟨r0, r1, r2⟩ := last_cells K3.out.2.2.1 (.slice a2 l2.length c2) (.int .i64 lf2)
  refine bodyPost_ret (v := .tuple #[.int .i64 code, .int .i64 code2, .agg #[.slice a2 l2.length c2, .int .i64 lf2]]) (by simp [results, Try.results33, go_sem, r1, r2]) rfl (HFIN.out _ _ ?_ ?_)
  · have hd := D2.out.below ((Below.refl _ _).alloc (Nat.le_refl _) (.cells #[.slice a2 l2.length c2, .int .i64 lf2] 57))
    exact ⟨(last_block _ _ _ _ p (by omega)).trans hd.cells, hd.files.of_heap (last_block _ _ _ _ b (by omega))⟩
  · exact (turned_last (T2.out.trans (turned_of_below ((Below.refl _ _).alloc (Nat.le_refl _) _) p b)) _ _).drew
set_option maxRecDepth 100000 in
set_option maxHeartbeats 2000000 in
theorem dob1_any (p b N : Nat) (g : FS) (left : Int) (h1 : -1 ≤ left) (h2 : left ≤ 9223372036854775807) (hN : N < maxLen) (nn : Int) (xn tn dt : ByteArray) (pa : Option Addr) (pn pc : Nat) (pk : List Int) (hx : xn.size ≤ maxLen) (hto : tn.size ≤ maxLen) (hsz : ((g xn).getD noFile).1.size + dt.size ≤ 1099511627776) (w : World) (hD : DiskAt w p b g left N) :
    Calls Try.prog 33 #[.pointer (some ⟨p, 0, none⟩), .agg #[.slice none 0 0, .int .i64 (-1)], .agg #[.int .i64 1, .int .i64 nn, .string xn, .string tn, .string dt, .slice pa pn pc]] w (DoPostB w p b ⟨1, nn, xn, tn, dt, .slice pa pn pc, pk⟩ g left N) := by
  have hA := refAt_nil w
  have hsz2 : (((fun _ => none : FS) xn).getD noFile).1.size + dt.size ≤ 1099511627776 := by show 0 + dt.size ≤ _; omega
  have hap := fun W h => sync_disk p b N g left h1 h2 hN xn hx W h
  have har := fun W h => rsync_any (.slice none 0 0) (fun _ => none) 0 (by omega) (-1) (by omega) (by omega) xn W h
  obtain ⟨code, hcode⟩ : ∃ code, code = codeA ⟨1, nn, xn, tn, dt, .slice pa pn pc, pk⟩ g left := ⟨_, rfl⟩
  have hc2 : code = beginE true g left xn [xn] := hcode
  rw [← hc2] at hap
  obtain ⟨G, hG⟩ : ∃ G, G = syncG code g xn := ⟨_, rfl⟩
  rw [← hG] at hap
  obtain ⟨lf, hlf⟩ : ∃ lf, lf = leftE code left := ⟨_, rfl⟩
  rw [← hlf] at hap
  obtain ⟨code2, hcode2⟩ : ∃ c, c = beginE true (fun _ => none) (-1) xn [xn] := ⟨_, rfl⟩
  obtain ⟨lf2, hlf2⟩ : ∃ c, c = leftE code2 (-1) := ⟨_, rfl⟩
  rw [← hcode2, ← hlf2] at har
  clear hcode2 hlf2
  have hfin : ∀ v' W', DiskAt W' p b G lf (N + 1) → Turned w W' p b → DoPostB w p b ⟨1, nn, xn, tn, dt, .slice pa pn pc, pk⟩ g left N (.returned (.tuple #[.int .i64 code, .int .i64 code2, .agg #[v', .int .i64 lf2]])) W' := fun v' W' x1 x3 => by
    have e1 : leftA ⟨1, nn, xn, tn, dt, .slice pa pn pc, pk⟩ g left = lf := by rw [hlf, hcode]; rfl
    have e2 : filesA ⟨1, nn, xn, tn, dt, .slice pa pn pc, pk⟩ g left = G := by rw [hG, hcode]; rfl
    refine ⟨_, _, _, rfl, ?_, x3⟩
    rw [e1, e2]; exact x1
  have hplt := hD.lt
  have hblt := hD.files.lt
  have HAP := Lib.hid hap
  have HAR := Lib.hid har
  have HFIN := Lib.hid hfin
  have HD := Lib.hid hD
  have HA := Lib.hid hA
  clear hap har hfin hD hA hc2 hcode hG hlf hsz hsz2 hN
  go_enter Try.func33, Try.ntmps33
  go_upto_region 9 with (first
    | (go_at_call 24; refine (HAP.out _ (HD.out.below ((((Below.refl _ _).alloc (Nat.le_refl _) _).alloc (by simp) _).alloc (by simp; omega) _))).mono ?_; rintro e w1 ⟨rfl, hd1, ht1⟩; have K1 := Lib.hid ((doBlk_new w (.slice none 0 0) (.int .i64 1) (.int .i64 nn) (.string xn) (.string tn) (.string dt) (.slice pa pn pc) (-1)).turned ht1 hplt hblt); have D1 := Lib.hid hd1; have T1 := Lib.hid ((turned_of_below ((((Below.refl _ _).alloc (Nat.le_refl _) _).alloc (by simp) _).alloc (by simp; omega) _) p b).trans ht1); clear hd1 ht1; obtain ⟨x00, x01, y0, y1, y2, y3, y4, y5, z0, z1, z2, z3, zs⟩ := K1.out.cells)
    | (go_at_call 48; refine (HAR.out _ (HA.out.turned HD.out T1.out)).mono ?_; rintro e w2 ⟨v', rfl, hr2, hb2⟩; have K2 := Lib.hid (K1.out.below hb2); have D2 := Lib.hid (D1.out.below hb2); have T2 := Lib.hid (T1.out.trans (turned_of_below hb2 p b)); obtain ⟨l2, ⟨a2, c2, rfl, _⟩, _, _⟩ := id hr2; have R2 := Lib.hid hr2; clear hr2 hb2; obtain ⟨x00, x01, y0, y1, y2, y3, y4, y5, z0, z1, z2, z3, zs⟩ := K2.out.cells))
  have K3 := Lib.hid (K2.out.below ((Below.refl _ _).alloc (Nat.le_refl _) (.cells #[.slice a2 l2.length c2, .int .i64 lf2] 57)))
  clear x00 x01 y0 y1 y2 y3 y4 y5 z0 z1 z2 z3 zs
  obtain ⟨x00, x01, y0, y1, y2, y3, y4, y5, z0, z1, z2, z3, zs⟩ := K3.out.cells
  go_region
  go_wp2
  obtain ⟨r0, r1, r2⟩ := last_cells K3.out.2.2.1 (.slice a2 l2.length c2) (.int .i64 lf2)
  refine bodyPost_ret (v := .tuple #[.int .i64 code, .int .i64 code2, .agg #[.slice a2 l2.length c2, .int .i64 lf2]]) (by simp [results, Try.results33, go_sem, r1, r2]) rfl (HFIN.out _ _ ?_ ?_)
  · have hd := D2.out.below ((Below.refl _ _).alloc (Nat.le_refl _) (.cells #[.slice a2 l2.length c2, .int .i64 lf2] 57))
    exact ⟨(last_block _ _ _ _ p (by omega)).trans hd.cells, hd.files.of_heap (last_block _ _ _ _ b (by omega))⟩
  · exact (turned_last (T2.out.trans (turned_of_below ((Below.refl _ _).alloc (Nat.le_refl _) _) p b)) _ _).drew
set_option maxRecDepth 100000 in
set_option maxHeartbeats 2000000 in
theorem dob2_any (p b N : Nat) (g : FS) (left : Int) (h1 : -1 ≤ left) (h2 : left ≤ 9223372036854775807) (hN : N < maxLen) (nn : Int) (xn tn dt : ByteArray) (pa : Option Addr) (pn pc : Nat) (pk : List Int) (hx : xn.size ≤ maxLen) (hto : tn.size ≤ maxLen) (hsz : ((g xn).getD noFile).1.size + dt.size ≤ 1099511627776) (w : World) (hD : DiskAt w p b g left N) :
    Calls Try.prog 33 #[.pointer (some ⟨p, 0, none⟩), .agg #[.slice none 0 0, .int .i64 (-1)], .agg #[.int .i64 2, .int .i64 nn, .string xn, .string tn, .string dt, .slice pa pn pc]] w (DoPostB w p b ⟨2, nn, xn, tn, dt, .slice pa pn pc, pk⟩ g left N) := by
  have hA := refAt_nil w
  have hsz2 : (((fun _ => none : FS) xn).getD noFile).1.size + dt.size ≤ 1099511627776 := by show 0 + dt.size ≤ _; omega
  have hap := fun W h => rename_disk p b N g left h1 h2 hN xn tn hx hto W h
  have har := fun W h => rrename_any (.slice none 0 0) (fun _ => none) 0 (by omega) (-1) (by omega) (by omega) xn tn W h
  obtain ⟨code, hcode⟩ : ∃ code, code = codeA ⟨2, nn, xn, tn, dt, .slice pa pn pc, pk⟩ g left := ⟨_, rfl⟩
  have hc2 : code = beginE true g left xn [xn, tn] := hcode
  rw [← hc2] at hap
  obtain ⟨G, hG⟩ : ∃ G, G = renameG code g xn tn := ⟨_, rfl⟩
  rw [← hG] at hap
  obtain ⟨lf, hlf⟩ : ∃ lf, lf = leftE code left := ⟨_, rfl⟩
  rw [← hlf] at hap
  obtain ⟨code2, hcode2⟩ : ∃ c, c = beginE true (fun _ => none) (-1) xn [xn, tn] := ⟨_, rfl⟩
  obtain ⟨lf2, hlf2⟩ : ∃ c, c = leftE code2 (-1) := ⟨_, rfl⟩
  rw [← hcode2, ← hlf2] at har
  clear hcode2 hlf2
  have hfin : ∀ v' W', DiskAt W' p b G lf (N + 1) → Turned w W' p b → DoPostB w p b ⟨2, nn, xn, tn, dt, .slice pa pn pc, pk⟩ g left N (.returned (.tuple #[.int .i64 code, .int .i64 code2, .agg #[v', .int .i64 lf2]])) W' := fun v' W' x1 x3 => by
    have e1 : leftA ⟨2, nn, xn, tn, dt, .slice pa pn pc, pk⟩ g left = lf := by rw [hlf, hcode]; rfl
    have e2 : filesA ⟨2, nn, xn, tn, dt, .slice pa pn pc, pk⟩ g left = G := by rw [hG, hcode]; rfl
    refine ⟨_, _, _, rfl, ?_, x3⟩
    rw [e1, e2]; exact x1
  have hplt := hD.lt
  have hblt := hD.files.lt
  have HAP := Lib.hid hap
  have HAR := Lib.hid har
  have HFIN := Lib.hid hfin
  have HD := Lib.hid hD
  have HA := Lib.hid hA
  clear hap har hfin hD hA hc2 hcode hG hlf hsz hsz2 hN
  go_enter Try.func33, Try.ntmps33
  go_upto_region 13 with (first
    | (go_at_call 49; refine (HAP.out _ (HD.out.below ((((Below.refl _ _).alloc (Nat.le_refl _) _).alloc (by simp) _).alloc (by simp; omega) _))).mono ?_; rintro e w1 ⟨rfl, hd1, ht1⟩; have K1 := Lib.hid ((doBlk_new w (.slice none 0 0) (.int .i64 2) (.int .i64 nn) (.string xn) (.string tn) (.string dt) (.slice pa pn pc) (-1)).turned ht1 hplt hblt); have D1 := Lib.hid hd1; have T1 := Lib.hid ((turned_of_below ((((Below.refl _ _).alloc (Nat.le_refl _) _).alloc (by simp) _).alloc (by simp; omega) _) p b).trans ht1); clear hd1 ht1; obtain ⟨x00, x01, y0, y1, y2, y3, y4, y5, z0, z1, z2, z3, zs⟩ := K1.out.cells)
    | (go_at_call 50; refine (HAR.out _ (HA.out.turned HD.out T1.out)).mono ?_; rintro e w2 ⟨v', rfl, hr2, hb2⟩; have K2 := Lib.hid (K1.out.below hb2); have D2 := Lib.hid (D1.out.below hb2); have T2 := Lib.hid (T1.out.trans (turned_of_below hb2 p b)); obtain ⟨l2, ⟨a2, c2, rfl, _⟩, _, _⟩ := id hr2; have R2 := Lib.hid hr2; clear hr2 hb2; obtain ⟨x00, x01, y0, y1, y2, y3, y4, y5, z0, z1, z2, z3, zs⟩ := K2.out.cells))
  have K3 := Lib.hid (K2.out.below ((Below.refl _ _).alloc (Nat.le_refl _) (.cells #[.slice a2 l2.length c2, .int .i64 lf2] 57)))
  clear x00 x01 y0 y1 y2 y3 y4 y5 z0 z1 z2 z3 zs
  obtain ⟨x00, x01, y0, y1, y2, y3, y4, y5, z0, z1, z2, z3, zs⟩ := K3.out.cells
  go_region
  go_wp2
  obtain ⟨r0, r1, r2⟩ := last_cells K3.out.2.2.1 (.slice a2 l2.length c2) (.int .i64 lf2)
  refine bodyPost_ret (v := .tuple #[.int .i64 code, .int .i64 code2, .agg #[.slice a2 l2.length c2, .int .i64 lf2]]) (by simp [results, Try.results33, go_sem, r1, r2]) rfl (HFIN.out _ _ ?_ ?_)
  · have hd := D2.out.below ((Below.refl _ _).alloc (Nat.le_refl _) (.cells #[.slice a2 l2.length c2, .int .i64 lf2] 57))
    exact ⟨(last_block _ _ _ _ p (by omega)).trans hd.cells, hd.files.of_heap (last_block _ _ _ _ b (by omega))⟩
  · exact (turned_last (T2.out.trans (turned_of_below ((Below.refl _ _).alloc (Nat.le_refl _) _) p b)) _ _).drew
set_option maxRecDepth 100000 in
set_option maxHeartbeats 2000000 in
theorem dob3_any (p b N : Nat) (g : FS) (left : Int) (h1 : -1 ≤ left) (h2 : left ≤ 9223372036854775807) (hN : N < maxLen) (nn : Int) (xn tn dt : ByteArray) (pa : Option Addr) (pn pc : Nat) (pk : List Int) (hx : xn.size ≤ maxLen) (hto : tn.size ≤ maxLen) (hsz : ((g xn).getD noFile).1.size + dt.size ≤ 1099511627776) (w : World) (hD : DiskAt w p b g left N) :
    Calls Try.prog 33 #[.pointer (some ⟨p, 0, none⟩), .agg #[.slice none 0 0, .int .i64 (-1)], .agg #[.int .i64 3, .int .i64 nn, .string xn, .string tn, .string dt, .slice pa pn pc]] w (DoPostB w p b ⟨3, nn, xn, tn, dt, .slice pa pn pc, pk⟩ g left N) := by
  have hA := refAt_nil w
  have hsz2 : (((fun _ => none : FS) xn).getD noFile).1.size + dt.size ≤ 1099511627776 := by show 0 + dt.size ≤ _; omega
  have hap := fun W h => remove_disk1 p b N g left h1 h2 xn hx W h
  have har := fun W h => rremove1_any (.slice none 0 0) (fun _ => none) 0 (by omega) (-1) (by omega) (by omega) xn W h
  obtain ⟨code, hcode⟩ : ∃ code, code = codeA ⟨3, nn, xn, tn, dt, .slice pa pn pc, pk⟩ g left := ⟨_, rfl⟩
  have hc2 : code = beginE true g left xn [xn] := hcode
  rw [← hc2] at hap
  obtain ⟨G, hG⟩ : ∃ G, G = removeG code g xn := ⟨_, rfl⟩
  rw [← hG] at hap
  obtain ⟨lf, hlf⟩ : ∃ lf, lf = leftE code left := ⟨_, rfl⟩
  rw [← hlf] at hap
  obtain ⟨code2, hcode2⟩ : ∃ c, c = beginE true (fun _ => none) (-1) xn [xn] := ⟨_, rfl⟩
  obtain ⟨lf2, hlf2⟩ : ∃ c, c = leftE code2 (-1) := ⟨_, rfl⟩
  rw [← hcode2, ← hlf2] at har
  clear hcode2 hlf2
  have hfin : ∀ v' W', DiskAt W' p b G lf (N + 1) → Turned w W' p b → DoPostB w p b ⟨3, nn, xn, tn, dt, .slice pa pn pc, pk⟩ g left N (.returned (.tuple #[.int .i64 code, .int .i64 code2, .agg #[v', .int .i64 lf2]])) W' := fun v' W' x1 x3 => by
    have e1 : leftA ⟨3, nn, xn, tn, dt, .slice pa pn pc, pk⟩ g left = lf := by rw [hlf, hcode]; rfl
    have e2 : filesA ⟨3, nn, xn, tn, dt, .slice pa pn pc, pk⟩ g left = G := by rw [hG, hcode]; rfl
    refine ⟨_, _, _, rfl, ?_, x3⟩
    rw [e1, e2]; exact x1
  have hplt := hD.lt
  have hblt := hD.files.lt
  have HAP := Lib.hid hap
  have HAR := Lib.hid har
  have HFIN := Lib.hid hfin
  have HD := Lib.hid hD
  have HA := Lib.hid hA
  clear hap har hfin hD hA hc2 hcode hG hlf hsz hsz2 hN
  go_enter Try.func33, Try.ntmps33
  go_upto_region 17 with (first
    | (go_at_call 26; refine (HAP.out _ (HD.out.below ((((Below.refl _ _).alloc (Nat.le_refl _) _).alloc (by simp) _).alloc (by simp; omega) _))).mono ?_; rintro e w1 ⟨rfl, hd1, ht1⟩; have K1 := Lib.hid ((doBlk_new w (.slice none 0 0) (.int .i64 3) (.int .i64 nn) (.string xn) (.string tn) (.string dt) (.slice pa pn pc) (-1)).turned ht1 hplt hblt); have D1 := Lib.hid hd1; have T1 := Lib.hid ((turned_of_below ((((Below.refl _ _).alloc (Nat.le_refl _) _).alloc (by simp) _).alloc (by simp; omega) _) p b).trans ht1); clear hd1 ht1; obtain ⟨x00, x01, y0, y1, y2, y3, y4, y5, z0, z1, z2, z3, zs⟩ := K1.out.cells)
    | (go_at_call 51; refine (HAR.out _ (HA.out.turned HD.out T1.out)).mono ?_; rintro e w2 ⟨v', rfl, hr2, hb2⟩; have K2 := Lib.hid (K1.out.below hb2); have D2 := Lib.hid (D1.out.below hb2); have T2 := Lib.hid (T1.out.trans (turned_of_below hb2 p b)); obtain ⟨l2, ⟨a2, c2, rfl, _⟩, _, _⟩ := id hr2; have R2 := Lib.hid hr2; clear hr2 hb2; obtain ⟨x00, x01, y0, y1, y2, y3, y4, y5, z0, z1, z2, z3, zs⟩ := K2.out.cells))
  have K3 := Lib.hid (K2.out.below ((Below.refl _ _).alloc (Nat.le_refl _) (.cells #[.slice a2 l2.length c2, .int .i64 lf2] 57)))
  clear x00 x01 y0 y1 y2 y3 y4 y5 z0 z1 z2 z3 zs
  obtain ⟨x00, x01, y0, y1, y2, y3, y4, y5, z0, z1, z2, z3, zs⟩ := K3.out.cells
  go_region
  go_wp2
  obtain ⟨r0, r1, r2⟩ := last_cells K3.out.2.2.1 (.slice a2 l2.length c2) (.int .i64 lf2)
  refine bodyPost_ret (v := .tuple #[.int .i64 code, .int .i64 code2, .agg #[.slice a2 l2.length c2, .int .i64 lf2]]) (by simp [results, Try.results33, go_sem, r1, r2]) rfl (HFIN.out _ _ ?_ ?_)
  · have hd := D2.out.below ((Below.refl _ _).alloc (Nat.le_refl _) (.cells #[.slice a2 l2.length c2, .int .i64 lf2] 57))
    exact ⟨(last_block _ _ _ _ p (by omega)).trans hd.cells, hd.files.of_heap (last_block _ _ _ _ b (by omega))⟩
  · exact (turned_last (T2.out.trans (turned_of_below ((Below.refl _ _).alloc (Nat.le_refl _) _) p b)) _ _).drew
set_option maxRecDepth 100000 in
set_option maxHeartbeats 2000000 in
theorem dob5_any (p b N : Nat) (g : FS) (left kd : Int) (hkd : kd ≠ 0 ∧ kd ≠ 1 ∧ kd ≠ 2 ∧ kd ≠ 3 ∧ kd ≠ 4) (nn : Int) (xn tn dt : ByteArray) (pa : Option Addr) (pn pc : Nat) (pk : List Int) (w : World) (hD : DiskAt w p b g left N) :
    Calls Try.prog 33 #[.pointer (some ⟨p, 0, none⟩), .agg #[.slice none 0 0, .int .i64 (-1)], .agg #[.int .i64 kd, .int .i64 nn, .string xn, .string tn, .string dt, .slice pa pn pc]] w (DoPostB w p b ⟨kd, nn, xn, tn, dt, .slice pa pn pc, pk⟩ g left N) := by
  obtain ⟨k0, k1, k2, k3, k4⟩ := hkd
  have hfin : ∀ W', DiskAt W' p b g left N → Turned w W' p b → DoPostB w p b ⟨kd, nn, xn, tn, dt, .slice pa pn pc, pk⟩ g left N (.returned (.tuple #[.int .i64 0, .int .i64 0, .agg #[.slice none 0 0, .int .i64 (-1)]])) W' := fun W' x1 x3 => by
    have e0 : codeA ⟨kd, nn, xn, tn, dt, .slice pa pn pc, pk⟩ g left = 0 := by simp [codeA, k0, k1, k2, k3]
    have e1 : leftA ⟨kd, nn, xn, tn, dt, .slice pa pn pc, pk⟩ g left = left := by simp [leftA, k0, k1, k2, k3, k4]
    have e2 : filesA ⟨kd, nn, xn, tn, dt, .slice pa pn pc, pk⟩ g left = g := by simp [filesA, k0, k1, k2, k3]
    refine ⟨_, _, _, rfl, ?_, x3⟩
    rw [e1, e2]; exact ⟨x1.cells, x1.files.mono (by omega)⟩
  have t0 : (kd == 0) = false := by simpa using k0
  have t1 : (kd == 1) = false := by simpa using k1
  have t2 : (kd == 2) = false := by simpa using k2
  have t3 : (kd == 3) = false := by simpa using k3
  have t4 : (kd == 4) = false := by simpa using k4
  have hplt := hD.lt
  have hblt := hD.files.lt
  have HFIN := Lib.hid hfin
  have HD := Lib.hid hD
  clear hfin hD k0 k1 k2 k3 k4
  go_enter Try.func33, Try.ntmps33
  go_upto_region 21 with (fail)
  have K3 := Lib.hid (doBlk_new w (.slice none 0 0) (.int .i64 kd) (.int .i64 nn) (.string xn) (.string tn) (.string dt) (.slice pa pn pc) (-1))
  go_region
  go_wp2
  have hbw : Below w.heap.size w ((((w.alloc (.cells #[.slice none 0 0, .int .i64 (-1)] 57)).alloc (.cells #[.int .i64 kd, .int .i64 nn, .string xn, .string tn, .string dt, .slice pa pn pc] 51)).alloc (.cells #[.slice none 0 0, .int .i64 (-1)] 57)).drew) := ((((Below.refl _ _).alloc (Nat.le_refl _) _).alloc (by simp) _).alloc (by simp; omega) _).drew
  exact bodyPost_ret (v := .tuple #[.int .i64 0, .int .i64 0, .agg #[.slice none 0 0, .int .i64 (-1)]]) (by simp [results, Try.results33, go_sem]) rfl (HFIN.out _ (HD.out.below hbw) (turned_of_below hbw p b))
set_option maxRecDepth 100000 in
theorem dob_any (p b N : Nat) (g : FS) (left : Int) (h1 : -1 ≤ left) (h2 : left ≤ 9223372036854775807) (hN : N < maxLen) (kd nn : Int) (h4 : kd ≠ 4) (xn tn dt : ByteArray) (pa : Option Addr) (pn pc : Nat) (pk : List Int) (hx : xn.size ≤ maxLen) (hto : tn.size ≤ maxLen)
    (hsz : ((g xn).getD noFile).1.size + dt.size ≤ 1099511627776) (w : World) (hD : DiskAt w p b g left N) :
    Calls Try.prog 33 #[.pointer (some ⟨p, 0, none⟩), .agg #[.slice none 0 0, .int .i64 (-1)], .agg #[.int .i64 kd, .int .i64 nn, .string xn, .string tn, .string dt, .slice pa pn pc]] w (DoPostB w p b ⟨kd, nn, xn, tn, dt, .slice pa pn pc, pk⟩ g left N) := by
  by_cases k0 : kd = 0
  · subst k0; exact dob0_any p b N g left h1 h2 hN nn xn tn dt pa pn pc pk hx hto hsz w hD
  by_cases k1 : kd = 1
  · subst k1; exact dob1_any p b N g left h1 h2 hN nn xn tn dt pa pn pc pk hx hto hsz w hD
  by_cases k2 : kd = 2
  · subst k2; exact dob2_any p b N g left h1 h2 hN nn xn tn dt pa pn pc pk hx hto hsz w hD
  by_cases k3 : kd = 3
  · subst k3; exact dob3_any p b N g left h1 h2 hN nn xn tn dt pa pn pc pk hx hto hsz w hD
  · exact dob5_any p b N g left kd ⟨k0, k1, k2, k3, h4⟩ nn xn tn dt pa pn pc pk w hD
end Go.Proofs.Ytpllcnpcplbobaa
