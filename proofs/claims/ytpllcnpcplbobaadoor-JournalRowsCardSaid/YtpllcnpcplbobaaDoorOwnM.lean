import Derived.Test.YtpllcnpcplbobaaDoorBase
import Derived.Lib.ConvBytes
import Derived.Lib.AppendStr
import Derived.Laws.IdiomCopy
/-! A row of the call's own whose block may bear a conversion's mark ('[]byte(s)'), and one element appended to it. -/
namespace Go.Proofs.YtpllcnpcplbobaaDoor
open Go.RowKit
def OwnM (w : World) (base : Nat) (e : TypeId) (v : Value) (xs : List Value) : Prop :=
  ∃ (g cap : Nat) (cur : Array Value) (fr : Nat × Nat), v = .slice (some ⟨g, 0, none⟩) xs.length cap ∧ base ≤ g ∧ w.heap[g]? = some (.cells cur e fr) ∧ (fr = (0, 0) ∨ cur.size ≤ fr.1) ∧
    xs.length ≤ cap ∧ cap ≤ maxLen ∧ cur.size = cap ∧ cur.toList.take xs.length = xs
theorem OwnM.kept {w w' : World} {base : Nat} {e : TypeId} {v : Value} {xs : List Value} (h : OwnM w base e v xs) {row : Option Nat} (hg : w.grownBy w' row) (hne : v.ownBlock ≠ row) : OwnM w' base e v xs := by
  obtain ⟨g, cap, cur, fr, rfl, hb, hh, r⟩ := h
  refine ⟨g, cap, cur, fr, rfl, hb, ?_, r⟩
  rw [hg.block g (Array.getElem?_eq_some_iff.1 hh).1 (by simpa [Value.ownBlock] using hne)]
  exact hh
theorem OwnM.below {w w' : World} {base : Nat} {e : TypeId} {v : Value} {xs : List Value} (h : OwnM w base e v xs) (hb : Below w.heap.size w w') : OwnM w' base e v xs := by
  obtain ⟨g, cap, cur, fr, rfl, hbb, hh, r⟩ := h
  exact ⟨g, cap, cur, fr, rfl, hbb, (hb.block g (Array.getElem?_eq_some_iff.1 hh).1).trans hh, r⟩
theorem OwnM.alloc {w : World} {base : Nat} {e : TypeId} {v : Value} {xs : List Value} (h : OwnM w base e v xs) (o : Obj) : OwnM (w.alloc o) base e v xs :=
  h.below ((Below.refl _ _).alloc (Nat.le_refl _) _)
theorem OwnM.cell {w : World} {base : Nat} {e : TypeId} {v : Value} {xs : List Value} (h : OwnM w base e v xs) : ∃ g cap, v = .slice (some ⟨g, 0, none⟩) xs.length cap ∧ base ≤ g ∧ xs.length ≤ cap ∧ g < w.heap.size ∧
    ∀ i u, xs[i]? = some u → w.cell? ⟨g, i, none⟩ = some u := by
  obtain ⟨g, cap, cur, fr, rfl, hb, hh, _, hl, _, _, ht⟩ := h
  refine ⟨g, cap, rfl, hb, hl, (Array.getElem?_eq_some_iff.1 hh).1, fun i u hu => ?_⟩
  rw [cell_of_row w g i cur e fr hh]
  rw [← ht, List.getElem?_take] at hu
  split at hu
  · simpa using hu
  · cases hu
theorem OwnM.bytes (w : World) (base : Nat) (e : TypeId) (s : ByteArray) (hb : base ≤ w.heap.size) (hs : s.size ≤ maxLen) :
    OwnM (Lib.bytesWorld w e s) base e (.slice (some ⟨w.heap.size, 0, none⟩) s.size (grownCap w s.size 0 e)) (Lib.strCells s) := by
  have hge := grownCap_ge w s.size 0 e
  have hsz : (Lib.bytesCells w e s).size = grownCap w s.size 0 e := by
    have : s.data.size = s.size := rfl
    simp [Lib.bytesCells, this]; omega
  refine ⟨w.heap.size, _, _, _, by rw [Lib.strCells_length], hb, Lib.bytesWorld_at_new w e s, .inr (Nat.le_refl _), by rw [Lib.strCells_length]; exact hge, grownCap_le_maxLen w _ 0 e hs, hsz, ?_⟩
  have e1 : (Lib.bytesCells w e s).toList = Lib.strCells s ++ List.replicate (grownCap w s.size 0 e - s.size) (.int .u8 0) := by
    simp [Lib.bytesCells, Lib.strCells]
  rw [e1]
  exact List.take_left
section
variable {P : Program}
theorem run_append_m (w : World) (base : Nat) (t ty e : TypeId) (i : TypeInfo) (z : Value) (ht : P.underlying t = some (.slice e)) (hi : P.info? e = some i) (hz : i.zero = some z) (hs1 : i.size = 1) (hzs : z.cells.size = 1)
    (v : Value) (xs : List Value) (hown : OwnM w base e v xs) (a : Addr) (c : Nat) (x : Value) (hx : w.cell? a = some x) (h1 : x.oneCell' = true)
    (h63 : xs.length + 1 ≤ maxLen) (hbytes : (xs.length + 1) * i.bytes ≤ 140737488355328) (hbase : base ≤ w.heap.size) :
    ∃ v' w', (Builtin.append_ #[t, t] ty #[v, .slice (some a) 1 c]).run P w = .ok v' w' ∧ OwnM w' base e v' (xs ++ [x]) ∧ w.grownBy w' v.ownBlock ∧ (v'.ownBlock = v.ownBlock ∨ v'.ownBlock = some w.heap.size) := by
  have hnews : ∀ j u, [x][j]? = some u → w.cell? (a.add j) = some u := by
    intro j u hj
    match j, hj with
    | 0, hj => simp at hj; subst hj; rw [show a.add 0 = a from by simp [Addr.add]]; exact hx
  have hcell := hown.cell
  obtain ⟨g, cap, cur, fr, rfl, hb, hh, hfr, hl, hcm, hcs, htake⟩ := hown
  have hcells : ∀ j u, xs[j]? = some u → w.cell? ((⟨g, 0, none⟩ : Addr).add j) = some u := by
    obtain ⟨g', cap', he, _, _, _, hc⟩ := hcell
    injection he with he; injection he with he; injection he with he
    subst he
    intro j u hu
    have hadd : (⟨g, 0, none⟩ : Addr).add j = ⟨g, j, none⟩ := by unfold Addr.add; split <;> simp_all
    rw [hadd]; exact hc j u hu
  by_cases hroom : xs.length + 1 ≤ cap
  · have hf := run_firstCells_some (P := P) w i.size 1 a 1 c [x] (by simp [hs1]) hnews
    have hn : xs.length < cur.size := by omega
    have hcx : ∃ u, w.cell? ⟨g, xs.length, none⟩ = some u := ⟨cur[xs.length], by rw [cell_of_row w g _ cur e fr hh]; simp [hn]⟩
    have hfz : w.frozen? ⟨g, xs.length, none⟩ = false := by
      simp only [World.frozen?, hh]
      rcases hfr with rfl | hfr
      · simp
      · simp; intro h; omega
    have hst := run_storeCells_cells (P := P) g xs.length [x] 0 w (by intro j hj; simp at hj; subst hj; obtain ⟨u, hu⟩ := hcx; simp [hu]) (by intro j hj; simp at hj; subst hj; simpa using hfz) (by intro u hu; simp at hu; subst hu; exact h1)
    refine ⟨.slice (some ⟨g, 0, none⟩) (xs.length + 1) cap, w.setCell ⟨g, xs.length, none⟩ x, ?_, ?_, ?_, .inl rfl⟩
    · have hst' : (storeCells ⟨g, xs.length, none⟩ [x]).run P w = .ok () (w.setCell ⟨g, xs.length, none⟩ x) := hst
      have hf' : (Builtin.firstCells 1 1 (.slice (some a) 1 c)).run P w = .ok #[x] w := by rw [hs1] at hf; exact hf
      simp [Builtin.append_, run_underlying ht, sizeOf, typeInfo, hi, hs1, Builtin.lenOf, hroom, Addr.add_lit]
      rw [hf']
      simp [hst']
    · refine ⟨g, cap, cur.setIfInBounds xs.length x, fr, by simp, hb, ?_, ?_, by simpa using hroom, hcm, by simpa using hcs, ?_⟩
      · have hlt := (Array.getElem?_eq_some_iff.1 hh).1
        have hv := (Array.getElem?_eq_some_iff.1 hh).2
        simp only [World.setCell, Array.getElem?_modify, if_true]
        rw [hh]; rfl
      · simpa using hfr
      · simp only [Array.toList_setIfInBounds, List.length_append, List.length_singleton]
        rw [List.take_succ_eq_append_getElem (by simpa using hn), List.take_set_of_le (Nat.le_refl _), htake]
        simp
    · exact ⟨rfl, rfl, rfl, by simp [World.setCell], fun k _ hk => heap_setCell_other _ _ _ _ (by simp only [Value.ownBlock, ne_eq, Option.some.injEq] at hk; exact hk)⟩
  · have hr := run_append_grow (P := P) w t ty e i z ht hi hz ⟨g, 0, none⟩ xs.length cap xs (by simp [hs1]) hcells a 1 c [x] (by simp [hs1]) hnews (by omega) (by simp only [maxLen] at h63; omega) (growslice_fits (by omega) hbytes)
    have hge := grownCap_ge w (xs.length + 1) cap e
    refine ⟨_, _, hr, ⟨w.heap.size, _, _, (0, 0), by simp, hbase, heap_alloc_new w.drew _, .inl rfl, by simpa using hge, grownCap_le_maxLen w _ cap e h63, ?_, ?_⟩, ⟨rfl, rfl, rfl, by simp, fun k hk _ => heap_alloc_old w.drew _ hk⟩, .inr rfl⟩
    · simp only [Array.size_append, List.size_toArray, size_zeroCells, hzs, List.length_singleton]
      omega
    · have e2 : (xs.toArray ++ [x].toArray ++ Builtin.zeroCells z.cells (grownCap w (xs.length + 1) cap e - (xs.length + 1))).toList = (xs ++ [x]) ++ (Builtin.zeroCells z.cells (grownCap w (xs.length + 1) cap e - (xs.length + 1))).toList := by simp
      rw [e2]
      exact List.take_left
theorem wpList_append_m (w : World) {ops : Array Oper} {rest : List Oper} {o : Oper} {a : Act} {Q : Exit → Act → World → Prop} (hgd : o.guard = none) (s x : Operand) (t : TypeId)
    (ho : o.op = .call { callee := .builtin .append, args := #[s, x], argTypes := #[t, t] })
    (base : Nat) (e : TypeId) (i : TypeInfo) (z : Value) (ht : P.underlying t = some (.slice e)) (hi : P.info? e = some i) (hz : i.zero = some z) (hs1 : i.size = 1) (hzs : z.cells.size = 1)
    (v : Value) (xs : List Value) (hs : a.eval s = v) (hown : OwnM w base e v xs) (ad : Addr) (c : Nat) (u : Value) (hx : a.eval x = .slice (some ad) 1 c) (hu : w.cell? ad = some u) (h1 : u.oneCell' = true)
    (h63 : xs.length + 1 ≤ maxLen) (hbytes : (xs.length + 1) * i.bytes ≤ 140737488355328) (hbase : base ≤ w.heap.size)
    (h : ∀ v' w', OwnM w' base e v' (xs ++ [u]) → w.grownBy w' v.ownBlock → wpList P ops Q rest (a.put o.dst v') w') : wpList P ops Q (o :: rest) a w := by
  refine wpList_plain hgd fun K hK => ?_
  obtain ⟨v', w', hr, h2, h3, _⟩ := run_append_m (P := P) w base t o.type e i z ht hi hz hs1 hzs v xs hown ad c u hu h1 h63 hbytes hbase
  unfold Oper.wp execOp
  simp only [ho, resolve, invoke, builtin, Sem.run_bind, Sem.run_pure, Result.andThen_ok, List.map_toArray, List.map_cons, List.map_nil, hs, hx, hr]
  exact hK _ _ (h v' w' h2 h3)
end
end Go.Proofs.YtpllcnpcplbobaaDoor
