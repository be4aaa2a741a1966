import Derived.Test.YtpllcnpcplbobaaDoorOwnM
import Derived.RegionTactic
/-! The append of one element, that says more: what cells are as they were; at a step of a region that draws. -/
namespace Go.Proofs.YtpllcnpcplbobaaDoor
open Go.RowKit
section
variable {P : Program}
theorem run_append_k (w : World) (base : Nat) (t ty e : TypeId) (i : TypeInfo) (z : Value) (ht : P.underlying t = some (.slice e)) (hi : P.info? e = some i) (hz : i.zero = some z) (hs1 : i.size = 1) (hzs : z.cells.size = 1)
    (v : Value) (xs : List Value) (hown : OwnM w base e v xs) (a : Addr) (c : Nat) (x : Value) (hx : w.cell? a = some x) (h1 : x.oneCell' = true)
    (h63 : xs.length + 1 ≤ maxLen) (hbytes : (xs.length + 1) * i.bytes ≤ 140737488355328) (hbase : base ≤ w.heap.size) :
    ∃ v' w', (Builtin.append_ #[t, t] ty #[v, .slice (some a) 1 c]).run P w = .ok v' w' ∧ OwnM w' base e v' (xs ++ [x]) ∧ w.grownBy w' v.ownBlock ∧ (v'.ownBlock = v.ownBlock ∨ v'.ownBlock = some w.heap.size) ∧
      ∀ (b k : Nat) (u : Value), w.cell? ⟨b, k, none⟩ = some u → (v.ownBlock ≠ some b ∨ k < xs.length) → w'.cell? ⟨b, k, none⟩ = some u := by
  have hnews : ∀ j u, [x][j]? = some u → w.cell? (a.add j) = some u := by
    intro j u hj
    match j, hj with
    | 0, hj => simp at hj; subst hj; rw [show a.add 0 = a from by simp [Addr.add]]; exact hx
  have hcell := hown.cell
  obtain ⟨g, cap, cur, fr, rfl, hb, hh, hfr, hl, hcm, hcs, htake⟩ := hown
  have hcells : ∀ j u, xs[j]? = some u → w.cell? ((⟨g, 0, none⟩ : Addr).add j) = some u := by
    obtain ⟨g', cap', he, _, _, _, hc⟩ := hcell
    injection he with he; injection he with he; injection he with he
    subst he
    intro j u hu
    have hadd : (⟨g, 0, none⟩ : Addr).add j = ⟨g, j, none⟩ := by unfold Addr.add; split <;> simp_all
    rw [hadd]; exact hc j u hu
  by_cases hroom : xs.length + 1 ≤ cap
  · have hf := run_firstCells_some (P := P) w i.size 1 a 1 c [x] (by simp [hs1]) hnews
    have hn : xs.length < cur.size := by omega
    have hcx : ∃ u, w.cell? ⟨g, xs.length, none⟩ = some u := ⟨cur[xs.length], by rw [cell_of_row w g _ cur e fr hh]; simp [hn]⟩
    have hfz : w.frozen? ⟨g, xs.length, none⟩ = false := by
      simp only [World.frozen?, hh]
      rcases hfr with rfl | hfr
      · simp
      · simp; intro h; omega
    have hst := run_storeCells_cells (P := P) g xs.length [x] 0 w (by intro j hj; simp at hj; subst hj; obtain ⟨u, hu⟩ := hcx; simp [hu]) (by intro j hj; simp at hj; subst hj; simpa using hfz) (by intro u hu; simp at hu; subst hu; exact h1)
    refine ⟨.slice (some ⟨g, 0, none⟩) (xs.length + 1) cap, w.setCell ⟨g, xs.length, none⟩ x, ?_, ?_, ?_, .inl rfl, ?_⟩
    · have hst' : (storeCells ⟨g, xs.length, none⟩ [x]).run P w = .ok () (w.setCell ⟨g, xs.length, none⟩ x) := hst
      have hf' : (Builtin.firstCells 1 1 (.slice (some a) 1 c)).run P w = .ok #[x] w := by rw [hs1] at hf; exact hf
      simp [Builtin.append_, run_underlying ht, sizeOf, typeInfo, hi, hs1, Builtin.lenOf, hroom, Addr.add_lit]
      rw [hf']
      simp [hst']
    · refine ⟨g, cap, cur.setIfInBounds xs.length x, fr, by simp, hb, ?_, ?_, by simpa using hroom, hcm, by simpa using hcs, ?_⟩
      · have hlt := (Array.getElem?_eq_some_iff.1 hh).1
        have hv := (Array.getElem?_eq_some_iff.1 hh).2
        simp only [World.setCell, Array.getElem?_modify, if_true]
        rw [hh]; rfl
      · simpa using hfr
      · simp only [Array.toList_setIfInBounds, List.length_append, List.length_singleton]
        rw [List.take_succ_eq_append_getElem (by simpa using hn), List.take_set_of_le (Nat.le_refl _), htake]
        simp
    · exact ⟨rfl, rfl, rfl, by simp [World.setCell], fun k _ hk => heap_setCell_other _ _ _ _ (by simp only [Value.ownBlock, ne_eq, Option.some.injEq] at hk; exact hk)⟩
    · intro b k u hu hd
      rw [World.cell?_setCell_other _ _ _ _ (by
        intro e
        simp only [Addr.mk.injEq] at e
        rcases hd with hd | hd
        · exact hd (by simp [Value.ownBlock, e.1])
        · omega)]
      exact hu
  · have hr := run_append_grow (P := P) w t ty e i z ht hi hz ⟨g, 0, none⟩ xs.length cap xs (by simp [hs1]) hcells a 1 c [x] (by simp [hs1]) hnews (by omega) (by simp only [maxLen] at h63; omega) (growslice_fits (by omega) hbytes)
    have hge := grownCap_ge w (xs.length + 1) cap e
    refine ⟨_, _, hr, ⟨w.heap.size, _, _, (0, 0), by simp, hbase, heap_alloc_new w.drew _, .inl rfl, by simpa using hge, grownCap_le_maxLen w _ cap e h63, ?_, ?_⟩, ⟨rfl, rfl, rfl, by simp, fun k hk _ => heap_alloc_old w.drew _ hk⟩, .inr rfl, fun b k u hu _ => (World.cell?_alloc_lt _ _ _ (World.block_lt_of_cell? w _ hu)).trans hu⟩
    · simp only [Array.size_append, List.size_toArray, size_zeroCells, hzs, List.length_singleton]
      omega
    · have e2 : (xs.toArray ++ [x].toArray ++ Builtin.zeroCells z.cells (grownCap w (xs.length + 1) cap e - (xs.length + 1))).toList = (xs ++ [x]) ++ (Builtin.zeroCells z.cells (grownCap w (xs.length + 1) cap e - (xs.length + 1))).toList := by simp
      rw [e2]
      exact List.take_left
theorem step_append_k (w : World) {ops : Array Oper} {o : Oper} {a : Act} {K : Act → World → Prop} {Q : Exit → Act → World → Prop} {E : Prop} (hgd : o.guard = none) (s x : Operand) (t : TypeId)
    (ho : o.op = .call { callee := .builtin .append, args := #[s, x], argTypes := #[t, t] })
    (base : Nat) (e : TypeId) (i : TypeInfo) (z : Value) (ht : P.underlying t = some (.slice e)) (hi : P.info? e = some i) (hz : i.zero = some z) (hs1 : i.size = 1) (hzs : z.cells.size = 1)
    (v : Value) (xs : List Value) (hs : a.eval s = v) (hown : OwnM w base e v xs) (ad : Addr) (c : Nat) (u : Value) (hx : a.eval x = .slice (some ad) 1 c) (hu : w.cell? ad = some u) (h1 : u.oneCell' = true)
    (h63 : xs.length + 1 ≤ maxLen) (hbytes : (xs.length + 1) * i.bytes ≤ 140737488355328) (hbase : base ≤ w.heap.size)
    (h : ∀ v' w', OwnM w' base e v' (xs ++ [u]) → w.grownBy w' v.ownBlock → (∀ (b k : Nat) (u : Value), w.cell? ⟨b, k, none⟩ = some u → (v.ownBlock ≠ some b ∨ k < xs.length) → w'.cell? ⟨b, k, none⟩ = some u) → K (a.put o.dst v') w') :
    if Region.wanted o (yielded ops a.tmps) = true then Oper.wp P o a w K Q else E := by
  have hw : Region.wanted o (yielded ops a.tmps) = true := by simp [Region.wanted, hgd]
  rw [if_pos hw]
  obtain ⟨v', w', hr, h2, h3, _, h4⟩ := run_append_k (P := P) w base t o.type e i z ht hi hz hs1 hzs v xs hown ad c u hu h1 h63 hbytes hbase
  unfold Oper.wp execOp
  simp only [ho, resolve, invoke, builtin, Sem.run_bind, Sem.run_pure, Result.andThen_ok, List.map_toArray, List.map_cons, List.map_nil, hs, hx, hr]
  exact h v' w' h2 h3 h4
theorem OwnM.of_heap {w W : World} {base : Nat} {e : TypeId} {v : Value} {xs : List Value} (h : OwnM w base e v xs) (he : W.heap = w.heap) : OwnM W base e v xs := by
  unfold OwnM at *
  rw [he]
  exact h
/-- A slice of no element over a block of no cell. -/
theorem OwnM.nil0 (w : World) (base : Nat) (e : TypeId) (g : Nat) (hb : base ≤ g) (hg : w.heap[g]? = some (.cells #[] e (0, 0))) : OwnM w base e (.slice (some ⟨g, 0, none⟩) 0 0) [] :=
  ⟨g, 0, #[], (0, 0), rfl, hb, hg, .inl rfl, Nat.le_refl _, by decide, rfl, rfl⟩
end
theorem OwnM.base {w : World} {base : Nat} {e : TypeId} {v : Value} {xs : List Value} (h : OwnM w base e v xs) : ∀ g, v.ownBlock = some g → base ≤ g := by
  obtain ⟨g, cap, cur, fr, rfl, hb, _⟩ := h
  intro g' hg'
  simp only [Value.ownBlock, Option.some.injEq] at hg'
  omega
theorem OwnM.rebase {w : World} {base base' : Nat} {e : TypeId} {v : Value} {xs : List Value} (h : OwnM w base e v xs) (hb : base' ≤ base) : OwnM w base' e v xs := by
  obtain ⟨g, cap, cur, fr, rfl, hbb, r⟩ := h
  exact ⟨g, cap, cur, fr, rfl, by omega, r⟩
theorem below_grow {B : Nat} {a w w' : World} {v : Value} (h : Below B a w) (hg : w.grownBy w' v.ownBlock) (hb : ∀ g, v.ownBlock = some g → B ≤ g) (hB : B ≤ w.heap.size) : Below B a w' :=
  ⟨hg.os.trans h.os, hg.tape.trans h.tape, hg.output.trans h.output, Nat.le_trans h.size hg.size, fun k hk => (hg.block k (Nat.lt_of_lt_of_le hk hB) (fun e => by have := hb k e.symm; omega)).trans (h.block k hk)⟩
end Go.Proofs.YtpllcnpcplbobaaDoor
