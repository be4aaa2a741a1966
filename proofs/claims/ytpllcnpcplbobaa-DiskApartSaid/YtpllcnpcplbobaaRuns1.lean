import Derived.Test.YtpllcnpcplbobaaDo2
import Derived.Deep.AppendLies
namespace Go.Proofs.Ytpllcnpcplbobaa
open Go.RowKit Go.Maps
set_option linter.unusedVariables false
theorem growslice_fits0 {n : Nat} {e : TypeId} {i : TypeInfo} (hb : i.bytes = 8) (hn : n * 8 ≤ 140737488355328) (h0 : 0 < n) : Builtin.nextslicecap (0 + n) 0 * i.bytes ≤ 281474976710656 :=
  growslice_fits (by omega) (by rw [hb]; omega)
/-- Numbers appended to an empty slice: they can be read there. -/
theorem run_append_nums {P : Program} (w : World) (t ty e : TypeId) (i : TypeInfo) (ht : P.underlying t = some (.slice e)) (hi : P.info? e = some i) (hz : i.zero = some (.int .i64 0)) (hs1 : i.size = 1) (hby : i.bytes = 8)
    (a0 : Addr) (vp : Value) (l : List Int) (hP : NumsAt w vp l) (hl : l.length * 8 ≤ 140737488355328) :
    ∃ v' w', (Builtin.append_ #[t, t] ty #[.slice (some a0) 0 0, vp]).run P w = .ok v' w' ∧ NumsAt w' v' l ∧ Below w.heap.size w w' := by
  obtain ⟨a, c, rfl, hc, hcells⟩ := hP
  by_cases h0 : l.length = 0
  · have hl0 : l = [] := List.eq_nil_of_length_eq_zero h0
    subst hl0
    refine ⟨.slice (some a0) 0 0, w, ?_, ⟨some a0, 0, rfl, Nat.le_refl _, .inl rfl⟩, Below.refl _ _⟩
    cases a with
    | none => simp [Builtin.append_, run_underlying ht, sizeOf, typeInfo, hi, Builtin.lenOf, Builtin.firstCells, storeCells]
    | some ad =>
      have hf := run_firstCells_some (P := P) w i.size 0 ad 0 c [] (by simp) (by simp)
      simp [Builtin.append_, run_underlying ht, sizeOf, typeInfo, hi, Builtin.lenOf, hf, storeCells]
  · rcases hcells with hn | ⟨b, o, rfl, hcc⟩
    · exact absurd hn h0
    have hnews : ∀ (j : Nat) (v : Value), (l.map (Value.int .i64))[j]? = some v → w.cell? ((⟨b, o, none⟩ : Addr).add j) = some v := fun j v hv => by
      obtain ⟨hj, e⟩ := List.getElem?_eq_some_iff.1 hv
      have hj' : j < l.length := by simpa using hj
      rw [Addr.add_lit, hcc j hj', ← e]
      simp
    have hr := run_append_grow (P := P) w t ty e i _ ht hi hz a0 0 0 [] (by simp) (by simp) ⟨b, o, none⟩ l.length c (l.map (Value.int .i64)) (by simp [hs1]) hnews (by omega) (by omega) (growslice_fits0 (e := e) hby hl (by omega))
    have hge := grownCap_ge w (0 + l.length) 0 e
    refine ⟨_, _, hr, ?_, ((Below.refl _ _).drew).alloc (Nat.le_refl _) _⟩
    rw [Nat.zero_add] at hge ⊢
    refine ⟨_, _, rfl, hge, .inr ⟨w.heap.size, 0, rfl, fun k hk => ?_⟩⟩
    refine (cell_of_row _ w.heap.size (0 + k) _ e (0, 0) (heap_alloc_new w.drew _)).trans ?_
    rw [Nat.zero_add, Array.getElem?_append_left (by simpa using hk)]
    simp [hk]
theorem step_append_nums {P : Program} (w : World) {ops : Array Oper} {o : Oper} {a : Act} {K : Act → World → Prop} {Q : Exit → Act → World → Prop} {E : Prop} (hgd : o.guard = none) (s x : Operand) (t : TypeId)
    (ho : o.op = .call { callee := .builtin .append, args := #[s, x], argTypes := #[t, t] })
    (e : TypeId) (i : TypeInfo) (ht : P.underlying t = some (.slice e)) (hi : P.info? e = some i) (hz : i.zero = some (.int .i64 0)) (hs1 : i.size = 1) (hby : i.bytes = 8)
    (a0 : Addr) (hs : a.eval s = .slice (some a0) 0 0) (vp : Value) (hx : a.eval x = vp) (l : List Int) (hP : NumsAt w vp l) (hl : l.length * 8 ≤ 140737488355328)
    (h : ∀ v' w', NumsAt w' v' l → Below w.heap.size w w' → K (a.put o.dst v') w') :
    if Region.wanted o (yielded ops a.tmps) = true then Oper.wp P o a w K Q else E := by
  have hw : Region.wanted o (yielded ops a.tmps) = true := by simp [Region.wanted, hgd]
  rw [if_pos hw]
  obtain ⟨v', w', hr, h2, h3⟩ := run_append_nums (P := P) w t o.type e i ht hi hz hs1 hby a0 vp l hP hl
  unfold Oper.wp execOp
  simp only [ho, resolve, invoke, builtin, Sem.run_bind, Sem.run_pure, Result.andThen_ok, List.map_toArray, List.map_cons, List.map_nil, hs, hx, hr]
  exact h v' w' h2 h3
theorem infoInt : (Try.prog.info? 3).map (fun i => (i.zero, i.size, i.bytes)) = some (some (.int .i64 0), 1, 8) := by kernel_rfl
/-! Files do not grow beyond what was written. -/
def Bnd (g : FS) (S : Nat) : Prop := ∀ x f, g x = some f → 0 ≤ f.2 ∧ f.2 ≤ (f.1.size : Int) ∧ f.1.size ≤ S
theorem Bnd.ok {g : FS} {S : Nat} (h : Bnd g S) (hS : S ≤ 1099511627776) : FilesOk g := fun x f hf => by
  obtain ⟨h0, h1, h2⟩ := h x f hf
  exact ⟨h0, h1, by omega⟩
theorem Bnd.mono {g : FS} {S T : Nat} (h : Bnd g S) (hT : S ≤ T) : Bnd g T := fun x f hf => by
  obtain ⟨h0, h1, h2⟩ := h x f hf
  exact ⟨h0, h1, by omega⟩
theorem Bnd.none : Bnd (fun _ => none) 0 := fun _ _ h => by cases h
theorem Bnd.get {g : FS} {S : Nat} (h : Bnd g S) (x : ByteArray) : 0 ≤ ((g x).getD noFile).2 ∧ ((g x).getD noFile).2 ≤ (((g x).getD noFile).1.size : Int) ∧ ((g x).getD noFile).1.size ≤ S := by
  cases hg : g x with
  | none => exact ⟨by decide, by decide, Nat.zero_le _⟩
  | some f => exact h x f hg
theorem Bnd.put {g : FS} {S : Nat} (h : Bnd g S) (x : ByteArray) {f : ByteArray × Int} (h0 : 0 ≤ f.2) (h1 : f.2 ≤ (f.1.size : Int)) (h2 : f.1.size ≤ S) : Bnd (g.put x f) S := fun y f' hf => by
  unfold FS.put at hf
  split at hf
  · rw [← Option.some.inj hf]; exact ⟨h0, h1, h2⟩
  · exact h y f' hf
theorem Bnd.del {g : FS} {S : Nat} (h : Bnd g S) (x : ByteArray) : Bnd (g.del x) S := fun y f' hf => by
  unfold FS.del at hf
  split at hf
  · cases hf
  · exact h y f' hf
theorem Bnd.append {g : FS} {S : Nat} (h : Bnd g S) (code : Int) (x d : ByteArray) : Bnd (appendG code g x d) (S + d.size) := by
  unfold appendG
  split
  · obtain ⟨h0, h1, h2⟩ := h.get x
    refine (h.mono (by omega)).put x h0 ?_ ?_
    · simp only [moreF, ByteArray.size_append]; omega
    · simp only [moreF, ByteArray.size_append]; omega
  · exact h.mono (by omega)
theorem Bnd.sync {g : FS} {S : Nat} (h : Bnd g S) (code : Int) (x : ByteArray) : Bnd (syncG code g x) S := by
  unfold syncG
  split
  · obtain ⟨h0, h1, h2⟩ := h.get x
    exact h.put x (by simp only [sureF]; omega) (by simp only [sureF]; omega) h2
  · exact h
theorem Bnd.remove {g : FS} {S : Nat} (h : Bnd g S) (code : Int) (x : ByteArray) : Bnd (removeG code g x) S := by
  unfold removeG
  split
  · exact h.del x
  · exact h
theorem Bnd.rename {g : FS} {S : Nat} (h : Bnd g S) (code : Int) (x y : ByteArray) : Bnd (renameG code g x y) S := by
  unfold renameG
  split
  · obtain ⟨h0, h1, h2⟩ := h.get x
    exact (h.put y h0 h1 h2).del x
  · exact h
theorem Bnd.act {g : FS} {S : Nat} (h : Bnd g S) (x : ActL) (left : Int) : Bnd (filesA x g left) (S + x.data.size) := by
  unfold filesA
  split
  · exact h.append _ _ _
  · split
    · exact (h.sync _ _).mono (by omega)
    · split
      · exact (h.rename _ _ _).mono (by omega)
      · split
        · exact (h.remove _ _).mono (by omega)
        · exact h.mono (by omega)
theorem Bnd.crash {g : FS} {S : Nat} (h : Bnd g S) (hS : S ≤ 1099511627776) (P : List Int) (l : List ByteArray) : Bnd (crashG g l P).1 S := fun x f hf => by
  obtain ⟨h1, h2⟩ := crash_get g (h.ok hS) P l x
  by_cases hx : x ∈ l
  · obtain ⟨n, ha, hb, hc⟩ := h1 hx
    rw [hc] at hf
    obtain ⟨g0, g1, g2⟩ := h.get x
    rw [← Option.some.inj hf]
    simp only [cutF, ByteArray.size_extract]
    omega
  · rw [h2 hx] at hf; cases hf
theorem leftA_low {x : ActL} {g : FS} {left : Int} (h1 : -1 ≤ left) : -1 ≤ leftA x g left := by
  unfold leftA leftE
  split
  · split <;> omega
  · split <;> omega
theorem leftA_high {x : ActL} {g : FS} {left : Int} (h2 : left ≤ 9223372036854775807) (hn : x.n ≤ 9223372036854775807) : leftA x g left ≤ 9223372036854775807 := by
  unfold leftA leftE
  split
  · split <;> omega
  · split <;> omega
end Go.Proofs.Ytpllcnpcplbobaa
