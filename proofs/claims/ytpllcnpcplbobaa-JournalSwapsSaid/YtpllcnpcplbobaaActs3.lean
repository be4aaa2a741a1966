import Derived.Test.YtpllcnpcplbobaaActs
namespace Go.Proofs.Ytpllcnpcplbobaa
open Go.RowKit Go.WideShapes Go.ChangeShapes
section
variable {H : Type} {enc : TypeId × Value → H}
set_option maxRecDepth 100000 in
/-- Two texts in an array, by value. -/
theorem open_two {W : World} {base : Nat} {v : Value} {d : DataW H} {p : List MemPlace}
    (hval : Value.okWide Try.prog W .any base 47 v) (h : DataW.Trod enc Try.prog W 0 (fun _ => true) true 47 v d p) :
    ∃ a b : ByteArray, v = .agg #[.string a, .string b] ∧ a.size ≤ maxLen ∧ b.size ≤ maxLen := by
  simp only [Value.okWide, Try.underlying47] at hval
  obtain ⟨cs, rfl, hsz, _⟩ := hval
  obtain ⟨fuel, hf⟩ := h
  have hc : Try.prog.cellsOf 47 = 2 := by kernel_rfl
  have hcs : Try.prog.cellsOf 9 = 1 := by kernel_rfl
  rw [hc] at hsz
  obtain ⟨xs, m, _, _, _, hlen, hx⟩ := DataW.trod_array Try.underlying47 hf
  obtain ⟨l⟩ := cs
  match l, hsz with
  | [c0, c1], _ =>
    match xs, hlen with
    | [y0, y1], _ =>
      have h0 := hx 0 (by omega)
      have h1 := hx 1 (by omega)
      rw [hcs] at h0 h1
      replace h0 : DataW.trod enc Try.prog W 0 (fun _ => true) true m 9 [c0] = some y0 := h0
      replace h1 : DataW.trod enc Try.prog W 0 (fun _ => true) true m 9 [c1] = some y1 := h1
      obtain ⟨a, e0, _, z0⟩ := DataW.trod_string Try.underlying9 h0
      obtain ⟨b, e1, _, z1⟩ := DataW.trod_string Try.underlying9 h1
      simp only [List.cons.injEq, and_true] at e0 e1
      subst e0 e1
      exact ⟨a, b, rfl, z0, z1⟩
set_option maxRecDepth 100000 in
/-- Numbers that came in. -/
theorem open_nums {W : World} {base : Nat} {v : Value} {d : DataW H} {p : List MemPlace}
    (hval : Value.okWide Try.prog W .any base 48 v) (h : DataW.Trod enc Try.prog W 0 (fun _ => true) true 48 v d p) (hw : Small Try.prog 48 d) :
    ∃ l : List Int, NumsAt W v l ∧ l.length ≤ 140737488351232 := by
  obtain ⟨a0, len, cap, rfl⟩ := okWide_slice Try.underlying48 hval
  obtain ⟨fuel, hf⟩ := h
  obtain ⟨u, l, e, hn, hl⟩ := open_numcells hf (fun _ => rfl) hw
  simp [Value.cells] at e
  rw [e]
  exact ⟨l, hn, hl⟩
end
end Go.Proofs.Ytpllcnpcplbobaa
