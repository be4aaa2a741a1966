import Derived.Test.YtpllcnpcplbobaaActs3
namespace Go.Proofs.Ytpllcnpcplbobaa
open Go.RowKit Go.WideShapes Go.ChangeShapes
section
variable {H : Type} {enc : TypeId × Value → H}
set_option maxRecDepth 100000 in
/-- Two texts in an array, by value, of the reach's size. -/
theorem open_two_small {W : World} {base : Nat} {v : Value} {d : DataW H} {p : List MemPlace}
    (hval : Value.okWide Try.prog W .any base 47 v) (h : DataW.Trod enc Try.prog W 0 (fun _ => true) true 47 v d p) (hw : Small Try.prog 47 d) :
    ∃ a b : ByteArray, v = .agg #[.string a, .string b] ∧ a.size ≤ 140737488351232 ∧ b.size ≤ 140737488351232 := by
  simp only [Value.okWide, Try.underlying47] at hval
  obtain ⟨cs, rfl, hsz, _⟩ := hval
  obtain ⟨fuel, hf⟩ := h
  have hc : Try.prog.cellsOf 47 = 2 := by kernel_rfl
  have hcs : Try.prog.cellsOf 9 = 1 := by kernel_rfl
  rw [hc] at hsz
  obtain ⟨xs, m, _, hd0, _, hlen, hx⟩ := DataW.trod_array Try.underlying47 hf
  have hd1 := congrArg Prod.fst hd0
  simp only at hd1
  subst hd1
  obtain ⟨l⟩ := cs
  match l, hsz with
  | [c0, c1], _ =>
    match xs, hlen with
    | [y0, y1], _ =>
      have hpart : ∀ d, d ∈ [y0.1, y1.1] → Small Try.prog 9 d := fun d hd => small_of hw fun n hn => by
        have := mem_weightsAll (P := Try.prog) (e := 9) (l := [y0.1, y1.1]) hd n hn
        simpa [DataW.weights, Try.underlying47] using this
      have h0 := hx 0 (by omega)
      have h1 := hx 1 (by omega)
      rw [hcs] at h0 h1
      replace h0 : DataW.trod enc Try.prog W 0 (fun _ => true) true m 9 [c0] = some y0 := h0
      replace h1 : DataW.trod enc Try.prog W 0 (fun _ => true) true m 9 [c1] = some y1 := h1
      obtain ⟨a, e0, x0, z0⟩ := DataW.trod_string Try.underlying9 h0
      obtain ⟨b, e1, x1, z1⟩ := DataW.trod_string Try.underlying9 h1
      simp only [List.cons.injEq, and_true] at e0 e1
      subst e0 e1
      exact ⟨a, b, rfl, small_string (s := a) (by have := hpart y0.1 (by simp); rw [x0] at this; exact this), small_string (s := b) (by have := hpart y1.1 (by simp); rw [x1] at this; exact this)⟩
end
end Go.Proofs.Ytpllcnpcplbobaa
