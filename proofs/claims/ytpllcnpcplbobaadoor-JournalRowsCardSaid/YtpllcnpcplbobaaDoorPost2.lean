import Derived.Test.YtpllcnpcplbobaaDoorPost
import Derived.Test.YtpllcnpcplbobaaDoorTexts
import Derived.Carry
import Derived.WideKeyArgs
import Derived.SliceStrings
import Derived.ChangeSlices
import Derived.ProofKit
import Derived.OpenShut
namespace Go.Proofs.YtpllcnpcplbobaaDoor
open Go.RowKit Go.WideShapes Go.ChangeShapes
section
variable {H : Type} {enc : TypeId × Value → H} {P : Program}
/-- All arguments read behind the call as they did before, where nothing has turned below the heap's old size. -/
theorem trodAll_stays (hl : laidOutB P = true) {W W' : World} {sp' : Nat → Bool} (hb : Below W.heap.size W W') : ∀ {ts : List TypeId} {vs : List Value} {ds : List (DataW H)} {ps : List MemPlace},
    (∀ t ∈ ts, P.readableRec t = true ∧ t < P.types.size) → DataW.TrodAll enc P W 0 (fun _ => true) true ts vs ds ps → (∀ p ∈ ps, p.block < W.heap.size) → (∀ p ∈ ps, sp' p.block = true) → DataW.TrodAll enc P W' 0 sp' true ts vs ds ps
  | [], [], [], _, _, h, _, _ => h
  | _ :: _, _ :: _, _ :: _, _, ht, ⟨p, q, h1, h2, e⟩, hlt, hs =>
    have ht0 := ht _ (List.mem_cons.2 (Or.inl rfl))
    ⟨p, q, WideElems.Trod_stays hl ht0.1 ht0.2 h1 (fun x hx => hb.same (hlt x (by rw [e]; exact List.mem_append_left _ hx))) (fun x hx => hs x (by rw [e]; exact List.mem_append_left _ hx)),
      trodAll_stays hl hb (fun t h => ht t (List.mem_cons.2 (Or.inr h))) h2 (fun x hx => hlt x (by rw [e]; exact List.mem_append_right _ hx)) (fun x hx => hs x (by rw [e]; exact List.mem_append_right _ hx)), e⟩
theorem addr_plain {w : World} {a : Addr} {v : Value} {n c : Nat} (h : w.cell? (a.add 0) = some v) (hc : (.slice (some a) n c : Value) = .slice (some a) n c) : a = ⟨a.block, a.off, none⟩ := by
  obtain ⟨b, o, s⟩ := a
  have hs : s = none := by simpa [Addr.add] using World.cell?_spot h
  rw [hs]
/-- A slice of texts that came in, as it can be read. -/
theorem open_texts {t e : TypeId} (ht : P.underlying t = some (.slice e)) (he : P.underlying e = some .string) (hc : P.cellsOf e = 1) {W : World} {base : Nat} {v : Value} {d : DataW H} {p : List MemPlace}
    (hval : Value.okWide P W .any base t v) (h : DataW.Trod enc P W 0 (fun _ => true) true t v d p) :
    ∃ l : List ByteArray, TextsAt W v l ∧ l.length ≤ maxLen ∧ ∀ x ∈ l, x.size ≤ maxLen := by
  obtain ⟨a0, len, cap, rfl⟩ := okWide_slice ht hval
  obtain ⟨fuel, hf⟩ := h
  rcases open_strings ht he hc hf with ⟨hcs, hx⟩ | ⟨a, len', cap', ss, hcs, _, hl, hm, hz, hx, hcell, hsz⟩
  · simp [Value.cells] at hcs
    obtain ⟨rfl, rfl, rfl⟩ := hcs
    exact ⟨[], textsAt_nil W, Nat.zero_le _, fun x hx => by cases hx⟩
  · simp [Value.cells] at hcs
    obtain ⟨rfl, rfl, rfl⟩ := hcs
    simp only [if_true] at hz
    have hlen : (ss.take len).length = len := by rw [List.length_take]; omega
    refine ⟨ss.take len, ⟨_, cap, by rw [hlen], ?_⟩, by omega, fun x hx => hsz x (List.mem_of_mem_take hx)⟩
    by_cases h0 : len = 0
    · exact .inl (by omega)
    · right
      have hp := addr_plain (n := 0) (c := 0) (hcell 0 (by omega)) rfl
      refine ⟨a.block, a.off, by rw [hp], fun i hi => ?_⟩
      have hi' : i < ss.length := by rw [hlen] at hi; omega
      have := hcell i hi'
      rw [hp, Addr.add_lit] at this
      rw [this]
      simp [List.getD, hi']
end
end Go.Proofs.YtpllcnpcplbobaaDoor
