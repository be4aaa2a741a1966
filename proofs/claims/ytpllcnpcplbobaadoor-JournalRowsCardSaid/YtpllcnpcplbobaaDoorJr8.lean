import Derived.Test.YtpllcnpcplbobaaDoorJr7
import Derived.Test.YtpllcnpcplbobaaDoorPost2
import Derived.Test.YtpllcnpcplbobaaDoorJour2
namespace Go.Proofs.YtpllcnpcplbobaaDoor
open Go.RowKit Go.Maps
set_option linter.unusedVariables false
theorem framesL_le : ∀ l : List ByteArray, (∀ x ∈ l, x.size ≤ 100) → (framesL l).size ≤ 112 * l.length
  | [], _ => Nat.le_refl _
  | r :: l, h => by
    have h1 := h r (List.mem_cons_self ..)
    have h2 := framesL_le l fun x hx => h x (List.mem_cons_of_mem _ hx)
    rw [framesL, ByteArray.size_append, size_frameS]; simp; omega
theorem great_no {A : List ByteArray} (h : greatL A = false) : A.length ≤ 12 ∧ ∀ x ∈ A, x.size ≤ 100 := by
  simp only [greatL, Bool.or_eq_false_iff, List.any_eq_false, decide_eq_true_eq, decide_eq_false_iff_not] at h
  exact ⟨by omega, fun x hx => by have := h.1 x hx; omega⟩
/-- A slice of texts with room. -/
def TextsC (w : World) (v : Value) (l : List ByteArray) : Prop := TextsAt w v l ∧ ∃ a c, v = .slice a l.length c ∧ l.length ≤ c
theorem TextsC.at {w : World} {v : Value} {l : List ByteArray} (h : TextsC w v l) : TextsAt w v l := h.1
section
open Go.WideShapes Go.ChangeShapes
variable {H : Type} {enc : TypeId × Value → H} {P : Program}
theorem open_textsC {t e : TypeId} (ht : P.underlying t = some (.slice e)) (he : P.underlying e = some .string) (hc : P.cellsOf e = 1) {W : World} {base : Nat} {v : Value} {d : DataW H} {p : List MemPlace}
    (hval : Value.okWide P W .any base t v) (h : DataW.Trod enc P W 0 (fun _ => true) true t v d p) :
    ∃ l : List ByteArray, TextsC W v l ∧ l.length ≤ maxLen ∧ ∀ x ∈ l, x.size ≤ maxLen := by
  obtain ⟨l, h1, h2, h3⟩ := open_texts ht he hc hval h
  refine ⟨l, ⟨h1, ?_⟩, h2, h3⟩
  obtain ⟨a, c, rfl, _⟩ := h1
  obtain ⟨fuel, hf⟩ := h
  rcases open_strings ht he hc hf with ⟨hcs, hx⟩ | ⟨a, len', cap', ss, hcs, _, hl, hm, hz, hx, hcell, hsz⟩
  · simp [Value.cells] at hcs
    obtain ⟨rfl, h0, rfl⟩ := hcs
    exact ⟨_, _, rfl, by rw [h0]; exact Nat.le_refl _⟩
  · simp [Value.cells] at hcs
    obtain ⟨rfl, h0, rfl⟩ := hcs
    exact ⟨_, _, rfl, by omega⟩
end
/-- Open on a disk without a budget. -/
theorem open_log (p b N : Nat) (hN : N ≤ 1099511627000) (g : FS) (d : ByteArray) (s : Int) (hL : LogIs g d s) (hd : d.size ≤ 1000000000) (w : World) (hD : DiskAt w p b g (-1) N) :
    Calls Tryd.prog 6 #[.pointer (some ⟨p, 0, none⟩), .string logN] w fun e w' => ∃ j rv, e = .returned (.tuple #[.pointer (some ⟨j, 0, none⟩), rv, .int .i64 0]) ∧ JBlk w' j p logN false ∧ w.heap.size ≤ j ∧ TextsAt w' rv (scan d).1 ∧
      ((scan d).2 = d.size → LogIs (oG1 g (-1) logN) d s ∧ DiskAt w' p b (oG1 g (-1) logN) (-1) (N + 4)) ∧ Turned w w' p b := by
  obtain ⟨e0, e1, e2, e3, e4, e5, e6, e7, e8⟩ := hL.open
  refine (open_any p b N g (-1) (by omega) (by omega) hN logN logN_ne (by decide) (by rw [e4]; omega) (by
    rw [e4]
    have := e1.new
    have hx : logN ++ sufx = newN := rfl
    rw [hx]; omega) w hD).mono ?_
  rintro e w' ⟨⟨jv, rv, rfl, h0, _⟩, hd', hT⟩
  obtain ⟨j, rfl, hj, hjw, hrv⟩ := h0 e6
  rw [e6]
  rw [e5] at hrv
  refine ⟨j, rv, rfl, hj, hjw, hrv.at, fun hs => ⟨e1, ?_⟩, hT⟩
  rw [e7, e8 hs] at hd'
  exact hd'
/-- Add. -/
theorem add_log (j p b N : Nat) (hN : N ≤ 1099511627000) (g : FS) (left : Int) (h1 : -1 ≤ left) (h2 : left ≤ 9223372036854775807) (d rec : ByteArray) (s : Int) (hL : LogIs g d s) (hr : rec.size ≤ 1048576) (hd : d.size ≤ 1000000000) (w : World) (hD : DiskAt w p b g left N) (hJ : JBlk w j p logN false) :
    Calls Tryd.prog 8 #[.pointer (some ⟨j, 0, none⟩), .string rec] w fun e w' => ∃ code, e = .returned (.int .i64 code) ∧
      (∃ g' left', -1 ≤ left' ∧ left' ≤ 9223372036854775807 ∧ DiskAt w' p b g' left' (N + 2) ∧
        ((code = 0 ∧ LogIs g' (d ++ frameS rec) ((d ++ frameS rec).size : Int) ∧ JBlk w' j p logN false ∧ (left = -1 → left' = -1)) ∨ (code ≠ 0 ∧ left ≠ -1 ∧ (LogIs g' d s ∨ LogIs g' (d ++ frameS rec) s)))) ∧ Turned3 w w' p b j := by
  have hf := size_frameS rec
  obtain ⟨k1, k2, k3⟩ := hL.add left (frameS rec) (by omega)
  have hneg : left = -1 → a0 g left logN = 0 ∧ a1 g left logN (frameS rec) = 0 ∧ aL1 g left logN (frameS rec) = -1 := fun hl => by
    subst hl
    have c0 : a0 g (-1) logN = 0 := (begin_append _ _ _ logN_ne).trans (if_neg (by omega))
    have l0 : aL0 g (-1) logN = -1 := by unfold aL0 leftE; rw [if_neg (by omega)]
    have b0 : isB (aG0 g (-1) logN (frameS rec)) logN = true := by unfold aG0; rw [c0]; exact isB_append _ _ _
    have c1 : a1 g (-1) logN (frameS rec) = 0 := by unfold a1; rw [l0]; exact (begin_there _ _ _ logN_ne b0).trans (if_neg (by omega))
    exact ⟨c0, c1, by unfold aL1 leftE; rw [l0, if_neg (by omega)]⟩
  refine (jadd_any j p b N g left h1 h2 (by simp only [maxLen]; omega) logN rec (by decide) hr (by rw [hL.log]; show d.size + _ ≤ _; omega) w hD hJ).mono ?_
  rintro e w' ⟨code, rfl, ⟨h0, rfl, hd', hj'⟩ | ⟨h0, hc1, rfl, hd', hj'⟩ | ⟨h0, hc1, rfl, hd', hj'⟩, hT⟩
  · exact ⟨_, rfl, ⟨_, _, leftE_low h1, leftE_high h2, hd', .inr ⟨h0, fun hl => h0 (hneg hl).1, .inl (k1 h0)⟩⟩, hT⟩
  · exact ⟨_, rfl, ⟨_, _, leftE_low (leftE_low h1), leftE_high (leftE_high h2), hd', .inr ⟨hc1, fun hl => hc1 (hneg hl).2.1, .inr (k2 h0 hc1)⟩⟩, hT⟩
  · exact ⟨_, rfl, ⟨_, _, leftE_low (leftE_low h1), leftE_high (leftE_high h2), hd', .inl ⟨rfl, k3 h0 hc1, hj', fun hl => (hneg hl).2.2⟩⟩, hT⟩
/-- Crash. -/
theorem crash_log (p b N : Nat) (hN : N ≤ 1099511627000) (g : FS) (left : Int) (d : ByteArray) (s : Int) (hL : LogIs g d s) (va : Value) (P : List Int) (w : World) (hD : DiskAt w p b g left N) (hP : NumsAt w va P) :
    Calls Tryd.prog 10 #[.pointer (some ⟨p, 0, none⟩), va] w fun e w' => ∃ q c, e = .returned (.pointer (some ⟨q, 0, none⟩)) ∧ (∃ g' n, s ≤ (n : Nat) ∧ n ≤ d.size ∧ LogIs g' (d.extract 0 n) n ∧ DiskAt w' q c g' (-1) N) ∧ Below w.heap.size w w' ∧ w.heap.size ≤ q ∧ w.heap.size ≤ c := by
  refine (crash_disk p b N g left (by omega) hL.ok va P w hD hP).mono ?_
  rintro e w' ⟨q, c, l, rfl, hl, _, hd, hb, hq, hc⟩
  obtain ⟨n, h1, h2, h3⟩ := hL.crash l hl P
  exact ⟨q, c, rfl, ⟨_, n, h1, h2, h3, hd⟩, hb, hq, hc⟩
theorem texts_take {w : World} {a : Option Addr} {n c m : Nat} {A : List ByteArray} (h : TextsAt w (.slice a n c) A) (hm : m ≤ A.length) : TextsAt w (.slice a m c) (A.take m) := by
  obtain ⟨a', c', he, hc⟩ := h
  obtain ⟨rfl, rfl, rfl⟩ := Value.slice.inj he
  have hl : (A.take m).length = m := by rw [List.length_take]; omega
  refine ⟨a, c, by rw [hl], ?_⟩
  rcases hc with h0 | ⟨b, o, ha, hc⟩
  · exact .inl (by omega)
  · exact .inr ⟨b, o, ha, fun i hi => by rw [hc i (by omega)]; simp⟩
theorem out_fail {P Q : Prop} {code : Int} (h : (code = 0 ∧ P) ∨ (code ≠ 0 ∧ Q)) (hc : (code == 0) = false) : Q := by
  rcases h with ⟨rfl, _⟩ | ⟨_, h⟩
  · cases hc
  · exact h
theorem out_ok {P Q : Prop} {code : Int} (h : (code = 0 ∧ P) ∨ (code ≠ 0 ∧ Q)) (hc : (code == 0) = true) : P := by
  rcases h with ⟨_, h⟩ | ⟨h, _⟩
  · exact h
  · exact absurd (eq_of_beq hc) h
/-- What any crash and an Open behind it find of this file: so many records, or one more. -/
def TailOk (D : ByteArray) (s : Int) (A : List ByteArray) (k : Nat) : Prop :=
  D.size ≤ 1000000 ∧ ∀ n' : Nat, s ≤ n' → n' ≤ D.size → ∃ m, (scan (D.extract 0 n')).1 = A.take m ∧ k ≤ m ∧ m ≤ k + 1 ∧ m ≤ A.length
theorem tail_all {A : List ByteArray} (h12 : A.length ≤ 12) (h100 : ∀ x ∈ A, x.size ≤ 100) (k : Nat) (hk : k ≤ A.length) : TailOk (framesL (A.take k)) ((framesL (A.take k)).size : Int) A k := by
  have h1 := framesL_le (A.take k) fun x hx => h100 x (List.mem_of_mem_take hx)
  rw [List.length_take] at h1
  refine ⟨by omega, fun n' h2 h3 => ⟨k, ?_, Nat.le_refl _, by omega, hk⟩⟩
  rw [extract_all' _ _ (by omega), scan_all _ fun x hx => by have := h100 x (List.mem_of_mem_take hx); omega]
theorem tail_more {A : List ByteArray} (h12 : A.length ≤ 12) (h100 : ∀ x ∈ A, x.size ≤ 100) (k : Nat) (hk : k < A.length) : TailOk (framesL (A.take k) ++ frameS A[k]) ((framesL (A.take k)).size : Int) A k := by
  have h1 := framesL_le (A.take k) fun x hx => h100 x (List.mem_of_mem_take hx)
  have h0 := h100 _ (List.getElem_mem hk)
  rw [List.length_take] at h1
  refine ⟨by rw [ByteArray.size_append, size_frameS]; omega, fun n' h2 h3 => ?_⟩
  rcases scan_front (A.take k) (fun x hx => by have := h100 x (List.mem_of_mem_take hx); omega) A[k] (by omega) n' (by omega) h3 with h | h
  · exact ⟨k, h, Nat.le_refl _, by omega, by omega⟩
  · exact ⟨k + 1, by rw [h, List.take_succ_eq_append_getElem hk], by omega, by omega, by omega⟩
/-- Add in the loop: k records are in place, and now k + 1; or there was an error, and a crash will show k or k + 1. -/
theorem add_next (j p b N : Nat) (hN : N ≤ 1099511627000) (g : FS) (left : Int) (h1 : -1 ≤ left) (h2 : left ≤ 9223372036854775807) (A : List ByteArray) (h12 : A.length ≤ 12) (h100 : ∀ x ∈ A, x.size ≤ 100) (k : Nat) (hk : k < A.length) (hL : LogIs g (framesL (A.take k)) ((framesL (A.take k)).size : Int)) (w : World) (hD : DiskAt w p b g left N) (hJ : JBlk w j p logN false) :
    Calls Tryd.prog 8 #[.pointer (some ⟨j, 0, none⟩), .string A[k]] w fun e w' => ∃ code, e = .returned (.int .i64 code) ∧
      (∃ g' left', -1 ≤ left' ∧ left' ≤ 9223372036854775807 ∧ DiskAt w' p b g' left' (N + 2) ∧
        ((code = 0 ∧ LogIs g' (framesL (A.take (k + 1))) ((framesL (A.take (k + 1))).size : Int) ∧ JBlk w' j p logN false ∧ (left = -1 → left' = -1)) ∨ (code ≠ 0 ∧ left ≠ -1 ∧ ∃ D s, LogIs g' D s ∧ TailOk D s A k))) ∧ Turned3 w w' p b j := by
  have h3 := framesL_le (A.take k) fun x hx => h100 x (List.mem_of_mem_take hx)
  have h0 := h100 _ (List.getElem_mem hk)
  rw [List.length_take] at h3
  refine (add_log j p b N hN g left h1 h2 _ A[k] _ hL (by omega) (by omega) w hD hJ).mono ?_
  rintro e w' ⟨code, rfl, ⟨g', left', l1, l2, hd, hout⟩, hT⟩
  refine ⟨code, rfl, ⟨g', left', l1, l2, hd, ?_⟩, hT⟩
  rcases hout with ⟨h4, h5, h6, h7⟩ | ⟨h4, h5, h6 | h6⟩
  · exact .inl ⟨h4, by rw [List.take_succ_eq_append_getElem hk, framesL_snoc]; exact h5, h6, h7⟩
  · exact .inr ⟨h4, h5, _, _, h6, tail_all h12 h100 k (by omega)⟩
  · exact .inr ⟨h4, h5, _, _, h6, tail_more h12 h100 k hk⟩
end Go.Proofs.YtpllcnpcplbobaaDoor
