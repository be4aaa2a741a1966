import Derived.Test.YtpllcnpcplbobaaRf1
import Derived.Sort.Walk0
namespace Go.Proofs.Ytpllcnpcplbobaa
open Go.RowKit Go.Maps
def lessB (a b : ByteArray) : Bool := Op.bytesLess a.toList b.toList
theorem lessB_eq (a b : ByteArray) : lessB a b = decide (a.data.toList < b.data.toList) := by
  rw [lessB, bytesLess_eq, ByteArray.toList_eq, ByteArray.toList_eq]
theorem gtB (f x : ByteArray) : (!(Op.bytesLess f.toList x.toList || f.toList == x.toList)) = lessB x f := by
  rw [text_beq, show Op.bytesLess f.toList x.toList = lessB f x from rfl, lessB_eq, lessB_eq]
  by_cases h1 : f.data.toList < x.data.toList
  · have h2 : ¬ x.data.toList < f.data.toList := List.lt_asymm h1
    simp [h1, h2]
  · by_cases h2 : x.data.toList < f.data.toList
    · have h3 : f ≠ x := fun e => by rw [e] at h2; exact List.lt_irrefl _ h2
      simp [h1, h2, h3]
    · have h3 : f = x := WideShapes.bytes_inj (List.le_antisymm h2 h1)
      simp [h3]
def withoutL (l : List RF) (x : ByteArray) : List RF := l.filter fun f => !decide (f.1 = x)
def lowL (l : List RF) (x : ByteArray) : List RF := l.filter fun f => lessB f.1 x
def highL (l : List RF) (x : ByteArray) : List RF := l.filter fun f => lessB x f.1
def withL (l : List RF) (f : RF) : List RF := lowL l f.1 ++ [f] ++ highL l f.1
theorem filter_take_succ {α : Type} (p : α → Bool) (l : List α) (k : Nat) (h : k < l.length) : (l.take (k + 1)).filter p = (l.take k).filter p ++ if p l[k] then [l[k]] else [] := by
  rw [List.take_succ_eq_append_getElem h, List.filter_append]
  congr 1
  by_cases hp : p l[k] <;> simp [hp]
theorem owns_nil3 (w : World) (base m : Nat) (hm : w.heap.size = m) (hb : base ≤ m) (e : TypeId) : (w.alloc (.cells #[] e)).ownsRow base e 3 (.slice (some ⟨m, 0, none⟩) 0 0) 0 [] := by
  subst hm
  exact ⟨rfl, .inr ⟨w.heap.size, 0, #[], rfl, hb, heap_alloc_new _ _, Nat.le_refl _, by decide, rfl, rfl⟩⟩
set_option maxRecDepth 100000 in
set_option maxHeartbeats 1000000 in
theorem rwithout_any (va : Value) (l : List RF) (hm : l.length ≤ 1099511627776) (left : Int) (x : ByteArray) (w : World) (hA : FilesAt w va l) :
    Calls Try.prog 71 #[.agg #[va, .int .i64 left], .string x] w fun e w' => ∃ v, e = .returned v ∧ w'.ownsRow w.heap.size 91 3 v (withoutL l x).length (rcells (withoutL l x)) ∧ Below w.heap.size w w' := by
  obtain ⟨i0, hi, hz0, hz1, hz2⟩ := info_parts infoFile
  obtain ⟨a, ca, rfl, ha⟩ := hA
  obtain ⟨n, hn⟩ : ∃ n, n = l.length := ⟨_, rfl⟩
  rw [← hn] at hm ⊢
  have HA := Lib.hid ha
  have HN := Lib.hid hn
  have HI := Lib.hid hi
  have HZ0 := Lib.hid hz0
  have HZ1 := Lib.hid hz1
  have HZ2 := Lib.hid hz2
  clear ha hn hi hz0 hz1 hz2
  go_enter Try.func71, Try.ntmps71
  go_wp2_with fail
  go_loopw [5, 12] (fun v i wr => ∃ (k : Nat) (acc : List RF), k ≤ n ∧ i = .int .i64 k ∧ acc = withoutL (l.take k) x ∧ acc.length ≤ k ∧ wr.ownsRow w.heap.size 91 3 v acc.length (rcells acc) ∧ Below w.heap.size w wr) (fun _ i _ => n - (intOf i).toNat)
  case atStart => exact ⟨0, [], by omega, rfl, rfl, by simp, (owns_nil3 _ _ _ (by simp) (by omega) _), ((Below.refl _ _).alloc (Nat.le_refl _) _).alloc (by simp) _⟩
  case round =>
    obtain ⟨k, acc, hk, rfl, hacc, hal, hown, hbel⟩ := hrel
    by_cases hlt : k < n
    · have hAk : k < l.length := by rw [← HN.out]; exact hlt
      rcases HA.out with h0 | ⟨b1, o1, rfl, hc1⟩
      · omega
      have hts := filter_take_succ (fun f : RF => !decide (f.1 = x)) l k hAk
      obtain ⟨f, hf⟩ : ∃ f, f = l[k] := ⟨_, rfl⟩
      have hc := hc1 k hAk
      rw [← hf] at hc hts
      obtain ⟨fn, fd, fs⟩ := f
      have d0 := hc 0 _ rfl
      have d1 := hc 1 _ rfl
      have d2 := hc 2 _ rfl
      simp only [Nat.add_zero] at d0 d1 d2
      replace d0 := (hbel.cell (World.block_lt_of_cell? w _ d0)).trans d0
      replace d1 := (hbel.cell (World.block_lt_of_cell? w _ d1)).trans d1
      replace d2 := (hbel.cell (World.block_lt_of_cell? w _ d2)).trans d2
      have HO := Lib.hid hown
      have HB := Lib.hid hbel
      have HAC := Lib.hid hacc
      have HAL := Lib.hid hal
      have hbase := hbel.size
      by_cases hxy : fn = x
      · have ht : (fn.toList == x.toList) = true := by rw [text_beq]; exact decide_eq_true hxy
        have HTS := Lib.hid (show withoutL (l.take (k + 1)) x = acc by unfold withoutL at *; rw [hts, hacc]; simp [hxy])
        clear hc1 hc HA hf hbel hacc hal hown hts hxy
        go_wp2
        go_roundw
        case measure => simp [intOf]; omega
        case rel =>
          exact ⟨k + 1, acc, by omega, by go_num, HTS.out.symm, by have := HAL.out; omega, HO.out.alloc _, HB.out.alloc HB.out.size _⟩
      · have ht : (fn.toList == x.toList) = false := by rw [text_beq]; exact decide_eq_false hxy
        have HTS := Lib.hid (show withoutL (l.take (k + 1)) x = acc ++ [(fn, fd, fs)] by unfold withoutL at *; rw [hts, hacc]; simp [hxy])
        clear hc1 hc HA hf hbel hacc hal hown hts hxy
        go_wp2_with (at_builtin; go_must (refine wpList_append_own_at _ rfl _ _ 55 rfl w.heap.size 91 i0 (.agg #[.string ⟨#[]⟩, .string ⟨#[]⟩, .int .i64 0]) 3 40 Try.underlying55 HI.out HZ0.out HZ1.out HZ2.out rfl (by omega) _ acc.length (rcells acc) rfl ((HO.out.alloc _).alloc _) ⟨_, 0, none⟩ 1 1 [.string fn, .string fd, .int .i64 fs] rfl rfl (World.news_of_block (heap_alloc2_new _ _ _)) (rf_one (fn, fd, fs)) ?g1 ?g2 ?g3 ?g4))
        case g1 => have := HAL.out; simp only [maxLen]; omega
        case g2 => have := HAL.out; omega
        case g3 => simp; omega
        intro v' w' hown' hgrow' _ _
        go_wp2
        go_roundw
        case measure => simp [intOf]; omega
        case rel =>
          refine ⟨k + 1, acc ++ [(fn, fd, fs)], by omega, by go_num, HTS.out.symm, by have := HAL.out; simp; omega, ?_, ?_⟩
          · rw [rcells_snoc]; simpa [RF.cells] using hown'
          · exact below_grow ((HB.out.alloc HB.out.size _).alloc (by simp; omega) _) hgrow' (fun g e => (HO.out.lt g e).1) (by simp; omega)
    · have hkn : l.take k = l := List.take_of_length_le (by rw [← HN.out]; omega)
      rw [hkn] at hacc
      have HO := Lib.hid hown
      have HB := Lib.hid hbel
      have HAC := Lib.hid hacc
      clear hkn hacc hown hbel hal
      go_wp2
      go_ret
      exact ⟨_, rfl, by rw [← HAC.out]; exact HO.out, HB.out⟩
end Go.Proofs.Ytpllcnpcplbobaa
