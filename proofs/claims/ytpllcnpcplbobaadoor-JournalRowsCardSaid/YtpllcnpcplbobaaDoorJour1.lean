import Derived.Test.YtpllcnpcplbobaaDoorSha5
namespace Go.Proofs.YtpllcnpcplbobaaDoor
open Go.RowKit
theorem conv_new (W : World) (l : List Int) (m cap : Nat) (hm : m ≤ l.length) (t : TypeId) :
    (convert 54 9 (.slice (some ⟨W.heap.size, 0, none⟩) m cap)).run Tryd.prog (W.alloc (.cells (Sha.u8s l).toArray t)) = .ok (.string (strOfNums (l.take m))) (W.alloc (.cells (Sha.u8s l).toArray t)) := by
  refine run_convert_bytes_arg _ 54 5 Tryd.underlying54 Tryd.underlying5 W.heap.size 0 m cap (l.take m) (by simp; omega) (fun i hi => ?_) 9 Tryd.underlying9
  rw [cell_of_row _ _ _ _ _ _ (heap_alloc_new W _)]
  have := u8s_get l (0 + i) (by omega)
  simp only [List.getElem?_toArray, this]
  simp [Sha.nth, hi]
def num4 (n : Nat) : List Int := [(n : Int) / 16777216 % 256, (n : Int) / 65536 % 256, (n : Int) / 256 % 256, (n : Int) % 256]
/-- A record's head: how long it is, and the first eight bytes of the digest. -/
def headL (rec : ByteArray) : List Int := num4 rec.size ++ (Sha.sum (num4 rec.size ++ Sha.bytesI rec)).take 8
theorem isBytes_num4 (n : Nat) : Sha.IsBytes (num4 n) := Sha.isBytes_of fun x hx => by
  simp only [num4, List.mem_cons, List.not_mem_nil, or_false] at hx
  rcases hx with rfl | rfl | rfl | rfl <;> omega
theorem bytesI_strOfNums {l : List Int} (h : Sha.IsBytes l) : Sha.bytesI (strOfNums l) = l := by
  apply List.ext_getElem
  · rw [Sha.length_bytesI, strOfNums_size]
  · intro i h1 h2
    have hb := h i
    have e : Sha.nth l i = l[i] := by simp [Sha.nth, h2]
    rw [e] at hb
    simp [Sha.bytesI, strOfNums_data]
    omega
theorem cells2 (w : World) (o : Obj) (a b : Value) (t : TypeId) : ((w.alloc o).alloc (.cells #[a, b] t)).cell? ⟨w.heap.size + 1, 0, none⟩ = some a ∧ ((w.alloc o).alloc (.cells #[a, b] t)).cell? ⟨w.heap.size + 1, 1, none⟩ = some b :=
  ⟨by rw [cell_of_row _ _ _ _ _ _ (heap_alloc2_new w o _)]; rfl, by rw [cell_of_row _ _ _ _ _ _ (heap_alloc2_new w o _)]; rfl⟩
theorem strOfNums_append (a b : List Int) : strOfNums a ++ strOfNums b = strOfNums (a ++ b) := by
  apply ByteArray.ext
  simp [strOfNums]
set_option maxRecDepth 100000 in
set_option maxHeartbeats 1000000 in
theorem heading_any (rec : ByteArray) (hr : rec.size ≤ 1099511627776) (w : World) :
    Calls Tryd.prog 30 #[.string rec] w fun e w' => e = .returned (.string (strOfNums (headL rec))) ∧ Below w.heap.size w w' := by
  have hc4 : ∀ (W : World) (a b c d : Int), (convert 54 9 (.slice (some ⟨W.heap.size, 0, none⟩) 4 4)).run Tryd.prog (W.alloc (.cells #[.int .u8 a, .int .u8 b, .int .u8 c, .int .u8 d] 5)) = .ok (.string (strOfNums [a, b, c, d])) (W.alloc (.cells #[.int .u8 a, .int .u8 b, .int .u8 c, .int .u8 d] 5)) :=
    fun W a b c d => conv_new W [a, b, c, d] 4 4 (by simp) 5
  obtain ⟨L, hL⟩ : ∃ L, L = Sha.sum (num4 rec.size ++ Sha.bytesI rec) := ⟨_, rfl⟩
  have hlen : L.length = 32 := by rw [hL, Sha.length_sum]
  have hc8 : ∀ W : World, (convert 54 9 (.slice (some ⟨W.heap.size, 0, none⟩) 8 32)).run Tryd.prog (W.alloc (.cells (Sha.u8s L).toArray 83)) = .ok (.string (strOfNums (L.take 8))) (W.alloc (.cells (Sha.u8s L).toArray 83)) :=
    fun W => conv_new W L 8 32 (by omega) 83
  have hsum := fun W pb => sum_any pb (strOfNums (num4 rec.size)) rec (by rw [strOfNums_size]; simp [num4]) (by omega) W
  rw [bytesI_strOfNums (isBytes_num4 _), ← hL] at hsum
  simp only [num4] at hsum
  have HS := Lib.hid hsum
  have HL := Lib.hid hL
  have h8 : (strOfNums (L.take 8)).size = 8 := by rw [strOfNums_size]; simp; omega
  have h4 : ∀ a b c d, (strOfNums [a, b, c, d]).size = 4 := fun a b c d => by rw [strOfNums_size]; rfl
  have HI : (Tryd.prog.info? 83).map (·.size) = some (Sha.u8s L).toArray.size := by rw [hL]; exact infoSum _
  have HZ : (#[.int .u8 0, .int .u8 0, .int .u8 0, .int .u8 0, .int .u8 0, .int .u8 0, .int .u8 0, .int .u8 0, .int .u8 0, .int .u8 0, .int .u8 0, .int .u8 0, .int .u8 0, .int .u8 0, .int .u8 0, .int .u8 0, .int .u8 0, .int .u8 0, .int .u8 0, .int .u8 0, .int .u8 0, .int .u8 0, .int .u8 0, .int .u8 0, .int .u8 0, .int .u8 0, .int .u8 0, .int .u8 0, .int .u8 0, .int .u8 0, .int .u8 0, .int .u8 0] : Array Value).size = (Sha.u8s L).toArray.size := by rw [hL]; exact sizeSum _
  have HI := Lib.hid HI
  have HZ := Lib.hid HZ
  clear hsum hL hlen
  go_enter Tryd.func30, Tryd.ntmps30
  go_wp2_with (first | (go_at_call 43; refine (HS.out _ _ (cells2 _ _ _ _ _).1 (cells2 _ _ _ _ _).2).mono ?_; rintro e w1 ⟨rfl, hb1⟩; have B1 := Lib.hid hb1; clear hb1) | (with_reducible refine wpList_store_rowTo rfl 83 _ _ rfl rfl _ (Sha.u8s L).toArray (by kernel_rfl) (by kernel_rfl) 83 _ (heap_alloc_new _ _) HI.out HZ.out (u8s_one _) ?_; rw [setRow_alloc]))
  go_ret
  exact ⟨by rw [HL.out, strOfNums_append]; rfl, (((((Below.refl _ _).alloc (Nat.le_refl _) _).alloc (by simp) _).trans ((B1.out).mono (by simp; omega)))).alloc (Nat.le_trans (by simp; omega) (B1.out).size) _⟩
end Go.Proofs.YtpllcnpcplbobaaDoor
