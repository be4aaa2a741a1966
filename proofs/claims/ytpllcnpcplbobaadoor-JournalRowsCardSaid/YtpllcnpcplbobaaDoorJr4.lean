import Derived.Test.YtpllcnpcplbobaaDoorJr3
import Derived.Test.YtpllcnpcplbobaaDoorJour2
namespace Go.Proofs.YtpllcnpcplbobaaDoor
open Go.RowKit Go.Maps
set_option linter.unusedVariables false
theorem leftE_low {c left : Int} (h : -1 ≤ left) : -1 ≤ leftE c left := by unfold leftE; split <;> omega
theorem leftE_high {c left : Int} (h : left ≤ 9223372036854775807) : leftE c left ≤ 9223372036854775807 := by unfold leftE; split <;> omega
theorem isSome_put (g : FS) (x : ByteArray) (f : ByteArray × Int) : ((g.put x f) x) = some f := by simp [FS.put]
theorem below_four (w : World) (o0 o1 o2 o3 : Obj) : Below w.heap.size w ((((w.alloc o0).alloc o1).alloc o2).alloc o3) :=
  ((((Below.refl _ _).alloc (Nat.le_refl _) _).alloc (by simp) _).alloc (by simp; omega) _).alloc (by simp; omega) _
theorem below_two (w : World) (o0 o1 : Obj) : Below w.heap.size w ((w.alloc o0).alloc o1) := ((Below.refl _ _).alloc (Nat.le_refl _) _).alloc (by simp) _
theorem at_two0 (w : World) (o0 o1 : Obj) : ((w.alloc o0).alloc o1).heap[w.heap.size]? = some o0 := (heap_alloc_old _ _ (by simp)).trans (heap_alloc_new w _)
theorem at_two1 (w : World) (o0 o1 : Obj) : ((w.alloc o0).alloc o1).heap[w.heap.size + 1]? = some o1 := by
  have h := heap_alloc_new (w.alloc o0) o1
  simpa using h
theorem at_four0 (w : World) (o0 o1 o2 o3 : Obj) : ((((w.alloc o0).alloc o1).alloc o2).alloc o3).heap[w.heap.size]? = some o0 :=
  (heap_alloc_old _ _ (by simp; try omega)).trans ((heap_alloc_old _ _ (by simp; try omega)).trans ((heap_alloc_old _ _ (by simp)).trans (heap_alloc_new w _)))
theorem at_four1 (w : World) (o0 o1 o2 o3 : Obj) : ((((w.alloc o0).alloc o1).alloc o2).alloc o3).heap[w.heap.size + 1]? = some o1 :=
  (heap_alloc_old _ _ (by simp; try omega)).trans ((heap_alloc_old _ _ (by simp)).trans (by have h := heap_alloc_new (w.alloc o0) o1; simpa using h))
theorem at_four2 (w : World) (o0 o1 o2 o3 : Obj) : ((((w.alloc o0).alloc o1).alloc o2).alloc o3).heap[w.heap.size + 1 + 1]? = some o2 :=
  (heap_alloc_old _ _ (by simp)).trans (by have h := heap_alloc_new ((w.alloc o0).alloc o1) o2; simpa using h)
theorem at_four3 (w : World) (o0 o1 o2 o3 : Obj) : ((((w.alloc o0).alloc o1).alloc o2).alloc o3).heap[w.heap.size + 1 + 1 + 1]? = some o3 := by
  have h := heap_alloc_new (((w.alloc o0).alloc o1).alloc o2) o3
  simpa using h
/-! What anew does: three writing calls on the other file. -/
def n0 (g : FS) (left : Int) (o : ByteArray) : Int := beginE false g left o [o]
def nG0 (g : FS) (left : Int) (o d : ByteArray) : FS := appendG (n0 g left o) g o d
def nL0 (g : FS) (left : Int) (o : ByteArray) : Int := leftE (n0 g left o) left
def n1 (g : FS) (left : Int) (o d : ByteArray) : Int := beginE true (nG0 g left o d) (nL0 g left o) o [o]
def nG1 (g : FS) (left : Int) (o d : ByteArray) : FS := syncG (n1 g left o d) (nG0 g left o d) o
def nL1 (g : FS) (left : Int) (o d : ByteArray) : Int := leftE (n1 g left o d) (nL0 g left o)
def n2 (g : FS) (left : Int) (o d name : ByteArray) : Int := beginE true (nG1 g left o d) (nL1 g left o d) o [o, name]
def nG2 (g : FS) (left : Int) (o d name : ByteArray) : FS := renameG (n2 g left o d name) (nG1 g left o d) o name
def nL2 (g : FS) (left : Int) (o d name : ByteArray) : Int := leftE (n2 g left o d name) (nL1 g left o d)
/-- What anew leaves. -/
def AnewPost (w : World) (j p b : Nat) (name : ByteArray) (N : Nat) (g : FS) (left : Int) (o d : ByteArray) (e : Ending) (w' : World) : Prop :=
  doesNPost w j p b name N (n0 g left o) (nG0 g left o d) (nL0 g left o) (n1 g left o d) (nG1 g left o d) (nL1 g left o d) (n2 g left o d name) (nG2 g left o d name) (nL2 g left o d name) e w'
theorem doesNOut.from {w W : World} {j p b : Nat} {name : ByteArray} {N : Nat} {c0 c1 c2 : Int} {G0 G1 G2 : FS} {L0 L1 L2 : Int} {code : Int} {w' : World} (h : doesNOut W j p b name N c0 G0 L0 c1 G1 L1 c2 G2 L2 code w') (hb : Below w.heap.size w W) : doesNOut w j p b name N c0 G0 L0 c1 G1 L1 c2 G2 L2 code w' :=
  ⟨h.1, (Turned3.of_below hb p b j).trans h.2⟩
set_option maxRecDepth 100000 in
set_option maxHeartbeats 2000000 in
theorem anew_any (j p b N : Nat) (g : FS) (left : Int) (h1 : -1 ≤ left) (h2 : left ≤ 9223372036854775807) (hN : N + 4 < maxLen) (name data : ByteArray) (hn : name.size ≤ 1099511627776) (hsz : ((g (name ++ sufx)).getD noFile).1.size + data.size ≤ 1099511627776) (w : World) (hD : DiskAt w p b g left N) (hJ : JBlk w j p name false) :
    Calls Tryd.prog 19 #[.pointer (some ⟨j, 0, none⟩), .string data] w (AnewPost w j p b name N g left (name ++ sufx) data) := by
  have hx4 : (name ++ sufx).size = name.size + 4 := by rw [ByteArray.size_append]; rfl
  have hmf : ∀ (fn : Fn) (first cap : Array Value) (w : World), (Instr.makeFunc fn first cap).run Tryd.prog w = .ok (.func fn first cap) w := fun _ _ _ _ => rfl
  have hone : name.size ≤ maxLen := by simp only [maxLen]; omega
  have hoth : (name ++ sufx).size ≤ maxLen := by simp only [maxLen]; omega
  obtain ⟨o, ho⟩ : ∃ o, o = name ++ sufx := ⟨_, rfl⟩
  rw [← ho] at hsz hoth
  have hcat : name ++ (⟨#[46, 110, 101, 119]⟩ : ByteArray) = o := ho.symm
  rw [← ho]
  obtain ⟨c0, c1, c2, _⟩ := hJ.cells
  have hjl := hJ.lt
  have hdoes := fun (W : World) (f bj bo bv : Nat) (hd : DiskAt W p b g left N) (hj : JBlk W j p name false) hf h3 h4 h5 => doesN_any j p b N g left h1 h2 hN name o data f bj bo bv W hd hj hf h3 h4 h5
    (n0 g left o) (nG0 g left o data) (nL0 g left o) (fun W' hd' hj' h3' h4' h5' => anew1_any j p b N g left h1 h2 (by omega) name o data false hoth hsz bj bo bv W' hd' hj' h3' h4' h5')
    (n1 g left o data) (nG1 g left o data) (nL1 g left o data) (fun W' _ hd' hj' h3' h4' _ => anew2_any j p b (N + 1) (nG0 g left o data) (nL0 g left o) (leftE_low h1) (leftE_high h2) (by omega) name o false hoth bj bo W' hd' hj' h3' h4')
    (n2 g left o data name) (nG2 g left o data name) (nL2 g left o data name) (fun W' _ _ hd' hj' h3' h4' _ => anew3_any j p b (N + 2) (nG1 g left o data) (nL1 g left o data) (leftE_low (leftE_low h1)) (leftE_high (leftE_high h2)) (by omega) name o false hoth hone bj bo W' hd' hj' h3' h4')
  have HDOES := Lib.hid hdoes
  have HD := Lib.hid hD
  have HJ := Lib.hid hJ
  clear hdoes hD hJ hsz hoth hone ho hx4
  go_enter Tryd.func19, Tryd.ntmps19
  go_wp2_with (go_at_call 14; refine (HDOES.out _ (w.heap.size + 1 + 1 + 1) w.heap.size (w.heap.size + 1 + 1) (w.heap.size + 1) (HD.out.below (below_four w _ _ _ _)) (HJ.out.below (below_four w _ _ _ _)) (at_four3 w _ _ _ _) (at_four0 w _ _ _ _) (at_four2 w _ _ _ _) (at_four1 w _ _ _ _)).mono ?_; rintro e w1 ⟨code, rfl, hp1⟩; have HP1 := Lib.hid hp1; clear hp1)
  go_ret
  exact ⟨code, rfl, HP1.out.from (below_four w _ _ _ _)⟩
end Go.Proofs.YtpllcnpcplbobaaDoor
