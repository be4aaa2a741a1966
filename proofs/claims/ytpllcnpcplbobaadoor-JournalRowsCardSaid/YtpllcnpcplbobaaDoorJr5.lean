import Derived.Test.YtpllcnpcplbobaaDoorJr4
namespace Go.Proofs.YtpllcnpcplbobaaDoor
open Go.RowKit Go.Maps
set_option linter.unusedVariables false
/-! What Add does: two writing calls. -/
def a0 (g : FS) (left : Int) (name : ByteArray) : Int := beginE false g left name [name]
def aG0 (g : FS) (left : Int) (name f : ByteArray) : FS := appendG (a0 g left name) g name f
def aL0 (g : FS) (left : Int) (name : ByteArray) : Int := leftE (a0 g left name) left
def a1 (g : FS) (left : Int) (name f : ByteArray) : Int := beginE true (aG0 g left name f) (aL0 g left name) name [name]
def aG1 (g : FS) (left : Int) (name f : ByteArray) : FS := syncG (a1 g left name f) (aG0 g left name f) name
def aL1 (g : FS) (left : Int) (name f : ByteArray) : Int := leftE (a1 g left name f) (aL0 g left name)
theorem doesAOut.from {w W : World} {j p b : Nat} {name : ByteArray} {N : Nat} {c0 c1 : Int} {G0 G1 : FS} {L0 L1 : Int} {code : Int} {w' : World} (h : doesAOut W j p b name N c0 G0 L0 c1 G1 L1 code w') (hb : Below w.heap.size w W) : doesAOut w j p b name N c0 G0 L0 c1 G1 L1 code w' :=
  ⟨h.1, (Turned3.of_below hb p b j).trans h.2⟩
def AddOut (w : World) (j p b : Nat) (name : ByteArray) (N : Nat) (g : FS) (left : Int) (f : ByteArray) (code : Int) (w' : World) : Prop :=
  doesAOut w j p b name N (a0 g left name) (aG0 g left name f) (aL0 g left name) (a1 g left name f) (aG1 g left name f) (aL1 g left name f) code w'
theorem frameV_ok {rec : ByteArray} (h : rec.size ≤ 1048576) : frameV rec = .tuple #[.string (frameS rec), .int .i64 0] := if_pos h
set_option maxRecDepth 100000 in
set_option maxHeartbeats 2000000 in
theorem jadd_any (j p b N : Nat) (g : FS) (left : Int) (h1 : -1 ≤ left) (h2 : left ≤ 9223372036854775807) (hN : N + 3 < maxLen) (name rec : ByteArray) (hn : name.size ≤ maxLen) (hr : rec.size ≤ 1048576) (hsz : ((g name).getD noFile).1.size + (frameS rec).size ≤ 1099511627776) (w : World) (hD : DiskAt w p b g left N) (hJ : JBlk w j p name false) :
    Calls Tryd.prog 8 #[.pointer (some ⟨j, 0, none⟩), .string rec] w fun e w' => ∃ code, e = .returned (.int .i64 code) ∧ AddOut w j p b name N g left (frameS rec) code w' := by
  have hmf : ∀ (fn : Fn) (first cap : Array Value) (w : World), (Instr.makeFunc fn first cap).run Tryd.prog w = .ok (.func fn first cap) w := fun _ _ _ _ => rfl
  have hjl := hJ.lt
  obtain ⟨c0, c1, c2, _⟩ := hJ.cells
  have hfr := fun W => frame_any rec W
  rw [frameV_ok hr] at hfr
  obtain ⟨f, hf⟩ : ∃ f, f = frameS rec := ⟨_, rfl⟩
  rw [← hf] at hsz hfr ⊢
  have hdoes := fun (W : World) (fb bj bv : Nat) (hd : DiskAt W p b g left N) (hj : JBlk W j p name false) h3 h4 h5 => doesA_any j p b N g left h1 h2 hN name f fb bj bv W hd hj h3 h4 h5
    (a0 g left name) (aG0 g left name f) (aL0 g left name) (fun W' hd' hj' h3' h4' => add1_any j p b N g left h1 h2 (by omega) name f false hn hsz bj bv W' hd' hj' h3' h4')
    (a1 g left name f) (aG1 g left name f) (aL1 g left name f) (fun W' _ hd' hj' h3' _ => add2_any j p b (N + 1) (aG0 g left name f) (aL0 g left name) (leftE_low h1) (leftE_high h2) (by omega) name false hn bj W' hd' hj' h3')
  have HDOES := Lib.hid hdoes
  have HFR := Lib.hid hfr
  have HD := Lib.hid hD
  have HJ := Lib.hid hJ
  have hbox : ∀ W : World, Below (w.heap.size + 1) (w.alloc (.cells #[.pointer (some ⟨j, 0, none⟩)] 27)) W → Below w.heap.size w W ∧ VarAt W w.heap.size (.pointer (some ⟨j, 0, none⟩)) 27 ∧ w.heap.size < W.heap.size := fun W hb =>
    ⟨((Below.refl _ _).alloc (Nat.le_refl _) _).trans (hb.mono (by omega)), (hb.block w.heap.size (by omega)).trans (heap_alloc_new w _), by have := hb.size; simp at this; omega⟩
  have HBX := Lib.hid hbox
  clear hdoes hfr hD hJ hsz hf hbox
  go_enter Tryd.func8, Tryd.ntmps8
  go_wp2_with (first | (go_at_call 13; refine (HFR.out _).mono ?_; rintro e w1 ⟨rfl, hb1⟩; obtain ⟨hb2, hv, hz⟩ := HBX.out w1 (hb1.mono (by simp)); have x0 := hv.cell; have HV := Lib.hid hv; have HB := Lib.hid hb2; clear hb1 hv hb2) | (go_at_call 14; refine (HDOES.out _ (w1.heap.size + 1) w.heap.size w1.heap.size ((HD.out.below HB.out).below (below_two w1 _ _)) ((HJ.out.below HB.out).below (below_two w1 _ _)) (at_two1 w1 _ _) (HV.out.below (below_two w1 _ _)) (at_two0 w1 _ _)).mono ?_; rintro e w2 ⟨code, rfl, hp1⟩; have HP1 := Lib.hid hp1; clear hp1))
  go_ret
  exact ⟨code, rfl, HP1.out.from (HB.out.trans ((below_two w1 _ _).mono HB.out.size))⟩
end Go.Proofs.YtpllcnpcplbobaaDoor
