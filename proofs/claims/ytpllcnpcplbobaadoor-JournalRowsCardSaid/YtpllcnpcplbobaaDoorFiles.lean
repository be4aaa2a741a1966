import Derived.Test.YtpllcnpcplbobaaDoorProg
import Derived.Test.YtpllcnpcplbobaaDoorBase
import Derived.Maps.OwnSet
import Derived.Maps.Views
import Derived.StringKeys
import Derived.Sort.KeysCollected
namespace Go.Proofs.YtpllcnpcplbobaaDoor
open Go.RowKit Go.Maps
/-! A disk's files: a map from names to bytes and to how many of them are sure. -/
/-- What a name leads to. -/
def FS := ByteArray → Option (ByteArray × Int)
def fileV (f : ByteArray × Int) : Value := .agg #[.string f.1, .int .i64 f.2]
def fileD (f : ByteArray × Int) : DataW Unit := .agg [.lit (.string f.1.data.toList), .lit (.int .i64 f.2)]
def fileR : Value → Option (DataW Unit × List MemPlace)
  | .agg cs => match cs.toList with
    | [.string d, .int .i64 s] => some (.agg [.lit (.string d.data.toList), .lit (.int .i64 s)], [])
    | _ => none
  | _ => none
theorem fileR_mk (f : ByteArray × Int) : fileR (fileV f) = some (fileD f, []) := rfl
theorem fileR_inv {v : Value} {f : ByteArray × Int} {ps : List MemPlace} (h : fileR v = some (fileD f, ps)) : v = fileV f := by
  unfold fileR at h
  split at h
  · rename_i cs
    split at h
    case h_2 => cases h
    rename_i d s hcs
    have hc : cs = #[.string d, .int .i64 s] := by rw [← Array.toList_inj]; exact hcs
    simp only [Option.some.injEq, Prod.mk.injEq, fileD, DataW.agg.injEq, List.cons.injEq, DataW.lit.injEq, Lit.string.injEq, Lit.int.injEq, and_true, true_and] at h
    obtain ⟨⟨h1, h2⟩, _⟩ := h
    have e : d = f.1 := WideShapes.bytes_inj h1
    rw [hc, fileV, ← e, ← h2]
  · cases h
def kl (name : ByteArray) : Lit := .string name.data.toList
theorem kl_inj {a b : ByteArray} (h : kl a = kl b) : a = b := by
  simp only [kl, Lit.string.injEq] at h
  exact WideShapes.bytes_inj h
theorem kl_key (a : ByteArray) : WideAt.IsKeyLit (kl a) := by
  unfold kl
  first | trivial | simp [WideAt.IsKeyLit]
def noFile : ByteArray × Int := (⟨#[]⟩, 0)
/-- Block b is a map of at most N entries that holds just the files of g. -/
def MapAt (w : World) (b N : Nat) (g : FS) : Prop :=
  ∃ D : DataW Unit, w.ownsMap Tryd.prog 9 fileR b N D ∧ ∀ name, has D (kl name) = (g name).isSome ∧ ∀ f, g name = some f → ∀ z, D.atKey (kl name) z = fileD f
theorem MapAt.of_heap {w w' : World} {b N : Nat} {g : FS} (h : MapAt w b N g) (he : w'.heap[b]? = w.heap[b]?) : MapAt w' b N g := by
  obtain ⟨D, ⟨es, clock, hb, r⟩, hr⟩ := h
  exact ⟨D, ⟨es, clock, he.trans hb, r⟩, hr⟩
theorem MapAt.lt {w : World} {b N : Nat} {g : FS} (h : MapAt w b N g) : b < w.heap.size := by
  obtain ⟨D, h, _⟩ := h
  exact h.lt
theorem MapAt.mono {w : World} {b N N' : Nat} {g : FS} (h : MapAt w b N g) (hn : N ≤ N') : MapAt w b N' g := by
  obtain ⟨D, h, r⟩ := h
  exact ⟨D, h.mono hn, r⟩
theorem mapAt_new (w : World) : MapAt (w.alloc (.map #[] 0)) w.heap.size 0 (fun _ => none) :=
  ⟨.map [], World.ownsMap_made w _ _ _, fun _ => ⟨rfl, fun _ h => by cases h⟩⟩
theorem keyed : Keyed Tryd.prog 9 := string_keyed Tryd.underlying9
theorem keyOf_name {name : ByteArray} (h : name.size ≤ maxLen) : keyOf Tryd.prog 9 (.string name) = some (kl name) := WideMaps.keyOf_string_mk Tryd.underlying9 h
theorem zero_file (w : World) : (zeroValue 66).run Tryd.prog w = .ok (fileV noFile) w := by
  kernel_rfl
theorem MapAt.look {w : World} {b N : Nat} {g : FS} (h : MapAt w b N g) (name : ByteArray) (hn : name.size ≤ maxLen) :
    (Instr.lookup 42 (.map (some b)) (.string name) true).run Tryd.prog w = .ok (.tuple #[fileV ((g name).getD noFile), .bool (g name).isSome]) w ∧
    (Instr.lookup 42 (.map (some b)) (.string name) false).run Tryd.prog w = .ok (fileV ((g name).getD noFile)) w := by
  obtain ⟨D, h, hr⟩ := h
  obtain ⟨h1, h2⟩ := hr name
  have hat : D.atKey (kl name) (fileD noFile) = fileD ((g name).getD noFile) := by
    cases hg : g name with
    | none => rw [hg] at h1; exact atKey_of_not_has h1 _
    | some f => exact h2 f hg _
  constructor
  · obtain ⟨v, ps, hrun, hv⟩ := h.look_ok keyed Tryd.underlying42 (zero_file w) (fileR_mk noFile) (keyOf_name hn)
    rw [hat] at hv
    rw [hrun, h1, fileR_inv hv]
  · obtain ⟨v, ps, hrun, hv⟩ := h.lookup keyed Tryd.underlying42 (zero_file w) (fileR_mk noFile) (keyOf_name hn)
    rw [hat] at hv
    rw [hrun, fileR_inv hv]
def FS.put (g : FS) (name : ByteArray) (f : ByteArray × Int) : FS := fun x => if x = name then some f else g x
def FS.del (g : FS) (name : ByteArray) : FS := fun x => if x = name then none else g x
theorem mapAt_put {D : DataW Unit} {g : FS} (hm : IsMap D) (hr : ∀ name, has D (kl name) = (g name).isSome ∧ ∀ f, g name = some f → ∀ z, D.atKey (kl name) z = fileD f) (name : ByteArray) (f : ByteArray × Int) :
    ∀ x, has (D.put (kl name) (fileD f)) (kl x) = (g.put name f x).isSome ∧ ∀ f', g.put name f x = some f' → ∀ z, (D.put (kl name) (fileD f)).atKey (kl x) z = fileD f' := fun x => by
  by_cases hx : x = name
  · subst hx
    refine ⟨by rw [has_put_same hm (kl_key x)]; simp [FS.put], fun f' h z => ?_⟩
    simp [FS.put] at h
    rw [atKey_put_same hm (kl_key x), h]
  · have hne : kl x ≠ kl name := fun e => hx (kl_inj e)
    refine ⟨by rw [has_put_other hne, (hr x).1]; simp [FS.put, hx], fun f' h z => ?_⟩
    simp [FS.put, hx] at h
    rw [atKey_put_other hne]
    exact (hr x).2 f' h z
theorem mapAt_del {D : DataW Unit} {g : FS} (hr : ∀ name, has D (kl name) = (g name).isSome ∧ ∀ f, g name = some f → ∀ z, D.atKey (kl name) z = fileD f) (name : ByteArray) :
    ∀ x, has (D.del (kl name)) (kl x) = (g.del name x).isSome ∧ ∀ f', g.del name x = some f' → ∀ z, (D.del (kl name)).atKey (kl x) z = fileD f' := fun x => by
  by_cases hx : x = name
  · subst hx
    refine ⟨by rw [has_del_same]; simp [FS.del], fun f' h z => ?_⟩
    simp [FS.del] at h
  · have hne : kl x ≠ kl name := fun e => hx (kl_inj e)
    refine ⟨by rw [has_del_other hne, (hr x).1]; simp [FS.del, hx], fun f' h z => ?_⟩
    simp [FS.del, hx] at h
    rw [atKey_del_other hne]
    exact (hr x).2 f' h z
end Go.Proofs.YtpllcnpcplbobaaDoor
