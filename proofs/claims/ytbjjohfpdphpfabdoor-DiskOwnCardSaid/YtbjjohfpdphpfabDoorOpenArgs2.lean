/- What a row's opening tells of an argument that is a slice of bytes; where it is nil it has no room. -/
import Derived.Test.YtbjjohfpdphpfabDoorOpenArgs
namespace Go.Proofs.YtbjjohfpdphpfabDoor.Dsk
open Go Go.RowKit Go.Lib Go.ChangeShapes Go.WideShapes Go.ChangeAt

/-- An argument that is a slice of bytes. -/
structure BytesArg (W : World) (v : Value) (l : List UInt8) : Prop where
  bytes : BytesIn W v l (fun i => i < W.heap.size)
  nil : ∀ n c, v = .slice none n c → c = 0

set_option maxRecDepth 100000 in
theorem open_bytes_arg {H : Type} {enc : TypeId × Value → H} {W : World} {base : Nat} {v : Value} {d : DataW H} {ps : List MemPlace} (hv : Value.okWide Tryd.prog W .any base 31 v) (h : DataW.Trod enc Tryd.prog W 0 (fun _ => true) true 31 v d ps) :
    ∃ l, BytesArg W v l := by
  obtain ⟨A, C, l, e, hB⟩ := open_bytes hv h
  refine ⟨l, hB, fun n c hn => ?_⟩
  obtain ⟨fuel, hf⟩ := h
  subst hn
  rcases open_ints Tryd.underlying31 Tryd.underlying5 cells_bytes hf with ⟨hc, -⟩ | ⟨a, len, cap, zs, hc, -⟩
  · simp [Value.cells] at hc
    exact hc.2
  · simp [Value.cells] at hc

end Go.Proofs.YtbjjohfpdphpfabDoor.Dsk
