/- What a row's opening tells of an argument that is a slice of bytes, or a slice of such. -/
import Derived.Test.YtlabpmmcmejpmaaDoorBytesArg
import Derived.OpenShut
import Derived.ChangeSlices
import Derived.WideShapes
import Derived.Deep.Matrix
import Derived.ProofKit
import Derived.Carry
import Derived.SizedLaws
namespace Go.Proofs.YtlabpmmcmejpmaaDoor.Dsk
open Go Go.RowKit Go.Lib Go.ChangeShapes Go.WideShapes Go.ChangeAt

theorem cells_bytes : Tryd.prog.cellsOf 5 = 1 := by kernel_rfl

theorem lt_of_cell {w : World} {a : Addr} {u : Value} (h : w.cell? a = some u) : a.block < w.heap.size := by
  unfold World.cell? at h
  by_cases hl : a.block < w.heap.size
  · exact hl
  · rw [Array.getElem?_eq_none (by omega)] at h; cases h

set_option maxRecDepth 100000 in
theorem open_bytes {H : Type} {enc : TypeId × Value → H} {W : World} {base : Nat} {v : Value} {d : DataW H} {ps : List MemPlace} (hv : Value.okWide Tryd.prog W .any base 31 v) (h : DataW.Trod enc Tryd.prog W 0 (fun _ => true) true 31 v d ps) :
    ∃ A C l, v = .slice A (l : List UInt8).length C ∧ BytesIn W v l (fun i => i < W.heap.size) := by
  obtain ⟨a0, len0, cap0, rfl⟩ := okWide_slice Tryd.underlying31 hv
  obtain ⟨fuel, hf⟩ := h
  rcases open_ints Tryd.underlying31 Tryd.underlying5 cells_bytes hf with ⟨hc, -⟩ | ⟨a, len, cap, zs, hc, -, hl, hm, hz, -, hcell, hwf⟩
  · have hc' : Value.slice a0 len0 cap0 = .slice none 0 0 := by simpa [Value.cells] using hc
    rw [hc']
    exact ⟨none, 0, [], rfl, ⟨none, 0, rfl, Nat.le_refl _, Nat.zero_le _, fun _ => rfl, fun b hb => by cases hb⟩⟩
  · have hc' : Value.slice a0 len0 cap0 = .slice (some a) len cap := by simpa [Value.cells] using hc
    rw [hc']
    simp only [if_true] at hz
    have hlen : (toBytes (zs.take len)).length = len := by unfold toBytes; simp; omega
    refine ⟨some a, cap, toBytes (zs.take len), by rw [hlen], bytesIn_arg hl hm hz hwf (fun e => by cases e) (fun b hb c hcl => ?_)⟩
    obtain rfl := Option.some.inj hb
    exact hcell c (by omega)

/-- A number of the argument's. -/
theorem wf_lt {n : Int} (h : (Lit.int .i64 n).wf = true) : n < 9223372036854775808 := by
  simp only [Lit.wf, Bool.and_eq_true, decide_eq_true_eq] at h
  have : IntKind.i64.max = 9223372036854775807 := by decide
  omega

end Go.Proofs.YtlabpmmcmejpmaaDoor.Dsk
