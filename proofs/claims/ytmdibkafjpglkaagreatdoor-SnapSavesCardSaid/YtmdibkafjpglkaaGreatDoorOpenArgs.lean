/- An argument's bytes: what the row's opening tells, as the walks want it. What a row's opening tells of an argument that is a slice of bytes, or a slice of such. -/
import Derived.Test.YtmdibkafjpglkaaGreatDoorDiskBytes
import Derived.Deep.Matrix
import Derived.OpenShut
import Derived.ChangeSlices
import Derived.WideShapes
import Derived.ProofKit
import Derived.Carry
import Derived.SizedLaws
namespace Go.Proofs.YtmdibkafjpglkaaGreatDoor.Dsk
open Go Go.RowKit

/-- Numbers that are bytes. -/
def toBytes (zs : List Int) : List UInt8 := zs.map fun n => UInt8.ofNat n.toNat

theorem byteV_of {n : Int} (h : (Lit.int .u8 n).wf = true) : byteV (UInt8.ofNat n.toNat) = .int .u8 n := by
  have h2 : 0 ≤ n ∧ n < 256 := by
    simp only [Lit.wf, Bool.and_eq_true, decide_eq_true_eq] at h
    obtain ⟨h1, h2⟩ := h
    have e1 : IntKind.u8.min = 0 := by decide
    have e2 : IntKind.u8.max = 255 := by decide
    omega
  unfold byteV
  have : (UInt8.ofNat n.toNat).toNat = n.toNat := by
    rw [UInt8.toNat_ofNat']; omega
  rw [this, Int.toNat_of_nonneg h2.1]

/-- An argument that is a slice of bytes. -/
theorem bytesIn_arg {w : World} {A : Option Addr} {len cap : Nat} {zs : List Int} (hl : len ≤ cap) (hm : cap ≤ maxLen) (hz : zs.length = cap) (hwf : ∀ n ∈ zs, (Lit.int .u8 n).wf = true) (hnil : A = none → cap = 0)
    (hcell : ∀ a, A = some a → ∀ c, c < cap → w.cell? (a.add c) = some (.int .u8 (zs.getD c 0))) : BytesIn w (.slice A len cap) (toBytes (zs.take len)) (fun i => i < w.heap.size) := by
  have hlen : (toBytes (zs.take len)).length = len := by unfold toBytes; simp; omega
  refine ⟨A, cap, by rw [hlen], by rw [hlen]; exact hl, hm, fun e => ?_, fun b hb j u hj => ?_⟩
  · have := hnil e
    exact List.eq_nil_of_length_eq_zero (by rw [hlen]; omega)
  · have hjl : j < len := by
      have := (List.getElem?_eq_some_iff.1 hj).1
      simpa [hlen] using this
    have hc := hcell b hb j (by omega)
    have hblk : b.block < w.heap.size := by
      unfold World.cell? at hc
      have e1 : (b.add j).block = b.block := by unfold Addr.add; split <;> rfl
      rw [e1] at hc
      by_cases h : b.block < w.heap.size
      · exact h
      · rw [Array.getElem?_eq_none (by omega)] at hc; cases hc
    refine ⟨?_, hblk, hblk⟩
    rw [hc, ← hj]
    unfold toBytes
    have hjz : j < zs.length := by omega
    simp only [List.map_map, List.getElem?_map, List.getElem?_take, hjl, if_true, List.getElem?_eq_getElem hjz, Option.map_some, Function.comp]
    rw [byteV_of (hwf _ (List.getElem_mem hjz)), List.getD_eq_getElem?_getD, List.getElem?_eq_getElem hjz]
    rfl

/-- A slice of slices of bytes; all lies below N. -/
structure RowsIn (w : World) (v : Value) (ls : List (List UInt8)) (N : Nat) : Prop where
  read : ∃ ao cap, v = .slice ao ls.length cap ∧ (ao = none → ls = []) ∧ ∀ a, ao = some a → ∀ r l, ls[r]? = some l → (a.add r).block < N ∧ ∃ A C, w.cell? (a.add r) = some (.slice A l.length C) ∧ BytesIn w (.slice A l.length C) l (fun i => i < N)

theorem RowsIn.keep {w w' : World} {v : Value} {ls : List (List UInt8)} {N : Nat} (h : RowsIn w v ls N) (hN : N ≤ w.heap.size) (k : Keep (fun i => N ≤ i) w w') : RowsIn w' v ls N := by
  obtain ⟨ao, cap, e, h1, h2⟩ := h.read
  refine ⟨ao, cap, e, h1, fun a ha r l hr => ?_⟩
  obtain ⟨hb, A, C, hc, hB⟩ := h2 a ha r l hr
  exact ⟨hb, A, C, by rw [k.cell (by omega) (by omega)]; exact hc, hB.keep k (fun i hi => by omega)⟩

end Go.Proofs.YtmdibkafjpglkaaGreatDoor.Dsk

namespace Go.Proofs.YtmdibkafjpglkaaGreatDoor.Dsk
open Go Go.RowKit Go.Lib Go.ChangeShapes Go.WideShapes Go.ChangeAt

theorem cells_bytes : Tryz.prog.cellsOf 5 = 1 := by kernel_rfl

theorem lt_of_cell {w : World} {a : Addr} {u : Value} (h : w.cell? a = some u) : a.block < w.heap.size := by
  unfold World.cell? at h
  by_cases hl : a.block < w.heap.size
  · exact hl
  · rw [Array.getElem?_eq_none (by omega)] at h; cases h

set_option maxRecDepth 100000 in
theorem open_bytes {H : Type} {enc : TypeId × Value → H} {W : World} {base : Nat} {v : Value} {d : DataW H} {ps : List MemPlace} (hv : Value.okWide Tryz.prog W .any base 22 v) (h : DataW.Trod enc Tryz.prog W 0 (fun _ => true) true 22 v d ps) :
    ∃ A C l, v = .slice A (l : List UInt8).length C ∧ BytesIn W v l (fun i => i < W.heap.size) := by
  obtain ⟨a0, len0, cap0, rfl⟩ := okWide_slice Tryz.underlying22 hv
  obtain ⟨fuel, hf⟩ := h
  rcases open_ints Tryz.underlying22 Tryz.underlying5 cells_bytes hf with ⟨hc, -⟩ | ⟨a, len, cap, zs, hc, -, hl, hm, hz, -, hcell, hwf⟩
  · have hc' : Value.slice a0 len0 cap0 = .slice none 0 0 := by simpa [Value.cells] using hc
    rw [hc']
    exact ⟨none, 0, [], rfl, ⟨none, 0, rfl, Nat.le_refl _, Nat.zero_le _, fun _ => rfl, fun b hb => by cases hb⟩⟩
  · have hc' : Value.slice a0 len0 cap0 = .slice (some a) len cap := by simpa [Value.cells] using hc
    rw [hc']
    simp only [if_true] at hz
    have hlen : (toBytes (zs.take len)).length = len := by unfold toBytes; simp; omega
    refine ⟨some a, cap, toBytes (zs.take len), by rw [hlen], bytesIn_arg hl hm hz hwf (fun e => by cases e) (fun b hb c hcl => ?_)⟩
    obtain rfl := Option.some.inj hb
    exact hcell c (by omega)

/-- A number of the argument's. -/
theorem wf_lt {n : Int} (h : (Lit.int .i64 n).wf = true) : n < 9223372036854775808 := by
  simp only [Lit.wf, Bool.and_eq_true, decide_eq_true_eq] at h
  have : IntKind.i64.max = 9223372036854775807 := by decide
  omega

end Go.Proofs.YtmdibkafjpglkaaGreatDoor.Dsk
