/- What a row's opening tells of a script of things done to a disk. -/
import Derived.Test.YtlabpmmcmejpmaaDoorOpenArgs
import Derived.Deep.Slices
namespace Go.Proofs.YtlabpmmcmejpmaaDoor.Dsk
open Go Go.RowKit Go.Lib Go.ChangeShapes Go.WideShapes Go.ChangeAt

/-- Something that is done to a disk. -/
structure ActM where
  kind : Int
  name : ByteArray
  to : ByteArray
  b : List UInt8
  n : Int
  part : Int
  keep : Int

instance : Inhabited ActM := ⟨⟨0, ⟨#[]⟩, ⟨#[]⟩, [], 0, 0, 0⟩⟩
/-- Its cells. -/
def ActM.cells (m : ActM) (A : Option Addr) (C : Nat) : List Value := [.int .i64 m.kind, .string m.name, .string m.to, .slice A m.b.length C, .int .i64 m.n, .int .i64 m.part, .int .i64 m.keep]
structure ActM.Fit (m : ActM) : Prop where
  kind : (Lit.int .i64 m.kind).wf = true
  n : (Lit.int .i64 m.n).wf = true
  part : (Lit.int .i64 m.part).wf = true
  keep : (Lit.int .i64 m.keep).wf = true
structure Acts18 (W : World) (v : Value) (acts : List ActM) : Prop where
  rows : ∃ ao cap, v = .slice ao acts.length cap ∧ (ao = none → acts = []) ∧ ∀ a, ao = some a → ∀ (r : Nat) (m : ActM), acts[r]? = some m → m.Fit ∧
    ∃ A C, (∀ (j : Nat) (x : Value), (m.cells A C)[j]? = some x → W.cell? (a.add (r * 7 + j)) = some x) ∧ BytesIn W (.slice A m.b.length C) m.b (fun i => i < W.heap.size)

theorem cells_slice8 : Tryd.prog.cellsOf 31 = 1 := by kernel_rfl
theorem cells_act18 : Tryd.prog.cellsOf 33 = 7 := by kernel_rfl
theorem cells_int : Tryd.prog.cellsOf 3 = 1 := by kernel_rfl
theorem cells_string : Tryd.prog.cellsOf 9 = 1 := by kernel_rfl

set_option maxRecDepth 100000 in
theorem open_bytes_cell {H : Type} {enc : TypeId × Value → H} {W : World} {v : Value} {fuel : Nat} {x : DataW H × List MemPlace} (hf : DataW.trod enc Tryd.prog W 0 (fun _ => true) true fuel 31 [v] = some x) :
    ∃ A C l, v = .slice A (l : List UInt8).length C ∧ BytesIn W (.slice A l.length C) l (fun i => i < W.heap.size) := by
  rcases open_ints Tryd.underlying31 Tryd.underlying5 cells_bytes hf with ⟨hc, -⟩ | ⟨a, len, cap, zs, hc, -, hl, hm, hz, -, hcell, hwf⟩
  · obtain rfl : v = .slice none 0 0 := by simpa using hc
    exact ⟨none, 0, [], rfl, ⟨none, 0, rfl, Nat.le_refl _, Nat.zero_le _, fun _ => rfl, fun b hb => by cases hb⟩⟩
  · obtain rfl : v = .slice (some a) len cap := by simpa using hc
    simp only [if_true] at hz
    have hlen : (toBytes (zs.take len)).length = len := by unfold toBytes; simp; omega
    refine ⟨some a, cap, toBytes (zs.take len), by rw [hlen], ?_⟩
    rw [hlen]
    refine bytesIn_arg hl hm hz hwf (fun e => by cases e) (fun b hb c hcl => ?_)
    obtain rfl := Option.some.inj hb
    exact hcell c (by omega)

set_option maxRecDepth 100000 in
theorem open_act18 {H : Type} {enc : TypeId × Value → H} {W : World} {fuel : Nat} {cs : List Value} {x : DataW H × List MemPlace} (hf : DataW.trod enc Tryd.prog W 0 (fun _ => true) true fuel 33 cs = some x) :
    ∃ (m : ActM) (A : Option Addr) (C : Nat), cs = m.cells A C ∧ m.Fit ∧ BytesIn W (.slice A m.b.length C) m.b (fun i => i < W.heap.size) := by
  obtain ⟨xs, k, -, -, hlen, hxl, hall⟩ := DataW.trod_struct Tryd.underlying33 hf
  rw [cells_act18] at hlen
  obtain ⟨v0, v1, v2, v3, v4, v5, v6, rfl⟩ : ∃ v0 v1 v2 v3 v4 v5 v6, cs = [v0, v1, v2, v3, v4, v5, v6] := by
    match cs, hlen with
    | [v0, v1, v2, v3, v4, v5, v6], _ => exact ⟨v0, v1, v2, v3, v4, v5, v6, rfl⟩
  obtain ⟨y0, y1, y2, y3, y4, y5, y6, rfl⟩ : ∃ y0 y1 y2 y3 y4 y5 y6, xs = [y0, y1, y2, y3, y4, y5, y6] := by
    match xs, hxl with
    | [y0, y1, y2, y3, y4, y5, y6], _ => exact ⟨y0, y1, y2, y3, y4, y5, y6, rfl⟩
  have h0 := hall 0 _ rfl
  have h1 := hall 1 _ rfl
  have h2 := hall 2 _ rfl
  have h3 := hall 3 _ rfl
  have h4 := hall 4 _ rfl
  have h5 := hall 5 _ rfl
  have h6 := hall 6 _ rfl
  simp [cells_int, cells_string, cells_slice8] at h0 h1 h2 h3 h4 h5 h6
  obtain ⟨k0, e0, -, w0⟩ := DataW.trod_int Tryd.underlying3 h0
  obtain ⟨s1, e1, -, w1⟩ := DataW.trod_string Tryd.underlying9 h1
  obtain ⟨s2, e2, -, w2⟩ := DataW.trod_string Tryd.underlying9 h2
  obtain ⟨A, C, l, e3, hB⟩ := open_bytes_cell h3
  obtain ⟨k4, e4, -, w4⟩ := DataW.trod_int Tryd.underlying3 h4
  obtain ⟨k5, e5, -, w5⟩ := DataW.trod_int Tryd.underlying3 h5
  obtain ⟨k6, e6, -, w6⟩ := DataW.trod_int Tryd.underlying3 h6
  simp only [List.cons.injEq, and_true] at e0 e1 e2 e4 e5 e6
  subst e0 e1 e2 e3 e4 e5 e6
  exact ⟨⟨k0, s1, s2, l, k4, k5, k6⟩, A, C, rfl, ⟨w0, w4, w5, w6⟩, hB⟩

set_option maxRecDepth 100000 in
theorem open_acts18 {H : Type} {enc : TypeId × Value → H} {W : World} {base : Nat} {v : Value} {d : DataW H} {ps : List MemPlace} (hv : Value.okWide Tryd.prog W .any base 22 v) (h : DataW.Trod enc Tryd.prog W 0 (fun _ => true) true 22 v d ps) :
    ∃ acts, Acts18 W v acts := by
  obtain ⟨a0, len0, cap0, rfl⟩ := okWide_slice Tryd.underlying22 hv
  obtain ⟨fuel, hf⟩ := h
  rcases Go.Deep.open_slice Tryd.underlying22 hf with ⟨hc, -⟩ | ⟨a, len, cap, m, n, D, Pl, hc, -, hl, hm, hmm, -, hrow⟩
  · have hc' : Value.slice a0 len0 cap0 = .slice none 0 0 := by simpa [Value.cells] using hc
    rw [hc']
    exact ⟨[], ⟨none, 0, rfl, fun _ => rfl, fun b hb => by cases hb⟩⟩
  · have hc' : Value.slice a0 len0 cap0 = .slice (some a) len cap := by simpa [Value.cells] using hc
    rw [hc']
    simp only [if_true] at hmm
    have each : ∀ r, r < len → ∃ q : ActM × Option Addr × Nat, q.1.Fit ∧ (∀ (j : Nat) (x : Value), (q.1.cells q.2.1 q.2.2)[j]? = some x → W.cell? (a.add (r * 7 + j)) = some x) ∧ BytesIn W (.slice q.2.1 q.1.b.length q.2.2) q.1.b (fun i => i < W.heap.size) := by
      intro r hr
      obtain ⟨cs, h1, h2⟩ := hrow r (by omega)
      rw [cells_act18] at h1
      obtain ⟨-, hlen, hcell⟩ := World.cells?_some h1
      obtain ⟨q, A, C, e, hfit, hB⟩ := open_act18 h2
      refine ⟨(q, A, C), hfit, fun j x hj => ?_, hB⟩
      have hj7 : j < 7 := by
        have := (List.getElem?_eq_some_iff.1 hj).1
        simpa [ActM.cells] using this
      rw [← Addr.add_add, hcell j hj7, e]
      exact hj
    obtain ⟨q, hq⟩ := Go.Deep.choose_lt each
    refine ⟨(List.range len).map (fun r => (q r).1), ⟨some a, cap, by simp, (fun e => by cases e), fun b hb r m hr => ?_⟩⟩
    obtain rfl := Option.some.inj hb
    have hrl : r < len := by
      have := (List.getElem?_eq_some_iff.1 hr).1
      simpa using this
    have hqr : (q r).1 = m := by
      rw [List.getElem?_map, List.getElem?_range hrl] at hr
      exact Option.some.inj hr
    have := hq r hrl
    rw [hqr] at this
    exact ⟨this.1, _, _, this.2⟩

end Go.Proofs.YtlabpmmcmejpmaaDoor.Dsk
