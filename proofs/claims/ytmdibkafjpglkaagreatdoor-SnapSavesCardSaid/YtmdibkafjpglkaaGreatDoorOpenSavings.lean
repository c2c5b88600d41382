/- What a row's opening tells of savings: numbers, bytes, and when the power goes off. -/
import Derived.Test.YtmdibkafjpglkaaGreatDoorOpenArgs
import Derived.Deep.Slices
namespace Go.Proofs.YtmdibkafjpglkaaGreatDoor.Dsk
open Go Go.RowKit Go.Lib Go.ChangeShapes Go.WideShapes Go.ChangeAt

/-- A saving. -/
structure SaveM where
  gen : Int
  b : List UInt8
  cut : Int
instance : Inhabited SaveM := ⟨⟨0, [], 0⟩⟩
/-- Its cells. -/
def SaveM.cells (m : SaveM) (A : Option Addr) (C : Nat) : List Value := [.int .i64 m.gen, .slice A m.b.length C, .int .i64 m.cut]
structure SaveM.Fit (m : SaveM) : Prop where
  gen : (Lit.int .i64 m.gen).wf = true
  cut : (Lit.int .i64 m.cut).wf = true
structure SavesIn (W : World) (v : Value) (acts : List SaveM) : Prop where
  rows : ∃ ao cap, v = .slice ao acts.length cap ∧ (ao = none → acts = []) ∧ ∀ a, ao = some a → ∀ (r : Nat) (m : SaveM), acts[r]? = some m → m.Fit ∧
    ∃ A C, (∀ (j : Nat) (x : Value), (m.cells A C)[j]? = some x → W.cell? (a.add (r * 3 + j)) = some x) ∧ BytesIn W (.slice A m.b.length C) m.b (fun i => i < W.heap.size)

theorem cells_slice8 : Tryz.prog.cellsOf 22 = 1 := by kernel_rfl
theorem cells_saving : Tryz.prog.cellsOf 40 = 3 := by kernel_rfl
theorem cells_int : Tryz.prog.cellsOf 3 = 1 := by kernel_rfl

set_option maxRecDepth 100000 in
theorem open_bytes_cell {H : Type} {enc : TypeId × Value → H} {W : World} {v : Value} {fuel : Nat} {x : DataW H × List MemPlace} (hf : DataW.trod enc Tryz.prog W 0 (fun _ => true) true fuel 22 [v] = some x) :
    ∃ A C l, v = .slice A (l : List UInt8).length C ∧ BytesIn W (.slice A l.length C) l (fun i => i < W.heap.size) := by
  rcases open_ints Tryz.underlying22 Tryz.underlying5 cells_bytes hf with ⟨hc, -⟩ | ⟨a, len, cap, zs, hc, -, hl, hm, hz, -, hcell, hwf⟩
  · obtain rfl : v = .slice none 0 0 := by simpa using hc
    exact ⟨none, 0, [], rfl, ⟨none, 0, rfl, Nat.le_refl _, Nat.zero_le _, fun _ => rfl, fun b hb => by cases hb⟩⟩
  · obtain rfl : v = .slice (some a) len cap := by simpa using hc
    simp only [if_true] at hz
    have hlen : (toBytes (zs.take len)).length = len := by unfold toBytes; simp; omega
    refine ⟨some a, cap, toBytes (zs.take len), by rw [hlen], ?_⟩
    rw [hlen]
    refine bytesIn_arg hl hm hz hwf (fun e => by cases e) (fun b hb c hcl => ?_)
    obtain rfl := Option.some.inj hb
    exact hcell c (by omega)

set_option maxRecDepth 100000 in
theorem open_saving {H : Type} {enc : TypeId × Value → H} {W : World} {fuel : Nat} {cs : List Value} {x : DataW H × List MemPlace} (hf : DataW.trod enc Tryz.prog W 0 (fun _ => true) true fuel 40 cs = some x) :
    ∃ (m : SaveM) (A : Option Addr) (C : Nat), cs = m.cells A C ∧ m.Fit ∧ BytesIn W (.slice A m.b.length C) m.b (fun i => i < W.heap.size) := by
  obtain ⟨xs, k, -, -, hlen, hxl, hall⟩ := DataW.trod_struct Tryz.underlying40 hf
  rw [cells_saving] at hlen
  obtain ⟨v0, v1, v2, rfl⟩ : ∃ v0 v1 v2, cs = [v0, v1, v2] := by
    match cs, hlen with
    | [v0, v1, v2], _ => exact ⟨v0, v1, v2, rfl⟩
  obtain ⟨y0, y1, y2, rfl⟩ : ∃ y0 y1 y2, xs = [y0, y1, y2] := by
    match xs, hxl with
    | [y0, y1, y2], _ => exact ⟨y0, y1, y2, rfl⟩
  have h0 := hall 0 _ rfl
  have h1 := hall 1 _ rfl
  have h2 := hall 2 _ rfl
  simp [cells_int, cells_slice8] at h0 h1 h2
  obtain ⟨k0, e0, -, w0⟩ := DataW.trod_int Tryz.underlying3 h0
  obtain ⟨A, C, l, e1, hB⟩ := open_bytes_cell h1
  obtain ⟨k2, e2, -, w2⟩ := DataW.trod_int Tryz.underlying3 h2
  simp only [List.cons.injEq, and_true] at e0 e2
  subst e0 e1 e2
  exact ⟨⟨k0, l, k2⟩, A, C, rfl, ⟨w0, w2⟩, hB⟩

set_option maxRecDepth 100000 in
theorem open_savings {H : Type} {enc : TypeId × Value → H} {W : World} {base : Nat} {v : Value} {d : DataW H} {ps : List MemPlace} (hv : Value.okWide Tryz.prog W .any base 37 v) (h : DataW.Trod enc Tryz.prog W 0 (fun _ => true) true 37 v d ps) :
    ∃ acts, SavesIn W v acts := by
  obtain ⟨a0, len0, cap0, rfl⟩ := okWide_slice Tryz.underlying37 hv
  obtain ⟨fuel, hf⟩ := h
  rcases Go.Deep.open_slice Tryz.underlying37 hf with ⟨hc, -⟩ | ⟨a, len, cap, m, n, D, Pl, hc, -, hl, hm, hmm, -, hrow⟩
  · have hc' : Value.slice a0 len0 cap0 = .slice none 0 0 := by simpa [Value.cells] using hc
    rw [hc']
    exact ⟨[], ⟨none, 0, rfl, fun _ => rfl, fun b hb => by cases hb⟩⟩
  · have hc' : Value.slice a0 len0 cap0 = .slice (some a) len cap := by simpa [Value.cells] using hc
    rw [hc']
    simp only [if_true] at hmm
    have each : ∀ r, r < len → ∃ q : SaveM × Option Addr × Nat, q.1.Fit ∧ (∀ (j : Nat) (x : Value), (q.1.cells q.2.1 q.2.2)[j]? = some x → W.cell? (a.add (r * 3 + j)) = some x) ∧ BytesIn W (.slice q.2.1 q.1.b.length q.2.2) q.1.b (fun i => i < W.heap.size) := by
      intro r hr
      obtain ⟨cs, h1, h2⟩ := hrow r (by omega)
      rw [cells_saving] at h1
      obtain ⟨-, hlen, hcell⟩ := World.cells?_some h1
      obtain ⟨q, A, C, e, hfit, hB⟩ := open_saving h2
      refine ⟨(q, A, C), hfit, fun j x hj => ?_, hB⟩
      have hj3 : j < 3 := by
        have := (List.getElem?_eq_some_iff.1 hj).1
        simpa [SaveM.cells] using this
      rw [← Addr.add_add, hcell j hj3, e]
      exact hj
    obtain ⟨q, hq⟩ := Go.Deep.choose_lt each
    refine ⟨(List.range len).map (fun r => (q r).1), ⟨some a, cap, by simp, (fun e => by cases e), fun b hb r m hr => ?_⟩⟩
    obtain rfl := Option.some.inj hb
    have hrl : r < len := by
      have := (List.getElem?_eq_some_iff.1 hr).1
      simpa using this
    have hqr : (q r).1 = m := by
      rw [List.getElem?_map, List.getElem?_range hrl] at hr
      exact Option.some.inj hr
    have := hq r hrl
    rw [hqr] at this
    exact ⟨this.1, _, _, this.2⟩

end Go.Proofs.YtmdibkafjpglkaaGreatDoor.Dsk
