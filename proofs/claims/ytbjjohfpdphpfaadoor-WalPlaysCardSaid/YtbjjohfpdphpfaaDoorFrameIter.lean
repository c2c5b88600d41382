/- frame.frames: the iterator's contract. -/
import Derived.Test.YtbjjohfpdphpfaaDoorSpots
import Derived.Test.YtbjjohfpdphpfaaDoorFrameFrame
import Derived.Test.YtbjjohfpdphpfaaDoorHeldIn
import Derived.RangeFuncNested
import Derived.RangeFuncBound
import Derived.RangeFuncCalls
import Derived.RangeFuncLeaves
import Derived.RangeFuncBox
import Derived.Shelf.Abstract
import Derived.Shelf.RegionOpen
import Derived.OwnWalkIn
import Derived.TacticsInMore
import Derived.LoopNIn
import Derived.LoopIn
namespace Go.Proofs.YtbjjohfpdphpfaaDoor.Frm
open Go Go.RowKit Go.Lib Go.Shelf Go.Proofs.YtbjjohfpdphpfaaDoor.Dsk
attribute [local go_sem] Oper.semAt_some

theorem grown_of_keep {w w' : World} (h : Keep (fun _ => False) w w') : w.grownBy w' none := ⟨h.os, h.tape, h.output, h.size, fun k hk _ => h.block k hk (fun h => h)⟩

/-- Where a body lies. -/
abbrev Spot (b : List UInt8) := { s : Nat × Nat // s.1 + s.2 ≤ b.length ∧ 4 ≤ s.1 }
def encS (b : List UInt8) (ao : Option Addr) (cap : Nat) (x : Spot b) : Array Value := #[.int .i64 ((x.1.1 : Int) + (x.1.2 : Int) + 4), .slice (ao.map (·.add x.1.1)) x.1.2 (cap - x.1.1)]

theorem first_at (w : World) {ao : Option Addr} {n cap : Nat} {l : List UInt8} {G : Nat → Prop} (h : BytesIn w (.slice ao n cap) l G) :
    Calls Tryd.prog 80 #[.slice ao n cap] w fun e w' => e = .returned (.tuple #[.int .i64 ((firstE l).1 : Int), .int .i64 (firstE l).2]) ∧ Keep (fun _ => False) w w' := by
  obtain rfl := h.len
  exact first_any w h

set_option maxRecDepth 100000 in
theorem slice_from (a : Addr) {len cap p : Nat} (hp : p ≤ len) (_hl : len ≤ cap) (_hm : cap ≤ maxLen) : ∃ a', (a' = a.add p ∨ cap = p) ∧ ∀ w, (Instr.slice 33 (.slice (some a) len cap) (some (.int .i64 (p : Int))) none none).run Tryd.prog w = .ok (.slice (some a') (len - p) (cap - p)) w := by
  have hmx : maxLen = 9223372036854775807 := rfl
  refine ⟨if cap = p then a else a.add p, ?_, fun w => ?_⟩
  · split
    · exact .inr (by assumption)
    · exact .inl rfl
  · go_simp
    split <;> simp_all

theorem later_any {w : World} {a : Addr} {n cap : Nat} {l : List UInt8} {G : Nat → Prop} (h : BytesIn w (.slice (some a) n cap) l G) (k : Nat) (hk : k ≤ l.length) {a' : Addr} (ha : a' = a.add k ∨ cap = k) : BytesIn w (.slice (some a') (l.length - k) (cap - k)) (l.drop k) G := by
  rcases ha with rfl | hc
  · exact h.later a rfl k hk
  · obtain ⟨ao', cap', e, h1, h2, h3, h4⟩ := h.read
    injection e with e1 e2 e3
    subst e3
    have hl : l.drop k = [] := List.drop_eq_nil_of_le (by omega)
    refine ⟨some a', cap - k, by simp, by simp; omega, by omega, (fun e => by cases e), fun b hb j u hj => ?_⟩
    rw [hl] at hj
    simp at hj

set_option maxRecDepth 100000 in
set_option maxHeartbeats 1000000 in
theorem frames_stops (n : Nat) (hn : 1 ≤ n) (Bs : Nat) {w : World} {a : Addr} {cap : Nat} {b : List UInt8} {G F0 : Nat → Prop} (hB : BytesIn w (.slice (some a) b.length cap) b G) (hc : w.cell? ⟨Bs, 0, none⟩ = some (.slice (some a) b.length cap)) (hBs : Bs < w.heap.size) (hF0 : ¬ F0 Bs) (hG : ∀ i, G i → ¬ F0 i) :
    SeqStopsK Fence.wide n Tryd.prog 79 #[ptr Bs] (encS b (some a) cap) (Keep F0) (fun xs => ∃ p, IsRun b (xs.map (·.1)) p ∧ ¬ (firstE (b.drop p)).2 = 0) (fun _ => True) (b.length + 1) w := fun l J Jx W hW hJ _ hY h0 => by
  obtain ⟨ao', cap', e0, hlc, hmax, -, -⟩ := hB.read
  injection e0 with e1 e2 e3
  subst e3
  clear e1 e2
  have hmx : maxLen = 9223372036854775807 := rfl
  have kW : Keep (fun _ => False) w W := Keep.of_below hW fun i hi h2 => by omega
  have HB0 := hid (hB.keep kW (fun _ _ h => h))
  have hcW : W.cell? ⟨Bs, 0, none⟩ = some (.slice (some a) b.length cap) := (kW.cell hBs (fun h => h)).trans hc
  have hBW : Bs < W.heap.size := Nat.lt_of_lt_of_le hBs kW.size
  have HW := hid hW
  have HJ := hid hJ
  clear hB hW hJ kW
  unfold ptr
  refine callsIn_of_wp Tryd.func79 rfl trivial ?_ rfl
  simp only [Tryd.ntmps79, List.size_toArray, List.length_cons, List.length_nil, Nat.reduceAdd, Nat.reduceSub, Array.replicate_succ, Array.replicate_zero, List.push_toArray, List.append_toArray, List.nil_append, List.cons_append]
  gi_wp2
  gi_loopw [3] (fun iv wr => ∃ (xs : List (Spot b)) (p : Nat), iv = .int .i64 (p : Int) ∧ IsRun b (xs.map (·.1)) p ∧ J xs wr ∧ Keep F0 W wr) (fun iv _ => b.length - (RowKit.intOf iv).toNat)
  case atStart => exact ⟨[], 0, rfl, .nil, h0, Keep.refl _ _⟩
  case round =>
    obtain ⟨xs, p, rfl, hrun, hJs, hK⟩ := hrel
    have hple := hrun.le
    have hcr : wr.cell? ⟨Bs, 0, none⟩ = some (.slice (some a) b.length cap) := (hK.cell hBW hF0).trans hcW
    have HBr := hid (HB0.out.keep hK hG)
    have HKr := hid hK
    have HRUN := hid hrun
    clear hK hrun
    have hBr : Bs < wr.heap.size := Nat.lt_of_lt_of_le hBW HKr.out.size
    obtain ⟨a', ha', hsl⟩ := slice_from a hple hlc hmax
    gi_wp2
    refine ⟨trivial, ?_⟩
    refine (callsIn_wide.2 (first_at wr (later_any HBr.out p hple ha'))).mono ?_
    rintro e w2 ⟨rfl, hk2⟩
    have hJ2 := HJ.out xs wr w2 none hJs (grown_of_keep hk2) (fun r e => by cases e)
    have hc2 := (hk2.cell (p := ⟨Bs, 0, none⟩) hBr (fun h => h)).trans hcr
    have HK2 := hid (HKr.out.trans hk2 (fun _ _ h => h.elim))
    clear hk2
    by_cases hf : (firstE (b.drop p)).2 = 0
    · have hok := firstE_ok hf
      rw [List.length_drop] at hok
      obtain ⟨N, hN⟩ : ∃ N, num (b.drop p) = N := ⟨_, rfl⟩
      obtain ⟨x, hx⟩ : ∃ x : Spot b, x.1 = (p + 4, N) := ⟨⟨(p + 4, N), by simp only; omega, by simp only; omega⟩, rfl⟩
      obtain ⟨fn, tmps, assign, body, hy, hR⟩ := hY xs x w2 hJ2 (by have := HRUN.out.count; simp at this; omega)
      have henc : encS b (some a) cap x = #[.int .i64 ((p : Int) + ((N : Int) + 8)), .slice (some ⟨a.block, a.off + (p + 3 + 1), none⟩) (p + (N + 8) - 4 - (p + 4)) (cap - (p + 4))] := by
        unfold encS
        rw [hx]
        have e1 : (((p + 4 : Nat) : Int) + (N : Int) + 4) = (p : Int) + ((N : Int) + 8) := by omega
        have e2 : p + (N + 8) - 4 - (p + 4) = N := by omega
        simp only [e1, e2]
        rfl
      rw [henc] at hy
      have HR := hid hR
      have HF := hid hf
      rw [hok.1, hf, hN]
      rw [hN] at hok
      have HN := hid hN
      have HX := hid hx
      clear hR hf hN hx henc
      gi_wp2
      refine HR.out.mono ?_
      rintro e W3 (⟨rfl, hJ3, hk3⟩ | ⟨rfl, hJx3⟩)
      · have HJ3 := hid hJ3
        have HK3 := hid hk3
        clear hJ3 hk3
        gi_wp2
        exact ⟨⟨xs ++ [x], p + (N + 8), by simp, by
          have := HRUN.out.snoc HF.out
          rw [HN.out] at this
          rw [List.map_append, List.map_cons, List.map_nil, HX.out]
          exact this, HJ3.out, HK2.out.trans HK3.out (fun _ _ h => h)⟩, by simp [RowKit.intOf]; omega⟩
      · gi_wp2
        refine bodyPost_ret (results_none rfl _ _ _) rfl ?_
        exact ⟨⟨_, rfl⟩, .inr ⟨_, trivial, hJx3⟩⟩
    · have hne : ((firstE (b.drop p)).2 != 0) = true := by rw [bne_iff_ne]; exact hf
      have hne2 : ((firstE (b.drop p)).2 == 0) = false := by rw [beq_eq_false_iff_ne]; exact hf
      gi_wp2
      refine ⟨fun _ h => (by cases h), ?_⟩
      gi_wp2
      refine bodyPost_ret (results_none rfl _ _ _) rfl ?_
      exact ⟨⟨_, rfl⟩, .inl ⟨_, ⟨p, HRUN.out, hf⟩, hJ2⟩⟩

end Go.Proofs.YtbjjohfpdphpfaaDoor.Frm
