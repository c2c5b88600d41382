/- frame.number, frame.four, the reference's number: walked. -/
import Derived.Test.YtbjjohfpdphpfaaDoorFrameSum
import Derived.Deep.QuietTactic
import Derived.BigQuiet
import Derived.StillTailTactics
namespace Go.Proofs.YtbjjohfpdphpfaaDoor.Frm
open Go Go.RowKit Go.Lib Go.Proofs.YtbjjohfpdphpfaaDoor.Dsk

theorem keep_drawn' (w : World) (d : Nat) : Keep (fun _ => False) w { heap := w.heap, tape := w.tape, drawn := d, os := w.os, output := w.output } := ⟨rfl, rfl, rfl, Nat.le_refl _, fun _ _ _ => rfl⟩
theorem four_of {l : List UInt8} (h : 4 ≤ l.length) : ∃ a b c d r, l = a :: b :: c :: d :: r := by
  match l, h with
  | a :: b :: c :: d :: r, _ => exact ⟨a, b, c, d, r, rfl⟩

theorem or_add (i a b : Nat) (h : b < 2 ^ i) : b ||| a * 2 ^ i = b + a * 2 ^ i := by
  rw [Nat.or_comm, Nat.mul_comm, ← Nat.two_pow_add_eq_or_of_lt h, Nat.add_comm]
theorem num_bits {c0 c1 c2 c3 : Nat} (h0 : c0 < 256) (h1 : c1 < 256) (h2 : c2 < 256) (h3 : c3 < 256) :
    bits .or .u32 (bits .or .u32 (bits .or .u32 (c0 : Int) (IntKind.u32.wrap ((c1 : Int) * 256))) (IntKind.u32.wrap ((c2 : Int) * 65536))) (IntKind.u32.wrap ((c3 : Int) * 16777216)) = ((c0 + 256 * c1 + 65536 * c2 + 16777216 * c3 : Nat) : Int) := by
  have e1 : IntKind.u32.wrap ((c1 : Int) * 256) = ((c1 * 2 ^ 8 : Nat) : Int) := by rw [IntKind.wrap_u32']; omega
  have e2 : IntKind.u32.wrap ((c2 : Int) * 65536) = ((c2 * 2 ^ 16 : Nat) : Int) := by rw [IntKind.wrap_u32']; omega
  have e3 : IntKind.u32.wrap ((c3 : Int) * 16777216) = ((c3 * 2 ^ 24 : Nat) : Int) := by rw [IntKind.wrap_u32']; omega
  rw [e1, e2, e3, u32_or_nat _ _ (by omega) (by omega), or_add 8 c1 c0 (by omega), u32_or_nat _ _ (by omega) (by omega), or_add 16 c2 _ (by omega), u32_or_nat _ _ (by omega) (by omega), or_add 24 c3 _ (by omega)]
  omega

set_option maxRecDepth 100000 in
set_option maxHeartbeats 1000000 in
theorem number_any (w : World) {ao : Option Addr} {cap : Nat} {l : List UInt8} {G : Nat → Prop} (h : BytesIn w (.slice ao l.length cap) l G) (h4 : 4 ≤ l.length) :
    Calls Tryd.prog 84 #[.slice ao l.length cap] w fun e w' => e = .returned (.int .u32 (num l : Int)) ∧ Keep (fun _ => False) w w' := by
  obtain ⟨ao', cap', e0, hlc, hmax, hnil, hcells⟩ := h.read
  injection e0 with e1 e2 e3
  subst e1; subst e3
  clear e2 h
  cases ao with
  | none => rw [hnil rfl] at h4; simp at h4
  | some a =>
    obtain ⟨b0, b1, b2, b3, r, rfl⟩ := four_of h4
    have x0 := (hcells a rfl 0 (byteV b0) rfl).1
    have x1 : w.cell? ⟨a.block, a.off + 1, none⟩ = some (byteV b1) := (hcells a rfl 1 (byteV b1) rfl).1
    have x2 : w.cell? ⟨a.block, a.off + 2, none⟩ = some (byteV b2) := (hcells a rfl 2 (byteV b2) rfl).1
    have x3 : w.cell? ⟨a.block, a.off + 3, none⟩ = some (byteV b3) := (hcells a rfl 3 (byteV b3) rfl).1
    have HN := hid (show (num (b0 :: b1 :: b2 :: b3 :: r)) = b0.toNat + 256 * b1.toNat + 65536 * b2.toNat + 16777216 * b3.toNat from rfl)
    unfold byteV at x0 x1 x2 x3
    have l0 := b0.toNat_lt
    have l1 := b1.toNat_lt
    have l2 := b2.toNat_lt
    have l3 := b3.toNat_lt
    generalize b0.toNat = c0 at *
    generalize b1.toNat = c1 at *
    generalize b2.toNat = c2 at *
    generalize b3.toNat = c3 at *
    clear hcells hnil
    generalize hL : (b0 :: b1 :: b2 :: b3 :: r).length = L at *
    have g0 : 0 < L := by omega
    have g1 : (1 : Int) < (L : Int) := by omega
    have g2 : (2 : Int) < (L : Int) := by omega
    have g3 : (3 : Int) < (L : Int) := by omega
    clear hL
    rw [Addr.add_zero'] at x0
    have w0 : IntKind.u32.wrap (c0 : Int) = (c0 : Int) := by rw [IntKind.wrap_u32']; omega
    have w1 : IntKind.u32.wrap (c1 : Int) = (c1 : Int) := by rw [IntKind.wrap_u32']; omega
    have w2 : IntKind.u32.wrap (c2 : Int) = (c2 : Int) := by rw [IntKind.wrap_u32']; omega
    have w3 : IntKind.u32.wrap (c3 : Int) = (c3 : Int) := by rw [IntKind.wrap_u32']; omega
    go_enter Tryd.func84, Tryd.ntmps84
    go_wp2_with fail
    refine wp_region_still_lit (by kernel_rfl) (by kernel_rfl) ?_
    repeat still_step
    refine wpStill_nil ?_
    go_wp2_with fail
    go_ret
    exact ⟨by rw [HN.out]; exact congrArg (fun z => Ending.returned (Value.int .u32 z)) (num_bits l0 l1 l2 l3), keep_drawn' w _⟩

theorem num_ints {c0 c1 c2 c3 : Nat} (h0 : c0 < 256) (h1 : c1 < 256) (h2 : c2 < 256) (h3 : c3 < 256) :
    IntKind.i64.wrap (IntKind.i64.wrap (IntKind.i64.wrap (IntKind.i64.wrap (c0 : Int) + IntKind.i64.wrap (256 * IntKind.i64.wrap (c1 : Int))) + IntKind.i64.wrap (65536 * IntKind.i64.wrap (c2 : Int))) + IntKind.i64.wrap (16777216 * IntKind.i64.wrap (c3 : Int))) = ((c0 + 256 * c1 + 65536 * c2 + 16777216 * c3 : Nat) : Int) := by
  have w0 : IntKind.i64.wrap (c0 : Int) = c0 := IntWalk.i64_in _ (by omega)
  have w1 : IntKind.i64.wrap (c1 : Int) = c1 := IntWalk.i64_in _ (by omega)
  have w2 : IntKind.i64.wrap (c2 : Int) = c2 := IntWalk.i64_in _ (by omega)
  have w3 : IntKind.i64.wrap (c3 : Int) = c3 := IntWalk.i64_in _ (by omega)
  have v1 : IntKind.i64.wrap (256 * (c1 : Int)) = 256 * c1 := IntWalk.i64_in _ (by omega)
  have v2 : IntKind.i64.wrap (65536 * (c2 : Int)) = 65536 * c2 := IntWalk.i64_in _ (by omega)
  have v3 : IntKind.i64.wrap (16777216 * (c3 : Int)) = 16777216 * c3 := IntWalk.i64_in _ (by omega)
  rw [w0, w1, w2, w3, v1, v2, v3, IntWalk.i64_in ((c0 : Int) + 256 * c1) (by omega), IntWalk.i64_in ((c0 : Int) + 256 * c1 + 65536 * c2) (by omega), IntWalk.i64_in ((c0 : Int) + 256 * c1 + 65536 * c2 + 16777216 * c3) (by omega)]
  omega


set_option maxRecDepth 100000 in
set_option maxHeartbeats 1000000 in
theorem refNumber_any (w : World) {ao : Option Addr} {cap : Nat} {l : List UInt8} {G : Nat → Prop} (h : BytesIn w (.slice ao l.length cap) l G) (h4 : 4 ≤ l.length) :
    Calls Tryd.prog 71 #[.slice ao l.length cap] w fun e w' => e = .returned (.int .i64 (num l : Int)) ∧ Keep (fun _ => False) w w' := by
  obtain ⟨ao', cap', e0, hlc, hmax, hnil, hcells⟩ := h.read
  injection e0 with e1 e2 e3
  subst e1; subst e3
  clear e2 h
  cases ao with
  | none => rw [hnil rfl] at h4; simp at h4
  | some a =>
    obtain ⟨b0, b1, b2, b3, r, rfl⟩ := four_of h4
    have x0 := (hcells a rfl 0 (byteV b0) rfl).1
    have x1 : w.cell? ⟨a.block, a.off + 1, none⟩ = some (byteV b1) := (hcells a rfl 1 (byteV b1) rfl).1
    have x2 : w.cell? ⟨a.block, a.off + 2, none⟩ = some (byteV b2) := (hcells a rfl 2 (byteV b2) rfl).1
    have x3 : w.cell? ⟨a.block, a.off + 3, none⟩ = some (byteV b3) := (hcells a rfl 3 (byteV b3) rfl).1
    have HN := hid (show (num (b0 :: b1 :: b2 :: b3 :: r)) = b0.toNat + 256 * b1.toNat + 65536 * b2.toNat + 16777216 * b3.toNat from rfl)
    unfold byteV at x0 x1 x2 x3
    have l0 := b0.toNat_lt
    have l1 := b1.toNat_lt
    have l2 := b2.toNat_lt
    have l3 := b3.toNat_lt
    generalize b0.toNat = c0 at *
    generalize b1.toNat = c1 at *
    generalize b2.toNat = c2 at *
    generalize b3.toNat = c3 at *
    clear hcells hnil
    generalize hL : (b0 :: b1 :: b2 :: b3 :: r).length = L at *
    have g0 : 0 < L := by omega
    have g1 : (1 : Int) < (L : Int) := by omega
    have g2 : (2 : Int) < (L : Int) := by omega
    have g3 : (3 : Int) < (L : Int) := by omega
    clear hL
    rw [Addr.add_zero'] at x0
    go_enter Tryd.func71, Tryd.ntmps71
    go_wp2_with fail
    refine wp_region_still_lit (by kernel_rfl) (by kernel_rfl) ?_
    repeat still_step
    refine wpStill_nil ?_
    go_wp2_with fail
    go_ret
    exact ⟨by rw [HN.out]; exact congrArg (fun z => Ending.returned (Value.int .i64 z)) (num_ints l0 l1 l2 l3), keep_drawn' w _⟩


end Go.Proofs.YtbjjohfpdphpfaaDoor.Frm
