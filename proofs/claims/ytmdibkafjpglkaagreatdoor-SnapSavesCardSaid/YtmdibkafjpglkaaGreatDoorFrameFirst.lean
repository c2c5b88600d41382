/- frame.Sum, walked. frame.number, frame.four, the reference's number: walked. frame.four, frame.first, walked. -/
import Derived.Test.YtmdibkafjpglkaaGreatDoorFramePure
import Derived.Test.YtmdibkafjpglkaaGreatDoorDiskBytes
import Derived.Deep.QuietTactic
import Derived.BigQuiet
import Derived.StillTailTactics
import Derived.Test.YtmdibkafjpglkaaGreatDoorHeldI
import Derived.DataElems
namespace Go.Proofs.YtmdibkafjpglkaaGreatDoor.Frm
open Go Go.RowKit Go.Lib Go.Proofs.YtmdibkafjpglkaaGreatDoor.Dsk

theorem not_u32 (s : Nat) (h : s < 4294967296) : bits .xor .u32 IntKind.u32.max (s : Int) = ((4294967295 - s : Nat) : Int) := by
  have e : IntKind.u32.max = ((4294967295 : Nat) : Int) := by decide
  rw [e, u32_xor_nat 4294967295 s (by omega) h]
  congr 1
  have h1 : BitVec.ofNat 32 4294967295 ^^^ BitVec.ofNat 32 s = ~~~ BitVec.ofNat 32 s := by
    rw [show BitVec.ofNat 32 4294967295 = BitVec.allOnes 32 from by decide, BitVec.allOnes_xor]
  have h2 := congrArg BitVec.toNat h1
  rw [BitVec.toNat_xor, BitVec.toNat_not, BitVec.toNat_ofNat, BitVec.toNat_ofNat, Nat.mod_eq_of_lt (by omega), Nat.mod_eq_of_lt (by omega)] at h2
  rw [h2]

set_option maxRecDepth 100000 in
set_option maxHeartbeats 1000000 in
theorem sum_any (w : World) {ao : Option Addr} {cap : Nat} {l : List UInt8} {G : Nat → Prop} (h : BytesIn w (.slice ao l.length cap) l G) :
    Calls Tryz.prog 65 #[.slice ao l.length cap] w fun e w' => e = .returned (.int .u32 (crc l : Int)) ∧ w' = w := by
  obtain ⟨ao', cap', e0, hlc, hmax, hnil, hcells⟩ := h.read
  injection e0 with e1 e2 e3
  subst e1; subst e3
  clear e2
  have hmx : maxLen = 9223372036854775807 := rfl
  go_enter Tryz.func65, Tryz.ntmps65
  go_wp2_with fail
  go_loopw [3, 8] (fun sv iv wr => ∃ i : Nat, iv = .int .i64 (i : Int) ∧ i ≤ l.length ∧ sv = .int .u32 (crcRun (l.take i) : Int) ∧ wr = w) (fun _ iv _ => l.length - (RowKit.intOf iv).toNat)
  case atStart => exact ⟨0, rfl, Nat.zero_le _, rfl, rfl⟩
  case round =>
    obtain ⟨i, rfl, hi, rfl, rfl⟩ := hrel
    by_cases hlt : i < l.length
    · obtain ⟨c, hc⟩ : ∃ c, l[i]? = some c := ⟨l[i], List.getElem?_eq_getElem hlt⟩
      cases ao with
      | none => rw [hnil rfl] at hlt; simp at hlt
      | some a =>
        have hcell := (hcells a rfl i (byteV c) (by simp [hc])).1
        have hs := crcRun_lt (l.take i)
        generalize hS : crcRun (l.take i) = S at *
        have HSV := hid hS
        clear hS
        have hcl : c.toNat < 256 := c.toNat_lt
        have hx : bits .xor .u32 (S : Int) (c.toNat : Int) = ((S ^^^ c.toNat : Nat) : Int) := u32_xor_nat _ _ hs (by omega)
        have hX := xor_byte_lt hs c
        unfold byteV at hcell
        have HC := hid hc
        clear hc
        have HCS := hid hcells
        clear hcells
        go_wp2_with fail
        go_loopw [3, 16] (fun sv iv wr' => ∃ k : Nat, iv = .int .i64 (k : Int) ∧ k ≤ 8 ∧ sv = .int .u32 (crcBits (S ^^^ c.toNat) k : Int) ∧ wr' = wr) (fun _ iv _ => 8 - (RowKit.intOf iv).toNat)
        case atStart => exact ⟨0, rfl, Nat.zero_le _, rfl, rfl⟩
        case round =>
          obtain ⟨k, rfl, hk, rfl, rfl⟩ := hrel
          by_cases hk8 : (k : Int) < 8
          · have hb := crcBits_lt hX k
            have HST := hid (crc_step _ hb)
            go_wp2_with fail
            exact ⟨⟨k + 1, by simp, by omega, by rw [HST.out]; rfl, trivial⟩, by simp [RowKit.intOf]; omega⟩
          · obtain rfl : k = 8 := by omega
            go_wp2_with fail
            exact ⟨⟨i + 1, by simp, by omega, by rw [crcRun_succ HC.out, HSV.out]; rfl, trivial⟩, by simp [RowKit.intOf]; omega⟩
    · obtain rfl : i = l.length := by omega
      have hs := crcRun_lt l
      have hno := not_u32 (crcRun l) hs
      rw [List.take_length]
      go_wp2_with fail
      all_goals go_ret
      all_goals exact ⟨rfl, rfl⟩

end Go.Proofs.YtmdibkafjpglkaaGreatDoor.Frm

namespace Go.Proofs.YtmdibkafjpglkaaGreatDoor.Frm
open Go Go.RowKit Go.Lib Go.Proofs.YtmdibkafjpglkaaGreatDoor.Dsk

theorem four_of {l : List UInt8} (h : 4 ≤ l.length) : ∃ a b c d r, l = a :: b :: c :: d :: r := by
  match l, h with
  | a :: b :: c :: d :: r, _ => exact ⟨a, b, c, d, r, rfl⟩

theorem or_add (i a b : Nat) (h : b < 2 ^ i) : b ||| a * 2 ^ i = b + a * 2 ^ i := by
  rw [Nat.or_comm, Nat.mul_comm, ← Nat.two_pow_add_eq_or_of_lt h, Nat.add_comm]
theorem num_bits {c0 c1 c2 c3 : Nat} (h0 : c0 < 256) (h1 : c1 < 256) (h2 : c2 < 256) (h3 : c3 < 256) :
    bits .or .u32 (bits .or .u32 (bits .or .u32 (c0 : Int) (IntKind.u32.wrap ((c1 : Int) * 256))) (IntKind.u32.wrap ((c2 : Int) * 65536))) (IntKind.u32.wrap ((c3 : Int) * 16777216)) = ((c0 + 256 * c1 + 65536 * c2 + 16777216 * c3 : Nat) : Int) := by
  have e1 : IntKind.u32.wrap ((c1 : Int) * 256) = ((c1 * 2 ^ 8 : Nat) : Int) := by rw [IntKind.wrap_u32']; omega
  have e2 : IntKind.u32.wrap ((c2 : Int) * 65536) = ((c2 * 2 ^ 16 : Nat) : Int) := by rw [IntKind.wrap_u32']; omega
  have e3 : IntKind.u32.wrap ((c3 : Int) * 16777216) = ((c3 * 2 ^ 24 : Nat) : Int) := by rw [IntKind.wrap_u32']; omega
  rw [e1, e2, e3, u32_or_nat _ _ (by omega) (by omega), or_add 8 c1 c0 (by omega), u32_or_nat _ _ (by omega) (by omega), or_add 16 c2 _ (by omega), u32_or_nat _ _ (by omega) (by omega), or_add 24 c3 _ (by omega)]
  omega

set_option maxRecDepth 100000 in
set_option maxHeartbeats 1000000 in
theorem number_any (w : World) {ao : Option Addr} {cap : Nat} {l : List UInt8} {G : Nat → Prop} (h : BytesIn w (.slice ao l.length cap) l G) (h4 : 4 ≤ l.length) :
    Calls Tryz.prog 87 #[.slice ao l.length cap] w fun e w' => e = .returned (.int .u32 (num l : Int)) ∧ Keep (fun _ => False) w w' := by
  obtain ⟨ao', cap', e0, hlc, hmax, hnil, hcells⟩ := h.read
  injection e0 with e1 e2 e3
  subst e1; subst e3
  clear e2 h
  cases ao with
  | none => rw [hnil rfl] at h4; simp at h4
  | some a =>
    obtain ⟨b0, b1, b2, b3, r, rfl⟩ := four_of h4
    have x0 := (hcells a rfl 0 (byteV b0) rfl).1
    have x1 : w.cell? ⟨a.block, a.off + 1, none⟩ = some (byteV b1) := (hcells a rfl 1 (byteV b1) rfl).1
    have x2 : w.cell? ⟨a.block, a.off + 2, none⟩ = some (byteV b2) := (hcells a rfl 2 (byteV b2) rfl).1
    have x3 : w.cell? ⟨a.block, a.off + 3, none⟩ = some (byteV b3) := (hcells a rfl 3 (byteV b3) rfl).1
    have HN := hid (show (num (b0 :: b1 :: b2 :: b3 :: r)) = b0.toNat + 256 * b1.toNat + 65536 * b2.toNat + 16777216 * b3.toNat from rfl)
    unfold byteV at x0 x1 x2 x3
    have l0 := b0.toNat_lt
    have l1 := b1.toNat_lt
    have l2 := b2.toNat_lt
    have l3 := b3.toNat_lt
    generalize b0.toNat = c0 at *
    generalize b1.toNat = c1 at *
    generalize b2.toNat = c2 at *
    generalize b3.toNat = c3 at *
    clear hcells hnil
    generalize hL : (b0 :: b1 :: b2 :: b3 :: r).length = L at *
    have g0 : 0 < L := by omega
    have g1 : (1 : Int) < (L : Int) := by omega
    have g2 : (2 : Int) < (L : Int) := by omega
    have g3 : (3 : Int) < (L : Int) := by omega
    clear hL
    rw [Addr.add_zero'] at x0
    have w0 : IntKind.u32.wrap (c0 : Int) = (c0 : Int) := by rw [IntKind.wrap_u32']; omega
    have w1 : IntKind.u32.wrap (c1 : Int) = (c1 : Int) := by rw [IntKind.wrap_u32']; omega
    have w2 : IntKind.u32.wrap (c2 : Int) = (c2 : Int) := by rw [IntKind.wrap_u32']; omega
    have w3 : IntKind.u32.wrap (c3 : Int) = (c3 : Int) := by rw [IntKind.wrap_u32']; omega
    go_enter Tryz.func87, Tryz.ntmps87
    go_wp2_with fail
    refine wp_region_still_lit (by kernel_rfl) (by kernel_rfl) ?_
    repeat still_step
    refine wpStill_nil ?_
    go_wp2_with fail
    go_ret
    exact ⟨by rw [HN.out]; exact congrArg (fun z => Ending.returned (Value.int .u32 z)) (num_bits l0 l1 l2 l3), keep_drawn' w _⟩

theorem num_ints {c0 c1 c2 c3 : Nat} (h0 : c0 < 256) (h1 : c1 < 256) (h2 : c2 < 256) (h3 : c3 < 256) :
    IntKind.i64.wrap (IntKind.i64.wrap (IntKind.i64.wrap (IntKind.i64.wrap (c0 : Int) + IntKind.i64.wrap (256 * IntKind.i64.wrap (c1 : Int))) + IntKind.i64.wrap (65536 * IntKind.i64.wrap (c2 : Int))) + IntKind.i64.wrap (16777216 * IntKind.i64.wrap (c3 : Int))) = ((c0 + 256 * c1 + 65536 * c2 + 16777216 * c3 : Nat) : Int) := by
  have w0 : IntKind.i64.wrap (c0 : Int) = c0 := IntWalk.i64_in _ (by omega)
  have w1 : IntKind.i64.wrap (c1 : Int) = c1 := IntWalk.i64_in _ (by omega)
  have w2 : IntKind.i64.wrap (c2 : Int) = c2 := IntWalk.i64_in _ (by omega)
  have w3 : IntKind.i64.wrap (c3 : Int) = c3 := IntWalk.i64_in _ (by omega)
  have v1 : IntKind.i64.wrap (256 * (c1 : Int)) = 256 * c1 := IntWalk.i64_in _ (by omega)
  have v2 : IntKind.i64.wrap (65536 * (c2 : Int)) = 65536 * c2 := IntWalk.i64_in _ (by omega)
  have v3 : IntKind.i64.wrap (16777216 * (c3 : Int)) = 16777216 * c3 := IntWalk.i64_in _ (by omega)
  rw [w0, w1, w2, w3, v1, v2, v3, IntWalk.i64_in ((c0 : Int) + 256 * c1) (by omega), IntWalk.i64_in ((c0 : Int) + 256 * c1 + 65536 * c2) (by omega), IntWalk.i64_in ((c0 : Int) + 256 * c1 + 65536 * c2 + 16777216 * c3) (by omega)]
  omega


set_option maxRecDepth 100000 in
set_option maxHeartbeats 1000000 in
theorem refNumber_any (w : World) {ao : Option Addr} {cap : Nat} {l : List UInt8} {G : Nat → Prop} (h : BytesIn w (.slice ao l.length cap) l G) (h4 : 4 ≤ l.length) :
    Calls Tryz.prog 31 #[.slice ao l.length cap] w fun e w' => e = .returned (.int .i64 (num l : Int)) ∧ Keep (fun _ => False) w w' := by
  obtain ⟨ao', cap', e0, hlc, hmax, hnil, hcells⟩ := h.read
  injection e0 with e1 e2 e3
  subst e1; subst e3
  clear e2 h
  cases ao with
  | none => rw [hnil rfl] at h4; simp at h4
  | some a =>
    obtain ⟨b0, b1, b2, b3, r, rfl⟩ := four_of h4
    have x0 := (hcells a rfl 0 (byteV b0) rfl).1
    have x1 : w.cell? ⟨a.block, a.off + 1, none⟩ = some (byteV b1) := (hcells a rfl 1 (byteV b1) rfl).1
    have x2 : w.cell? ⟨a.block, a.off + 2, none⟩ = some (byteV b2) := (hcells a rfl 2 (byteV b2) rfl).1
    have x3 : w.cell? ⟨a.block, a.off + 3, none⟩ = some (byteV b3) := (hcells a rfl 3 (byteV b3) rfl).1
    have HN := hid (show (num (b0 :: b1 :: b2 :: b3 :: r)) = b0.toNat + 256 * b1.toNat + 65536 * b2.toNat + 16777216 * b3.toNat from rfl)
    unfold byteV at x0 x1 x2 x3
    have l0 := b0.toNat_lt
    have l1 := b1.toNat_lt
    have l2 := b2.toNat_lt
    have l3 := b3.toNat_lt
    generalize b0.toNat = c0 at *
    generalize b1.toNat = c1 at *
    generalize b2.toNat = c2 at *
    generalize b3.toNat = c3 at *
    clear hcells hnil
    generalize hL : (b0 :: b1 :: b2 :: b3 :: r).length = L at *
    have g0 : 0 < L := by omega
    have g1 : (1 : Int) < (L : Int) := by omega
    have g2 : (2 : Int) < (L : Int) := by omega
    have g3 : (3 : Int) < (L : Int) := by omega
    clear hL
    rw [Addr.add_zero'] at x0
    go_enter Tryz.func31, Tryz.ntmps31
    go_wp2_with fail
    refine wp_region_still_lit (by kernel_rfl) (by kernel_rfl) ?_
    repeat still_step
    refine wpStill_nil ?_
    go_wp2_with fail
    go_ret
    exact ⟨by rw [HN.out]; exact congrArg (fun z => Ending.returned (Value.int .i64 z)) (num_ints l0 l1 l2 l3), keep_drawn' w _⟩


end Go.Proofs.YtmdibkafjpglkaaGreatDoor.Frm

namespace Go.Proofs.YtmdibkafjpglkaaGreatDoor.Frm
open Go Go.RowKit Go.Lib Go.Proofs.YtmdibkafjpglkaaGreatDoor.Dsk

theorem _root_.Go.Proofs.YtmdibkafjpglkaaGreatDoor.Dsk.BytesIn.later {w : World} {ao : Option Addr} {n cap : Nat} {l : List UInt8} {G : Nat → Prop} (h : BytesIn w (.slice (ao) n cap) l G) (a : Addr) (ha : ao = some a) (k : Nat) (hk : k ≤ l.length) : BytesIn w (.slice (some (a.add k)) (l.length - k) (cap - k)) (l.drop k) G := by
  obtain ⟨ao', cap', e, h1, h2, h3, h4⟩ := h.read
  injection e with e1 e2 e3
  subst e1; subst e3
  refine ⟨some (a.add k), cap - k, by simp, by simp; omega, by omega, (fun e => by cases e), fun b hb j u hj => ?_⟩
  obtain rfl := Option.some.inj hb
  have hadd : (a.add k).add j = a.add (k + j) := Addr.add_add a k j
  rw [hadd]
  have := h4 a ha (k + j) u (by rw [List.map_drop, List.getElem?_drop] at hj; exact hj)
  refine ⟨this.1, ?_⟩
  have e1 : (a.add k).block = a.block := by unfold Addr.add; split <;> rfl
  rw [e1]; exact this.2

theorem _root_.Go.Proofs.YtmdibkafjpglkaaGreatDoor.Dsk.BytesIn.len {w : World} {ao : Option Addr} {n cap : Nat} {l : List UInt8} {G : Nat → Prop} (h : BytesIn w (.slice ao n cap) l G) : n = l.length := by
  obtain ⟨ao', cap', e, -⟩ := h.read
  injection e with e1 e2 e3
theorem number_at (w : World) {ao : Option Addr} {n cap : Nat} {l : List UInt8} {G : Nat → Prop} (h : BytesIn w (.slice ao n cap) l G) (h4 : 4 ≤ l.length) :
    Calls Tryz.prog 87 #[.slice ao n cap] w fun e w' => e = .returned (.int .u32 (num l : Int)) ∧ Keep (fun _ => False) w w' := by
  obtain rfl := h.len
  exact number_any w h h4
theorem sum_at (w : World) {ao : Option Addr} {n cap : Nat} {l : List UInt8} {G : Nat → Prop} (h : BytesIn w (.slice ao n cap) l G) :
    Calls Tryz.prog 65 #[.slice ao n cap] w fun e w' => e = .returned (.int .u32 (crc l : Int)) ∧ w' = w := by
  obtain rfl := h.len
  exact sum_any w h

set_option maxRecDepth 100000 in
set_option maxHeartbeats 2000000 in
theorem first_any (w : World) {ao : Option Addr} {cap : Nat} {l : List UInt8} {G : Nat → Prop} (h : BytesIn w (.slice ao l.length cap) l G) :
    Calls Tryz.prog 59 #[.slice ao l.length cap] w fun e w' => e = .returned (.tuple #[.int .i64 ((firstE l).1 : Int), .int .i64 (firstE l).2]) ∧ Keep (fun _ => False) w w' := by
  obtain ⟨ao', cap', e0, hlc, hmax, hnil, -⟩ := h.read
  injection e0 with e1 e2 e3
  subst e1; subst e3
  clear e2
  have hmx : maxLen = 9223372036854775807 := rfl
  have H := hid h
  clear h
  by_cases h4 : (l.length : Int) < 4
  · have HE := hid (show firstE l = (0, 10) by unfold firstE; rw [if_pos (by omega)])
    go_enter Tryz.func59, Tryz.ntmps59
    go_wp2_with fail
    all_goals go_ret2
    all_goals exact ⟨by rw [HE.out]; rfl, Keep.refl _ _⟩
  cases ao with
  | none => rw [hnil rfl] at h4; simp at h4
  | some a =>
    clear hnil
    go_enter Tryz.func59, Tryz.ntmps59
    go_wp2_with fail
    refine (number_any w H.out (by omega)).mono ?_
    rintro e w1 ⟨rfl, hK⟩
    have HK := hid hK
    have H1 := hid (H.out.keep hK (fun _ _ h => h))
    have hnl := num_lt l
    clear hK H
    by_cases hb : 4194304 < (num l : Int)
    · have HE := hid (show firstE l = (0, 11) by unfold firstE maxBody; rw [if_neg (by omega), if_pos (by omega)])
      go_wp2_with fail
      all_goals go_ret2
      all_goals exact ⟨by rw [HE.out]; rfl, HK.out⟩
    by_cases hs : (l.length : Int) - 8 < (num l : Int)
    · have HE := hid (show firstE l = (0, 10) by unfold firstE maxBody; rw [if_neg (by omega), if_neg (by omega), if_pos (by omega)])
      go_wp2_with fail
      all_goals go_ret2
      all_goals exact ⟨by rw [HE.out]; rfl, HK.out⟩
    go_wp2_with fail
    refine wp_region_heldi [0, 1, 2, 4, 5, 6] 9 3 (fun _ => True) (by kernel_rfl) (by kernel_rfl) (by kernel_rfl) trivial (fun d _ _ _ _ h => by cases d <;> exact h) ?_
    have hle : (num l : Int) + 4 ≤ (l.length : Int) := by omega
    have hle2 : (num l : Int) + 4 ≤ (cap : Int) := by omega
    have hN : ((num l : Int) + 4).toNat = num l + 4 := by omega
    have hcn : ¬ cap = num l + 4 := by omega
    have hpos : (0 : Int) ≤ (num l : Int) + 4 := by omega
    repeat (refine heldI_step rfl rfl (fun w' _ => by (go_simp; with_reducible rfl)) ?_; simp only [Act.put, List.setIfInBounds_toArray, List.set_cons_zero, List.set_cons_succ])
    refine heldI_nil ?_
    refine anyZ_next (j := 3) (by kernel_rfl) rfl rfl ?_
    go_simp
    have HA := hid (H1.out.later a rfl (num l + 4) (by omega))
    have HB := hid (H1.out.first (num l + 4) (by omega))
    have kd := keep_drawn' w1 (w1.drawn + 1)
    refine (number_at w1.drew (HA.out.keep kd (fun _ _ h => h)) (by simp; omega)).mono ?_
    rintro e w2 ⟨rfl, hK⟩
    have hK2 := kd.trans hK (fun _ _ h => h)
    have HK2 := hid (HK.out.trans hK2 (fun _ _ h => h))
    have HB2 := hid (HB.out.keep hK2 (fun _ _ h => h))
    clear hK hK2 kd
    refine anyZ_next (j := 7) (by kernel_rfl) rfl rfl ?_
    go_simp
    refine (sum_at w2 HB2.out).mono ?_
    rintro e w3 ⟨rfl, rfl⟩
    have hcl := crc_lt (l.take (num l + 4))
    by_cases hsum : num (l.drop (num l + 4)) = crc (l.take (num l + 4))
    · have HE := hid (show firstE l = (num l + 8, 0) by unfold firstE maxBody; rw [if_neg (by omega), if_neg (by omega), if_neg (by omega), if_pos hsum])
      rw [hsum]
      refine anyZ_next (j := 8) (by kernel_rfl) rfl rfl ?_
      go_simp
      refine anyZ_done (by kernel_rfl) ?_
      go_wp2_with fail
      all_goals go_ret2
      all_goals exact ⟨by rw [HE.out]; rfl, HK2.out⟩
    · have HE := hid (show firstE l = (0, 12) by unfold firstE maxBody; rw [if_neg (by omega), if_neg (by omega), if_neg (by omega), if_neg hsum])
      have hbn : ((num (l.drop (num l + 4)) : Int) != (crc (l.take (num l + 4)) : Int)) = true := by rw [bne_iff_ne]; omega
      refine anyZ_next (j := 8) (by kernel_rfl) rfl rfl ?_
      go_simp
      refine anyZ_done (by kernel_rfl) ?_
      go_wp2_with fail
      all_goals go_ret2
      all_goals exact ⟨by rw [HE.out]; rfl, HK2.out⟩

end Go.Proofs.YtmdibkafjpglkaaGreatDoor.Frm
