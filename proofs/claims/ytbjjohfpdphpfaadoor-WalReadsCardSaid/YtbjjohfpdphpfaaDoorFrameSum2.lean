/- The reference's sum, walked. -/
import Derived.Test.YtbjjohfpdphpfaaDoorFrameSum
namespace Go.Proofs.YtbjjohfpdphpfaaDoor.Frm
open Go Go.RowKit Go.Lib Go.Proofs.YtbjjohfpdphpfaaDoor.Dsk

theorem refBits_lt {r c : Nat} (h : r < 4294967296) (k : Nat) : refBits r c k < 4294967296 := by
  induction k with
  | zero => exact h
  | succ k ih =>
    unfold refBits refBit
    split
    · have : (refBits r c k / 2) ^^^ 2197175160 < 2 ^ 32 := Nat.xor_lt_two_pow (by omega) (by omega)
      omega
    · omega
theorem refBits_succ (r c k : Nat) : refBits r c (k + 1) = if refBits r c k % 2 ≠ c / 2 ^ k % 2 then (refBits r c k / 2) ^^^ 2197175160 else refBits r c k / 2 := rfl

set_option maxRecDepth 100000 in
set_option maxHeartbeats 1000000 in
theorem refSum_any (w : World) {ao : Option Addr} {cap : Nat} {l : List UInt8} {G : Nat → Prop} (h : BytesIn w (.slice ao l.length cap) l G) :
    Calls Tryd.prog 72 #[.slice ao l.length cap] w fun e w' => e = .returned (.int .u32 (crc l : Int)) ∧ w' = w := by
  obtain ⟨ao', cap', e0, hlc, hmax, hnil, hcells⟩ := h.read
  injection e0 with e1 e2 e3
  subst e1; subst e3
  clear e2
  have hmx : maxLen = 9223372036854775807 := rfl
  go_enter Tryd.func72, Tryd.ntmps72
  go_wp2_with fail
  go_loopw [3, 4] (fun sv iv wr => ∃ i : Nat, iv = .int .i64 (i : Int) ∧ i ≤ l.length ∧ sv = .int .u32 (crcRun (l.take i) : Int) ∧ wr = w) (fun _ iv _ => l.length - (RowKit.intOf iv).toNat)
  case atStart => exact ⟨0, rfl, Nat.zero_le _, rfl, rfl⟩
  case round =>
    obtain ⟨i, rfl, hi, rfl, rfl⟩ := hrel
    by_cases hlt : i < l.length
    · obtain ⟨c, hc⟩ : ∃ c, l[i]? = some c := ⟨l[i], List.getElem?_eq_getElem hlt⟩
      cases ao with
      | none => rw [hnil rfl] at hlt; simp at hlt
      | some a =>
        have hcell := (hcells a rfl i (byteV c) (by simp [hc])).1
        have hs := crcRun_lt (l.take i)
        generalize hS : crcRun (l.take i) = S at *
        have HSV := hid hS
        clear hS
        obtain ⟨C, hC⟩ : ∃ C, c.toNat = C := ⟨_, rfl⟩
        have hcl : C < 256 := by have := c.toNat_lt; omega
        unfold byteV at hcell
        rw [hC] at hcell
        have HC := hid hc
        have HCV := hid hC
        clear hc hC
        have HCS := hid hcells
        clear hcells
        go_wp2_with fail
        go_loopw [3, 5, 6] (fun sv cv iv wr' => ∃ k : Nat, iv = .int .i64 (k : Int) ∧ k ≤ 8 ∧ sv = .int .u32 (refBits S C k : Int) ∧ cv = .int .u8 ((C / 2 ^ k : Nat) : Int) ∧ wr' = wr) (fun _ _ iv _ => 8 - (RowKit.intOf iv).toNat)
        case atStart => exact ⟨0, rfl, Nat.zero_le _, rfl, by simp, rfl⟩
        case round =>
          obtain ⟨k, rfl, hk, rfl, rfl, rfl⟩ := hrel
          by_cases hk8 : (k : Int) < 8
          · have hb := refBits_lt (c := C) hs k
            have HR := hid (refBits_succ S C k)
            have hC2 : C / 2 ^ k < 256 := by have := Nat.div_le_self C (2 ^ k); omega
            have HD : Hid (C / 2 ^ (k + 1) = C / 2 ^ k / 2) := hid (by rw [Nat.div_div_eq_div_mul, ← Nat.pow_succ])
            generalize hRk : refBits S C k = R at *
            generalize hCk : C / 2 ^ k = D at *
            have HRk := hid hRk
            have HCk := hid hCk
            clear hRk hCk
            by_cases hbit : R % 2 = D % 2
            · have hbi : ((R : Int) % 2 == (D : Int) % 2) = true := by rw [beq_iff_eq]; omega
              have hbn : ((R : Int) % 2 != (D : Int) % 2) = false := by rw [bne, hbi]; rfl
              go_wp2_with fail
              exact ⟨⟨k + 1, by simp, by omega, by rw [HR.out, if_neg (by simpa using hbit)]; simp, by rw [HD.out]; simp, trivial⟩, by simp [RowKit.intOf]; omega⟩
            · have hbi : ((R : Int) % 2 == (D : Int) % 2) = false := by rw [Bool.eq_false_iff]; intro h; rw [beq_iff_eq] at h; omega
              have hbn : ((R : Int) % 2 != (D : Int) % 2) = true := by rw [bne, hbi]; rfl
              have hxo : bits .xor .u32 ((R : Int) / 2) 2197175160 = (((R / 2) ^^^ 2197175160 : Nat) : Int) := by
                have e2 : (R : Int) / 2 = ((R / 2 : Nat) : Int) := by omega
                rw [e2]
                exact u32_xor_nat _ 2197175160 (by omega) (by omega)
              go_wp2_with fail
              exact ⟨⟨k + 1, by simp, by omega, by rw [HR.out, if_pos hbit], by rw [HD.out]; simp, trivial⟩, by simp [RowKit.intOf]; omega⟩
          · obtain rfl : k = 8 := by omega
            go_wp2_with fail
            exact ⟨⟨i + 1, by simp, by omega, by rw [crcRun_succ HC.out, HSV.out, ref_byte, HCV.out], trivial⟩, by simp [RowKit.intOf]; omega⟩
    · obtain rfl : i = l.length := by omega
      have hs := crcRun_lt l
      rw [List.take_length]
      have hcr : (4294967295 : Int) - (crcRun l : Int) = (crc l : Int) := by unfold crc; omega
      go_wp2_with fail
      all_goals go_ret
      all_goals exact ⟨by first | rfl | (show Ending.returned (Value.int .u32 (4294967295 - (crcRun l : Int))) = _; rw [hcr]), rfl⟩

end Go.Proofs.YtbjjohfpdphpfaaDoor.Frm
