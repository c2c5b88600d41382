/- frame.Sum, walked. -/
import Derived.Test.YtbjjohfpdphpfaaDoorFramePure
import Derived.Test.YtbjjohfpdphpfaaDoorDiskBytes
namespace Go.Proofs.YtbjjohfpdphpfaaDoor.Frm
open Go Go.RowKit Go.Lib Go.Proofs.YtbjjohfpdphpfaaDoor.Dsk

theorem not_u32 (s : Nat) (h : s < 4294967296) : bits .xor .u32 IntKind.u32.max (s : Int) = ((4294967295 - s : Nat) : Int) := by
  have e : IntKind.u32.max = ((4294967295 : Nat) : Int) := by decide
  rw [e, u32_xor_nat 4294967295 s (by omega) h]
  congr 1
  have h1 : BitVec.ofNat 32 4294967295 ^^^ BitVec.ofNat 32 s = ~~~ BitVec.ofNat 32 s := by
    rw [show BitVec.ofNat 32 4294967295 = BitVec.allOnes 32 from by decide, BitVec.allOnes_xor]
  have h2 := congrArg BitVec.toNat h1
  rw [BitVec.toNat_xor, BitVec.toNat_not, BitVec.toNat_ofNat, BitVec.toNat_ofNat, Nat.mod_eq_of_lt (by omega), Nat.mod_eq_of_lt (by omega)] at h2
  rw [h2]

set_option maxRecDepth 100000 in
set_option maxHeartbeats 1000000 in
theorem sum_any (w : World) {ao : Option Addr} {cap : Nat} {l : List UInt8} {G : Nat → Prop} (h : BytesIn w (.slice ao l.length cap) l G) :
    Calls Tryd.prog 74 #[.slice ao l.length cap] w fun e w' => e = .returned (.int .u32 (crc l : Int)) ∧ w' = w := by
  obtain ⟨ao', cap', e0, hlc, hmax, hnil, hcells⟩ := h.read
  injection e0 with e1 e2 e3
  subst e1; subst e3
  clear e2
  have hmx : maxLen = 9223372036854775807 := rfl
  go_enter Tryd.func74, Tryd.ntmps74
  go_wp2_with fail
  go_loopw [3, 8] (fun sv iv wr => ∃ i : Nat, iv = .int .i64 (i : Int) ∧ i ≤ l.length ∧ sv = .int .u32 (crcRun (l.take i) : Int) ∧ wr = w) (fun _ iv _ => l.length - (RowKit.intOf iv).toNat)
  case atStart => exact ⟨0, rfl, Nat.zero_le _, rfl, rfl⟩
  case round =>
    obtain ⟨i, rfl, hi, rfl, rfl⟩ := hrel
    by_cases hlt : i < l.length
    · obtain ⟨c, hc⟩ : ∃ c, l[i]? = some c := ⟨l[i], List.getElem?_eq_getElem hlt⟩
      cases ao with
      | none => rw [hnil rfl] at hlt; simp at hlt
      | some a =>
        have hcell := (hcells a rfl i (byteV c) (by simp [hc])).1
        have hs := crcRun_lt (l.take i)
        generalize hS : crcRun (l.take i) = S at *
        have HSV := hid hS
        clear hS
        have hcl : c.toNat < 256 := c.toNat_lt
        have hx : bits .xor .u32 (S : Int) (c.toNat : Int) = ((S ^^^ c.toNat : Nat) : Int) := u32_xor_nat _ _ hs (by omega)
        have hX := xor_byte_lt hs c
        unfold byteV at hcell
        have HC := hid hc
        clear hc
        have HCS := hid hcells
        clear hcells
        go_wp2_with fail
        go_loopw [3, 16] (fun sv iv wr' => ∃ k : Nat, iv = .int .i64 (k : Int) ∧ k ≤ 8 ∧ sv = .int .u32 (crcBits (S ^^^ c.toNat) k : Int) ∧ wr' = wr) (fun _ iv _ => 8 - (RowKit.intOf iv).toNat)
        case atStart => exact ⟨0, rfl, Nat.zero_le _, rfl, rfl⟩
        case round =>
          obtain ⟨k, rfl, hk, rfl, rfl⟩ := hrel
          by_cases hk8 : (k : Int) < 8
          · have hb := crcBits_lt hX k
            have HST := hid (crc_step _ hb)
            go_wp2_with fail
            exact ⟨⟨k + 1, by simp, by omega, by rw [HST.out]; rfl, trivial⟩, by simp [RowKit.intOf]; omega⟩
          · obtain rfl : k = 8 := by omega
            go_wp2_with fail
            exact ⟨⟨i + 1, by simp, by omega, by rw [crcRun_succ HC.out, HSV.out]; rfl, trivial⟩, by simp [RowKit.intOf]; omega⟩
    · obtain rfl : i = l.length := by omega
      have hs := crcRun_lt l
      have hno := not_u32 (crcRun l) hs
      rw [List.take_length]
      go_wp2_with fail
      all_goals go_ret
      all_goals exact ⟨rfl, rfl⟩

end Go.Proofs.YtbjjohfpdphpfaaDoor.Frm
