/- The reference's sum, walked. The reference's Next, walked. -/
import Derived.Test.YtmdibkafjpglkaaGreatDoorFrameFirst
namespace Go.Proofs.YtmdibkafjpglkaaGreatDoor.Frm
open Go Go.RowKit Go.Lib Go.Proofs.YtmdibkafjpglkaaGreatDoor.Dsk

theorem refBits_lt {r c : Nat} (h : r < 4294967296) (k : Nat) : refBits r c k < 4294967296 := by
  induction k with
  | zero => exact h
  | succ k ih =>
    unfold refBits refBit
    split
    · have : (refBits r c k / 2) ^^^ 2197175160 < 2 ^ 32 := Nat.xor_lt_two_pow (by omega) (by omega)
      omega
    · omega
theorem refBits_succ (r c k : Nat) : refBits r c (k + 1) = if refBits r c k % 2 ≠ c / 2 ^ k % 2 then (refBits r c k / 2) ^^^ 2197175160 else refBits r c k / 2 := rfl

set_option maxRecDepth 100000 in
set_option maxHeartbeats 1000000 in
theorem refSum_any (w : World) {ao : Option Addr} {cap : Nat} {l : List UInt8} {G : Nat → Prop} (h : BytesIn w (.slice ao l.length cap) l G) :
    Calls Tryz.prog 32 #[.slice ao l.length cap] w fun e w' => e = .returned (.int .u32 (crc l : Int)) ∧ w' = w := by
  obtain ⟨ao', cap', e0, hlc, hmax, hnil, hcells⟩ := h.read
  injection e0 with e1 e2 e3
  subst e1; subst e3
  clear e2
  have hmx : maxLen = 9223372036854775807 := rfl
  go_enter Tryz.func32, Tryz.ntmps32
  go_wp2_with fail
  go_loopw [3, 4] (fun sv iv wr => ∃ i : Nat, iv = .int .i64 (i : Int) ∧ i ≤ l.length ∧ sv = .int .u32 (crcRun (l.take i) : Int) ∧ wr = w) (fun _ iv _ => l.length - (RowKit.intOf iv).toNat)
  case atStart => exact ⟨0, rfl, Nat.zero_le _, rfl, rfl⟩
  case round =>
    obtain ⟨i, rfl, hi, rfl, rfl⟩ := hrel
    by_cases hlt : i < l.length
    · obtain ⟨c, hc⟩ : ∃ c, l[i]? = some c := ⟨l[i], List.getElem?_eq_getElem hlt⟩
      cases ao with
      | none => rw [hnil rfl] at hlt; simp at hlt
      | some a =>
        have hcell := (hcells a rfl i (byteV c) (by simp [hc])).1
        have hs := crcRun_lt (l.take i)
        generalize hS : crcRun (l.take i) = S at *
        have HSV := hid hS
        clear hS
        obtain ⟨C, hC⟩ : ∃ C, c.toNat = C := ⟨_, rfl⟩
        have hcl : C < 256 := by have := c.toNat_lt; omega
        unfold byteV at hcell
        rw [hC] at hcell
        have HC := hid hc
        have HCV := hid hC
        clear hc hC
        have HCS := hid hcells
        clear hcells
        go_wp2_with fail
        go_loopw [3, 5, 6] (fun sv cv iv wr' => ∃ k : Nat, iv = .int .i64 (k : Int) ∧ k ≤ 8 ∧ sv = .int .u32 (refBits S C k : Int) ∧ cv = .int .u8 ((C / 2 ^ k : Nat) : Int) ∧ wr' = wr) (fun _ _ iv _ => 8 - (RowKit.intOf iv).toNat)
        case atStart => exact ⟨0, rfl, Nat.zero_le _, rfl, by simp, rfl⟩
        case round =>
          obtain ⟨k, rfl, hk, rfl, rfl, rfl⟩ := hrel
          by_cases hk8 : (k : Int) < 8
          · have hb := refBits_lt (c := C) hs k
            have HR := hid (refBits_succ S C k)
            have hC2 : C / 2 ^ k < 256 := by have := Nat.div_le_self C (2 ^ k); omega
            have HD : Hid (C / 2 ^ (k + 1) = C / 2 ^ k / 2) := hid (by rw [Nat.div_div_eq_div_mul, ← Nat.pow_succ])
            generalize hRk : refBits S C k = R at *
            generalize hCk : C / 2 ^ k = D at *
            have HRk := hid hRk
            have HCk := hid hCk
            clear hRk hCk
            by_cases hbit : R % 2 = D % 2
            · have hbi : ((R : Int) % 2 == (D : Int) % 2) = true := by rw [beq_iff_eq]; omega
              have hbn : ((R : Int) % 2 != (D : Int) % 2) = false := by rw [bne, hbi]; rfl
              go_wp2_with fail
              exact ⟨⟨k + 1, by simp, by omega, by rw [HR.out, if_neg (by simpa using hbit)]; simp, by rw [HD.out]; simp, trivial⟩, by simp [RowKit.intOf]; omega⟩
            · have hbi : ((R : Int) % 2 == (D : Int) % 2) = false := by rw [Bool.eq_false_iff]; intro h; rw [beq_iff_eq] at h; omega
              have hbn : ((R : Int) % 2 != (D : Int) % 2) = true := by rw [bne, hbi]; rfl
              have hxo : bits .xor .u32 ((R : Int) / 2) 2197175160 = (((R / 2) ^^^ 2197175160 : Nat) : Int) := by
                have e2 : (R : Int) / 2 = ((R / 2 : Nat) : Int) := by omega
                rw [e2]
                exact u32_xor_nat _ 2197175160 (by omega) (by omega)
              go_wp2_with fail
              exact ⟨⟨k + 1, by simp, by omega, by rw [HR.out, if_pos hbit], by rw [HD.out]; simp, trivial⟩, by simp [RowKit.intOf]; omega⟩
          · obtain rfl : k = 8 := by omega
            go_wp2_with fail
            exact ⟨⟨i + 1, by simp, by omega, by rw [crcRun_succ HC.out, HSV.out, ref_byte, HCV.out], trivial⟩, by simp [RowKit.intOf]; omega⟩
    · obtain rfl : i = l.length := by omega
      have hs := crcRun_lt l
      rw [List.take_length]
      have hcr : (4294967295 : Int) - (crcRun l : Int) = (crc l : Int) := by unfold crc; omega
      go_wp2_with fail
      all_goals go_ret
      all_goals exact ⟨by first | rfl | (show Ending.returned (Value.int .u32 (4294967295 - (crcRun l : Int))) = _; rw [hcr]), rfl⟩

end Go.Proofs.YtmdibkafjpglkaaGreatDoor.Frm

namespace Go.Proofs.YtmdibkafjpglkaaGreatDoor.Frm
open Go Go.RowKit Go.Lib Go.Proofs.YtmdibkafjpglkaaGreatDoor.Dsk

/-- The first frame's body, or none. -/
def nextV (ao : Option Addr) (cap : Nat) (l : List UInt8) : Value := if (firstE l).2 = 0 then .slice (ao.map (·.add 4)) (num l) (cap - 4) else .slice none 0 0

theorem refNumber_at (w : World) {ao : Option Addr} {n cap : Nat} {l : List UInt8} {G : Nat → Prop} (h : BytesIn w (.slice ao n cap) l G) (h4 : 4 ≤ l.length) :
    Calls Tryz.prog 31 #[.slice ao n cap] w fun e w' => e = .returned (.int .i64 (num l : Int)) ∧ Keep (fun _ => False) w w' := by
  obtain rfl := h.len
  exact refNumber_any w h h4
theorem refSum_at (w : World) {ao : Option Addr} {n cap : Nat} {l : List UInt8} {G : Nat → Prop} (h : BytesIn w (.slice ao n cap) l G) :
    Calls Tryz.prog 32 #[.slice ao n cap] w fun e w' => e = .returned (.int .u32 (crc l : Int)) ∧ w' = w := by
  obtain rfl := h.len
  exact refSum_any w h

set_option maxRecDepth 100000 in
set_option maxHeartbeats 2000000 in
theorem next_any (w : World) {ao : Option Addr} {cap : Nat} {l : List UInt8} {G : Nat → Prop} (h : BytesIn w (.slice ao l.length cap) l G) :
    Calls Tryz.prog 10 #[.slice ao l.length cap] w fun e w' => e = .returned (.tuple #[nextV ao cap l, .int .i64 ((firstE l).1 : Int), .int .i64 (firstE l).2]) ∧ Keep (fun _ => False) w w' := by
  obtain ⟨ao', cap', e0, hlc, hmax, hnil, -⟩ := h.read
  injection e0 with e1 e2 e3
  subst e1; subst e3
  clear e2
  have hmx : maxLen = 9223372036854775807 := rfl
  have H := hid h
  clear h
  by_cases h4 : (l.length : Int) < 4
  · have HE := hid (show firstE l = (0, 10) by unfold firstE; rw [if_pos (by omega)])
    go_enter Tryz.func10, Tryz.ntmps10
    go_wp2_with fail
    all_goals refine bodyPost_ret (results_tmp3 rfl _ _ _) rfl ?_
    all_goals exact ⟨by unfold nextV; rw [HE.out]; rfl, Keep.refl _ _⟩
  cases ao with
  | none => rw [hnil rfl] at h4; simp at h4
  | some a =>
    clear hnil
    go_enter Tryz.func10, Tryz.ntmps10
    go_wp2_with fail
    refine (refNumber_any w H.out (by omega)).mono ?_
    rintro e w1 ⟨rfl, hK⟩
    have HK := hid hK
    have H1 := hid (H.out.keep hK (fun _ _ h => h))
    have hnl := num_lt l
    clear hK H
    by_cases hb : 4194304 < (num l : Int)
    · have HE := hid (show firstE l = (0, 11) by unfold firstE maxBody; rw [if_neg (by omega), if_pos (by omega)])
      go_wp2_with fail
      all_goals refine bodyPost_ret (results_tmp3 rfl _ _ _) rfl ?_
      all_goals exact ⟨by unfold nextV; rw [HE.out]; rfl, HK.out⟩
    by_cases hs : (l.length : Int) < (num l : Int) + 8
    · have HE := hid (show firstE l = (0, 10) by unfold firstE maxBody; rw [if_neg (by omega), if_neg (by omega), if_pos (by omega)])
      go_wp2_with fail
      all_goals refine bodyPost_ret (results_tmp3 rfl _ _ _) rfl ?_
      all_goals exact ⟨by unfold nextV; rw [HE.out]; rfl, HK.out⟩
    go_wp2_with fail
    refine wp_region_heldi [0, 1, 2, 3, 6, 7, 8, 9] 12 4 (fun _ => True) (by kernel_rfl) (by kernel_rfl) (by kernel_rfl) trivial (fun d _ _ _ _ h => by cases d <;> exact h) ?_
    have hle : (num l : Int) + 4 ≤ (l.length : Int) := by omega
    have hwp : IntKind.i64.wrap ((num l : Int) + 4) = (num l : Int) + 4 := IntWalk.i64_in _ (by omega)
    have hle2 : (num l : Int) + 4 ≤ (cap : Int) := by omega
    have hN : ((num l : Int) + 4).toNat = num l + 4 := by omega
    have hcn : ¬ cap = num l + 4 := by omega
    have hpos : (0 : Int) ≤ (num l : Int) + 4 := by omega
    repeat (refine heldI_step rfl rfl (fun w' _ => by (go_simp; with_reducible rfl)) ?_; simp only [Act.put, List.setIfInBounds_toArray, List.set_cons_zero, List.set_cons_succ])
    refine heldI_nil ?_
    refine anyZ_next (j := 4) (by kernel_rfl) rfl rfl ?_
    go_simp
    have HA := hid (H1.out.later a rfl (num l + 4) (by omega))
    have HB := hid (H1.out.first (num l + 4) (by omega))
    have kd := keep_drawn' w1 (w1.drawn + 1)
    refine (refNumber_at w1.drew (HA.out.keep kd (fun _ _ h => h)) (by simp; omega)).mono ?_
    rintro e w2 ⟨rfl, hK⟩
    have hK2 := kd.trans hK (fun _ _ h => h)
    have HK2 := hid (HK.out.trans hK2 (fun _ _ h => h))
    have HB2 := hid (HB.out.keep hK2 (fun _ _ h => h))
    clear hK hK2 kd
    have hnl2 := num_lt (l.drop (num l + 4))
    have hwr : IntKind.u32.wrap (num (l.drop (num l + 4)) : Int) = (num (l.drop (num l + 4)) : Int) := by rw [IntKind.wrap_u32']; omega
    refine heldI_run (t := 2) (by kernel_rfl) (fun d _ _ _ _ h => by cases d <;> exact h) w2 trivial [5] _ _ (by kernel_rfl) ?_
    refine heldI_step rfl rfl (fun w' _ => by (go_simp; with_reducible rfl)) ?_
    simp only [Act.put, List.setIfInBounds_toArray, List.set_cons_zero, List.set_cons_succ]
    refine heldI_nil ?_
    refine anyZ_next (j := 10) (by kernel_rfl) rfl rfl ?_
    go_simp
    refine (refSum_at w2 HB2.out).mono ?_
    rintro e w3 ⟨rfl, rfl⟩
    have hcl := crc_lt (l.take (num l + 4))
    by_cases hsum : num (l.drop (num l + 4)) = crc (l.take (num l + 4))
    · have HE := hid (show firstE l = (num l + 8, 0) by unfold firstE maxBody; rw [if_neg (by omega), if_neg (by omega), if_neg (by omega), if_pos hsum])
      rw [hsum]
      refine anyZ_next (j := 11) (by kernel_rfl) rfl rfl ?_
      go_simp
      refine anyZ_done (by kernel_rfl) ?_
      go_wp2_with fail
      all_goals refine bodyPost_ret (results_tmp3 rfl _ _ _) rfl ?_
      all_goals exact ⟨by unfold nextV; rw [HE.out]; rfl, HK2.out⟩
    · have HE := hid (show firstE l = (0, 12) by unfold firstE maxBody; rw [if_neg (by omega), if_neg (by omega), if_neg (by omega), if_neg hsum])
      have hbn : ((num (l.drop (num l + 4)) : Int) != (crc (l.take (num l + 4)) : Int)) = true := by rw [bne_iff_ne]; omega
      refine anyZ_next (j := 11) (by kernel_rfl) rfl rfl ?_
      go_simp
      refine anyZ_done (by kernel_rfl) ?_
      go_wp2_with fail
      all_goals refine bodyPost_ret (results_tmp3 rfl _ _ _) rfl ?_
      all_goals exact ⟨by unfold nextV; rw [HE.out]; rfl, HK2.out⟩


theorem next_at (w : World) {ao : Option Addr} {n cap : Nat} {l : List UInt8} {G : Nat → Prop} (h : BytesIn w (.slice ao n cap) l G) :
    Calls Tryz.prog 10 #[.slice ao n cap] w fun e w' => e = .returned (.tuple #[nextV ao cap l, .int .i64 ((firstE l).1 : Int), .int .i64 (firstE l).2]) ∧ Keep (fun _ => False) w w' := by
  obtain rfl := h.len
  exact next_any w h

end Go.Proofs.YtmdibkafjpglkaaGreatDoor.Frm
