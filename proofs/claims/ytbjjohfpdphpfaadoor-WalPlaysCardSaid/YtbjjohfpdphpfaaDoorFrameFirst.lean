/- frame.four, frame.first, walked. -/
import Derived.Test.YtbjjohfpdphpfaaDoorFrameNum
import Derived.Test.YtbjjohfpdphpfaaDoorHeldI
import Derived.DataElems
namespace Go.Proofs.YtbjjohfpdphpfaaDoor.Frm
open Go Go.RowKit Go.Lib Go.Proofs.YtbjjohfpdphpfaaDoor.Dsk

theorem _root_.Go.Proofs.YtbjjohfpdphpfaaDoor.Dsk.BytesIn.later {w : World} {ao : Option Addr} {n cap : Nat} {l : List UInt8} {G : Nat → Prop} (h : BytesIn w (.slice (ao) n cap) l G) (a : Addr) (ha : ao = some a) (k : Nat) (hk : k ≤ l.length) : BytesIn w (.slice (some (a.add k)) (l.length - k) (cap - k)) (l.drop k) G := by
  obtain ⟨ao', cap', e, h1, h2, h3, h4⟩ := h.read
  injection e with e1 e2 e3
  subst e1; subst e3
  refine ⟨some (a.add k), cap - k, by simp, by simp; omega, by omega, (fun e => by cases e), fun b hb j u hj => ?_⟩
  obtain rfl := Option.some.inj hb
  have hadd : (a.add k).add j = a.add (k + j) := Addr.add_add a k j
  rw [hadd]
  have := h4 a ha (k + j) u (by rw [List.map_drop, List.getElem?_drop] at hj; exact hj)
  refine ⟨this.1, ?_⟩
  have e1 : (a.add k).block = a.block := by unfold Addr.add; split <;> rfl
  rw [e1]; exact this.2

theorem _root_.Go.Proofs.YtbjjohfpdphpfaaDoor.Dsk.BytesIn.len {w : World} {ao : Option Addr} {n cap : Nat} {l : List UInt8} {G : Nat → Prop} (h : BytesIn w (.slice ao n cap) l G) : n = l.length := by
  obtain ⟨ao', cap', e, -⟩ := h.read
  injection e with e1 e2 e3
theorem number_at (w : World) {ao : Option Addr} {n cap : Nat} {l : List UInt8} {G : Nat → Prop} (h : BytesIn w (.slice ao n cap) l G) (h4 : 4 ≤ l.length) :
    Calls Tryd.prog 84 #[.slice ao n cap] w fun e w' => e = .returned (.int .u32 (num l : Int)) ∧ Keep (fun _ => False) w w' := by
  obtain rfl := h.len
  exact number_any w h h4
theorem sum_at (w : World) {ao : Option Addr} {n cap : Nat} {l : List UInt8} {G : Nat → Prop} (h : BytesIn w (.slice ao n cap) l G) :
    Calls Tryd.prog 74 #[.slice ao n cap] w fun e w' => e = .returned (.int .u32 (crc l : Int)) ∧ w' = w := by
  obtain rfl := h.len
  exact sum_any w h

set_option maxRecDepth 100000 in
set_option maxHeartbeats 2000000 in
theorem first_any (w : World) {ao : Option Addr} {cap : Nat} {l : List UInt8} {G : Nat → Prop} (h : BytesIn w (.slice ao l.length cap) l G) :
    Calls Tryd.prog 80 #[.slice ao l.length cap] w fun e w' => e = .returned (.tuple #[.int .i64 ((firstE l).1 : Int), .int .i64 (firstE l).2]) ∧ Keep (fun _ => False) w w' := by
  obtain ⟨ao', cap', e0, hlc, hmax, hnil, -⟩ := h.read
  injection e0 with e1 e2 e3
  subst e1; subst e3
  clear e2
  have hmx : maxLen = 9223372036854775807 := rfl
  have H := hid h
  clear h
  by_cases h4 : (l.length : Int) < 4
  · have HE := hid (show firstE l = (0, 10) by unfold firstE; rw [if_pos (by omega)])
    go_enter Tryd.func80, Tryd.ntmps80
    go_wp2_with fail
    all_goals go_ret2
    all_goals exact ⟨by rw [HE.out]; rfl, Keep.refl _ _⟩
  cases ao with
  | none => rw [hnil rfl] at h4; simp at h4
  | some a =>
    clear hnil
    go_enter Tryd.func80, Tryd.ntmps80
    go_wp2_with fail
    refine (number_any w H.out (by omega)).mono ?_
    rintro e w1 ⟨rfl, hK⟩
    have HK := hid hK
    have H1 := hid (H.out.keep hK (fun _ _ h => h))
    have hnl := num_lt l
    clear hK H
    by_cases hb : 4194304 < (num l : Int)
    · have HE := hid (show firstE l = (0, 11) by unfold firstE maxBody; rw [if_neg (by omega), if_pos (by omega)])
      go_wp2_with fail
      all_goals go_ret2
      all_goals exact ⟨by rw [HE.out]; rfl, HK.out⟩
    by_cases hs : (l.length : Int) - 8 < (num l : Int)
    · have HE := hid (show firstE l = (0, 10) by unfold firstE maxBody; rw [if_neg (by omega), if_neg (by omega), if_pos (by omega)])
      go_wp2_with fail
      all_goals go_ret2
      all_goals exact ⟨by rw [HE.out]; rfl, HK.out⟩
    go_wp2_with fail
    refine wp_region_heldi [0, 1, 2, 4, 5, 6] 9 3 (fun _ => True) (by kernel_rfl) (by kernel_rfl) (by kernel_rfl) trivial (fun d _ _ _ _ h => by cases d <;> exact h) ?_
    have hle : (num l : Int) + 4 ≤ (l.length : Int) := by omega
    have hle2 : (num l : Int) + 4 ≤ (cap : Int) := by omega
    have hN : ((num l : Int) + 4).toNat = num l + 4 := by omega
    have hcn : ¬ cap = num l + 4 := by omega
    have hpos : (0 : Int) ≤ (num l : Int) + 4 := by omega
    repeat (refine heldI_step rfl rfl (fun w' _ => by (go_simp; with_reducible rfl)) ?_; simp only [Act.put, List.setIfInBounds_toArray, List.set_cons_zero, List.set_cons_succ])
    refine heldI_nil ?_
    refine anyZ_next (j := 3) (by kernel_rfl) rfl rfl ?_
    go_simp
    have HA := hid (H1.out.later a rfl (num l + 4) (by omega))
    have HB := hid (H1.out.first (num l + 4) (by omega))
    have kd := keep_drawn' w1 (w1.drawn + 1)
    refine (number_at w1.drew (HA.out.keep kd (fun _ _ h => h)) (by simp; omega)).mono ?_
    rintro e w2 ⟨rfl, hK⟩
    have hK2 := kd.trans hK (fun _ _ h => h)
    have HK2 := hid (HK.out.trans hK2 (fun _ _ h => h))
    have HB2 := hid (HB.out.keep hK2 (fun _ _ h => h))
    clear hK hK2 kd
    refine anyZ_next (j := 7) (by kernel_rfl) rfl rfl ?_
    go_simp
    refine (sum_at w2 HB2.out).mono ?_
    rintro e w3 ⟨rfl, rfl⟩
    have hcl := crc_lt (l.take (num l + 4))
    by_cases hsum : num (l.drop (num l + 4)) = crc (l.take (num l + 4))
    · have HE := hid (show firstE l = (num l + 8, 0) by unfold firstE maxBody; rw [if_neg (by omega), if_neg (by omega), if_neg (by omega), if_pos hsum])
      rw [hsum]
      refine anyZ_next (j := 8) (by kernel_rfl) rfl rfl ?_
      go_simp
      refine anyZ_done (by kernel_rfl) ?_
      go_wp2_with fail
      all_goals go_ret2
      all_goals exact ⟨by rw [HE.out]; rfl, HK2.out⟩
    · have HE := hid (show firstE l = (0, 12) by unfold firstE maxBody; rw [if_neg (by omega), if_neg (by omega), if_neg (by omega), if_neg hsum])
      have hbn : ((num (l.drop (num l + 4)) : Int) != (crc (l.take (num l + 4)) : Int)) = true := by rw [bne_iff_ne]; omega
      refine anyZ_next (j := 8) (by kernel_rfl) rfl rfl ?_
      go_simp
      refine anyZ_done (by kernel_rfl) ?_
      go_wp2_with fail
      all_goals go_ret2
      all_goals exact ⟨by rw [HE.out]; rfl, HK2.out⟩

end Go.Proofs.YtbjjohfpdphpfaaDoor.Frm
