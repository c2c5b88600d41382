/- osierlaw19.WalTail: bytes behind a log's records that are no record are gone behind an opening; walked. -/
import Derived.Test.YtbjjohfpdphpfaaDoorWalPure
import Derived.Test.YtbjjohfpdphpfaaDoorRefSplit
import Derived.Test.YtbjjohfpdphpfaaDoorRefSame
import Derived.Test.YtbjjohfpdphpfaaDoorOpenArgs2
namespace Go.Proofs.YtbjjohfpdphpfaaDoor.Wal
open Go Go.RowKit Go.Lib Go.Proofs.YtbjjohfpdphpfaaDoor.Dsk Go.Proofs.YtbjjohfpdphpfaaDoor.Frm

set_option maxRecDepth 100000 in
set_option maxHeartbeats 8000000 in
theorem tail_row (W : World) {v0 v1 v2 : Value} {la lj lc : List UInt8} (hA : BytesArg W v0 la) (hJ : BytesArg W v1 lj) (hC : BytesArg W v2 lc) :
    Calls Tryd.prog 13 #[v0, v1, v2] W fun e w' => e = .returned (.bool true) ∧ Keep (fun _ => False) W w' := by
  have HA := hid hA
  have HJ := hid hJ
  have HC := hid hC
  obtain ⟨ao0, c0, hv0, -⟩ := hA.bytes.read
  obtain ⟨aoj, cj, hvj, -⟩ := hJ.bytes.read
  obtain ⟨aoc, cc, hvc, -⟩ := hC.bytes.read
  subst hv0; subst hvj; subst hvc
  clear hA hJ hC
  go_enter Tryd.func13, Tryd.ntmps13
  go_wp2_with fail
  refine (awake19 W).mono ?_
  rintro e w0 ⟨rfl, hK⟩
  have HK0 := hid hK
  clear hK
  by_cases h1 : 1000 < (la.length : Int)
  · go_wp2_with fail
    all_goals go_ret
    all_goals exact ⟨rfl, HK0.out⟩
  by_cases h2 : 1000 < (lc.length : Int)
  · go_wp2_with fail
    all_goals go_ret
    all_goals exact ⟨rfl, HK0.out⟩
  by_cases h3 : 1000 < (lj.length : Int)
  · go_wp2_with fail
    all_goals go_ret
    all_goals exact ⟨rfl, HK0.out⟩
  go_wp2_with fail
  refine (refsplit_any w0 (HJ.out.bytes.keep HK0.out (fun _ _ h => h)) HJ.out.nil (by omega)).mono ?_
  rintro e w1 ⟨o, rfl, hR, hK⟩
  obtain ⟨wj, pj, hsp⟩ : ∃ wj pj, Frm.split lj = (wj, pj) := ⟨_, _, rfl⟩
  have hwj := split_le lj
  rw [hsp] at hR hwj ⊢
  simp only at hwj
  obtain ⟨aow, capw, how⟩ := rows_slice hR
  subst how
  have HK1 := hid (HK0.out.trans hK (fun _ _ h => h))
  clear hR hK
  have HSP := hid hsp
  clear hsp
  go_wp2_with fail
  refine (st_new W HK1.out 100000 (by decide)).mono ?_
  rintro e w2 ⟨db, rfl, hS⟩
  have S2 := hid hS
  clear hS
  unfold ptr
  go_wp2_with fail
  refine (st_open S2.out nmLog).mono ?_
  rw [new_open nmLog_name]
  rintro e w3 ⟨lv, o1, Y, rfl, hS, -, ⟨lb, rfl, hL, hYl, hlow⟩, hR, -⟩
  have S3 := hid hS
  have HL3 := hid hL
  have HY := hid hYl
  have hlb : W.heap.size ≤ lb := Nat.le_trans S2.out.size hlow
  obtain ⟨ao1, cap1, ho1⟩ := rows_slice hR
  subst ho1
  clear hS hL hYl hR hlow
  unfold ptr
  go_wp2_with fail
  refine (st_append S3.out HL3.out HY.out hlb (Nat.zero_le _) (HA.out.bytes.keep S3.out.kept (fun i hi h => by omega))).mono ?_
  rw [show walAppend (new 100000) ⟨0, nmLog, 0, 0⟩ la = (oneF 100000 nmLog (frame la) 0, ⟨0, nmLog, 1, 0⟩, 0) from new_walAppend (R := 100000) nmLog_name (by unfold maxBody; omega) (by omega)]
  rintro e w4 ⟨rfl, hS, hL, -⟩
  have S4 := hid hS
  have HL4 := hid hL
  clear hS hL
  go_wp2_with fail
  refine (st_dappend S4.out nmLog (HJ.out.bytes.keep S4.out.kept (fun i hi h => by omega)) (fun i hi => .inl hi)).mono ?_
  rw [oneF_append nmLog_name (by rw [frame_length]; omega) (by unfold whole; omega)]
  rintro e w5 ⟨rfl, hS, -⟩
  have S5 := hid hS
  clear hS
  go_wp2_with fail
  have hs1 : Frm.split (frame la ++ lj) = (la :: wj, la.length + 8 + pj) := by rw [split_frame la lj (by unfold maxBody; omega), HSP.out]
  obtain ⟨s1, ho1⟩ := oneF_open (R := 100000) (N := nmLog) (b := frame la ++ lj) (s := 0) nmLog_name
  rw [hs1] at ho1
  simp only at ho1
  obtain ⟨B2, hB2⟩ : ∃ B2, (frame la ++ lj).take (la.length + 8 + pj) = B2 := ⟨_, rfl⟩
  have hB2l : B2.length ≤ 2010 := by rw [← hB2, List.length_take, List.length_append, frame_length]; omega
  rw [hB2] at ho1
  have hs2 : Frm.split (B2 ++ frame lc) = (la :: wj ++ [lc], la.length + 8 + pj + (lc.length + 8)) := by
    have h := split_app (frame lc) _ (frame la ++ lj) (Nat.le_refl _)
    have h2 := split_frame lc [] (by unfold maxBody; omega)
    rw [List.append_nil, split_empty] at h2
    rw [hs1, h2] at h
    simp only [hB2] at h
    rw [h]
  refine (st_open S5.out nmLog).mono ?_
  rw [ho1]
  rintro e w6 ⟨lv2, o2, Y2, rfl, hS, -, ⟨mb, rfl, hM, hYm, hlow⟩, hR, -⟩
  have S6 := hid hS
  have HM6 := hid hM
  have HYM := hid hYm
  have hmb : W.heap.size ≤ mb := Nat.le_trans S5.out.size hlow
  obtain ⟨ao2, cap2, ho2⟩ := rows_slice hR
  subst ho2
  clear hS hM hYm hR hlow ho1 hB2
  have HS2 := hid hs2
  clear hs2 hs1
  unfold ptr
  go_wp2_with fail
  refine (st_append S6.out HM6.out HYM.out hmb (by simp; omega) (HC.out.bytes.keep S6.out.kept (fun i hi h => by omega))).mono ?_
  rw [oneF_walAppend nmLog_name (by unfold maxBody; omega) (by omega)]
  rintro e w7 ⟨rfl, hS, hL, -⟩
  have S7 := hid hS
  clear hS hL
  go_wp2_with fail
  obtain ⟨s3, ho3⟩ := oneF_open (R := 100000) (N := nmLog) (b := B2 ++ frame lc) (s := s1) nmLog_name
  rw [HS2.out] at ho3
  simp only at ho3
  refine (st_open S7.out nmLog).mono ?_
  rw [ho3]
  rintro e w8 ⟨lv3, o3, Y3, rfl, hS, -, ⟨nb, rfl, hN, hYn, hlow⟩, hR, -⟩
  have S8 := hid hS
  obtain ⟨ao3, cap3, hv3, hn3, hrow⟩ := hR.rows
  subst hv3
  obtain ⟨a3, rfl⟩ : ∃ a3, ao3 = some a3 := by
    cases ao3 with
    | none => have := hn3 rfl; simp at this
    | some a => exact ⟨a, rfl⟩
  obtain ⟨-, -, A0, C0, hc0, hb0⟩ := hrow a3 rfl 0 la (by simp)
  obtain ⟨-, -, A1, C1, hc1, hb1⟩ := hrow a3 rfl (wj.length + 1) lc (by simp)
  have kd := keep_drawn' w8 (w8.drawn + 1)
  have hst0 : (convert 33 9 (.slice A0 la.length C0)).run Tryd.prog w8.drew = .ok (.string ⟨la.toArray⟩) w8.drew := bytes_string (hb0.keep kd (fun _ _ h => h))
  have hst1 : (convert 33 9 (.slice A1 lc.length C1)).run Tryd.prog w8.drew = .ok (.string ⟨lc.toArray⟩) w8.drew := bytes_string (hb1.keep kd (fun _ _ h => h))
  have hst2 : (convert 33 9 (.slice ao0 la.length c0)).run Tryd.prog w8.drew = .ok (.string ⟨la.toArray⟩) w8.drew := bytes_string (HA.out.bytes.keep (S8.out.kept.trans kd (fun _ _ h => h.elim)) (fun i hi h => by omega))
  have hst3 : (convert 33 9 (.slice aoc lc.length cc)).run Tryd.prog w8.drew = .ok (.string ⟨lc.toArray⟩) w8.drew := bytes_string (HC.out.bytes.keep (S8.out.kept.trans kd (fun _ _ h => h.elim)) (fun i hi h => by omega))
  rw [Addr.add_zero'] at hc0
  have hc1' : w8.cell? ⟨a3.block, a3.off + (wj.length + 1), none⟩ = some (.slice A1 lc.length C1) := hc1
  have hlen3 : (la :: wj ++ [lc]).length = wj.length + 2 := by simp
  rw [hlen3]
  clear hS hN hYn hlow hR hn3 hrow hb0 hb1 kd ho3 hc1
  unfold ptr
  go_wp2_with fail
  refine wp_region_still_lit (by kernel_rfl) (by kernel_rfl) ?_
  have hx0 : (0 : Int) < ↑wj.length + 2 := by omega
  have hx1 : IntKind.i64.wrap ((wj.length : Int) + 2 - 1) = ↑wj.length + 1 := by rw [IntWalk.i64_in _ (by omega)]; omega
  have hx3 : (wj.length : Int) + 1 < ↑wj.length + 2 := by omega
  have hx4 : (0 : Int) ≤ ↑wj.length + 1 := by omega
  have hx5 : ((wj.length : Int) + 1).toNat = wj.length + 1 := by omega
  have hx6 : (0 : Int) ≤ 1 + ↑wj.length := by omega
  have hx7 : 1 + (wj.length : Int) < ↑wj.length + 2 := by omega
  have hx8 : (1 + (wj.length : Int)).toNat = wj.length + 1 := by omega
  repeat still_step
  refine wpStill_nil ?_
  go_wp2_with fail
  all_goals go_ret
  all_goals exact ⟨rfl, keep_new' (S8.out.kept.trans (keep_drawn' w8 (w8.drawn + 1)) (fun _ _ h => h.elim))⟩

theorem tail_any (v0 v1 v2 : Value) (W : World) (h0 : ∃ l, BytesArg W v0 l) (h1 : ∃ l, BytesArg W v1 l) (h2 : ∃ l, BytesArg W v2 l) :
    Calls Tryd.prog 13 #[v0, v1, v2] W fun e w' => e = .returned (.bool true) ∧ Below W.heap.size W w' := by
  obtain ⟨l0, h0⟩ := h0
  obtain ⟨l1, h1⟩ := h1
  obtain ⟨l2, h2⟩ := h2
  exact (tail_row W h0 h1 h2).mono fun _ _ hh => ⟨hh.1, hh.2.below (fun _ _ h => h.elim) (Nat.le_refl _)⟩

end Go.Proofs.YtbjjohfpdphpfaaDoor.Wal
