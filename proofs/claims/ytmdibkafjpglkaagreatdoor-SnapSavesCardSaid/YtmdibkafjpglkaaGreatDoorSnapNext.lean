/- frame.Next, walked. -/
import Derived.Test.YtmdibkafjpglkaaGreatDoorNumInt
import Derived.Test.YtmdibkafjpglkaaGreatDoorDiskRead
import Derived.OwnWalk
namespace Go.Proofs.YtmdibkafjpglkaaGreatDoor.Frm
open Go Go.RowKit Go.Lib Go.Proofs.YtmdibkafjpglkaaGreatDoor.Dsk

/-- The first frame's body, and what lies behind it; the error. -/
def nextF (l : List UInt8) : List UInt8 × List UInt8 × Int := if (firstE l).2 = 0 then (bodyOf l, l.drop (num l + 8), 0) else ([], [], (firstE l).2)
theorem clone_here (w : World) {ao : Option Addr} {n cap : Nat} {l : List UInt8} {G : Nat → Prop} (h : BytesIn w (.slice ao n cap) l G) (hl : l.length ≤ 4294967296) (hnil : ao = none → cap = 0) :
    Calls Tryz.prog 43 #[.slice ao n cap] w fun e w' => ∃ v', e = .returned v' ∧ FB w' v' l (fun i => w.heap.size ≤ i) ∧ Keep (fun _ => False) w w' := by
  obtain rfl := h.len
  exact clone_any w h hl hnil
section
variable {w : World} {ao : Option Addr} {cap : Nat} {l : List UInt8} {G : Nat → Prop}
set_option maxRecDepth 100000 in
set_option maxHeartbeats 4000000 in
theorem next_walk (h : BytesIn w (.slice ao l.length cap) l G) (hl : l.length ≤ 4294967296) :
    Calls Tryz.prog 21 #[.slice ao l.length cap] w fun x w' => ∃ v1 v2, x = .returned (.tuple #[v1, v2, .int .i64 (nextF l).2.2]) ∧ FB w' v1 (nextF l).1 (fun i => w.heap.size ≤ i) ∧ FB w' v2 (nextF l).2.1 (fun i => w.heap.size ≤ i) ∧ Keep (fun _ => False) w w' := by
  have H := hid h
  go_enter Tryz.func21, Tryz.ntmps21
  go_wp2_with fail
  refine (first_any w H.out).mono ?_
  rintro x w1 ⟨rfl, hK⟩
  have HK := hid hK
  clear hK
  by_cases he : (firstE l).2 = 0
  · obtain ⟨e1, e2, e3⟩ := firstE_ok he
    rw [e1, he]
    have HN := hid (show nextF l = (bodyOf l, l.drop (num l + 8), 0) by unfold nextF; rw [if_pos he])
    obtain ⟨a, rfl⟩ : ∃ a, ao = some a := by
      obtain ⟨ao', cap', e', z1, -, z3, z4⟩ := h.read
      injection e' with q1 _ q3
      subst q1
      cases ao with
      | none => have := z3 rfl; subst this; simp at e3
      | some a => exact ⟨a, rfl⟩
    have hcl : l.length ≤ cap := by
      obtain ⟨ao', cap', e', z1, -, z3, z4⟩ := h.read
      injection e' with q1 _ q3
      rw [q3]; exact z1
    obtain ⟨n, hn⟩ : ∃ n, num l = n := ⟨_, rfl⟩
    rw [hn] at e1 e2 e3 ⊢
    have HNN := hid hn
    clear h he e1 hn
    have hw : IntKind.i64.wrap ((n : Int) + 8 - 4) = (n : Int) + 4 := by rw [show (n : Int) + 8 - 4 = (n : Int) + 4 by omega]; exact IntWalk.i64_in _ (by unfold maxBody at e2; omega)
    have HB1 := hid (show BytesIn w (.slice (some ⟨a.block, a.off + 4, none⟩) n (cap - 4)) (bodyOf l) G by
      have h1 := H.out.first (n + 4) (by omega)
      have h2 := h1.later a rfl 4 (by rw [List.length_take]; omega)
      have h3 : (l.take (n + 4)).length - 4 = n := by rw [List.length_take]; omega
      rw [h3, List.drop_take, Nat.add_sub_cancel] at h2
      unfold bodyOf
      rw [HNN.out]
      exact h2)
    have HB2 := hid (Num.bytes_behind (n := n + 8) H.out (by omega))
    have hbl : (bodyOf l).length ≤ 4294967296 := by unfold bodyOf; rw [List.length_take, List.length_drop]; omega
    have hdl : (l.drop (n + 8)).length ≤ 4294967296 := by rw [List.length_drop]; omega
    have q1 : (0 : Int) ≤ (n : Int) + 4 := by omega
    have q2 : (n : Int) + 4 ≤ (cap : Int) := by omega
    have q3 : (4 : Int) ≤ max ((n : Int) + 4) 0 := by omega
    have q3' : (4 : Int) ≤ (n : Int) + 4 := by omega
    have q4 : ((n : Int) + 4).toNat = n + 4 := by omega
    have q5 : ¬ cap = 4 := by omega
    have q6 : (0 : Int) ≤ (n : Int) + 8 := by omega
    have q7 : (n : Int) + 8 ≤ (l.length : Int) := by omega
    have q8 : ((n : Int) + 8).toNat = n + 8 := by omega
    have q9 : max ((n : Int) + 8) 0 = (n : Int) + 8 := by omega
    go_wp2_with fail
    refine wp_region_heldi [0, 1, 2, 3, 5, 6, 7] 100 5 (fun _ => True) (by kernel_rfl) (by kernel_rfl) (by kernel_rfl) trivial (fun d _ _ _ _ h => by cases d <;> exact h) ?_
    iterate 3 (refine heldI_step rfl rfl (fun w' _ => by (go_simp; with_reducible rfl)) ?_; simp only [Act.put, List.setIfInBounds_toArray, List.set_cons_zero, List.set_cons_succ])
    iterate 3 (refine heldI_step rfl rfl (fun w' _ => by (go_simp; with_reducible rfl)) ?_; simp only [Act.put, List.setIfInBounds_toArray, List.set_cons_zero, List.set_cons_succ])
    by_cases hce : cap = n + 8
    · have HB1 := hid (show BytesIn w (.slice (some ⟨a.block, a.off + 4, none⟩) n (n + 4)) (bodyOf l) G from by have h := HB1.out; rwa [show cap - 4 = n + 4 by omega] at h)
      refine heldI_step rfl rfl (fun w' _ => by (go_simp; with_reducible rfl)) ?_
      simp only [Act.put, List.setIfInBounds_toArray, List.set_cons_zero, List.set_cons_succ]
      refine heldI_nil ?_
      refine anyZ_next' (j := 4) (by kernel_rfl) rfl rfl ?_
      go_simp
      have kd := hid (keep_drawn' w1 (w1.drawn + 1))
      refine (clone_here _ (HB1.out.keep (HK.out.trans kd.out (fun _ _ h => h)) (fun _ _ h => h)) hbl (fun e => by cases e)).mono ?_
      rintro x w2 ⟨v1, rfl, hF1, hK2⟩
      have HK2 := hid ((HK.out.trans kd.out (fun _ _ h => h)).trans hK2 (fun _ _ h => h))
      have hs1 : w1.heap.size ≤ w2.heap.size := hK2.size
      have HF1 := hid (hF1.mono (G := fun i => w1.heap.size ≤ i) (fun i h => h))
      clear hF1 hK2 kd
      refine anyZ_next' (j := 8) (by kernel_rfl) rfl rfl ?_
      go_simp
      have hB2 := HB2.out.keep HK2.out (fun _ _ h => h)
      unfold Num.behind at hB2
      rw [if_pos (by omega), List.length_drop, show cap - (n + 8) = 0 by omega] at hB2
      refine (clone_here _ hB2 hdl (fun e => by cases e)).mono ?_
      rintro x w3 ⟨v2, rfl, hF2, hK3⟩
      have HK3 := hid (HK2.out.trans hK3 (fun _ _ h => h))
      have HF2 := hid hF2
      have HF1' := hid (HF1.out.keep hK3 (fun _ _ h => h))
      clear hF2 hK3 hB2
      refine heldI_run (t := 0) (by kernel_rfl) (fun d _ _ _ _ h => by cases d <;> exact h) w3 trivial [9, 10, 11] _ _ (by kernel_rfl) ?_
      iterate 3 (refine heldI_step rfl rfl (fun w' _ => by (go_simp; with_reducible rfl)) ?_; simp only [Act.put, List.setIfInBounds_toArray, List.set_cons_zero, List.set_cons_succ])
      refine heldI_nil ?_
      refine anyZ_done (by kernel_rfl) ?_
      have hsw := HK.out.size
      go_wp2_with fail
      refine bodyPost_ret (v := _) (results_tmp3 rfl _ _ _) rfl ?_
      exact ⟨v1, v2, by rw [HN.out]; rfl, by rw [HN.out]; exact HF1'.out.mono (fun i h => by omega), by rw [HN.out, HNN.out]; exact HF2.out.mono (fun i h => by omega), HK3.out⟩
    · have q10 : ¬ cap - (n + 8) = 0 := by omega
      refine heldI_step rfl rfl (fun w' _ => by (go_simp; with_reducible rfl)) ?_
      simp only [Act.put, List.setIfInBounds_toArray, List.set_cons_zero, List.set_cons_succ]
      refine heldI_nil ?_
      refine anyZ_next' (j := 4) (by kernel_rfl) rfl rfl ?_
      go_simp
      have kd := hid (keep_drawn' w1 (w1.drawn + 1))
      refine (clone_here _ (HB1.out.keep (HK.out.trans kd.out (fun _ _ h => h)) (fun _ _ h => h)) hbl (fun e => by cases e)).mono ?_
      rintro x w2 ⟨v1, rfl, hF1, hK2⟩
      have HK2 := hid ((HK.out.trans kd.out (fun _ _ h => h)).trans hK2 (fun _ _ h => h))
      have hs1 : w1.heap.size ≤ w2.heap.size := hK2.size
      have HF1 := hid (hF1.mono (G := fun i => w1.heap.size ≤ i) (fun i h => h))
      clear hF1 hK2 kd
      refine anyZ_next' (j := 8) (by kernel_rfl) rfl rfl ?_
      go_simp
      have hB2 := HB2.out.keep HK2.out (fun _ _ h => h)
      unfold Num.behind at hB2
      rw [if_neg q10, List.length_drop] at hB2
      refine (clone_here _ hB2 hdl (fun e => by cases e)).mono ?_
      rintro x w3 ⟨v2, rfl, hF2, hK3⟩
      have HK3 := hid (HK2.out.trans hK3 (fun _ _ h => h))
      have HF2 := hid hF2
      have HF1' := hid (HF1.out.keep hK3 (fun _ _ h => h))
      clear hF2 hK3 hB2
      refine heldI_run (t := 0) (by kernel_rfl) (fun d _ _ _ _ h => by cases d <;> exact h) w3 trivial [9, 10, 11] _ _ (by kernel_rfl) ?_
      iterate 3 (refine heldI_step rfl rfl (fun w' _ => by (go_simp; with_reducible rfl)) ?_; simp only [Act.put, List.setIfInBounds_toArray, List.set_cons_zero, List.set_cons_succ])
      refine heldI_nil ?_
      refine anyZ_done (by kernel_rfl) ?_
      have hsw := HK.out.size
      go_wp2_with fail
      refine bodyPost_ret (v := _) (results_tmp3 rfl _ _ _) rfl ?_
      exact ⟨v1, v2, by rw [HN.out]; rfl, by rw [HN.out]; exact HF1'.out.mono (fun i h => by omega), by rw [HN.out, HNN.out]; exact HF2.out.mono (fun i h => by omega), HK3.out⟩
  · have HN := hid (show nextF l = ([], [], (firstE l).2) by unfold nextF; rw [if_neg he])
    have hen : ((firstE l).2 != 0) = true := by rw [bne_iff_ne]; exact he
    obtain ⟨c, hc⟩ : ∃ c, (firstE l).2 = c := ⟨_, rfl⟩
    have HC := hid hc
    rw [hc] at he hen ⊢
    clear hc
    go_wp2_with fail
    refine bodyPost_ret (v := _) (results_tmp3 rfl _ _ _) rfl ?_
    exact ⟨_, _, by rw [HN.out, HC.out]; rfl, by rw [HN.out]; exact FB.nil _ _, by rw [HN.out]; exact FB.nil _ _, HK.out⟩
end
end Go.Proofs.YtmdibkafjpglkaaGreatDoor.Frm
