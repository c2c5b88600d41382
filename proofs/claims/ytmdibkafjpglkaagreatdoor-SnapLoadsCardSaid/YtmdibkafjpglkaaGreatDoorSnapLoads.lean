/- osierlaw20.SnapLoads, but for its awake: walked. osierlaw20.SnapLoads, walked. -/
import Derived.Test.YtmdibkafjpglkaaGreatDoorSnapNil
import Derived.Test.YtmdibkafjpglkaaGreatDoorRefNum
import Derived.Test.YtmdibkafjpglkaaGreatDoorRefNext
import Derived.Test.YtmdibkafjpglkaaGreatDoorAwake20
import Derived.Test.YtmdibkafjpglkaaGreatDoorOpenArgs
namespace Go.Proofs.YtmdibkafjpglkaaGreatDoor.Snp
open Go Go.RowKit Go.Lib Go.Proofs.YtmdibkafjpglkaaGreatDoor.Dsk Go.Proofs.YtmdibkafjpglkaaGreatDoor.Wal Go.Proofs.YtmdibkafjpglkaaGreatDoor.Num Go.Proofs.YtmdibkafjpglkaaGreatDoor.Frm

theorem lt_of_cell' {w : World} {p : Addr} {v : Value} (h : w.cell? p = some v) : p.block < w.heap.size := by
  by_cases hlt : p.block < w.heap.size
  · exact hlt
  · unfold World.cell? at h
    rw [Array.getElem?_eq_none (by omega)] at h
    cases h
theorem load_new : loadF (Dsk.new 10000) nmS = (0, [], 70) := rfl
theorem read_put {b : List UInt8} (hb : b.length ≤ 2000) : Dsk.read (Dsk.append (Dsk.new 10000) nmS b).1 nmS = (b, 0) := by
  have he : appendE (Dsk.new 10000) nmS b = 0 := by
    unfold appendE
    rw [nmS_name, if_pos rfl]
    refine if_neg ?_
    rintro (h | ⟨-, h⟩)
    · have h1 : (Dsk.new 10000).room = 10000 := rfl
      have h2 : total (Dsk.new 10000).files = 0 := rfl
      omega
    · have h1 : (Dsk.new 10000).files.length = 0 := rfl
      omega
  have hf : (Dsk.append (Dsk.new 10000) nmS b).1 = ⟨10000, [(nmS, ⟨b, 0⟩)], false, none⟩ := by
    unfold Dsk.append
    rw [if_neg (by simp [Dsk.new]), he]
    unfold operate
    simp only [Dsk.new, if_true]
    unfold appendP
    rw [List.take_of_length_le (by unfold whole; omega)]
    rfl
  rw [hf]
  unfold Dsk.read
  rw [if_neg (by simp), if_pos (by simp [mhas, mget_cons])]
  simp [fileOf, mget_cons]

set_option maxRecDepth 100000 in
set_option maxHeartbeats 8000000 in
theorem loads_row (W : World) {v0 : Value} {b : List UInt8} (hB : BytesIn W v0 b (fun i => i < W.heap.size)) (haw : ∀ w, Calls Tryz.prog 6 #[] w fun e w' => e = .returned (.bool true) ∧ Keep (fun _ => False) w w') :
    Calls Tryz.prog 3 #[v0] W fun e w' => e = .returned (.bool true) ∧ Keep (fun _ => False) W w' := by
  obtain ⟨ao, cap, hv, -⟩ := hB.read
  subst hv
  have HB := hid hB
  clear hB
  go_enter Tryz.func3, Tryz.ntmps3
  go_wp2_with fail
  refine (haw W).mono ?_
  rintro e w0 ⟨rfl, hK⟩
  have HK0 := hid hK
  clear hK
  by_cases h2 : 2000 < (b.length : Int)
  · go_wp2_with fail
    all_goals go_ret
    all_goals exact ⟨rfl, HK0.out⟩
  go_wp2_with fail
  refine (st_new W HK0.out 10000 (by omega)).mono ?_
  rintro e w1 ⟨db, rfl, hS⟩
  have S1 := hid hS
  clear hS
  unfold ptr
  go_wp2_with fail
  refine (load_any S1.out nmS (by decide)).mono ?_
  rw [load_new]
  rintro e w2 ⟨v1, rfl, hB1, hK2⟩
  obtain ⟨a1, c1, hv1, -⟩ := hB1.read
  subst hv1
  have S2 := hid (S1.out.keep hK2)
  clear hB1 hK2
  go_wp2_with fail
  refine (st_dappend S2.out nmS (HB.out.keep S2.out.kept (fun i h hn => by omega)) (fun i h => .inl h)).mono ?_
  rintro e w3 ⟨rfl, hS, -⟩
  have hrd := read_put (b := b) (by omega)
  obtain ⟨D, hD⟩ : ∃ D, (Dsk.append (Dsk.new 10000) nmS b).1 = D := ⟨_, rfl⟩
  rw [hD] at hS hrd
  have S3 := hid hS
  have HRD := hid hrd
  clear hS hrd hD
  go_wp2_with fail
  refine (load_any S3.out nmS (by rw [HRD.out]; simp only; omega)).mono ?_
  rw [show loadF D nmS = fileF b by unfold loadF; rw [HRD.out, if_pos rfl]]
  rintro e w4 ⟨v2, rfl, hB2, hK4⟩
  have S4 := hid (S3.out.keep hK4)
  have HB4 := hid (HB.out.keep S4.out.kept (fun i h hn => by omega))
  obtain ⟨a2, c2, hv2, -⟩ := hB2.read
  subst hv2
  have HX := hid hB2
  clear hB2 hK4
  go_wp2_with fail
  refine (next_any w4 HB4.out).mono ?_
  rintro e w5 ⟨rfl, hK5⟩
  have S5 := hid (S4.out.keep hK5)
  have HK5 := hid hK5
  have HX5 := hid (HX.out.keep hK5 (fun _ _ h => h))
  clear hK5
  by_cases hf : (firstE b).2 = 0
  · obtain ⟨q1, q2, q3⟩ := firstE_ok hf
    obtain ⟨a, rfl⟩ : ∃ a, ao = some a := by
      obtain ⟨ao', cap', e', z1, -, z3, z4⟩ := HB.out.read
      injection e' with u1 _ u3
      subst u1
      cases ao with
      | none => have := z3 rfl; subst this; simp at q3
      | some a => exact ⟨a, rfl⟩
    have HN := hid (show nextV (some a) cap b = .slice (some (a.add 4)) (num b) (cap - 4) by unfold nextV; rw [if_pos hf]; rfl)
    have hbl : (bodyOf b).length = num b := by unfold bodyOf; rw [List.length_take, List.length_drop]; omega
    have HBO := hid (show BytesIn w5 (.slice (some (a.add 4)) (bodyOf b).length (cap - 4)) (bodyOf b) (fun i => i < W.heap.size) by
      have h0 := HB.out.keep S5.out.kept (fun i h hn => by omega)
      have h1 := h0.first (num b + 4) (by omega)
      have h2 := h1.later a rfl 4 (by rw [List.length_take]; omega)
      have h3 : (b.take (num b + 4)).length - 4 = num b := by rw [List.length_take]; omega
      rw [h3, List.drop_take, Nat.add_sub_cancel] at h2
      rw [hbl]
      exact h2)
    have HFB := hid (show fileF b = bodyF (bodyOf b) (b.drop (num b + 8)) by unfold fileF nextF; rw [if_pos hf]; exact if_pos rfl)
    rw [HN.out, q1, hf]
    obtain ⟨body, hbody⟩ : ∃ x, bodyOf b = x := ⟨_, rfl⟩
    obtain ⟨n, hn⟩ : ∃ n, num b = n := ⟨_, rfl⟩
    rw [hbody, hn] at HFB hbl
    rw [hbody] at HBO
    rw [hn] at q2 q3 ⊢
    subst hbl
    clear hbody hn q1 HN hf
    have HK := hid S5.out.done
    have hsw := S5.out.size
    have hbm : body.length < 9223372036854775808 := by unfold maxBody at q2; omega
    go_wp2_with fail
    have hRR : RefRAt (w5.alloc (.cells #[.slice (some (a.add 4)) body.length (cap - 4), .int .i64 0] 34)) w5.heap.size (some (a.add 4)) (cap - 4) body 0 (fun i => i < W.heap.size) := ⟨heap_alloc_new w5 _, HBO.out.keep ((Keep.refl (fun _ => False) w5).alloc _) (fun _ _ h => h), fun h => by omega⟩
    refine (rint_any hRR hbm).mono ?_
    rintro e w7 ⟨rfl, ⟨A7, C7, hR7⟩, hK7⟩
    have HK7 := hid ((HK.out.alloc (.cells #[.slice (some (a.add 4)) body.length (cap - 4), .int .i64 0] 34)).trans hK7 (fun i hi (h : i = w5.heap.size) => by omega))
    have HKx := hid (((Keep.refl (fun i => i = w5.heap.size) w5).alloc (.cells #[.slice (some (a.add 4)) body.length (cap - 4), .int .i64 0] 34)).trans hK7 (fun i _ h => h))
    obtain ⟨e1, he1⟩ : ∃ e1, (takeU body).1 = e1 := ⟨_, rfl⟩
    obtain ⟨z, hz⟩ : ∃ z, zag (takeU body).2.1 = z := ⟨_, rfl⟩
    obtain ⟨left, hleft⟩ : ∃ x, (takeU body).2.2 = x := ⟨_, rfl⟩
    have hld := left_drop body
    rw [he1, hleft] at hR7 hld
    rw [hz]
    have HR7 := hid hR7
    have HE := hid he1
    have HZ := hid hz
    have HLF := hid hleft
    have HLD := hid hld
    have c0 : w7.cell? ⟨w5.heap.size, 0, none⟩ = some (.slice A7 left.length C7) := by rw [cell_at hR7.blk]; rfl
    have c1 : w7.cell? ⟨w5.heap.size, 1, none⟩ = some (.int .i64 e1) := by rw [cell_at hR7.blk]; rfl
    clear hR7 hK7 he1 hz hleft hld hRR
    by_cases hrs : body.length + 8 < b.length
    · have hsi : (body.length : Int) + 8 < (b.length : Int) := by omega
      have HFF := hid (show fileF b = (0, [], 11) by rw [HFB.out]; unfold bodyF; rw [if_neg (by rw [List.length_drop]; omega)])
      rw [HFF.out]
      go_wp2_with fail
      refine (load_nil _ nmS).mono ?_
      rintro e w8 ⟨rfl, hK8⟩
      have HK8 := hid (HK7.out.trans hK8 (fun _ _ h => h))
      clear hK8
      go_wp2_with (go_quiet (fail))
      all_goals go_ret
      all_goals exact ⟨rfl, HK8.out.drewN _⟩
    · have hsi : ¬ (body.length : Int) + 8 < (b.length : Int) := by omega
      have hr0 : (b.drop (body.length + 8)).length = 0 := by rw [List.length_drop]; omega
      have HR0 := hid hr0
      clear hr0
      by_cases he1 : e1 = 0
      · subst he1
        by_cases hz0 : z < 0
        · have HFF := hid (show fileF b = (0, [], 11) by rw [HFB.out]; unfold bodyF; rw [if_pos HR0.out, HE.out, if_pos rfl, HZ.out, if_pos hz0])
          rw [HFF.out]
          go_wp2_with fail
          refine (load_nil _ nmS).mono ?_
          rintro e w8 ⟨rfl, hK8⟩
          have HK8 := hid (HK7.out.trans hK8 (fun _ _ h => h))
          clear hK8
          go_wp2_with (go_quiet (fail))
          all_goals go_ret
          all_goals exact ⟨rfl, HK8.out.drewN _⟩
        · have HFF := hid (show fileF b = (z, left, 0) by rw [HFB.out]; unfold bodyF; rw [if_pos HR0.out, HE.out, if_pos rfl, HZ.out, if_neg hz0, HLF.out, HLD.out rfl])
          have HX6 := hid (show BytesIn w5 (.slice a2 left.length c2) left _ from by have h := HX5.out; rw [HFF.out] at h; exact h)
          rw [HFF.out]
          go_wp2_with fail
          refine (load_nil _ nmS).mono ?_
          rintro e w8 ⟨rfl, hK8⟩
          have HK8 := hid (HK7.out.trans hK8 (fun _ _ h => h))
          have g0 : w8.cell? ⟨w5.heap.size, 0, none⟩ = some (.slice A7 left.length C7) := by rw [hK8.cell (lt_of_cell' c0) (fun h => h)]; exact c0
          have HL8 := hid (bytes_wide (HR7.out.bytes.keep hK8 (fun _ _ h => h)) (G' := fun _ => True) (fun _ _ _ => trivial))
          have HXX := hid (bytes_wide ((bytes_more' HX6.out).keep (HKx.out.trans hK8 (fun _ _ h => h.elim)) (fun i h (e : i = w5.heap.size) => by have h3 := h.2; omega)) (G' := fun _ => True) (fun _ _ _ => trivial))
          clear hK8 c0 c1
          go_wp2_with fail
          refine wp_region_heldi [0, 1, 2, 3, 4, 5, 6, 7, 8, 9, 10, 11, 12, 13, 14, 15, 16, 17, 18, 19, 20, 21, 22, 23, 24, 25, 26, 27, 28, 29, 30] 100 0 (fun w' => w'.cell? ⟨w5.heap.size, 0, none⟩ = some (.slice A7 left.length C7) ∧ BytesIn w' (.slice a2 left.length c2) left (fun _ => True) ∧ BytesIn w' (.slice A7 left.length C7) left (fun _ => True)) (by kernel_rfl) (by kernel_rfl) (by kernel_rfl) ⟨g0, HXX.out.keep (Keep.refl (fun _ => False) w8).drew (fun _ _ h => h), HL8.out.keep (Keep.refl (fun _ => False) w8).drew (fun _ _ h => h)⟩ (fun d _ _ _ _ h => by cases d <;> exact h) ?_
          iterate 31 (first | (refine heldI_step rfl rfl (fun w' hS => by (obtain ⟨s0, B1, B2⟩ := hS; have hx := bytes_string B1; have hy := bytes_string B2; go_simp; with_reducible rfl)) ?_; simp only [Act.put, List.setIfInBounds_toArray, List.set_cons_zero, List.set_cons_succ]) | (refine heldI_want rfl rfl (fun w' hS => by (obtain ⟨s0, B1, B2⟩ := hS; have hx := bytes_string B1; have hy := bytes_string B2; go_simp; with_reducible rfl)) ?_; simp only [Act.put, List.setIfInBounds_toArray, List.set_cons_zero, List.set_cons_succ]) | (refine heldI_skip rfl rfl ?_; simp only [Act.put, List.setIfInBounds_toArray, List.set_cons_zero, List.set_cons_succ]))
          refine heldI_nil ?_
          refine anyZ_done (by kernel_rfl) ?_
          go_wp2_with fail
          all_goals go_ret
          all_goals exact ⟨rfl, HK8.out.drew⟩
      · have hen : (e1 != 0) = true := by rw [bne_iff_ne]; exact he1
        have heq : (e1 == 0) = false := by rw [beq_eq_false_iff_ne]; exact he1
        have HFF := hid (show fileF b = (0, [], e1) by rw [HFB.out]; unfold bodyF; rw [if_pos HR0.out, HE.out, if_neg he1])
        rw [HFF.out]
        go_wp2_with fail
        refine (load_nil _ nmS).mono ?_
        rintro e w8 ⟨rfl, hK8⟩
        have HK8 := hid (HK7.out.trans hK8 (fun _ _ h => h))
        clear hK8
        go_wp2_with (go_quiet (fail))
        all_goals go_ret
        all_goals exact ⟨rfl, HK8.out.drewN _⟩
  · have HN := hid (show nextV ao cap b = .slice none 0 0 by unfold nextV; rw [if_neg hf])
    have HFF := hid (show fileF b = (0, [], (firstE b).2) by unfold fileF nextF; rw [if_neg hf]; exact if_neg hf)
    rw [HN.out]
    have HX6 := hid (show BytesIn w5 (.slice a2 ([] : List UInt8).length c2) [] _ from by have h := HX5.out; rw [HFF.out] at h; exact h)
    rw [HFF.out]
    obtain ⟨c, hc⟩ : ∃ c, (firstE b).2 = c := ⟨_, rfl⟩
    obtain ⟨g, hg⟩ : ∃ g, (firstE b).1 = g := ⟨_, rfl⟩
    rw [hc] at hf ⊢
    rw [hg]
    have hcn : (c != 0) = true := by rw [bne_iff_ne]; exact hf
    have hce : (c == 0) = false := by rw [beq_eq_false_iff_ne]; exact hf
    have HK := hid S5.out.done
    clear hc hg
    go_wp2_with fail
    refine (load_nil _ nmS).mono ?_
    rintro e w6 ⟨rfl, hK6⟩
    have HK6 := hid hK6
    clear hK6
    go_wp2_with (go_quiet (fail))
    all_goals go_ret
    all_goals exact ⟨rfl, ((HK.out.alloc _).trans HK6.out (fun _ _ h => h)).drewN _⟩
end Go.Proofs.YtmdibkafjpglkaaGreatDoor.Snp

namespace Go.Proofs.YtmdibkafjpglkaaGreatDoor.Snp
open Go Go.RowKit Go.Lib Go.Proofs.YtmdibkafjpglkaaGreatDoor.Dsk

theorem loads_all (v0 : Value) (W : World) (h0 : ∃ A C l, v0 = .slice A (l : List UInt8).length C ∧ BytesIn W v0 l (fun i => i < W.heap.size)) :
    Calls Tryz.prog 3 #[v0] W fun e w' => e = .returned (.bool true) ∧ Below W.heap.size W w' := by
  obtain ⟨A, C, l, rfl, hB⟩ := h0
  exact (loads_row W hB awake20).mono fun e w' h => ⟨h.1, h.2.below (fun _ _ h => h.elim) (Nat.le_refl _)⟩
end Go.Proofs.YtmdibkafjpglkaaGreatDoor.Snp
