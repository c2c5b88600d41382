/- The law's `is`: a disk tells what the reference's tells; walked. -/
import Derived.Test.YtlabpmmcmejpmaaDoorPlaysRel
namespace Go.Proofs.YtlabpmmcmejpmaaDoor.Ref
open Go Go.RowKit Go.Lib Go.Proofs.YtlabpmmcmejpmaaDoor.Dsk Go.Proofs.YtlabpmmcmejpmaaDoor.Wal

theorem names_eq {l : List ByteArray} {L M : Files} (hp : l.Perm (M.map (·.1))) (hr : Rising l) (hL : L.Perm M) (hs : Sorted L) : l = L.map (·.1) := by
  have h2 : (L.map (·.1)).Pairwise (fun a b : ByteArray => a.data.toList ≤ b.data.toList) := by
    rw [List.pairwise_map]
    refine List.Pairwise.imp (fun {p q} h => ?_) hs
    rw [← toList_data, ← toList_data]
    exact List.le_of_lt h
  have h1 : l.Pairwise (fun a b : ByteArray => a.data.toList ≤ b.data.toList) := hr
  exact List.Perm.eq_of_pairwise (fun a b _ _ k1 k2 => ByteArray.ext (Array.toList_inj.mp (List.le_antisymm k1 k2))) h1 h2 (hp.trans (hL.map (·.1)).symm)
section
variable {W w : World} {db : Nat} {D : DiskM} {X : Nat → Prop} {L : Files} {v : Value} {G : Nat → Prop}
set_option maxRecDepth 100000 in
set_option maxHeartbeats 8000000 in
theorem is_any (S : St W w db D X) (ht : Tidy D.files) (R : RefD) (hR : Rel D R L) (hF : FilesAt w v L G) :
    Calls Tryd.prog 9 #[ptr db, R.val v] w fun e w' => e = .returned (.bool true) ∧ Keep (fun _ => False) w w' := by
  have hOk := S.ok
  have hFok := hR.ok hOk ht
  obtain ⟨ao, cap, hv⟩ := hF.slice
  subst hv
  obtain ⟨size, down, due, ops, part, keep⟩ := R
  have hz := hR.size
  have hd := hR.down
  simp only at hz hd
  subst hz hd
  have H := hid hF
  have HS := hid S
  have HR := hid hR
  have HP := hid (hR.perm hOk)
  have hT := hR.total hOk
  have hroom := hOk.room
  have hsmall := hOk.small
  have hL100 := hFok.1
  have HFOK := hid hFok
  clear hF S hR hOk hFok
  unfold RefD.val RefD.cells ptr
  go_enter Tryd.func9, Tryd.ntmps9
  go_wp2_with fail
  obtain ⟨wb, hwb⟩ : ∃ wb, w.alloc (.cells #[.slice ao L.length cap, .int .i64 (D.room : Int), .bool D.off, .bool due, .int .i64 ops, .int .i64 part, .int .i64 keep] 28) = wb := ⟨_, rfl⟩
  have HKB := hid (show Keep (fun _ => False) w wb from hwb ▸ (Keep.refl _ w).alloc _)
  have HB0 := hid (show wb.heap[w.heap.size]? = some (.cells #[.slice ao L.length cap, .int .i64 (D.room : Int), .bool D.off, .bool due, .int .i64 ops, .int .i64 part, .int .i64 keep] 28 (0, 0)) from hwb ▸ heap_alloc_new w _)
  rw [hwb]
  clear hwb
  refine (st_names (HS.out.keep HKB.out) ht).mono ?_
  rintro e w1 ⟨vl, l, rfl, hlp, hlr, hln, hK1⟩
  obtain rfl : l = L.map (·.1) := names_eq hlp hlr HP.out HR.out.sorted
  obtain ⟨aol, capl, hvl, hnl, hcl⟩ := hln
  rw [List.length_map] at hvl
  subst hvl
  have HCL := hid hcl
  have HNL := hid hnl
  have HK1 := hid (HKB.out.trans hK1 (fun _ _ h => h))
  have HB1 := hid (hK1.at HB0.out (fun h => h))
  clear hlp hlr hcl hnl hK1
  go_wp2_with fail
  have a0 : w1.cell? ⟨w.heap.size, 0, none⟩ = some (.slice ao L.length cap) := by rw [cell_at HB1.out]; rfl
  have a1 : w1.cell? ⟨w.heap.size, 1, none⟩ = some (.int .i64 (D.room : Int)) := by rw [cell_at HB1.out]; rfl
  have a2 : w1.cell? ⟨w.heap.size, 2, none⟩ = some (.bool D.off) := by rw [cell_at HB1.out]; rfl
  have a3 : w1.cell? ⟨w.heap.size, 3, none⟩ = some (.bool due) := by rw [cell_at HB1.out]; rfl
  have a4 : w1.cell? ⟨w.heap.size, 4, none⟩ = some (.int .i64 ops) := by rw [cell_at HB1.out]; rfl
  have a5 : w1.cell? ⟨w.heap.size, 5, none⟩ = some (.int .i64 part) := by rw [cell_at HB1.out]; rfl
  have a6 : w1.cell? ⟨w.heap.size, 6, none⟩ = some (.int .i64 keep) := by rw [cell_at HB1.out]; rfl
  refine wp_region_heldi [0, 1, 2, 3, 4, 5, 6, 7, 9] 100 11 (fun w' => w'.cell? ⟨w.heap.size, 0, none⟩ = some (.slice ao L.length cap) ∧ w'.cell? ⟨w.heap.size, 1, none⟩ = some (.int .i64 (D.room : Int)) ∧ w'.cell? ⟨w.heap.size, 2, none⟩ = some (.bool D.off) ∧ w'.cell? ⟨w.heap.size, 3, none⟩ = some (.bool due) ∧ w'.cell? ⟨w.heap.size, 4, none⟩ = some (.int .i64 ops) ∧ w'.cell? ⟨w.heap.size, 5, none⟩ = some (.int .i64 part) ∧ w'.cell? ⟨w.heap.size, 6, none⟩ = some (.int .i64 keep)) (by kernel_rfl) (by kernel_rfl) (by kernel_rfl) ⟨a0, a1, a2, a3, a4, a5, a6⟩ (fun d _ _ _ _ h => by cases d <;> exact h) ?_
  iterate 9 (first | (refine heldI_step rfl rfl (fun w' hS => by (obtain ⟨s0, s1, s2, s3, s4, s5, s6⟩ := hS; go_simp; with_reducible rfl)) ?_; simp only [Act.put, List.setIfInBounds_toArray, List.set_cons_zero, List.set_cons_succ]) | (refine heldI_want rfl rfl (fun w' hS => by (obtain ⟨s0, s1, s2, s3, s4, s5, s6⟩ := hS; go_simp; with_reducible rfl)) ?_; simp only [Act.put, List.setIfInBounds_toArray, List.set_cons_zero, List.set_cons_succ]) | (refine heldI_skip rfl rfl ?_; simp only [Act.put, List.setIfInBounds_toArray, List.set_cons_zero, List.set_cons_succ]))
  refine heldI_nil ?_
  refine anyZ_next' (j := 8) (by kernel_rfl) rfl rfl ?_
  go_simp
  have kd := keep_drawn' w1 (w1.drawn + 1)
  have HKd := hid (HK1.out.trans kd (fun _ _ h => h))
  refine (st_room (HS.out.keep HKd.out)).mono ?_
  rintro e w2 ⟨rfl, hK2⟩
  have HK2 := hid (HKd.out.trans hK2 (fun _ _ h => h))
  have HK12 := hid (kd.trans hK2 (fun _ _ h => h))
  have HB2 := hid (HK12.out.at HB1.out (fun h => h))
  clear kd hK2 a0 a1 a2 a3 a4 a5 a6
  have b0 : w2.cell? ⟨w.heap.size, 0, none⟩ = some (.slice ao L.length cap) := by rw [cell_at HB2.out]; rfl
  have b1 : w2.cell? ⟨w.heap.size, 1, none⟩ = some (.int .i64 (D.room : Int)) := by rw [cell_at HB2.out]; rfl
  have b2 : w2.cell? ⟨w.heap.size, 2, none⟩ = some (.bool D.off) := by rw [cell_at HB2.out]; rfl
  have b3 : w2.cell? ⟨w.heap.size, 3, none⟩ = some (.bool due) := by rw [cell_at HB2.out]; rfl
  have b4 : w2.cell? ⟨w.heap.size, 4, none⟩ = some (.int .i64 ops) := by rw [cell_at HB2.out]; rfl
  have b5 : w2.cell? ⟨w.heap.size, 5, none⟩ = some (.int .i64 part) := by rw [cell_at HB2.out]; rfl
  have b6 : w2.cell? ⟨w.heap.size, 6, none⟩ = some (.int .i64 keep) := by rw [cell_at HB2.out]; rfl
  refine ⟨⟨b0, b1, b2, b3, b4, b5, b6⟩, ?_⟩
  refine anyZ_next' (j := 10) (by kernel_rfl) rfl rfl ?_
  go_simp
  refine (rroom_any w2 ⟨(D.room : Int), D.off, due, ops, part, keep⟩ (H.out.keep HK2.out (fun _ _ h => h)) hL100 ⟨by simp, by simp only; omega⟩ (by omega)).mono ?_
  rintro e w3 ⟨rfl, hK3⟩
  have HK3 := hid (HK2.out.trans hK3 (fun _ _ h => h))
  have HK13 := hid (HK12.out.trans hK3 (fun _ _ h => h))
  have HB3 := hid (hK3.at HB2.out (fun h => h))
  clear hK3 b0 b1 b2 b3 b4 b5 b6
  have c0 : w3.cell? ⟨w.heap.size, 0, none⟩ = some (.slice ao L.length cap) := by rw [cell_at HB3.out]; rfl
  have c1 : w3.cell? ⟨w.heap.size, 1, none⟩ = some (.int .i64 (D.room : Int)) := by rw [cell_at HB3.out]; rfl
  have c2 : w3.cell? ⟨w.heap.size, 2, none⟩ = some (.bool D.off) := by rw [cell_at HB3.out]; rfl
  have c3 : w3.cell? ⟨w.heap.size, 3, none⟩ = some (.bool due) := by rw [cell_at HB3.out]; rfl
  have c4 : w3.cell? ⟨w.heap.size, 4, none⟩ = some (.int .i64 ops) := by rw [cell_at HB3.out]; rfl
  have c5 : w3.cell? ⟨w.heap.size, 5, none⟩ = some (.int .i64 part) := by rw [cell_at HB3.out]; rfl
  have c6 : w3.cell? ⟨w.heap.size, 6, none⟩ = some (.int .i64 keep) := by rw [cell_at HB3.out]; rfl
  refine ⟨⟨c0, c1, c2, c3, c4, c5, c6⟩, ?_⟩
  rw [hT]
  refine heldI_run (t := 3) (by kernel_rfl) (fun d _ _ _ _ h => by cases d <;> exact h) w3 ⟨c0, c1, c2, c3, c4, c5, c6⟩ [11, 12, 13, 14, 16, 17] _ _ (by kernel_rfl) ?_
  iterate 6 (first | (refine heldI_step rfl rfl (fun w' hS => by (obtain ⟨s0, s1, s2, s3, s4, s5, s6⟩ := hS; go_simp; with_reducible rfl)) ?_; simp only [Act.put, List.setIfInBounds_toArray, List.set_cons_zero, List.set_cons_succ]) | (refine heldI_want rfl rfl (fun w' hS => by (obtain ⟨s0, s1, s2, s3, s4, s5, s6⟩ := hS; go_simp; with_reducible rfl)) ?_; simp only [Act.put, List.setIfInBounds_toArray, List.set_cons_zero, List.set_cons_succ]) | (refine heldI_skip rfl rfl ?_; simp only [Act.put, List.setIfInBounds_toArray, List.set_cons_zero, List.set_cons_succ]))
  refine heldI_nil ?_
  refine anyZ_next' (j := 15) (by kernel_rfl) rfl rfl ?_
  go_simp
  refine (held_off (HS.out.keep HK3.out).held).mono ?_
  rintro e w4 ⟨rfl, rfl⟩
  refine ⟨⟨c0, c1, c2, c3, c4, c5, c6⟩, ?_⟩
  refine heldI_run (t := 0) (by kernel_rfl) (fun d _ _ _ _ h => by cases d <;> exact h) w4 ⟨c0, c1, c2, c3, c4, c5, c6⟩ [18, 19] _ _ (by kernel_rfl) ?_
  iterate 2 (first | (refine heldI_step rfl rfl (fun w' hS => by (obtain ⟨s0, s1, s2, s3, s4, s5, s6⟩ := hS; go_simp; with_reducible rfl)) ?_; simp only [Act.put, List.setIfInBounds_toArray, List.set_cons_zero, List.set_cons_succ]) | (refine heldI_want rfl rfl (fun w' hS => by (obtain ⟨s0, s1, s2, s3, s4, s5, s6⟩ := hS; go_simp; with_reducible rfl)) ?_; simp only [Act.put, List.setIfInBounds_toArray, List.set_cons_zero, List.set_cons_succ]) | (refine heldI_skip rfl rfl ?_; simp only [Act.put, List.setIfInBounds_toArray, List.set_cons_zero, List.set_cons_succ]))
  refine heldI_nil ?_
  refine anyZ_done (by kernel_rfl) ?_
  clear c0 c1 c2 c3 c4 c5 c6
  go_wp2_with fail
  --BODY
  go_loopw [6] (fun iv wr => ∃ i : Nat, iv = .int .i64 (i : Int) ∧ i ≤ L.length ∧ Hid (Keep (fun _ => False) w4 wr)) (fun iv _ => L.length - (RowKit.intOf iv).toNat)
  case atStart => exact ⟨0, rfl, Nat.zero_le _, hid (Keep.refl _ _)⟩
  case round =>
    obtain ⟨i, rfl, hi, hKr⟩ := hrel
    have HKr := hid hKr.out
    have HKw := hid (HK3.out.trans hKr.out (fun _ _ h => h))
    have HBr := hid (hKr.out.at HB3.out (fun h => h))
    clear hKr
    have b0 : wr.cell? ⟨w.heap.size, 0, none⟩ = some (.slice ao L.length cap) := by rw [cell_at HBr.out]; rfl
    have b2 : wr.cell? ⟨w.heap.size, 2, none⟩ = some (.bool D.off) := by rw [cell_at HBr.out]; rfl
    by_cases hil : i < L.length
    · obtain ⟨a, n, f, A, C, rfl, hp, d0, d1, d2, hB⟩ := H.out.at2 HKw.out (fun _ _ h => h) hil
      obtain ⟨al, rfl⟩ : ∃ x, aol = some x := by
        cases aol with
        | none => have h := HNL.out rfl; rw [List.map_eq_nil_iff] at h; rw [h] at hil; simp at hil
        | some x => exact ⟨x, rfl⟩
      have e0 : wr.cell? (al.add i) = some (.string n) := by
        obtain ⟨g1, g2⟩ := HCL.out al rfl i n (by rw [List.getElem?_map, hp]; rfl)
        rw [(HK13.out.trans HKr.out (fun _ _ h => h)).cell (by rw [ChangeShapes.block_add]; exact g1) (fun h => h)]; exact g2
      have hB := hid hB
      have hmem : mhas D.files n = true := by rw [← HR.out.has]; exact (mhas_iff _ _).2 (List.mem_map_of_mem (f := (·.1)) (List.mem_of_getElem? hp))
      have hfo : fileOf D.files n = f := by
        rw [← HR.out.pickd]
        have h1 := mget_of_mem HR.out.sorted.nodup (k := n) (v := f) (List.mem_of_getElem? hp)
        unfold pick
        rw [pick_eq HR.out.sorted.nodup, h1]
        rfl
      have HMEM := hid hmem
      have HFO := hid hfo
      clear hp hmem hfo d2 b0 b2
      cases hoff : D.off with
      | true =>
        have HRD := hid (show Dsk.read D n = ([], 71) by unfold Dsk.read; rw [hoff]; rfl)
        have HBr := hid (show wr.heap[w.heap.size]? = some ((.cells #[.slice (some a) L.length cap, .int .i64 (D.room : Int), .bool true, .bool due, .int .i64 ops, .int .i64 part, .int .i64 keep] 28 (0, 0))) by rw [← hoff]; exact HBr.out)
        clear hoff
        go_wp2_with fail
        refine (st_read (HS.out.keep HKw.out) n).mono ?_
        rw [HRD.out]
        rintro e w5 ⟨v', rfl, hFB, hK5⟩
        obtain ⟨aR, cR, hvR, -, -⟩ := hFB.slice
        subst hvR
        have HK5 := hid (HKr.out.trans hK5 (fun _ _ h => h))
        have HKw5 := hid (HKw.out.trans hK5 (fun _ _ h => h))
        have HB5 := hid (hK5.at HBr.out (fun h => h))
        have HRB := hid (bytes_more hFB.bytesIn (G' := fun _ => True) (fun _ _ _ => trivial))
        have HFB := hid (bytes_more (hB.out.keep HKw5.out (fun _ _ h => h)) (G' := fun _ => True) (fun _ _ _ => trivial))
        have z0 : w5.cell? ⟨w.heap.size, 0, none⟩ = some (.slice (some a) L.length cap) := by rw [cell_at HB5.out]; rfl
        have z2 : w5.cell? ⟨w.heap.size, 2, none⟩ = some (.bool true) := by rw [cell_at HB5.out]; rfl
        have zn : w5.cell? (al.add i) = some (.string n) := by rw [hK5.cell (lt_of_cell e0) (fun h => h)]; exact e0
        have y0 : w5.cell? (a.add (i * 3)) = some (.string n) := by rw [hK5.cell (lt_of_cell d0) (fun h => h)]; exact d0
        have y1 : w5.cell? ⟨(a.add (i * 3)).block, (a.add (i * 3)).off + 1, none⟩ = some (.slice A f.b.length C) := by rw [hK5.cell (lt_of_cell d1) (fun h => h)]; exact d1
        clear hFB hK5 e0 d0 d1
        go_wp2_with fail
        refine wp_region_heldi [0, 1, 2, 3, 4, 5, 6, 7, 8, 9, 10, 11, 12, 13, 14, 15, 16, 17, 18, 19, 20, 21, 22, 23, 24, 25, 26, 27, 28, 29, 30, 31, 32, 33, 34, 35, 36, 37, 38, 39, 40, 41, 42, 43, 44] 100 0 (fun w' => w'.cell? ⟨w.heap.size, 0, none⟩ = some (.slice (some a) L.length cap) ∧ w'.cell? ⟨w.heap.size, 2, none⟩ = some (.bool true) ∧ w'.cell? (al.add i) = some (.string n) ∧ w'.cell? (a.add (i * 3)) = some (.string n) ∧ w'.cell? ⟨(a.add (i * 3)).block, (a.add (i * 3)).off + 1, none⟩ = some (.slice A f.b.length C) ∧ BytesIn w' (.slice aR 0 cR) [] (fun _ => True) ∧ BytesIn w' (.slice A f.b.length C) f.b (fun _ => True)) (by kernel_rfl) (by kernel_rfl) (by kernel_rfl) ⟨z0, z2, zn, y0, y1, HRB.out.keep (Keep.refl (fun _ => False) w5).drew (fun _ _ h => h), HFB.out.keep (Keep.refl (fun _ => False) w5).drew (fun _ _ h => h)⟩ (fun d _ _ _ _ h => by cases d <;> exact h) ?_
        iterate 45 (first | (refine heldI_step rfl rfl (fun w' hS => by (obtain ⟨s0, s2, sn, d0, d1, B1, B2⟩ := hS; have hx := bytes_string B1; have hy := bytes_string B2; go_simp; with_reducible rfl)) ?_; simp only [Act.put, List.setIfInBounds_toArray, List.set_cons_zero, List.set_cons_succ]) | (refine heldI_want rfl rfl (fun w' hS => by (obtain ⟨s0, s2, sn, d0, d1, B1, B2⟩ := hS; have hx := bytes_string B1; have hy := bytes_string B2; go_simp; with_reducible rfl)) ?_; simp only [Act.put, List.setIfInBounds_toArray, List.set_cons_zero, List.set_cons_succ]) | (refine heldI_skip rfl rfl ?_; simp only [Act.put, List.setIfInBounds_toArray, List.set_cons_zero, List.set_cons_succ]))
        refine heldI_nil ?_
        refine anyZ_done (by kernel_rfl) ?_
        clear z0 z2 zn y0 y1
        go_wp2_with fail
        exact ⟨⟨i + 1, by simp, by omega, hid HK5.out.drew⟩, by simp [RowKit.intOf]; omega⟩
      | false =>
        have HRD := hid (show Dsk.read D n = (f.b, 0) by unfold Dsk.read; rw [hoff, if_neg (by simp), HMEM.out, if_pos rfl, HFO.out])
        have HBr := hid (show wr.heap[w.heap.size]? = some ((.cells #[.slice (some a) L.length cap, .int .i64 (D.room : Int), .bool false, .bool due, .int .i64 ops, .int .i64 part, .int .i64 keep] 28 (0, 0))) by rw [← hoff]; exact HBr.out)
        clear hoff
        go_wp2_with fail
        refine (st_read (HS.out.keep HKw.out) n).mono ?_
        rw [HRD.out]
        rintro e w5 ⟨v', rfl, hFB, hK5⟩
        obtain ⟨aR, cR, hvR, -, -⟩ := hFB.slice
        subst hvR
        have HK5 := hid (HKr.out.trans hK5 (fun _ _ h => h))
        have HKw5 := hid (HKw.out.trans hK5 (fun _ _ h => h))
        have HB5 := hid (hK5.at HBr.out (fun h => h))
        have HRB := hid (bytes_more hFB.bytesIn (G' := fun _ => True) (fun _ _ _ => trivial))
        have HFB := hid (bytes_more (hB.out.keep HKw5.out (fun _ _ h => h)) (G' := fun _ => True) (fun _ _ _ => trivial))
        have z0 : w5.cell? ⟨w.heap.size, 0, none⟩ = some (.slice (some a) L.length cap) := by rw [cell_at HB5.out]; rfl
        have z2 : w5.cell? ⟨w.heap.size, 2, none⟩ = some (.bool false) := by rw [cell_at HB5.out]; rfl
        have zn : w5.cell? (al.add i) = some (.string n) := by rw [hK5.cell (lt_of_cell e0) (fun h => h)]; exact e0
        have y0 : w5.cell? (a.add (i * 3)) = some (.string n) := by rw [hK5.cell (lt_of_cell d0) (fun h => h)]; exact d0
        have y1 : w5.cell? ⟨(a.add (i * 3)).block, (a.add (i * 3)).off + 1, none⟩ = some (.slice A f.b.length C) := by rw [hK5.cell (lt_of_cell d1) (fun h => h)]; exact d1
        clear hFB hK5 e0 d0 d1
        go_wp2_with fail
        refine wp_region_heldi [0, 1, 2, 3, 4, 5, 6, 7, 8, 9, 10, 11, 12, 13, 14, 15, 16, 17, 18, 19, 20, 21, 22, 23, 24, 25, 26, 27, 28, 29, 30, 31, 32, 33, 34, 35, 36, 37, 38, 39, 40, 41, 42, 43, 44] 100 0 (fun w' => w'.cell? ⟨w.heap.size, 0, none⟩ = some (.slice (some a) L.length cap) ∧ w'.cell? ⟨w.heap.size, 2, none⟩ = some (.bool false) ∧ w'.cell? (al.add i) = some (.string n) ∧ w'.cell? (a.add (i * 3)) = some (.string n) ∧ w'.cell? ⟨(a.add (i * 3)).block, (a.add (i * 3)).off + 1, none⟩ = some (.slice A f.b.length C) ∧ BytesIn w' (.slice aR f.b.length cR) f.b (fun _ => True) ∧ BytesIn w' (.slice A f.b.length C) f.b (fun _ => True)) (by kernel_rfl) (by kernel_rfl) (by kernel_rfl) ⟨z0, z2, zn, y0, y1, HRB.out.keep (Keep.refl (fun _ => False) w5).drew (fun _ _ h => h), HFB.out.keep (Keep.refl (fun _ => False) w5).drew (fun _ _ h => h)⟩ (fun d _ _ _ _ h => by cases d <;> exact h) ?_
        iterate 45 (first | (refine heldI_step rfl rfl (fun w' hS => by (obtain ⟨s0, s2, sn, d0, d1, B1, B2⟩ := hS; have hx := bytes_string B1; have hy := bytes_string B2; go_simp; with_reducible rfl)) ?_; simp only [Act.put, List.setIfInBounds_toArray, List.set_cons_zero, List.set_cons_succ]) | (refine heldI_want rfl rfl (fun w' hS => by (obtain ⟨s0, s2, sn, d0, d1, B1, B2⟩ := hS; have hx := bytes_string B1; have hy := bytes_string B2; go_simp; with_reducible rfl)) ?_; simp only [Act.put, List.setIfInBounds_toArray, List.set_cons_zero, List.set_cons_succ]) | (refine heldI_skip rfl rfl ?_; simp only [Act.put, List.setIfInBounds_toArray, List.set_cons_zero, List.set_cons_succ]))
        refine heldI_nil ?_
        refine anyZ_done (by kernel_rfl) ?_
        clear z0 z2 zn y0 y1
        go_wp2_with fail
        exact ⟨⟨i + 1, by simp, by omega, hid HK5.out.drew⟩, by simp [RowKit.intOf]; omega⟩
    · obtain rfl : i = L.length := by omega
      clear b0 b2
      go_wp2_with fail
      refine (st_read (HS.out.keep HKw.out) ⟨#[110, 111, 110, 101]⟩).mono ?_
      cases hoff : D.off with
      | true =>
        rw [show Dsk.read D ⟨#[110, 111, 110, 101]⟩ = ([], 71) by unfold Dsk.read; rw [hoff]; rfl]
        rintro e w5 ⟨v', rfl, hFB, hK5⟩
        obtain ⟨aR, cR, hvR, -, -⟩ := hFB.slice
        subst hvR
        have HKw5 := hid (HKw.out.trans hK5 (fun _ _ h => h))
        have HB5 := hid (hK5.at HBr.out (fun h => h))
        clear hFB hK5
        have z2 : w5.cell? ⟨w.heap.size, 2, none⟩ = some (.bool true) := by rw [cell_at HB5.out, ← hoff]; rfl
        clear hoff
        go_wp2_with fail
        all_goals go_ret
        all_goals exact ⟨rfl, HKw5.out⟩
      | false =>
        cases hm : mhas D.files ⟨#[110, 111, 110, 101]⟩ with
        | false =>
          rw [show Dsk.read D ⟨#[110, 111, 110, 101]⟩ = ([], 70) by unfold Dsk.read; rw [hoff, if_neg (by simp), hm, if_neg (by simp)]]
          rintro e w5 ⟨v', rfl, hFB, hK5⟩
          obtain ⟨aR, cR, hvR, -, -⟩ := hFB.slice
          subst hvR
          have HKw5 := hid (HKw.out.trans hK5 (fun _ _ h => h))
          have HB5 := hid (hK5.at HBr.out (fun h => h))
          clear hFB hK5
          have z2 : w5.cell? ⟨w.heap.size, 2, none⟩ = some (.bool false) := by rw [cell_at HB5.out, ← hoff]; rfl
          clear hoff hm
          go_wp2_with fail
          all_goals go_ret
          all_goals exact ⟨rfl, HKw5.out⟩
        | true =>
          rw [show Dsk.read D ⟨#[110, 111, 110, 101]⟩ = ((fileOf D.files ⟨#[110, 111, 110, 101]⟩).b, 0) by unfold Dsk.read; rw [hoff, if_neg (by simp), hm, if_pos rfl]]
          obtain ⟨fb, hfb⟩ : ∃ x, (fileOf D.files ⟨#[110, 111, 110, 101]⟩).b = x := ⟨_, rfl⟩
          rw [hfb]
          clear hfb
          rintro e w5 ⟨v', rfl, hFB, hK5⟩
          obtain ⟨aR, cR, hvR, -, -⟩ := hFB.slice
          subst hvR
          have HKw5 := hid (HKw.out.trans hK5 (fun _ _ h => h))
          have HB5 := hid (hK5.at HBr.out (fun h => h))
          clear hFB hK5
          have z0 : w5.cell? ⟨w.heap.size, 0, none⟩ = some (.slice ao L.length cap) := by rw [cell_at HB5.out]; rfl
          have z1 : w5.cell? ⟨w.heap.size, 1, none⟩ = some (.int .i64 (D.room : Int)) := by rw [cell_at HB5.out]; rfl
          have z2 : w5.cell? ⟨w.heap.size, 2, none⟩ = some (.bool false) := by rw [cell_at HB5.out, ← hoff]; rfl
          have z3 : w5.cell? ⟨w.heap.size, 3, none⟩ = some (.bool due) := by rw [cell_at HB5.out]; rfl
          have z4 : w5.cell? ⟨w.heap.size, 4, none⟩ = some (.int .i64 ops) := by rw [cell_at HB5.out]; rfl
          have z5 : w5.cell? ⟨w.heap.size, 5, none⟩ = some (.int .i64 part) := by rw [cell_at HB5.out]; rfl
          have z6 : w5.cell? ⟨w.heap.size, 6, none⟩ = some (.int .i64 keep) := by rw [cell_at HB5.out]; rfl
          have HM := hid (show mhas L ⟨#[110, 111, 110, 101]⟩ = true by rw [HR.out.has]; exact hm)
          clear hoff hm
          go_wp2_with fail
          refine (at_any w5 ⟨(D.room : Int), false, due, ops, part, keep⟩ (H.out.keep HKw5.out (fun _ _ h => h)) hL100 ⟨#[110, 111, 110, 101]⟩).mono ?_
          rintro e w6 ⟨z, rfl, hz, hK6⟩
          rw [HM.out] at hz
          have hz' : 0 ≤ z := by simpa using hz
          have HK6 := hid (HKw5.out.trans hK6 (fun _ _ h => h))
          clear hK6
          go_wp2_with fail
          all_goals go_ret
          all_goals exact ⟨rfl, HK6.out⟩
end
end Go.Proofs.YtlabpmmcmejpmaaDoor.Ref
