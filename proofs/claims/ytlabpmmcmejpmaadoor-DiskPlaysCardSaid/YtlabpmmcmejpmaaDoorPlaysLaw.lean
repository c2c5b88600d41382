/- osierlaw18.DiskPlays: a disk under any script does what the document says; walked. -/
import Derived.Test.YtlabpmmcmejpmaaDoorPlaysStep
namespace Go.Proofs.YtlabpmmcmejpmaaDoor.Ref
open Go Go.RowKit Go.Lib Go.Proofs.YtlabpmmcmejpmaaDoor.Dsk Go.Proofs.YtlabpmmcmejpmaaDoor.Wal

set_option maxRecDepth 100000 in
set_option maxHeartbeats 16000000 in
theorem dplays_row (W : World) (room : Int) {v1 : Value} {acts : List ActM} (hA : Acts18 W v1 acts) :
    Calls Tryd.prog 3 #[.int .i64 room, v1] W fun e w' => e = .returned (.bool true) ∧ Keep (fun _ => False) W w' := by
  obtain ⟨ao0, c0, hv0, hnil0, hrow0⟩ := hA.rows
  have HROW := hid hrow0
  subst hv0
  clear hA hrow0
  go_enter Tryd.func3, Tryd.ntmps3
  go_wp2_with fail
  refine (awake18 W).mono ?_
  rintro e w0 ⟨rfl, hK⟩
  have HK0 := hid hK
  clear hK
  by_cases h2 : 1000000 < room
  · go_wp2_with fail
    all_goals go_ret
    all_goals exact ⟨rfl, HK0.out⟩
  go_wp2_with fail
  refine (st_new W HK0.out room (by omega)).mono ?_
  rintro e w2 ⟨db, rfl, hS⟩
  have S2 := hid hS
  clear hS
  unfold ptr
  go_wp2_with fail
  refine (rnew_any w2 room).mono ?_
  rintro e w3 ⟨rfl, hK3⟩
  obtain ⟨⟨size, down, due, ops, part, keep⟩, hR0⟩ : ∃ R, refNew room = R := ⟨_, rfl⟩
  have hRel := rel_new room
  rw [hR0] at hRel ⊢
  obtain ⟨L, hL0⟩ : ∃ L : Files, L = [] := ⟨_, rfl⟩
  have S3 := hid (S2.out.keep hK3)
  have hsz3 := S3.out.size
  have HREL := hid (show Rel (new room) ⟨size, down, due, ops, part, keep⟩ [] from hRel)
  clear hK3 hRel hR0
  unfold RefD.val RefD.cells
  go_wp2_with fail
  obtain ⟨w4, hw4⟩ : ∃ w4, w3.alloc (.cells #[.slice none 0 0, .int .i64 size, .bool down, .bool due, .int .i64 ops, .int .i64 part, .int .i64 keep] 28) = w4 := ⟨_, rfl⟩
  have hk4 : Keep (fun _ => False) w3 w4 := hw4 ▸ (Keep.refl _ w3).alloc _
  have hs4 : w4.heap.size = w3.heap.size + 1 := by rw [← hw4]; simp
  have HB4 := hid (show w4.heap[w3.heap.size]? = some (.cells #[.slice none 0 0, .int .i64 size, .bool down, .bool due, .int .i64 ops, .int .i64 part, .int .i64 keep] 28 (0, 0)) from hw4 ▸ heap_alloc_new w3 _)
  rw [hw4]
  have S4 := hid ((S3.out.more hk4).fewer (Y := fun i => i = w3.heap.size) (fun i h => .inr ⟨by omega, by omega⟩))
  clear hw4 hk4
  refine (is_any S4.out (tidy_fresh room) ⟨size, down, due, ops, part, keep⟩ HREL.out (FilesAt.nil w4 (fun _ => False))).mono ?_
  rintro e w5 ⟨rfl, hK5⟩
  have S5 := hid (S4.out.keep hK5)
  have HB5 := hid (hK5.at HB4.out (fun h => h))
  have hs5 := hK5.size
  clear hK5
  go_wp2_with fail
  obtain ⟨g, hg⟩ : ∃ g, w3.heap.size = g := ⟨_, rfl⟩
  rw [hg] at HB5 S5 hs4 hsz3 ⊢
  clear hg
  go_loopw [8, 9] (fun okv iv wr => ∃ (i : Nat) (D : DiskM) (R : RefD) (L : Files) (vL : Value) (X Y : Nat → Prop), iv = .int .i64 (i : Int) ∧ okv = .bool true ∧ i ≤ 60 ∧ Hid (St W wr db D Y) ∧ Hid (Tidy D.files) ∧ Hid (Rel D R L) ∧ Hid (FilesAt wr vL L (fun i => X i ∨ i < W.heap.size)) ∧ Hid (∀ i, X i → Y i) ∧ Hid (Y g) ∧ Hid (¬ X g) ∧ g < wr.heap.size ∧ Hid (wr.heap[g]? = some (.cells #[vL, .int .i64 R.size, .bool R.down, .bool R.due, .int .i64 R.ops, .int .i64 R.part, .int .i64 R.keep] 28 (0, 0)))) (fun _ iv _ => 60 - (RowKit.intOf iv).toNat)
  case atStart => exact ⟨0, new room, ⟨size, down, due, ops, part, keep⟩, [], .slice none 0 0, fun _ => False, fun i => i = g, rfl, rfl, by omega, S5, hid (tidy_fresh room), HREL, hid (FilesAt.nil _ _), hid (fun _ h => h.elim), hid rfl, hid (fun h => h), by omega, HB5⟩
  case round =>
    clear S5 HB5 S4 S3 S2 HREL HB4 hs5 hs4
    obtain ⟨i, D, ⟨size, down, due, ops, part, keep⟩, L, vL, X, Y, rfl, rfl, hi60, HS, HT, HR, HF, HXY, HYg, HXg, hgs, HBg⟩ := hrel
    obtain ⟨ao, cap, hvL⟩ := HF.out.slice
    subst hvL
    by_cases hi1 : i < acts.length
    · by_cases hi2 : i < 60
      · obtain ⟨a0, rfl⟩ : ∃ a, ao0 = some a := by
          cases ao0 with
          | none => rw [hnil0 rfl] at hi1; simp at hi1
          | some a => exact ⟨a, rfl⟩
        obtain ⟨m, hm⟩ : ∃ m, acts[i]? = some m := ⟨acts[i], List.getElem?_eq_getElem hi1⟩
        obtain ⟨hfit, A, C, hcs, hB⟩ := HROW.out a0 rfl i m hm
        have hmv : ∀ (j : Nat) (x : Value), (m.cells A C)[j]? = some x → wr.cell? (a0.add (i * 7 + j)) = some x := fun j x hj => by
          have h := hcs j x hj
          have hb := lt_of_cell h
          rw [HS.out.kept.cell hb (by rw [ChangeShapes.block_add] at hb ⊢; omega)]
          exact h
        have d0 : wr.cell? (a0.add (i * 7)) = some (.int .i64 m.kind) := by exact hmv 0 _ rfl
        have d1 : wr.cell? ⟨(a0.add (i * 7)).block, (a0.add (i * 7)).off + 1, none⟩ = some (.string m.name) := by rw [show (⟨(a0.add (i * 7)).block, (a0.add (i * 7)).off + 1, none⟩ : Addr) = a0.add (i * 7 + 1) by rw [← Addr.add_add]; rfl]; exact hmv 1 _ rfl
        have d2 : wr.cell? ⟨(a0.add (i * 7)).block, (a0.add (i * 7)).off + 2, none⟩ = some (.string m.to) := by rw [show (⟨(a0.add (i * 7)).block, (a0.add (i * 7)).off + 2, none⟩ : Addr) = a0.add (i * 7 + 2) by rw [← Addr.add_add]; rfl]; exact hmv 2 _ rfl
        have d3 : wr.cell? ⟨(a0.add (i * 7)).block, (a0.add (i * 7)).off + 3, none⟩ = some (.slice A m.b.length C) := by rw [show (⟨(a0.add (i * 7)).block, (a0.add (i * 7)).off + 3, none⟩ : Addr) = a0.add (i * 7 + 3) by rw [← Addr.add_add]; rfl]; exact hmv 3 _ rfl
        have d4 : wr.cell? ⟨(a0.add (i * 7)).block, (a0.add (i * 7)).off + 4, none⟩ = some (.int .i64 m.n) := by rw [show (⟨(a0.add (i * 7)).block, (a0.add (i * 7)).off + 4, none⟩ : Addr) = a0.add (i * 7 + 4) by rw [← Addr.add_add]; rfl]; exact hmv 4 _ rfl
        have d5 : wr.cell? ⟨(a0.add (i * 7)).block, (a0.add (i * 7)).off + 5, none⟩ = some (.int .i64 m.part) := by rw [show (⟨(a0.add (i * 7)).block, (a0.add (i * 7)).off + 5, none⟩ : Addr) = a0.add (i * 7 + 5) by rw [← Addr.add_add]; rfl]; exact hmv 5 _ rfl
        have d6 : wr.cell? ⟨(a0.add (i * 7)).block, (a0.add (i * 7)).off + 6, none⟩ = some (.int .i64 m.keep) := by rw [show (⟨(a0.add (i * 7)).block, (a0.add (i * 7)).off + 6, none⟩ : Addr) = a0.add (i * 7 + 6) by rw [← Addr.add_add]; rfl]; exact hmv 6 _ rfl
        have hab : a0.block < W.heap.size := by have h := lt_of_cell (hcs 0 _ rfl); rwa [ChangeShapes.block_add] at h
        have HB := hid (hB.keep HS.out.kept (fun i h hn => by omega))
        have HFIT := hid hfit
        clear hcs hmv hB hm hfit
        by_cases hlen : 1000 < (m.b.length : Int)
        · have HD := hid HS.out.done
          go_wp2_with fail
          all_goals go_ret
          all_goals exact ⟨rfl, HD.out⟩
        have c0 : wr.cell? ⟨g, 0, none⟩ = some (.slice ao L.length cap) := by rw [cell_at HBg.out]; rfl
        have c1 : wr.cell? ⟨g, 1, none⟩ = some (.int .i64 size) := by rw [cell_at HBg.out]; rfl
        have c2 : wr.cell? ⟨g, 2, none⟩ = some (.bool down) := by rw [cell_at HBg.out]; rfl
        have c3 : wr.cell? ⟨g, 3, none⟩ = some (.bool due) := by rw [cell_at HBg.out]; rfl
        have c4 : wr.cell? ⟨g, 4, none⟩ = some (.int .i64 ops) := by rw [cell_at HBg.out]; rfl
        have c5 : wr.cell? ⟨g, 5, none⟩ = some (.int .i64 part) := by rw [cell_at HBg.out]; rfl
        have c6 : wr.cell? ⟨g, 6, none⟩ = some (.int .i64 keep) := by rw [cell_at HBg.out]; rfl
        go_wp2_with fail
        refine wp_region_heldi [0, 2, 3, 4, 5] 100 7 (fun w' => w'.cell? (a0.add (i * 7)) = some (.int .i64 m.kind) ∧ w'.cell? ⟨(a0.add (i * 7)).block, (a0.add (i * 7)).off + 1, none⟩ = some (.string m.name) ∧ w'.cell? ⟨(a0.add (i * 7)).block, (a0.add (i * 7)).off + 2, none⟩ = some (.string m.to) ∧ w'.cell? ⟨(a0.add (i * 7)).block, (a0.add (i * 7)).off + 3, none⟩ = some (.slice A m.b.length C) ∧ w'.cell? ⟨(a0.add (i * 7)).block, (a0.add (i * 7)).off + 4, none⟩ = some (.int .i64 m.n) ∧ w'.cell? ⟨(a0.add (i * 7)).block, (a0.add (i * 7)).off + 5, none⟩ = some (.int .i64 m.part) ∧ w'.cell? ⟨(a0.add (i * 7)).block, (a0.add (i * 7)).off + 6, none⟩ = some (.int .i64 m.keep)) (by kernel_rfl) (by kernel_rfl) (by kernel_rfl) ⟨d0, d1, d2, d3, d4, d5, d6⟩ (fun d _ _ _ _ h => by cases d <;> exact h) ?_
        iterate 5 (first | (refine heldI_step rfl rfl (fun w' hS => by (obtain ⟨s0, s1, s2, s3, s4, s5, s6⟩ := hS; go_simp; with_reducible rfl)) ?_; simp only [Act.put, List.setIfInBounds_toArray, List.set_cons_zero, List.set_cons_succ]) | (refine heldI_want rfl rfl (fun w' hS => by (obtain ⟨s0, s1, s2, s3, s4, s5, s6⟩ := hS; go_simp; with_reducible rfl)) ?_; simp only [Act.put, List.setIfInBounds_toArray, List.set_cons_zero, List.set_cons_succ]) | (refine heldI_skip rfl rfl ?_; simp only [Act.put, List.setIfInBounds_toArray, List.set_cons_zero, List.set_cons_succ]))
        refine heldI_nil ?_
        have kd := keep_drawn' wr (wr.drawn + 1)
        have x0 : wr.drew.cell? (a0.add (i * 7)) = some (.int .i64 m.kind) := d0
        have HSx := hid (show wr.drew.cell? (a0.add (i * 7)) = some (.int .i64 m.kind) ∧ wr.drew.cell? ⟨(a0.add (i * 7)).block, (a0.add (i * 7)).off + 1, none⟩ = some (.string m.name) ∧ wr.drew.cell? ⟨(a0.add (i * 7)).block, (a0.add (i * 7)).off + 2, none⟩ = some (.string m.to) ∧ wr.drew.cell? ⟨(a0.add (i * 7)).block, (a0.add (i * 7)).off + 3, none⟩ = some (.slice A m.b.length C) ∧ wr.drew.cell? ⟨(a0.add (i * 7)).block, (a0.add (i * 7)).off + 4, none⟩ = some (.int .i64 m.n) ∧ wr.drew.cell? ⟨(a0.add (i * 7)).block, (a0.add (i * 7)).off + 5, none⟩ = some (.int .i64 m.part) ∧ wr.drew.cell? ⟨(a0.add (i * 7)).block, (a0.add (i * 7)).off + 6, none⟩ = some (.int .i64 m.keep) from ⟨d0, d1, d2, d3, d4, d5, d6⟩)
        refine anyZ_read (j := 1) (by kernel_rfl) rfl rfl HSx.out (by go_simp; with_reducible rfl) ?_
        refine anyZ_next' (j := 6) (by kernel_rfl) rfl rfl ?_
        go_simp
        refine (step_any (X := X) HXY.out (HS.out.keep kd) HT.out ⟨size, down, due, ops, part, keep⟩ HR.out (HF.out.keep kd (fun _ _ h => h)) m HFIT.out (HB.out.keep kd (fun _ _ h => h)) (by omega)).mono ?_
        rintro e w6 ⟨D', ⟨size', down', due', ops', part', keep'⟩, L', vN, X', Y', rfl, hS6, hT6, hR6, hF6, hYY, hXY6, hX6, hK6⟩
        obtain ⟨aN, cN, hvN⟩ := hF6.slice
        subst hvN
        have S6 := hid hS6
        have T6 := hid hT6
        have R6 := hid hR6
        have F6 := hid hF6
        have XY6 := hid hXY6
        have HYg6 := hid (hYY g HYg.out)
        have hsr6 : wr.heap.size ≤ w6.heap.size := hK6.size
        have HXg6 := hid (show ¬ X' g from fun h => (hX6 g h).elim HXg.out (fun h => by have h' : wr.heap.size ≤ g := h; omega))
        have HBg6 := hid (hK6.at (kd.at HBg.out (fun h => h)) (fun h => h.2 HYg.out))
        have HBJ := hid (show ∀ j, (a0.add j).block = a0.block from fun j => ChangeShapes.block_add a0 j)
        have hcl : ∀ (p : Addr) (u : Value), p.block = a0.block → wr.cell? p = some u → w6.cell? p = some u := fun p u hp h => by
          rw [hK6.cell (p := p) (by rw [hp]; exact Nat.lt_of_lt_of_le hab HS.out.size) (by rw [hp]; intro h; omega)]; exact h
        have e0 : w6.cell? (a0.add (i * 7)) = some (.int .i64 m.kind) := hcl _ _ (HBJ.out _) d0
        have e1 : w6.cell? ⟨(a0.add (i * 7)).block, (a0.add (i * 7)).off + 1, none⟩ = some (.string m.name) := hcl _ _ (HBJ.out _) d1
        have e2 : w6.cell? ⟨(a0.add (i * 7)).block, (a0.add (i * 7)).off + 2, none⟩ = some (.string m.to) := hcl _ _ (HBJ.out _) d2
        have e3 : w6.cell? ⟨(a0.add (i * 7)).block, (a0.add (i * 7)).off + 3, none⟩ = some (.slice A m.b.length C) := hcl _ _ (HBJ.out _) d3
        have e4 : w6.cell? ⟨(a0.add (i * 7)).block, (a0.add (i * 7)).off + 4, none⟩ = some (.int .i64 m.n) := hcl _ _ (HBJ.out _) d4
        have e5 : w6.cell? ⟨(a0.add (i * 7)).block, (a0.add (i * 7)).off + 5, none⟩ = some (.int .i64 m.part) := hcl _ _ (HBJ.out _) d5
        have e6 : w6.cell? ⟨(a0.add (i * 7)).block, (a0.add (i * 7)).off + 6, none⟩ = some (.int .i64 m.keep) := hcl _ _ (HBJ.out _) d6
        clear hS6 hT6 hR6 hF6 hXY6 hYY hX6 hK6 kd c0 c1 c2 c3 c4 c5 c6 d0 d1 d2 d3 d4 d5 d6 x0 hcl
        unfold RefD.val RefD.cells
        refine ⟨⟨e0, e1, e2, e3, e4, e5, e6⟩, ?_⟩
        refine heldI_run (t := 2) (by kernel_rfl) (fun d _ _ _ _ h => by cases d <;> exact h) w6 ⟨e0, e1, e2, e3, e4, e5, e6⟩ [7, 8, 9] _ _ (by kernel_rfl) ?_
        iterate 3 (first | (refine heldI_step rfl rfl (fun w' hS => by (obtain ⟨s0, s1, s2, s3, s4, s5, s6⟩ := hS; go_simp; with_reducible rfl)) ?_; simp only [Act.put, List.setIfInBounds_toArray, List.set_cons_zero, List.set_cons_succ]) | (refine heldI_want rfl rfl (fun w' hS => by (obtain ⟨s0, s1, s2, s3, s4, s5, s6⟩ := hS; go_simp; with_reducible rfl)) ?_; simp only [Act.put, List.setIfInBounds_toArray, List.set_cons_zero, List.set_cons_succ]) | (refine heldI_skip rfl rfl ?_; simp only [Act.put, List.setIfInBounds_toArray, List.set_cons_zero, List.set_cons_succ]))
        refine heldI_nil ?_
        have z0 : w6.cell? ⟨g, 0, none⟩ = some (.slice ao L.length cap) := by rw [cell_at HBg6.out]; rfl
        have z1 : w6.cell? ⟨g, 1, none⟩ = some (.int .i64 size) := by rw [cell_at HBg6.out]; rfl
        have z2 : w6.cell? ⟨g, 2, none⟩ = some (.bool down) := by rw [cell_at HBg6.out]; rfl
        have z3 : w6.cell? ⟨g, 3, none⟩ = some (.bool due) := by rw [cell_at HBg6.out]; rfl
        have z4 : w6.cell? ⟨g, 4, none⟩ = some (.int .i64 ops) := by rw [cell_at HBg6.out]; rfl
        have z5 : w6.cell? ⟨g, 5, none⟩ = some (.int .i64 part) := by rw [cell_at HBg6.out]; rfl
        have z6 : w6.cell? ⟨g, 6, none⟩ = some (.int .i64 keep) := by rw [cell_at HBg6.out]; rfl
        have y0 : w6.frozen? ⟨g, 0, none⟩ = false := frozen_at HBg6.out _
        have y1 : w6.frozen? ⟨g, 1, none⟩ = false := frozen_at HBg6.out _
        have y2 : w6.frozen? ⟨g, 2, none⟩ = false := frozen_at HBg6.out _
        have y3 : w6.frozen? ⟨g, 3, none⟩ = false := frozen_at HBg6.out _
        have y4 : w6.frozen? ⟨g, 4, none⟩ = false := frozen_at HBg6.out _
        have y5 : w6.frozen? ⟨g, 5, none⟩ = false := frozen_at HBg6.out _
        have y6 : w6.frozen? ⟨g, 6, none⟩ = false := frozen_at HBg6.out _
        refine anyZ_next' (j := 10) (by kernel_rfl) rfl rfl ?_
        go_simp
        clear z0 z1 z2 z3 z4 z5 z6 y0 y1 y2 y3 y4 y5 y6
        obtain ⟨w7, hw7⟩ : ∃ w7, (((((((w6.setCell ⟨g, 0, none⟩ (.slice aN L'.length cN)).setCell ⟨g, 1, none⟩ (.int .i64 size')).setCell ⟨g, 2, none⟩ (.bool down')).setCell ⟨g, 3, none⟩ (.bool due')).setCell ⟨g, 4, none⟩ (.int .i64 ops')).setCell ⟨g, 5, none⟩ (.int .i64 part')).setCell ⟨g, 6, none⟩ (.int .i64 keep')) = w7 := ⟨_, rfl⟩
        rw [hw7]
        have HK7 := hid (show Keep (fun i => i = g) w6 w7 from hw7 ▸ ((((((((Keep.refl (fun i => i = g) w6).setCell (p := ⟨g, 0, none⟩) (fun _ => rfl) (.slice aN L'.length cN)).setCell (p := ⟨g, 1, none⟩) (fun _ => rfl) (.int .i64 size')).setCell (p := ⟨g, 2, none⟩) (fun _ => rfl) (.bool down')).setCell (p := ⟨g, 3, none⟩) (fun _ => rfl) (.bool due')).setCell (p := ⟨g, 4, none⟩) (fun _ => rfl) (.int .i64 ops')).setCell (p := ⟨g, 5, none⟩) (fun _ => rfl) (.int .i64 part')).setCell (p := ⟨g, 6, none⟩) (fun _ => rfl) (.int .i64 keep')))
        have HB7 := hid (show w7.heap[g]? = some (.cells #[.slice aN L'.length cN, .int .i64 size', .bool down', .bool due', .int .i64 ops', .int .i64 part', .int .i64 keep'] 28 (0, 0)) from hw7 ▸ slot_seven HBg6.out rfl (.slice aN L'.length cN) (.int .i64 size') (.bool down') (.bool due') (.int .i64 ops') (.int .i64 part') (.int .i64 keep'))
        have hs7 := HK7.out.size
        clear hw7
        have hSW := S6.out.size
        have hcl : ∀ (p : Addr) (u : Value), p.block = a0.block → w6.cell? p = some u → w7.cell? p = some u := fun p u hp h => by
          rw [HK7.out.cell (p := p) (by rw [hp]; omega) (by rw [hp]; intro h; omega)]; exact h
        have g0 : w7.cell? (a0.add (i * 7)) = some (.int .i64 m.kind) := hcl _ _ (HBJ.out _) e0
        have g1 : w7.cell? ⟨(a0.add (i * 7)).block, (a0.add (i * 7)).off + 1, none⟩ = some (.string m.name) := hcl _ _ (HBJ.out _) e1
        have g2 : w7.cell? ⟨(a0.add (i * 7)).block, (a0.add (i * 7)).off + 2, none⟩ = some (.string m.to) := hcl _ _ (HBJ.out _) e2
        have g3 : w7.cell? ⟨(a0.add (i * 7)).block, (a0.add (i * 7)).off + 3, none⟩ = some (.slice A m.b.length C) := hcl _ _ (HBJ.out _) e3
        have g4 : w7.cell? ⟨(a0.add (i * 7)).block, (a0.add (i * 7)).off + 4, none⟩ = some (.int .i64 m.n) := hcl _ _ (HBJ.out _) e4
        have g5 : w7.cell? ⟨(a0.add (i * 7)).block, (a0.add (i * 7)).off + 5, none⟩ = some (.int .i64 m.part) := hcl _ _ (HBJ.out _) e5
        have g6 : w7.cell? ⟨(a0.add (i * 7)).block, (a0.add (i * 7)).off + 6, none⟩ = some (.int .i64 m.keep) := hcl _ _ (HBJ.out _) e6
        refine ⟨by refine ⟨?_, ?_, ?_, ?_, ?_, ?_, ?_⟩ <;> first | exact g0 | exact g1 | exact g2 | exact g3 | exact g4 | exact g5 | exact g6 | exact e0 | exact e1 | exact e2 | exact e3 | exact e4 | exact e5 | exact e6, ?_⟩
        refine heldI_run (t := 0) (by kernel_rfl) (fun d _ _ _ _ h => by cases d <;> exact h) w7 ⟨g0, g1, g2, g3, g4, g5, g6⟩ [11] _ _ (by kernel_rfl) ?_
        iterate 1 (first | (refine heldI_step rfl rfl (fun w' hS => by (obtain ⟨s0, s1, s2, s3, s4, s5, s6⟩ := hS; go_simp; with_reducible rfl)) ?_; simp only [Act.put, List.setIfInBounds_toArray, List.set_cons_zero, List.set_cons_succ]) | (refine heldI_want rfl rfl (fun w' hS => by (obtain ⟨s0, s1, s2, s3, s4, s5, s6⟩ := hS; go_simp; with_reducible rfl)) ?_; simp only [Act.put, List.setIfInBounds_toArray, List.set_cons_zero, List.set_cons_succ]) | (refine heldI_skip rfl rfl ?_; simp only [Act.put, List.setIfInBounds_toArray, List.set_cons_zero, List.set_cons_succ]))
        refine heldI_nil ?_
        refine anyZ_done (by kernel_rfl) ?_
        clear g0 g1 g2 g3 g4 g5 g6 e0 e1 e2 e3 e4 e5 e6 hcl
        have S7 := hid (S6.out.own HK7.out (fun i (h : i = g) => ⟨h ▸ HYg6.out, by omega⟩))
        have F7 := hid (F6.out.keep HK7.out (fun i h (e : i = g) => h.elim (fun h => HXg6.out (e ▸ h)) (fun h => by omega)))
        go_wp2_with fail
        exact ⟨⟨i + 1, D', ⟨size', down', due', ops', part', keep'⟩, L', .slice aN L'.length cN, X', Y', by simp, rfl, by omega, S7, T6, R6, F7, XY6, HYg6, HXg6, by omega, HB7⟩, by simp [RowKit.intOf]; omega⟩
      · obtain rfl : i = 60 := by omega
        have HD := hid HS.out.done
        go_wp2_with fail
        all_goals go_ret
        all_goals exact ⟨rfl, HD.out⟩
    · have HD := hid HS.out.done
      go_wp2_with fail
      all_goals go_ret
      all_goals exact ⟨rfl, HD.out⟩

theorem dplays_any (room : Int) (v1 : Value) (W : World) (_h0 : (Lit.int .i64 room).wf = true) (h1 : ∃ acts, Acts18 W v1 acts) :
    Calls Tryd.prog 3 #[.int .i64 room, v1] W fun e w' => e = .returned (.bool true) ∧ Below W.heap.size W w' := by
  obtain ⟨acts, h1⟩ := h1
  exact (dplays_row W room h1).mono fun _ _ hh => ⟨hh.1, hh.2.below (fun _ _ h => h.elim) (Nat.le_refl _)⟩

end Go.Proofs.YtlabpmmcmejpmaaDoor.Ref
