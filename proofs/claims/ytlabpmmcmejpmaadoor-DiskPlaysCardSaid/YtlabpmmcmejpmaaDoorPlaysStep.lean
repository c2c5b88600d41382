/- The law's `step`: something is done to both disks; walked. -/
import Derived.Test.YtlabpmmcmejpmaaDoorPlaysIs
import Derived.Test.YtlabpmmcmejpmaaDoorPlaysDo
namespace Go.Proofs.YtlabpmmcmejpmaaDoor.Ref
open Go Go.RowKit Go.Lib Go.Proofs.YtlabpmmcmejpmaaDoor.Dsk Go.Proofs.YtlabpmmcmejpmaaDoor.Wal

theorem slot_seven {w : World} {g : Nat} {cs : Array Value} {t : TypeId} {fr : Nat × Nat} (h : w.heap[g]? = some (.cells cs t fr)) (hs : cs.size = 7) (x0 x1 x2 x3 x4 x5 x6 : Value) : (((((((w.setCell ⟨g, 0, none⟩ x0).setCell ⟨g, 1, none⟩ x1).setCell ⟨g, 2, none⟩ x2).setCell ⟨g, 3, none⟩ x3).setCell ⟨g, 4, none⟩ x4).setCell ⟨g, 5, none⟩ x5).setCell ⟨g, 6, none⟩ x6).heap[g]? = some (.cells #[x0, x1, x2, x3, x4, x5, x6] t fr) := by
  obtain ⟨l⟩ := cs
  match l, hs with
  | [a, b, c, d, e, f, g], _ =>
    rw [heap_setCell_self (heap_setCell_self (heap_setCell_self (heap_setCell_self (heap_setCell_self (heap_setCell_self (heap_setCell_self h x0) x1) x2) x3) x4) x5) x6]
    rfl
/-- What a call on the disk leaves of the blocks from before and of X's. -/
theorem keep_both {W a b : World} {db db' : Nat} {D D' : DiskM} {X Y : Nat → Prop} (S : St W a db D X) (S' : St W b db' D' Y) (k : Keep (fun i => ¬ X i) a b) : Keep (fun i => W.heap.size ≤ i ∧ ¬ X i) a b :=
  ⟨k.os, k.tape, k.output, k.size, fun i hi hn => by
    by_cases hx : X i
    · exact k.block i hi (fun h => h hx)
    · have hW : i < W.heap.size := Nat.lt_of_not_le fun h => hn ⟨h, hx⟩
      rw [S'.kept.block i hW (by omega), S.kept.block i hW (by omega)]⟩
/-- What a step leaves. -/
def Stepped (W w : World) (db : Nat) (X Y : Nat → Prop) (e : Ending) (w' : World) : Prop := ∃ (D' : DiskM) (R' : RefD) (L' : Files) (v' : Value) (X' Y' : Nat → Prop), e = .returned (.tuple #[RefD.val R' v', .bool true]) ∧ St W w' db D' Y' ∧ Tidy D'.files ∧ Rel D' R' L' ∧ FilesAt w' v' L' (fun i => X' i ∨ i < W.heap.size) ∧ (∀ i, Y i → Y' i) ∧ (∀ i, X' i → Y' i) ∧ (∀ i, X' i → X i ∨ w.heap.size ≤ i) ∧ Keep (fun i => W.heap.size ≤ i ∧ ¬ Y i) w w'

set_option maxRecDepth 100000 in
set_option maxHeartbeats 16000000 in
theorem step_any {W w : World} {db : Nat} {D : DiskM} {X Y : Nat → Prop} {L : Files} {v : Value} (hXY : ∀ i, X i → Y i) (S : St W w db D Y) (ht : Tidy D.files) (R : RefD) (hR : Rel D R L) (hF : FilesAt w v L (fun i => X i ∨ i < W.heap.size)) (m : ActM) (hfit : m.Fit) {A : Option Addr} {C : Nat} (hB : BytesIn w (.slice A m.b.length C) m.b (fun i => i < W.heap.size)) (hlen : m.b.length ≤ 1000) :
    Calls Tryd.prog 10 #[ptr db, R.val v, .agg #[.int .i64 m.kind, .string m.name, .string m.to, .slice A m.b.length C, .int .i64 m.n, .int .i64 m.part, .int .i64 m.keep]] w (Stepped W w db X Y) := by
  obtain ⟨ao, cap, hv⟩ := hF.slice
  subst hv
  obtain ⟨size, down, due, ops, part, keep⟩ := R
  have hkn := wf_lt hfit.n
  have hkp := wf_lt hfit.part
  have hkk := wf_lt hfit.keep
  have H := hid hF
  have HXY := hid hXY
  have HS := hid S
  have HR := hid hR
  have HB := hid hB
  have HOK := hid S.ok
  clear hF S hR hB hfit hXY
  unfold RefD.val RefD.cells ptr
  go_enter Tryd.func10, Tryd.ntmps10
  by_cases hk0 : m.kind.tmod 9 = 0
  · go_wp2_with fail
    obtain ⟨wb, hwb⟩ : ∃ wb, ((w.alloc (.cells #[.slice ao L.length cap, .int .i64 size, .bool down, .bool due, .int .i64 ops, .int .i64 part, .int .i64 keep] 28)).alloc (.cells #[.int .i64 m.kind, .string m.name, .string m.to, .slice A m.b.length C, .int .i64 m.n, .int .i64 m.part, .int .i64 m.keep] 33)).alloc (.cells #[.slice none 0 0, .int .i64 0, .bool false, .bool false, .int .i64 0, .int .i64 0, .int .i64 0] 28) = wb := ⟨_, rfl⟩
    have hkb : Keep (fun _ => False) w wb := hwb ▸ (((Keep.refl _ w).alloc _).alloc _).alloc _
    have hszb : wb.heap.size = w.heap.size + 3 := by rw [← hwb]; simp
    have hb0 : wb.heap[w.heap.size]? = some (.cells #[.slice ao L.length cap, .int .i64 size, .bool down, .bool due, .int .i64 ops, .int .i64 part, .int .i64 keep] 28 (0, 0)) := by rw [← hwb, Below.heap_alloc _ _ _ (by simp; omega), Below.heap_alloc _ _ _ (by simp)]; exact heap_alloc_new _ _
    have hb1 : wb.heap[w.heap.size + 1]? = some (.cells #[.int .i64 m.kind, .string m.name, .string m.to, .slice A m.b.length C, .int .i64 m.n, .int .i64 m.part, .int .i64 m.keep] 33 (0, 0)) := by rw [← hwb, Below.heap_alloc _ _ _ (by simp), show w.heap.size + 1 = (w.alloc (.cells #[.slice ao L.length cap, .int .i64 size, .bool down, .bool due, .int .i64 ops, .int .i64 part, .int .i64 keep] 28)).heap.size by simp]; exact heap_alloc_new _ _
    have hb2 : wb.heap[w.heap.size + 1 + 1]? = some (.cells #[.slice none 0 0, .int .i64 0, .bool false, .bool false, .int .i64 0, .int .i64 0, .int .i64 0] 28 (0, 0)) := by rw [← hwb, show w.heap.size + 1 + 1 = ((w.alloc (.cells #[.slice ao L.length cap, .int .i64 size, .bool down, .bool due, .int .i64 ops, .int .i64 part, .int .i64 keep] 28)).alloc (.cells #[.int .i64 m.kind, .string m.name, .string m.to, .slice A m.b.length C, .int .i64 m.n, .int .i64 m.part, .int .i64 m.keep] 33)).heap.size by simp]; exact heap_alloc_new _ _
    rw [hwb]
    have HKB := hid hkb
    have SB := hid (HS.out.more hkb)
    have HB0 := hid hb0
    have HB1 := hid hb1
    have HB2 := hid hb2
    clear hkb hb0 hb1 hb2 hwb
    refine (st_dappend SB.out m.name (HB.out.keep HKB.out (fun _ _ h => h)) (fun i h => .inl h)).mono ?_
    rintro e w1 ⟨rfl, hS1, hK1⟩
    have hT1 := tidy_append ht m.name m.b
    obtain ⟨r, hr⟩ : ∃ r, append D m.name m.b = r := ⟨_, rfl⟩
    rw [hr] at hS1 hT1 ⊢
    have HRR := hid hr
    clear hr
    have S1 := hid hS1
    have HK1 := hid (keep_both SB.out hS1 hK1)
    have hs1 := HK1.out.size
    have hsw := HS.out.size
    have HX := hid (show ∀ i, w.heap.size ≤ i → i < wb.heap.size → ¬ (W.heap.size ≤ i ∧ ¬ (Y i ∨ (w.heap.size ≤ i ∧ i < wb.heap.size))) from fun i h1 h2 hn => hn.2 (.inr ⟨h1, h2⟩))
    have HC0 := hid (HK1.out.at HB0.out (HX.out _ (by omega) (by omega)))
    have HC1 := hid (HK1.out.at HB1.out (HX.out _ (by omega) (by omega)))
    have HC2 := hid (HK1.out.at HB2.out (HX.out _ (by omega) (by omega)))
    have HN1 := hid (show ∀ i, (X i ∨ i < W.heap.size) → ¬ (W.heap.size ≤ i ∧ ¬ (Y i ∨ (w.heap.size ≤ i ∧ i < wb.heap.size))) from fun i h hn => h.elim (fun h => hn.2 (.inl (HXY.out i h))) (fun h => by omega))
    have H1 := hid ((H.out.keep HKB.out (fun _ _ h => h)).keep HK1.out HN1.out)
    have HG1 := hid (show ∀ i, (X i ∨ i < W.heap.size) → i < w1.heap.size from fun i h => h.elim (fun h => by have := HS.out.sub i (HXY.out i h); omega) (fun h => by omega))
    clear hS1 hK1
    have c0 : w1.cell? ⟨w.heap.size, 0, none⟩ = some (.slice ao L.length cap) := by rw [cell_at HC0.out]; rfl
    have c1 : w1.cell? ⟨w.heap.size, 1, none⟩ = some (.int .i64 size) := by rw [cell_at HC0.out]; rfl
    have c2 : w1.cell? ⟨w.heap.size, 2, none⟩ = some (.bool down) := by rw [cell_at HC0.out]; rfl
    have c3 : w1.cell? ⟨w.heap.size, 3, none⟩ = some (.bool due) := by rw [cell_at HC0.out]; rfl
    have c4 : w1.cell? ⟨w.heap.size, 4, none⟩ = some (.int .i64 ops) := by rw [cell_at HC0.out]; rfl
    have c5 : w1.cell? ⟨w.heap.size, 5, none⟩ = some (.int .i64 part) := by rw [cell_at HC0.out]; rfl
    have c6 : w1.cell? ⟨w.heap.size, 6, none⟩ = some (.int .i64 keep) := by rw [cell_at HC0.out]; rfl
    have d0 : w1.cell? ⟨w.heap.size + 1, 0, none⟩ = some (.int .i64 m.kind) := by rw [cell_at HC1.out]; rfl
    have d1 : w1.cell? ⟨w.heap.size + 1, 1, none⟩ = some (.string m.name) := by rw [cell_at HC1.out]; rfl
    have d2 : w1.cell? ⟨w.heap.size + 1, 2, none⟩ = some (.string m.to) := by rw [cell_at HC1.out]; rfl
    have d3 : w1.cell? ⟨w.heap.size + 1, 3, none⟩ = some (.slice A m.b.length C) := by rw [cell_at HC1.out]; rfl
    have d4 : w1.cell? ⟨w.heap.size + 1, 4, none⟩ = some (.int .i64 m.n) := by rw [cell_at HC1.out]; rfl
    have d5 : w1.cell? ⟨w.heap.size + 1, 5, none⟩ = some (.int .i64 m.part) := by rw [cell_at HC1.out]; rfl
    have d6 : w1.cell? ⟨w.heap.size + 1, 6, none⟩ = some (.int .i64 m.keep) := by rw [cell_at HC1.out]; rfl
    go_wp2_with fail
    refine (do_append HR.out HOK.out ht H1.out HG1.out m.name ⟨#[]⟩ (bytes_more ((HB.out.keep HKB.out (fun _ _ h => h)).keep HK1.out (fun i h hn => by omega)) (fun i _ h => .inr h)) hlen 0).mono ?_
    rintro e w2 ⟨vN, ⟨size', down', due', ops', part', keep'⟩, L', rfl, hRN, hF2, hK2⟩
    rw [HRR.out] at hRN ⊢
    obtain ⟨aN, cN, hvN⟩ := hF2.slice
    subst hvN
    have HRN := hid hRN
    have H2 := hid (hF2.mono (G' := fun i => (X i ∨ i < W.heap.size) ∨ (w1.heap.size ≤ i ∧ i < w2.heap.size)) (fun i hi h => h.imp id (fun h => ⟨h, hi⟩)))
    have hs2 := hK2.size
    have S2 := hid (S1.out.more hK2)
    have HE0 := hid (hK2.at HC0.out (fun h => h))
    have HE2 := hid (hK2.at HC2.out (fun h => h))
    have HKa := hid (HK1.out.trans hK2 (fun _ _ h => h.elim))
    clear hF2 hRN hK2 c0 c1 c2 c3 c4 c5 c6 d0 d1 d2 d3 d4 d5 d6
    unfold RefD.val RefD.cells
    have c0 : w2.cell? ⟨w.heap.size, 0, none⟩ = some (.slice ao L.length cap) := by rw [cell_at HE0.out]; rfl
    have c1 : w2.cell? ⟨w.heap.size, 1, none⟩ = some (.int .i64 size) := by rw [cell_at HE0.out]; rfl
    have c2 : w2.cell? ⟨w.heap.size, 2, none⟩ = some (.bool down) := by rw [cell_at HE0.out]; rfl
    have c3 : w2.cell? ⟨w.heap.size, 3, none⟩ = some (.bool due) := by rw [cell_at HE0.out]; rfl
    have c4 : w2.cell? ⟨w.heap.size, 4, none⟩ = some (.int .i64 ops) := by rw [cell_at HE0.out]; rfl
    have c5 : w2.cell? ⟨w.heap.size, 5, none⟩ = some (.int .i64 part) := by rw [cell_at HE0.out]; rfl
    have c6 : w2.cell? ⟨w.heap.size, 6, none⟩ = some (.int .i64 keep) := by rw [cell_at HE0.out]; rfl
    have f0 : w2.frozen? ⟨w.heap.size, 0, none⟩ = false := frozen_at HE0.out _
    have f1 : w2.frozen? ⟨w.heap.size, 1, none⟩ = false := frozen_at HE0.out _
    have f2 : w2.frozen? ⟨w.heap.size, 2, none⟩ = false := frozen_at HE0.out _
    have f3 : w2.frozen? ⟨w.heap.size, 3, none⟩ = false := frozen_at HE0.out _
    have f4 : w2.frozen? ⟨w.heap.size, 4, none⟩ = false := frozen_at HE0.out _
    have f5 : w2.frozen? ⟨w.heap.size, 5, none⟩ = false := frozen_at HE0.out _
    have f6 : w2.frozen? ⟨w.heap.size, 6, none⟩ = false := frozen_at HE0.out _
    go_wp2_with fail
    obtain ⟨w5, hw5⟩ : ∃ w5, (((((((w2.setCell ⟨w.heap.size, 0, none⟩ (.slice aN L'.length cN)).setCell ⟨w.heap.size, 1, none⟩ (.int .i64 size')).setCell ⟨w.heap.size, 2, none⟩ (.bool down')).setCell ⟨w.heap.size, 3, none⟩ (.bool due')).setCell ⟨w.heap.size, 4, none⟩ (.int .i64 ops')).setCell ⟨w.heap.size, 5, none⟩ (.int .i64 part')).setCell ⟨w.heap.size, 6, none⟩ (.int .i64 keep')) = w5 := ⟨_, rfl⟩
    rw [hw5]
    have HK5 := hid (show Keep (fun i => i = w.heap.size) w2 w5 from hw5 ▸ ((((((((Keep.refl (fun i => i = w.heap.size) w2).setCell (p := ⟨w.heap.size, 0, none⟩) (fun _ => rfl) (.slice aN L'.length cN)).setCell (p := ⟨w.heap.size, 1, none⟩) (fun _ => rfl) (.int .i64 size')).setCell (p := ⟨w.heap.size, 2, none⟩) (fun _ => rfl) (.bool down')).setCell (p := ⟨w.heap.size, 3, none⟩) (fun _ => rfl) (.bool due')).setCell (p := ⟨w.heap.size, 4, none⟩) (fun _ => rfl) (.int .i64 ops')).setCell (p := ⟨w.heap.size, 5, none⟩) (fun _ => rfl) (.int .i64 part')).setCell (p := ⟨w.heap.size, 6, none⟩) (fun _ => rfl) (.int .i64 keep')))
    have HN5 := hid (show w5.heap[w.heap.size]? = some (.cells #[.slice aN L'.length cN, .int .i64 size', .bool down', .bool due', .int .i64 ops', .int .i64 part', .int .i64 keep'] 28 (0, 0)) from hw5 ▸ slot_seven HE0.out rfl (.slice aN L'.length cN) (.int .i64 size') (.bool down') (.bool due') (.int .i64 ops') (.int .i64 part') (.int .i64 keep'))
    have HZ5 := hid (HK5.out.at HE2.out (by omega))
    have S5 := hid (S2.out.own HK5.out (fun i (h : i = w.heap.size) => ⟨.inl (.inr ⟨by omega, by omega⟩), by omega⟩))
    have H5 := hid (H2.out.keep HK5.out (fun i h (e : i = w.heap.size) => by rcases h with (h | h) | h; have := HS.out.sub i (HXY.out i h); omega; omega; omega))
    have hs5 := HK5.out.size
    clear hw5 c0 c1 c2 c3 c4 c5 c6 f0 f1 f2 f3 f4 f5 f6
    have a0 : w5.cell? ⟨w.heap.size, 0, none⟩ = some (.slice aN L'.length cN) := by rw [cell_at HN5.out]; rfl
    have a1 : w5.cell? ⟨w.heap.size, 1, none⟩ = some (.int .i64 size') := by rw [cell_at HN5.out]; rfl
    have a2 : w5.cell? ⟨w.heap.size, 2, none⟩ = some (.bool down') := by rw [cell_at HN5.out]; rfl
    have a3 : w5.cell? ⟨w.heap.size, 3, none⟩ = some (.bool due') := by rw [cell_at HN5.out]; rfl
    have a4 : w5.cell? ⟨w.heap.size, 4, none⟩ = some (.int .i64 ops') := by rw [cell_at HN5.out]; rfl
    have a5 : w5.cell? ⟨w.heap.size, 5, none⟩ = some (.int .i64 part') := by rw [cell_at HN5.out]; rfl
    have a6 : w5.cell? ⟨w.heap.size, 6, none⟩ = some (.int .i64 keep') := by rw [cell_at HN5.out]; rfl
    refine wp_region_heldi [0, 1, 2, 3, 4, 5, 6] 100 4 (fun w' => w'.cell? ⟨w.heap.size, 0, none⟩ = some (.slice aN L'.length cN) ∧ w'.cell? ⟨w.heap.size, 1, none⟩ = some (.int .i64 size') ∧ w'.cell? ⟨w.heap.size, 2, none⟩ = some (.bool down') ∧ w'.cell? ⟨w.heap.size, 3, none⟩ = some (.bool due') ∧ w'.cell? ⟨w.heap.size, 4, none⟩ = some (.int .i64 ops') ∧ w'.cell? ⟨w.heap.size, 5, none⟩ = some (.int .i64 part') ∧ w'.cell? ⟨w.heap.size, 6, none⟩ = some (.int .i64 keep')) (by kernel_rfl) (by kernel_rfl) (by kernel_rfl) ⟨a0, a1, a2, a3, a4, a5, a6⟩ (fun d _ _ _ _ h => by cases d <;> exact h) ?_
    iterate 7 (first | (refine heldI_step rfl rfl (fun w' hS => by (obtain ⟨s0, s1, s2, s3, s4, s5, s6⟩ := hS; go_simp; with_reducible rfl)) ?_; simp only [Act.put, List.setIfInBounds_toArray, List.set_cons_zero, List.set_cons_succ]) | (refine heldI_want rfl rfl (fun w' hS => by (obtain ⟨s0, s1, s2, s3, s4, s5, s6⟩ := hS; go_simp; with_reducible rfl)) ?_; simp only [Act.put, List.setIfInBounds_toArray, List.set_cons_zero, List.set_cons_succ]) | (refine heldI_skip rfl rfl ?_; simp only [Act.put, List.setIfInBounds_toArray, List.set_cons_zero, List.set_cons_succ]))
    refine heldI_nil ?_
    refine anyZ_next' (j := 7) (by kernel_rfl) rfl rfl ?_
    go_simp
    have kd := keep_drawn' w5 (w5.drawn + 1)
    refine (is_any (S5.out.keep kd) hT1 ⟨size', down', due', ops', part', keep'⟩ HRN.out (H5.out.keep kd (fun _ _ h => h))).mono ?_
    rintro e w6 ⟨rfl, hK6⟩
    have HK6 := hid (kd.trans hK6 (fun _ _ h => h))
    have HN6 := hid (HK6.out.at HN5.out (fun h => h))
    have HZ6 := hid (HK6.out.at HZ5.out (fun h => h))
    have hs6 : w5.heap.size ≤ w6.heap.size := HK6.out.size
    clear kd hK6 a0 a1 a2 a3 a4 a5 a6
    have b0 : w6.cell? ⟨w.heap.size, 0, none⟩ = some (.slice aN L'.length cN) := by rw [cell_at HN6.out]; rfl
    have b1 : w6.cell? ⟨w.heap.size, 1, none⟩ = some (.int .i64 size') := by rw [cell_at HN6.out]; rfl
    have b2 : w6.cell? ⟨w.heap.size, 2, none⟩ = some (.bool down') := by rw [cell_at HN6.out]; rfl
    have b3 : w6.cell? ⟨w.heap.size, 3, none⟩ = some (.bool due') := by rw [cell_at HN6.out]; rfl
    have b4 : w6.cell? ⟨w.heap.size, 4, none⟩ = some (.int .i64 ops') := by rw [cell_at HN6.out]; rfl
    have b5 : w6.cell? ⟨w.heap.size, 5, none⟩ = some (.int .i64 part') := by rw [cell_at HN6.out]; rfl
    have b6 : w6.cell? ⟨w.heap.size, 6, none⟩ = some (.int .i64 keep') := by rw [cell_at HN6.out]; rfl
    refine ⟨⟨b0, b1, b2, b3, b4, b5, b6⟩, ?_⟩
    refine heldI_run (t := 2) (by kernel_rfl) (fun d _ _ _ _ h => by cases d <;> exact h) w6 ⟨b0, b1, b2, b3, b4, b5, b6⟩ [8] _ _ (by kernel_rfl) ?_
    iterate 1 (first | (refine heldI_step rfl rfl (fun w' hS => by (obtain ⟨s0, s1, s2, s3, s4, s5, s6⟩ := hS; go_simp; with_reducible rfl)) ?_; simp only [Act.put, List.setIfInBounds_toArray, List.set_cons_zero, List.set_cons_succ]) | (refine heldI_want rfl rfl (fun w' hS => by (obtain ⟨s0, s1, s2, s3, s4, s5, s6⟩ := hS; go_simp; with_reducible rfl)) ?_; simp only [Act.put, List.setIfInBounds_toArray, List.set_cons_zero, List.set_cons_succ]) | (refine heldI_skip rfl rfl ?_; simp only [Act.put, List.setIfInBounds_toArray, List.set_cons_zero, List.set_cons_succ]))
    refine heldI_nil ?_
    clear b0 b1 b2 b3 b4 b5 b6
    have z0 : w6.cell? ⟨w.heap.size + 1 + 1, 0, none⟩ = some (.slice none 0 0) := by rw [cell_at HZ6.out]; rfl
    have z1 : w6.cell? ⟨w.heap.size + 1 + 1, 1, none⟩ = some (.int .i64 0) := by rw [cell_at HZ6.out]; rfl
    have z2 : w6.cell? ⟨w.heap.size + 1 + 1, 2, none⟩ = some (.bool false) := by rw [cell_at HZ6.out]; rfl
    have z3 : w6.cell? ⟨w.heap.size + 1 + 1, 3, none⟩ = some (.bool false) := by rw [cell_at HZ6.out]; rfl
    have z4 : w6.cell? ⟨w.heap.size + 1 + 1, 4, none⟩ = some (.int .i64 0) := by rw [cell_at HZ6.out]; rfl
    have z5 : w6.cell? ⟨w.heap.size + 1 + 1, 5, none⟩ = some (.int .i64 0) := by rw [cell_at HZ6.out]; rfl
    have z6 : w6.cell? ⟨w.heap.size + 1 + 1, 6, none⟩ = some (.int .i64 0) := by rw [cell_at HZ6.out]; rfl
    have y0 : w6.frozen? ⟨w.heap.size + 1 + 1, 0, none⟩ = false := frozen_at HZ6.out _
    have y1 : w6.frozen? ⟨w.heap.size + 1 + 1, 1, none⟩ = false := frozen_at HZ6.out _
    have y2 : w6.frozen? ⟨w.heap.size + 1 + 1, 2, none⟩ = false := frozen_at HZ6.out _
    have y3 : w6.frozen? ⟨w.heap.size + 1 + 1, 3, none⟩ = false := frozen_at HZ6.out _
    have y4 : w6.frozen? ⟨w.heap.size + 1 + 1, 4, none⟩ = false := frozen_at HZ6.out _
    have y5 : w6.frozen? ⟨w.heap.size + 1 + 1, 5, none⟩ = false := frozen_at HZ6.out _
    have y6 : w6.frozen? ⟨w.heap.size + 1 + 1, 6, none⟩ = false := frozen_at HZ6.out _
    refine anyZ_next' (j := 9) (by kernel_rfl) rfl rfl ?_
    go_simp
    clear z0 z1 z2 z3 z4 z5 z6 y0 y1 y2 y3 y4 y5 y6
    obtain ⟨w7, hw7⟩ : ∃ w7, (((((((w6.setCell ⟨w.heap.size + 1 + 1, 0, none⟩ (.slice aN L'.length cN)).setCell ⟨w.heap.size + 1 + 1, 1, none⟩ (.int .i64 size')).setCell ⟨w.heap.size + 1 + 1, 2, none⟩ (.bool down')).setCell ⟨w.heap.size + 1 + 1, 3, none⟩ (.bool due')).setCell ⟨w.heap.size + 1 + 1, 4, none⟩ (.int .i64 ops')).setCell ⟨w.heap.size + 1 + 1, 5, none⟩ (.int .i64 part')).setCell ⟨w.heap.size + 1 + 1, 6, none⟩ (.int .i64 keep')) = w7 := ⟨_, rfl⟩
    rw [hw7]
    have HK7 := hid (show Keep (fun i => i = w.heap.size + 1 + 1) w6 w7 from hw7 ▸ ((((((((Keep.refl (fun i => i = w.heap.size + 1 + 1) w6).setCell (p := ⟨w.heap.size + 1 + 1, 0, none⟩) (fun _ => rfl) (.slice aN L'.length cN)).setCell (p := ⟨w.heap.size + 1 + 1, 1, none⟩) (fun _ => rfl) (.int .i64 size')).setCell (p := ⟨w.heap.size + 1 + 1, 2, none⟩) (fun _ => rfl) (.bool down')).setCell (p := ⟨w.heap.size + 1 + 1, 3, none⟩) (fun _ => rfl) (.bool due')).setCell (p := ⟨w.heap.size + 1 + 1, 4, none⟩) (fun _ => rfl) (.int .i64 ops')).setCell (p := ⟨w.heap.size + 1 + 1, 5, none⟩) (fun _ => rfl) (.int .i64 part')).setCell (p := ⟨w.heap.size + 1 + 1, 6, none⟩) (fun _ => rfl) (.int .i64 keep')))
    have HN7 := hid (HK7.out.at HN6.out (by omega))
    have HZ7 := hid (show w7.heap[w.heap.size + 1 + 1]? = some (.cells #[.slice aN L'.length cN, .int .i64 size', .bool down', .bool due', .int .i64 ops', .int .i64 part', .int .i64 keep'] 28 (0, 0)) from hw7 ▸ slot_seven HZ6.out rfl (.slice aN L'.length cN) (.int .i64 size') (.bool down') (.bool due') (.int .i64 ops') (.int .i64 part') (.int .i64 keep'))
    clear hw7
    have b0 : w7.cell? ⟨w.heap.size, 0, none⟩ = some (.slice aN L'.length cN) := by rw [cell_at HN7.out]; rfl
    have b1 : w7.cell? ⟨w.heap.size, 1, none⟩ = some (.int .i64 size') := by rw [cell_at HN7.out]; rfl
    have b2 : w7.cell? ⟨w.heap.size, 2, none⟩ = some (.bool down') := by rw [cell_at HN7.out]; rfl
    have b3 : w7.cell? ⟨w.heap.size, 3, none⟩ = some (.bool due') := by rw [cell_at HN7.out]; rfl
    have b4 : w7.cell? ⟨w.heap.size, 4, none⟩ = some (.int .i64 ops') := by rw [cell_at HN7.out]; rfl
    have b5 : w7.cell? ⟨w.heap.size, 5, none⟩ = some (.int .i64 part') := by rw [cell_at HN7.out]; rfl
    have b6 : w7.cell? ⟨w.heap.size, 6, none⟩ = some (.int .i64 keep') := by rw [cell_at HN7.out]; rfl
    have g0 : w6.cell? ⟨w.heap.size, 0, none⟩ = some (.slice aN L'.length cN) := by rw [cell_at HN6.out]; rfl
    have g1 : w6.cell? ⟨w.heap.size, 1, none⟩ = some (.int .i64 size') := by rw [cell_at HN6.out]; rfl
    have g2 : w6.cell? ⟨w.heap.size, 2, none⟩ = some (.bool down') := by rw [cell_at HN6.out]; rfl
    have g3 : w6.cell? ⟨w.heap.size, 3, none⟩ = some (.bool due') := by rw [cell_at HN6.out]; rfl
    have g4 : w6.cell? ⟨w.heap.size, 4, none⟩ = some (.int .i64 ops') := by rw [cell_at HN6.out]; rfl
    have g5 : w6.cell? ⟨w.heap.size, 5, none⟩ = some (.int .i64 part') := by rw [cell_at HN6.out]; rfl
    have g6 : w6.cell? ⟨w.heap.size, 6, none⟩ = some (.int .i64 keep') := by rw [cell_at HN6.out]; rfl
    refine ⟨by refine ⟨?_, ?_, ?_, ?_, ?_, ?_, ?_⟩ <;> first | exact b0 | exact b1 | exact b2 | exact b3 | exact b4 | exact b5 | exact b6 | exact g0 | exact g1 | exact g2 | exact g3 | exact g4 | exact g5 | exact g6, ?_⟩
    refine heldI_run (t := 0) (by kernel_rfl) (fun d _ _ _ _ h => by cases d <;> exact h) w7 ⟨b0, b1, b2, b3, b4, b5, b6⟩ [10] _ _ (by kernel_rfl) ?_
    iterate 1 (first | (refine heldI_step rfl rfl (fun w' hS => by (obtain ⟨s0, s1, s2, s3, s4, s5, s6⟩ := hS; go_simp; with_reducible rfl)) ?_; simp only [Act.put, List.setIfInBounds_toArray, List.set_cons_zero, List.set_cons_succ]) | (refine heldI_want rfl rfl (fun w' hS => by (obtain ⟨s0, s1, s2, s3, s4, s5, s6⟩ := hS; go_simp; with_reducible rfl)) ?_; simp only [Act.put, List.setIfInBounds_toArray, List.set_cons_zero, List.set_cons_succ]) | (refine heldI_skip rfl rfl ?_; simp only [Act.put, List.setIfInBounds_toArray, List.set_cons_zero, List.set_cons_succ]))
    refine heldI_nil ?_
    refine anyZ_done (by kernel_rfl) ?_
    clear b0 b1 b2 b3 b4 b5 b6 g0 g1 g2 g3 g4 g5 g6
    have b0 : w7.cell? ⟨w.heap.size + 1 + 1, 0, none⟩ = some (.slice aN L'.length cN) := by rw [cell_at HZ7.out]; rfl
    have b1 : w7.cell? ⟨w.heap.size + 1 + 1, 1, none⟩ = some (.int .i64 size') := by rw [cell_at HZ7.out]; rfl
    have b2 : w7.cell? ⟨w.heap.size + 1 + 1, 2, none⟩ = some (.bool down') := by rw [cell_at HZ7.out]; rfl
    have b3 : w7.cell? ⟨w.heap.size + 1 + 1, 3, none⟩ = some (.bool due') := by rw [cell_at HZ7.out]; rfl
    have b4 : w7.cell? ⟨w.heap.size + 1 + 1, 4, none⟩ = some (.int .i64 ops') := by rw [cell_at HZ7.out]; rfl
    have b5 : w7.cell? ⟨w.heap.size + 1 + 1, 5, none⟩ = some (.int .i64 part') := by rw [cell_at HZ7.out]; rfl
    have b6 : w7.cell? ⟨w.heap.size + 1 + 1, 6, none⟩ = some (.int .i64 keep') := by rw [cell_at HZ7.out]; rfl
    go_wp2_with fail
    refine bodyPost_ret (v := .tuple #[RefD.val ⟨size', down', due', ops', part', keep'⟩ (.slice aN L'.length cN), .bool true]) (by rw [results_cell2 rfl]; go_simp; rfl) rfl ⟨r.1, _, _, _, fun i => X i ∨ (w1.heap.size ≤ i ∧ i < w2.heap.size), _, rfl, (S5.out.keep HK6.out).own HK7.out (fun i (h : i = w.heap.size + 1 + 1) => ⟨.inl (.inr ⟨by omega, by omega⟩), by omega⟩), hT1, HRN.out, ((H5.out.keep HK6.out (fun _ _ h => h)).keep HK7.out (fun i h (e : i = w.heap.size + 1 + 1) => by rcases h with (h | h) | h; have := HS.out.sub i (HXY.out i h); omega; omega; omega)).mono (fun i hi h => by rcases h with (h | h) | h; exact .inl (.inl h); exact .inr h; exact .inl (.inr h)), fun i h => .inl (.inl h), fun i h => h.elim (fun h => .inl (.inl (HXY.out i h))) .inr, fun i h => h.imp id (fun h => by omega), (((((HKB.out.mono (fun _ _ h => h.elim)).trans HKa.out (fun i hi h => ⟨h.1, fun hx => h.2 (.inl hx)⟩)).trans HK5.out (fun i hi (h : i = w.heap.size) => by omega)).trans HK6.out (fun i hi h => h.elim)).trans HK7.out (fun i hi (h : i = w.heap.size + 1 + 1) => by omega))⟩
  by_cases hk1 : m.kind.tmod 9 = 1
  · go_wp2_with fail
    obtain ⟨wb, hwb⟩ : ∃ wb, ((w.alloc (.cells #[.slice ao L.length cap, .int .i64 size, .bool down, .bool due, .int .i64 ops, .int .i64 part, .int .i64 keep] 28)).alloc (.cells #[.int .i64 m.kind, .string m.name, .string m.to, .slice A m.b.length C, .int .i64 m.n, .int .i64 m.part, .int .i64 m.keep] 33)).alloc (.cells #[.slice none 0 0, .int .i64 0, .bool false, .bool false, .int .i64 0, .int .i64 0, .int .i64 0] 28) = wb := ⟨_, rfl⟩
    have hkb : Keep (fun _ => False) w wb := hwb ▸ (((Keep.refl _ w).alloc _).alloc _).alloc _
    have hszb : wb.heap.size = w.heap.size + 3 := by rw [← hwb]; simp
    have hb0 : wb.heap[w.heap.size]? = some (.cells #[.slice ao L.length cap, .int .i64 size, .bool down, .bool due, .int .i64 ops, .int .i64 part, .int .i64 keep] 28 (0, 0)) := by rw [← hwb, Below.heap_alloc _ _ _ (by simp; omega), Below.heap_alloc _ _ _ (by simp)]; exact heap_alloc_new _ _
    have hb1 : wb.heap[w.heap.size + 1]? = some (.cells #[.int .i64 m.kind, .string m.name, .string m.to, .slice A m.b.length C, .int .i64 m.n, .int .i64 m.part, .int .i64 m.keep] 33 (0, 0)) := by rw [← hwb, Below.heap_alloc _ _ _ (by simp), show w.heap.size + 1 = (w.alloc (.cells #[.slice ao L.length cap, .int .i64 size, .bool down, .bool due, .int .i64 ops, .int .i64 part, .int .i64 keep] 28)).heap.size by simp]; exact heap_alloc_new _ _
    have hb2 : wb.heap[w.heap.size + 1 + 1]? = some (.cells #[.slice none 0 0, .int .i64 0, .bool false, .bool false, .int .i64 0, .int .i64 0, .int .i64 0] 28 (0, 0)) := by rw [← hwb, show w.heap.size + 1 + 1 = ((w.alloc (.cells #[.slice ao L.length cap, .int .i64 size, .bool down, .bool due, .int .i64 ops, .int .i64 part, .int .i64 keep] 28)).alloc (.cells #[.int .i64 m.kind, .string m.name, .string m.to, .slice A m.b.length C, .int .i64 m.n, .int .i64 m.part, .int .i64 m.keep] 33)).heap.size by simp]; exact heap_alloc_new _ _
    rw [hwb]
    have HKB := hid hkb
    have SB := hid (HS.out.more hkb)
    have HB0 := hid hb0
    have HB1 := hid hb1
    have HB2 := hid hb2
    clear hkb hb0 hb1 hb2 hwb
    refine (st_dappend SB.out m.name (HB.out.keep HKB.out (fun _ _ h => h)) (fun i h => .inl h)).mono ?_
    rintro e w1 ⟨rfl, hS1, hK1⟩
    have hT1 := tidy_append ht m.name m.b
    obtain ⟨r, hr⟩ : ∃ r, append D m.name m.b = r := ⟨_, rfl⟩
    rw [hr] at hS1 hT1 ⊢
    have HRR := hid hr
    clear hr
    have S1 := hid hS1
    have HK1 := hid (keep_both SB.out hS1 hK1)
    have hs1 := HK1.out.size
    have hsw := HS.out.size
    have HX := hid (show ∀ i, w.heap.size ≤ i → i < wb.heap.size → ¬ (W.heap.size ≤ i ∧ ¬ (Y i ∨ (w.heap.size ≤ i ∧ i < wb.heap.size))) from fun i h1 h2 hn => hn.2 (.inr ⟨h1, h2⟩))
    have HC0 := hid (HK1.out.at HB0.out (HX.out _ (by omega) (by omega)))
    have HC1 := hid (HK1.out.at HB1.out (HX.out _ (by omega) (by omega)))
    have HC2 := hid (HK1.out.at HB2.out (HX.out _ (by omega) (by omega)))
    have HN1 := hid (show ∀ i, (X i ∨ i < W.heap.size) → ¬ (W.heap.size ≤ i ∧ ¬ (Y i ∨ (w.heap.size ≤ i ∧ i < wb.heap.size))) from fun i h hn => h.elim (fun h => hn.2 (.inl (HXY.out i h))) (fun h => by omega))
    have H1 := hid ((H.out.keep HKB.out (fun _ _ h => h)).keep HK1.out HN1.out)
    have HG1 := hid (show ∀ i, (X i ∨ i < W.heap.size) → i < w1.heap.size from fun i h => h.elim (fun h => by have := HS.out.sub i (HXY.out i h); omega) (fun h => by omega))
    clear hS1 hK1
    have c0 : w1.cell? ⟨w.heap.size, 0, none⟩ = some (.slice ao L.length cap) := by rw [cell_at HC0.out]; rfl
    have c1 : w1.cell? ⟨w.heap.size, 1, none⟩ = some (.int .i64 size) := by rw [cell_at HC0.out]; rfl
    have c2 : w1.cell? ⟨w.heap.size, 2, none⟩ = some (.bool down) := by rw [cell_at HC0.out]; rfl
    have c3 : w1.cell? ⟨w.heap.size, 3, none⟩ = some (.bool due) := by rw [cell_at HC0.out]; rfl
    have c4 : w1.cell? ⟨w.heap.size, 4, none⟩ = some (.int .i64 ops) := by rw [cell_at HC0.out]; rfl
    have c5 : w1.cell? ⟨w.heap.size, 5, none⟩ = some (.int .i64 part) := by rw [cell_at HC0.out]; rfl
    have c6 : w1.cell? ⟨w.heap.size, 6, none⟩ = some (.int .i64 keep) := by rw [cell_at HC0.out]; rfl
    have d0 : w1.cell? ⟨w.heap.size + 1, 0, none⟩ = some (.int .i64 m.kind) := by rw [cell_at HC1.out]; rfl
    have d1 : w1.cell? ⟨w.heap.size + 1, 1, none⟩ = some (.string m.name) := by rw [cell_at HC1.out]; rfl
    have d2 : w1.cell? ⟨w.heap.size + 1, 2, none⟩ = some (.string m.to) := by rw [cell_at HC1.out]; rfl
    have d3 : w1.cell? ⟨w.heap.size + 1, 3, none⟩ = some (.slice A m.b.length C) := by rw [cell_at HC1.out]; rfl
    have d4 : w1.cell? ⟨w.heap.size + 1, 4, none⟩ = some (.int .i64 m.n) := by rw [cell_at HC1.out]; rfl
    have d5 : w1.cell? ⟨w.heap.size + 1, 5, none⟩ = some (.int .i64 m.part) := by rw [cell_at HC1.out]; rfl
    have d6 : w1.cell? ⟨w.heap.size + 1, 6, none⟩ = some (.int .i64 m.keep) := by rw [cell_at HC1.out]; rfl
    go_wp2_with fail
    refine (do_append HR.out HOK.out ht H1.out HG1.out m.name ⟨#[]⟩ (bytes_more ((HB.out.keep HKB.out (fun _ _ h => h)).keep HK1.out (fun i h hn => by omega)) (fun i _ h => .inr h)) hlen 0).mono ?_
    rintro e w2 ⟨vN, ⟨size', down', due', ops', part', keep'⟩, L', rfl, hRN, hF2, hK2⟩
    rw [HRR.out] at hRN ⊢
    obtain ⟨aN, cN, hvN⟩ := hF2.slice
    subst hvN
    have HRN := hid hRN
    have H2 := hid (hF2.mono (G' := fun i => (X i ∨ i < W.heap.size) ∨ (w1.heap.size ≤ i ∧ i < w2.heap.size)) (fun i hi h => h.imp id (fun h => ⟨h, hi⟩)))
    have hs2 := hK2.size
    have S2 := hid (S1.out.more hK2)
    have HE0 := hid (hK2.at HC0.out (fun h => h))
    have HE2 := hid (hK2.at HC2.out (fun h => h))
    have HKa := hid (HK1.out.trans hK2 (fun _ _ h => h.elim))
    clear hF2 hRN hK2 c0 c1 c2 c3 c4 c5 c6 d0 d1 d2 d3 d4 d5 d6
    unfold RefD.val RefD.cells
    have c0 : w2.cell? ⟨w.heap.size, 0, none⟩ = some (.slice ao L.length cap) := by rw [cell_at HE0.out]; rfl
    have c1 : w2.cell? ⟨w.heap.size, 1, none⟩ = some (.int .i64 size) := by rw [cell_at HE0.out]; rfl
    have c2 : w2.cell? ⟨w.heap.size, 2, none⟩ = some (.bool down) := by rw [cell_at HE0.out]; rfl
    have c3 : w2.cell? ⟨w.heap.size, 3, none⟩ = some (.bool due) := by rw [cell_at HE0.out]; rfl
    have c4 : w2.cell? ⟨w.heap.size, 4, none⟩ = some (.int .i64 ops) := by rw [cell_at HE0.out]; rfl
    have c5 : w2.cell? ⟨w.heap.size, 5, none⟩ = some (.int .i64 part) := by rw [cell_at HE0.out]; rfl
    have c6 : w2.cell? ⟨w.heap.size, 6, none⟩ = some (.int .i64 keep) := by rw [cell_at HE0.out]; rfl
    have f0 : w2.frozen? ⟨w.heap.size, 0, none⟩ = false := frozen_at HE0.out _
    have f1 : w2.frozen? ⟨w.heap.size, 1, none⟩ = false := frozen_at HE0.out _
    have f2 : w2.frozen? ⟨w.heap.size, 2, none⟩ = false := frozen_at HE0.out _
    have f3 : w2.frozen? ⟨w.heap.size, 3, none⟩ = false := frozen_at HE0.out _
    have f4 : w2.frozen? ⟨w.heap.size, 4, none⟩ = false := frozen_at HE0.out _
    have f5 : w2.frozen? ⟨w.heap.size, 5, none⟩ = false := frozen_at HE0.out _
    have f6 : w2.frozen? ⟨w.heap.size, 6, none⟩ = false := frozen_at HE0.out _
    go_wp2_with fail
    obtain ⟨w5, hw5⟩ : ∃ w5, (((((((w2.setCell ⟨w.heap.size, 0, none⟩ (.slice aN L'.length cN)).setCell ⟨w.heap.size, 1, none⟩ (.int .i64 size')).setCell ⟨w.heap.size, 2, none⟩ (.bool down')).setCell ⟨w.heap.size, 3, none⟩ (.bool due')).setCell ⟨w.heap.size, 4, none⟩ (.int .i64 ops')).setCell ⟨w.heap.size, 5, none⟩ (.int .i64 part')).setCell ⟨w.heap.size, 6, none⟩ (.int .i64 keep')) = w5 := ⟨_, rfl⟩
    rw [hw5]
    have HK5 := hid (show Keep (fun i => i = w.heap.size) w2 w5 from hw5 ▸ ((((((((Keep.refl (fun i => i = w.heap.size) w2).setCell (p := ⟨w.heap.size, 0, none⟩) (fun _ => rfl) (.slice aN L'.length cN)).setCell (p := ⟨w.heap.size, 1, none⟩) (fun _ => rfl) (.int .i64 size')).setCell (p := ⟨w.heap.size, 2, none⟩) (fun _ => rfl) (.bool down')).setCell (p := ⟨w.heap.size, 3, none⟩) (fun _ => rfl) (.bool due')).setCell (p := ⟨w.heap.size, 4, none⟩) (fun _ => rfl) (.int .i64 ops')).setCell (p := ⟨w.heap.size, 5, none⟩) (fun _ => rfl) (.int .i64 part')).setCell (p := ⟨w.heap.size, 6, none⟩) (fun _ => rfl) (.int .i64 keep')))
    have HN5 := hid (show w5.heap[w.heap.size]? = some (.cells #[.slice aN L'.length cN, .int .i64 size', .bool down', .bool due', .int .i64 ops', .int .i64 part', .int .i64 keep'] 28 (0, 0)) from hw5 ▸ slot_seven HE0.out rfl (.slice aN L'.length cN) (.int .i64 size') (.bool down') (.bool due') (.int .i64 ops') (.int .i64 part') (.int .i64 keep'))
    have HZ5 := hid (HK5.out.at HE2.out (by omega))
    have S5 := hid (S2.out.own HK5.out (fun i (h : i = w.heap.size) => ⟨.inl (.inr ⟨by omega, by omega⟩), by omega⟩))
    have H5 := hid (H2.out.keep HK5.out (fun i h (e : i = w.heap.size) => by rcases h with (h | h) | h; have := HS.out.sub i (HXY.out i h); omega; omega; omega))
    have hs5 := HK5.out.size
    clear hw5 c0 c1 c2 c3 c4 c5 c6 f0 f1 f2 f3 f4 f5 f6
    have a0 : w5.cell? ⟨w.heap.size, 0, none⟩ = some (.slice aN L'.length cN) := by rw [cell_at HN5.out]; rfl
    have a1 : w5.cell? ⟨w.heap.size, 1, none⟩ = some (.int .i64 size') := by rw [cell_at HN5.out]; rfl
    have a2 : w5.cell? ⟨w.heap.size, 2, none⟩ = some (.bool down') := by rw [cell_at HN5.out]; rfl
    have a3 : w5.cell? ⟨w.heap.size, 3, none⟩ = some (.bool due') := by rw [cell_at HN5.out]; rfl
    have a4 : w5.cell? ⟨w.heap.size, 4, none⟩ = some (.int .i64 ops') := by rw [cell_at HN5.out]; rfl
    have a5 : w5.cell? ⟨w.heap.size, 5, none⟩ = some (.int .i64 part') := by rw [cell_at HN5.out]; rfl
    have a6 : w5.cell? ⟨w.heap.size, 6, none⟩ = some (.int .i64 keep') := by rw [cell_at HN5.out]; rfl
    refine wp_region_heldi [0, 1, 2, 3, 4, 5, 6] 100 4 (fun w' => w'.cell? ⟨w.heap.size, 0, none⟩ = some (.slice aN L'.length cN) ∧ w'.cell? ⟨w.heap.size, 1, none⟩ = some (.int .i64 size') ∧ w'.cell? ⟨w.heap.size, 2, none⟩ = some (.bool down') ∧ w'.cell? ⟨w.heap.size, 3, none⟩ = some (.bool due') ∧ w'.cell? ⟨w.heap.size, 4, none⟩ = some (.int .i64 ops') ∧ w'.cell? ⟨w.heap.size, 5, none⟩ = some (.int .i64 part') ∧ w'.cell? ⟨w.heap.size, 6, none⟩ = some (.int .i64 keep')) (by kernel_rfl) (by kernel_rfl) (by kernel_rfl) ⟨a0, a1, a2, a3, a4, a5, a6⟩ (fun d _ _ _ _ h => by cases d <;> exact h) ?_
    iterate 7 (first | (refine heldI_step rfl rfl (fun w' hS => by (obtain ⟨s0, s1, s2, s3, s4, s5, s6⟩ := hS; go_simp; with_reducible rfl)) ?_; simp only [Act.put, List.setIfInBounds_toArray, List.set_cons_zero, List.set_cons_succ]) | (refine heldI_want rfl rfl (fun w' hS => by (obtain ⟨s0, s1, s2, s3, s4, s5, s6⟩ := hS; go_simp; with_reducible rfl)) ?_; simp only [Act.put, List.setIfInBounds_toArray, List.set_cons_zero, List.set_cons_succ]) | (refine heldI_skip rfl rfl ?_; simp only [Act.put, List.setIfInBounds_toArray, List.set_cons_zero, List.set_cons_succ]))
    refine heldI_nil ?_
    refine anyZ_next' (j := 7) (by kernel_rfl) rfl rfl ?_
    go_simp
    have kd := keep_drawn' w5 (w5.drawn + 1)
    refine (is_any (S5.out.keep kd) hT1 ⟨size', down', due', ops', part', keep'⟩ HRN.out (H5.out.keep kd (fun _ _ h => h))).mono ?_
    rintro e w6 ⟨rfl, hK6⟩
    have HK6 := hid (kd.trans hK6 (fun _ _ h => h))
    have HN6 := hid (HK6.out.at HN5.out (fun h => h))
    have HZ6 := hid (HK6.out.at HZ5.out (fun h => h))
    have hs6 : w5.heap.size ≤ w6.heap.size := HK6.out.size
    clear kd hK6 a0 a1 a2 a3 a4 a5 a6
    have b0 : w6.cell? ⟨w.heap.size, 0, none⟩ = some (.slice aN L'.length cN) := by rw [cell_at HN6.out]; rfl
    have b1 : w6.cell? ⟨w.heap.size, 1, none⟩ = some (.int .i64 size') := by rw [cell_at HN6.out]; rfl
    have b2 : w6.cell? ⟨w.heap.size, 2, none⟩ = some (.bool down') := by rw [cell_at HN6.out]; rfl
    have b3 : w6.cell? ⟨w.heap.size, 3, none⟩ = some (.bool due') := by rw [cell_at HN6.out]; rfl
    have b4 : w6.cell? ⟨w.heap.size, 4, none⟩ = some (.int .i64 ops') := by rw [cell_at HN6.out]; rfl
    have b5 : w6.cell? ⟨w.heap.size, 5, none⟩ = some (.int .i64 part') := by rw [cell_at HN6.out]; rfl
    have b6 : w6.cell? ⟨w.heap.size, 6, none⟩ = some (.int .i64 keep') := by rw [cell_at HN6.out]; rfl
    refine ⟨⟨b0, b1, b2, b3, b4, b5, b6⟩, ?_⟩
    refine heldI_run (t := 2) (by kernel_rfl) (fun d _ _ _ _ h => by cases d <;> exact h) w6 ⟨b0, b1, b2, b3, b4, b5, b6⟩ [8] _ _ (by kernel_rfl) ?_
    iterate 1 (first | (refine heldI_step rfl rfl (fun w' hS => by (obtain ⟨s0, s1, s2, s3, s4, s5, s6⟩ := hS; go_simp; with_reducible rfl)) ?_; simp only [Act.put, List.setIfInBounds_toArray, List.set_cons_zero, List.set_cons_succ]) | (refine heldI_want rfl rfl (fun w' hS => by (obtain ⟨s0, s1, s2, s3, s4, s5, s6⟩ := hS; go_simp; with_reducible rfl)) ?_; simp only [Act.put, List.setIfInBounds_toArray, List.set_cons_zero, List.set_cons_succ]) | (refine heldI_skip rfl rfl ?_; simp only [Act.put, List.setIfInBounds_toArray, List.set_cons_zero, List.set_cons_succ]))
    refine heldI_nil ?_
    clear b0 b1 b2 b3 b4 b5 b6
    have z0 : w6.cell? ⟨w.heap.size + 1 + 1, 0, none⟩ = some (.slice none 0 0) := by rw [cell_at HZ6.out]; rfl
    have z1 : w6.cell? ⟨w.heap.size + 1 + 1, 1, none⟩ = some (.int .i64 0) := by rw [cell_at HZ6.out]; rfl
    have z2 : w6.cell? ⟨w.heap.size + 1 + 1, 2, none⟩ = some (.bool false) := by rw [cell_at HZ6.out]; rfl
    have z3 : w6.cell? ⟨w.heap.size + 1 + 1, 3, none⟩ = some (.bool false) := by rw [cell_at HZ6.out]; rfl
    have z4 : w6.cell? ⟨w.heap.size + 1 + 1, 4, none⟩ = some (.int .i64 0) := by rw [cell_at HZ6.out]; rfl
    have z5 : w6.cell? ⟨w.heap.size + 1 + 1, 5, none⟩ = some (.int .i64 0) := by rw [cell_at HZ6.out]; rfl
    have z6 : w6.cell? ⟨w.heap.size + 1 + 1, 6, none⟩ = some (.int .i64 0) := by rw [cell_at HZ6.out]; rfl
    have y0 : w6.frozen? ⟨w.heap.size + 1 + 1, 0, none⟩ = false := frozen_at HZ6.out _
    have y1 : w6.frozen? ⟨w.heap.size + 1 + 1, 1, none⟩ = false := frozen_at HZ6.out _
    have y2 : w6.frozen? ⟨w.heap.size + 1 + 1, 2, none⟩ = false := frozen_at HZ6.out _
    have y3 : w6.frozen? ⟨w.heap.size + 1 + 1, 3, none⟩ = false := frozen_at HZ6.out _
    have y4 : w6.frozen? ⟨w.heap.size + 1 + 1, 4, none⟩ = false := frozen_at HZ6.out _
    have y5 : w6.frozen? ⟨w.heap.size + 1 + 1, 5, none⟩ = false := frozen_at HZ6.out _
    have y6 : w6.frozen? ⟨w.heap.size + 1 + 1, 6, none⟩ = false := frozen_at HZ6.out _
    refine anyZ_next' (j := 9) (by kernel_rfl) rfl rfl ?_
    go_simp
    clear z0 z1 z2 z3 z4 z5 z6 y0 y1 y2 y3 y4 y5 y6
    obtain ⟨w7, hw7⟩ : ∃ w7, (((((((w6.setCell ⟨w.heap.size + 1 + 1, 0, none⟩ (.slice aN L'.length cN)).setCell ⟨w.heap.size + 1 + 1, 1, none⟩ (.int .i64 size')).setCell ⟨w.heap.size + 1 + 1, 2, none⟩ (.bool down')).setCell ⟨w.heap.size + 1 + 1, 3, none⟩ (.bool due')).setCell ⟨w.heap.size + 1 + 1, 4, none⟩ (.int .i64 ops')).setCell ⟨w.heap.size + 1 + 1, 5, none⟩ (.int .i64 part')).setCell ⟨w.heap.size + 1 + 1, 6, none⟩ (.int .i64 keep')) = w7 := ⟨_, rfl⟩
    rw [hw7]
    have HK7 := hid (show Keep (fun i => i = w.heap.size + 1 + 1) w6 w7 from hw7 ▸ ((((((((Keep.refl (fun i => i = w.heap.size + 1 + 1) w6).setCell (p := ⟨w.heap.size + 1 + 1, 0, none⟩) (fun _ => rfl) (.slice aN L'.length cN)).setCell (p := ⟨w.heap.size + 1 + 1, 1, none⟩) (fun _ => rfl) (.int .i64 size')).setCell (p := ⟨w.heap.size + 1 + 1, 2, none⟩) (fun _ => rfl) (.bool down')).setCell (p := ⟨w.heap.size + 1 + 1, 3, none⟩) (fun _ => rfl) (.bool due')).setCell (p := ⟨w.heap.size + 1 + 1, 4, none⟩) (fun _ => rfl) (.int .i64 ops')).setCell (p := ⟨w.heap.size + 1 + 1, 5, none⟩) (fun _ => rfl) (.int .i64 part')).setCell (p := ⟨w.heap.size + 1 + 1, 6, none⟩) (fun _ => rfl) (.int .i64 keep')))
    have HN7 := hid (HK7.out.at HN6.out (by omega))
    have HZ7 := hid (show w7.heap[w.heap.size + 1 + 1]? = some (.cells #[.slice aN L'.length cN, .int .i64 size', .bool down', .bool due', .int .i64 ops', .int .i64 part', .int .i64 keep'] 28 (0, 0)) from hw7 ▸ slot_seven HZ6.out rfl (.slice aN L'.length cN) (.int .i64 size') (.bool down') (.bool due') (.int .i64 ops') (.int .i64 part') (.int .i64 keep'))
    clear hw7
    have b0 : w7.cell? ⟨w.heap.size, 0, none⟩ = some (.slice aN L'.length cN) := by rw [cell_at HN7.out]; rfl
    have b1 : w7.cell? ⟨w.heap.size, 1, none⟩ = some (.int .i64 size') := by rw [cell_at HN7.out]; rfl
    have b2 : w7.cell? ⟨w.heap.size, 2, none⟩ = some (.bool down') := by rw [cell_at HN7.out]; rfl
    have b3 : w7.cell? ⟨w.heap.size, 3, none⟩ = some (.bool due') := by rw [cell_at HN7.out]; rfl
    have b4 : w7.cell? ⟨w.heap.size, 4, none⟩ = some (.int .i64 ops') := by rw [cell_at HN7.out]; rfl
    have b5 : w7.cell? ⟨w.heap.size, 5, none⟩ = some (.int .i64 part') := by rw [cell_at HN7.out]; rfl
    have b6 : w7.cell? ⟨w.heap.size, 6, none⟩ = some (.int .i64 keep') := by rw [cell_at HN7.out]; rfl
    have g0 : w6.cell? ⟨w.heap.size, 0, none⟩ = some (.slice aN L'.length cN) := by rw [cell_at HN6.out]; rfl
    have g1 : w6.cell? ⟨w.heap.size, 1, none⟩ = some (.int .i64 size') := by rw [cell_at HN6.out]; rfl
    have g2 : w6.cell? ⟨w.heap.size, 2, none⟩ = some (.bool down') := by rw [cell_at HN6.out]; rfl
    have g3 : w6.cell? ⟨w.heap.size, 3, none⟩ = some (.bool due') := by rw [cell_at HN6.out]; rfl
    have g4 : w6.cell? ⟨w.heap.size, 4, none⟩ = some (.int .i64 ops') := by rw [cell_at HN6.out]; rfl
    have g5 : w6.cell? ⟨w.heap.size, 5, none⟩ = some (.int .i64 part') := by rw [cell_at HN6.out]; rfl
    have g6 : w6.cell? ⟨w.heap.size, 6, none⟩ = some (.int .i64 keep') := by rw [cell_at HN6.out]; rfl
    refine ⟨by refine ⟨?_, ?_, ?_, ?_, ?_, ?_, ?_⟩ <;> first | exact b0 | exact b1 | exact b2 | exact b3 | exact b4 | exact b5 | exact b6 | exact g0 | exact g1 | exact g2 | exact g3 | exact g4 | exact g5 | exact g6, ?_⟩
    refine heldI_run (t := 0) (by kernel_rfl) (fun d _ _ _ _ h => by cases d <;> exact h) w7 ⟨b0, b1, b2, b3, b4, b5, b6⟩ [10] _ _ (by kernel_rfl) ?_
    iterate 1 (first | (refine heldI_step rfl rfl (fun w' hS => by (obtain ⟨s0, s1, s2, s3, s4, s5, s6⟩ := hS; go_simp; with_reducible rfl)) ?_; simp only [Act.put, List.setIfInBounds_toArray, List.set_cons_zero, List.set_cons_succ]) | (refine heldI_want rfl rfl (fun w' hS => by (obtain ⟨s0, s1, s2, s3, s4, s5, s6⟩ := hS; go_simp; with_reducible rfl)) ?_; simp only [Act.put, List.setIfInBounds_toArray, List.set_cons_zero, List.set_cons_succ]) | (refine heldI_skip rfl rfl ?_; simp only [Act.put, List.setIfInBounds_toArray, List.set_cons_zero, List.set_cons_succ]))
    refine heldI_nil ?_
    refine anyZ_done (by kernel_rfl) ?_
    clear b0 b1 b2 b3 b4 b5 b6 g0 g1 g2 g3 g4 g5 g6
    have b0 : w7.cell? ⟨w.heap.size + 1 + 1, 0, none⟩ = some (.slice aN L'.length cN) := by rw [cell_at HZ7.out]; rfl
    have b1 : w7.cell? ⟨w.heap.size + 1 + 1, 1, none⟩ = some (.int .i64 size') := by rw [cell_at HZ7.out]; rfl
    have b2 : w7.cell? ⟨w.heap.size + 1 + 1, 2, none⟩ = some (.bool down') := by rw [cell_at HZ7.out]; rfl
    have b3 : w7.cell? ⟨w.heap.size + 1 + 1, 3, none⟩ = some (.bool due') := by rw [cell_at HZ7.out]; rfl
    have b4 : w7.cell? ⟨w.heap.size + 1 + 1, 4, none⟩ = some (.int .i64 ops') := by rw [cell_at HZ7.out]; rfl
    have b5 : w7.cell? ⟨w.heap.size + 1 + 1, 5, none⟩ = some (.int .i64 part') := by rw [cell_at HZ7.out]; rfl
    have b6 : w7.cell? ⟨w.heap.size + 1 + 1, 6, none⟩ = some (.int .i64 keep') := by rw [cell_at HZ7.out]; rfl
    go_wp2_with fail
    refine bodyPost_ret (v := .tuple #[RefD.val ⟨size', down', due', ops', part', keep'⟩ (.slice aN L'.length cN), .bool true]) (by rw [results_cell2 rfl]; go_simp; rfl) rfl ⟨r.1, _, _, _, fun i => X i ∨ (w1.heap.size ≤ i ∧ i < w2.heap.size), _, rfl, (S5.out.keep HK6.out).own HK7.out (fun i (h : i = w.heap.size + 1 + 1) => ⟨.inl (.inr ⟨by omega, by omega⟩), by omega⟩), hT1, HRN.out, ((H5.out.keep HK6.out (fun _ _ h => h)).keep HK7.out (fun i h (e : i = w.heap.size + 1 + 1) => by rcases h with (h | h) | h; have := HS.out.sub i (HXY.out i h); omega; omega; omega)).mono (fun i hi h => by rcases h with (h | h) | h; exact .inl (.inl h); exact .inr h; exact .inl (.inr h)), fun i h => .inl (.inl h), fun i h => h.elim (fun h => .inl (.inl (HXY.out i h))) .inr, fun i h => h.imp id (fun h => by omega), (((((HKB.out.mono (fun _ _ h => h.elim)).trans HKa.out (fun i hi h => ⟨h.1, fun hx => h.2 (.inl hx)⟩)).trans HK5.out (fun i hi (h : i = w.heap.size) => by omega)).trans HK6.out (fun i hi h => h.elim)).trans HK7.out (fun i hi (h : i = w.heap.size + 1 + 1) => by omega))⟩
  by_cases hk2 : m.kind.tmod 9 = 2
  · go_wp2_with fail
    obtain ⟨wb, hwb⟩ : ∃ wb, ((w.alloc (.cells #[.slice ao L.length cap, .int .i64 size, .bool down, .bool due, .int .i64 ops, .int .i64 part, .int .i64 keep] 28)).alloc (.cells #[.int .i64 m.kind, .string m.name, .string m.to, .slice A m.b.length C, .int .i64 m.n, .int .i64 m.part, .int .i64 m.keep] 33)).alloc (.cells #[.slice none 0 0, .int .i64 0, .bool false, .bool false, .int .i64 0, .int .i64 0, .int .i64 0] 28) = wb := ⟨_, rfl⟩
    have hkb : Keep (fun _ => False) w wb := hwb ▸ (((Keep.refl _ w).alloc _).alloc _).alloc _
    have hszb : wb.heap.size = w.heap.size + 3 := by rw [← hwb]; simp
    have hb0 : wb.heap[w.heap.size]? = some (.cells #[.slice ao L.length cap, .int .i64 size, .bool down, .bool due, .int .i64 ops, .int .i64 part, .int .i64 keep] 28 (0, 0)) := by rw [← hwb, Below.heap_alloc _ _ _ (by simp; omega), Below.heap_alloc _ _ _ (by simp)]; exact heap_alloc_new _ _
    have hb1 : wb.heap[w.heap.size + 1]? = some (.cells #[.int .i64 m.kind, .string m.name, .string m.to, .slice A m.b.length C, .int .i64 m.n, .int .i64 m.part, .int .i64 m.keep] 33 (0, 0)) := by rw [← hwb, Below.heap_alloc _ _ _ (by simp), show w.heap.size + 1 = (w.alloc (.cells #[.slice ao L.length cap, .int .i64 size, .bool down, .bool due, .int .i64 ops, .int .i64 part, .int .i64 keep] 28)).heap.size by simp]; exact heap_alloc_new _ _
    have hb2 : wb.heap[w.heap.size + 1 + 1]? = some (.cells #[.slice none 0 0, .int .i64 0, .bool false, .bool false, .int .i64 0, .int .i64 0, .int .i64 0] 28 (0, 0)) := by rw [← hwb, show w.heap.size + 1 + 1 = ((w.alloc (.cells #[.slice ao L.length cap, .int .i64 size, .bool down, .bool due, .int .i64 ops, .int .i64 part, .int .i64 keep] 28)).alloc (.cells #[.int .i64 m.kind, .string m.name, .string m.to, .slice A m.b.length C, .int .i64 m.n, .int .i64 m.part, .int .i64 m.keep] 33)).heap.size by simp]; exact heap_alloc_new _ _
    rw [hwb]
    have HKB := hid hkb
    have SB := hid (HS.out.more hkb)
    have HB0 := hid hb0
    have HB1 := hid hb1
    have HB2 := hid hb2
    clear hkb hb0 hb1 hb2 hwb
    refine (st_dappend SB.out m.name (HB.out.keep HKB.out (fun _ _ h => h)) (fun i h => .inl h)).mono ?_
    rintro e w1 ⟨rfl, hS1, hK1⟩
    have hT1 := tidy_append ht m.name m.b
    obtain ⟨r, hr⟩ : ∃ r, append D m.name m.b = r := ⟨_, rfl⟩
    rw [hr] at hS1 hT1 ⊢
    have HRR := hid hr
    clear hr
    have S1 := hid hS1
    have HK1 := hid (keep_both SB.out hS1 hK1)
    have hs1 := HK1.out.size
    have hsw := HS.out.size
    have HX := hid (show ∀ i, w.heap.size ≤ i → i < wb.heap.size → ¬ (W.heap.size ≤ i ∧ ¬ (Y i ∨ (w.heap.size ≤ i ∧ i < wb.heap.size))) from fun i h1 h2 hn => hn.2 (.inr ⟨h1, h2⟩))
    have HC0 := hid (HK1.out.at HB0.out (HX.out _ (by omega) (by omega)))
    have HC1 := hid (HK1.out.at HB1.out (HX.out _ (by omega) (by omega)))
    have HC2 := hid (HK1.out.at HB2.out (HX.out _ (by omega) (by omega)))
    have HN1 := hid (show ∀ i, (X i ∨ i < W.heap.size) → ¬ (W.heap.size ≤ i ∧ ¬ (Y i ∨ (w.heap.size ≤ i ∧ i < wb.heap.size))) from fun i h hn => h.elim (fun h => hn.2 (.inl (HXY.out i h))) (fun h => by omega))
    have H1 := hid ((H.out.keep HKB.out (fun _ _ h => h)).keep HK1.out HN1.out)
    have HG1 := hid (show ∀ i, (X i ∨ i < W.heap.size) → i < w1.heap.size from fun i h => h.elim (fun h => by have := HS.out.sub i (HXY.out i h); omega) (fun h => by omega))
    clear hS1 hK1
    have c0 : w1.cell? ⟨w.heap.size, 0, none⟩ = some (.slice ao L.length cap) := by rw [cell_at HC0.out]; rfl
    have c1 : w1.cell? ⟨w.heap.size, 1, none⟩ = some (.int .i64 size) := by rw [cell_at HC0.out]; rfl
    have c2 : w1.cell? ⟨w.heap.size, 2, none⟩ = some (.bool down) := by rw [cell_at HC0.out]; rfl
    have c3 : w1.cell? ⟨w.heap.size, 3, none⟩ = some (.bool due) := by rw [cell_at HC0.out]; rfl
    have c4 : w1.cell? ⟨w.heap.size, 4, none⟩ = some (.int .i64 ops) := by rw [cell_at HC0.out]; rfl
    have c5 : w1.cell? ⟨w.heap.size, 5, none⟩ = some (.int .i64 part) := by rw [cell_at HC0.out]; rfl
    have c6 : w1.cell? ⟨w.heap.size, 6, none⟩ = some (.int .i64 keep) := by rw [cell_at HC0.out]; rfl
    have d0 : w1.cell? ⟨w.heap.size + 1, 0, none⟩ = some (.int .i64 m.kind) := by rw [cell_at HC1.out]; rfl
    have d1 : w1.cell? ⟨w.heap.size + 1, 1, none⟩ = some (.string m.name) := by rw [cell_at HC1.out]; rfl
    have d2 : w1.cell? ⟨w.heap.size + 1, 2, none⟩ = some (.string m.to) := by rw [cell_at HC1.out]; rfl
    have d3 : w1.cell? ⟨w.heap.size + 1, 3, none⟩ = some (.slice A m.b.length C) := by rw [cell_at HC1.out]; rfl
    have d4 : w1.cell? ⟨w.heap.size + 1, 4, none⟩ = some (.int .i64 m.n) := by rw [cell_at HC1.out]; rfl
    have d5 : w1.cell? ⟨w.heap.size + 1, 5, none⟩ = some (.int .i64 m.part) := by rw [cell_at HC1.out]; rfl
    have d6 : w1.cell? ⟨w.heap.size + 1, 6, none⟩ = some (.int .i64 m.keep) := by rw [cell_at HC1.out]; rfl
    go_wp2_with fail
    refine (do_append HR.out HOK.out ht H1.out HG1.out m.name ⟨#[]⟩ (bytes_more ((HB.out.keep HKB.out (fun _ _ h => h)).keep HK1.out (fun i h hn => by omega)) (fun i _ h => .inr h)) hlen 0).mono ?_
    rintro e w2 ⟨vN, ⟨size', down', due', ops', part', keep'⟩, L', rfl, hRN, hF2, hK2⟩
    rw [HRR.out] at hRN ⊢
    obtain ⟨aN, cN, hvN⟩ := hF2.slice
    subst hvN
    have HRN := hid hRN
    have H2 := hid (hF2.mono (G' := fun i => (X i ∨ i < W.heap.size) ∨ (w1.heap.size ≤ i ∧ i < w2.heap.size)) (fun i hi h => h.imp id (fun h => ⟨h, hi⟩)))
    have hs2 := hK2.size
    have S2 := hid (S1.out.more hK2)
    have HE0 := hid (hK2.at HC0.out (fun h => h))
    have HE2 := hid (hK2.at HC2.out (fun h => h))
    have HKa := hid (HK1.out.trans hK2 (fun _ _ h => h.elim))
    clear hF2 hRN hK2 c0 c1 c2 c3 c4 c5 c6 d0 d1 d2 d3 d4 d5 d6
    unfold RefD.val RefD.cells
    have c0 : w2.cell? ⟨w.heap.size, 0, none⟩ = some (.slice ao L.length cap) := by rw [cell_at HE0.out]; rfl
    have c1 : w2.cell? ⟨w.heap.size, 1, none⟩ = some (.int .i64 size) := by rw [cell_at HE0.out]; rfl
    have c2 : w2.cell? ⟨w.heap.size, 2, none⟩ = some (.bool down) := by rw [cell_at HE0.out]; rfl
    have c3 : w2.cell? ⟨w.heap.size, 3, none⟩ = some (.bool due) := by rw [cell_at HE0.out]; rfl
    have c4 : w2.cell? ⟨w.heap.size, 4, none⟩ = some (.int .i64 ops) := by rw [cell_at HE0.out]; rfl
    have c5 : w2.cell? ⟨w.heap.size, 5, none⟩ = some (.int .i64 part) := by rw [cell_at HE0.out]; rfl
    have c6 : w2.cell? ⟨w.heap.size, 6, none⟩ = some (.int .i64 keep) := by rw [cell_at HE0.out]; rfl
    have f0 : w2.frozen? ⟨w.heap.size, 0, none⟩ = false := frozen_at HE0.out _
    have f1 : w2.frozen? ⟨w.heap.size, 1, none⟩ = false := frozen_at HE0.out _
    have f2 : w2.frozen? ⟨w.heap.size, 2, none⟩ = false := frozen_at HE0.out _
    have f3 : w2.frozen? ⟨w.heap.size, 3, none⟩ = false := frozen_at HE0.out _
    have f4 : w2.frozen? ⟨w.heap.size, 4, none⟩ = false := frozen_at HE0.out _
    have f5 : w2.frozen? ⟨w.heap.size, 5, none⟩ = false := frozen_at HE0.out _
    have f6 : w2.frozen? ⟨w.heap.size, 6, none⟩ = false := frozen_at HE0.out _
    go_wp2_with fail
    obtain ⟨w5, hw5⟩ : ∃ w5, (((((((w2.setCell ⟨w.heap.size, 0, none⟩ (.slice aN L'.length cN)).setCell ⟨w.heap.size, 1, none⟩ (.int .i64 size')).setCell ⟨w.heap.size, 2, none⟩ (.bool down')).setCell ⟨w.heap.size, 3, none⟩ (.bool due')).setCell ⟨w.heap.size, 4, none⟩ (.int .i64 ops')).setCell ⟨w.heap.size, 5, none⟩ (.int .i64 part')).setCell ⟨w.heap.size, 6, none⟩ (.int .i64 keep')) = w5 := ⟨_, rfl⟩
    rw [hw5]
    have HK5 := hid (show Keep (fun i => i = w.heap.size) w2 w5 from hw5 ▸ ((((((((Keep.refl (fun i => i = w.heap.size) w2).setCell (p := ⟨w.heap.size, 0, none⟩) (fun _ => rfl) (.slice aN L'.length cN)).setCell (p := ⟨w.heap.size, 1, none⟩) (fun _ => rfl) (.int .i64 size')).setCell (p := ⟨w.heap.size, 2, none⟩) (fun _ => rfl) (.bool down')).setCell (p := ⟨w.heap.size, 3, none⟩) (fun _ => rfl) (.bool due')).setCell (p := ⟨w.heap.size, 4, none⟩) (fun _ => rfl) (.int .i64 ops')).setCell (p := ⟨w.heap.size, 5, none⟩) (fun _ => rfl) (.int .i64 part')).setCell (p := ⟨w.heap.size, 6, none⟩) (fun _ => rfl) (.int .i64 keep')))
    have HN5 := hid (show w5.heap[w.heap.size]? = some (.cells #[.slice aN L'.length cN, .int .i64 size', .bool down', .bool due', .int .i64 ops', .int .i64 part', .int .i64 keep'] 28 (0, 0)) from hw5 ▸ slot_seven HE0.out rfl (.slice aN L'.length cN) (.int .i64 size') (.bool down') (.bool due') (.int .i64 ops') (.int .i64 part') (.int .i64 keep'))
    have HZ5 := hid (HK5.out.at HE2.out (by omega))
    have S5 := hid (S2.out.own HK5.out (fun i (h : i = w.heap.size) => ⟨.inl (.inr ⟨by omega, by omega⟩), by omega⟩))
    have H5 := hid (H2.out.keep HK5.out (fun i h (e : i = w.heap.size) => by rcases h with (h | h) | h; have := HS.out.sub i (HXY.out i h); omega; omega; omega))
    have hs5 := HK5.out.size
    clear hw5 c0 c1 c2 c3 c4 c5 c6 f0 f1 f2 f3 f4 f5 f6
    have a0 : w5.cell? ⟨w.heap.size, 0, none⟩ = some (.slice aN L'.length cN) := by rw [cell_at HN5.out]; rfl
    have a1 : w5.cell? ⟨w.heap.size, 1, none⟩ = some (.int .i64 size') := by rw [cell_at HN5.out]; rfl
    have a2 : w5.cell? ⟨w.heap.size, 2, none⟩ = some (.bool down') := by rw [cell_at HN5.out]; rfl
    have a3 : w5.cell? ⟨w.heap.size, 3, none⟩ = some (.bool due') := by rw [cell_at HN5.out]; rfl
    have a4 : w5.cell? ⟨w.heap.size, 4, none⟩ = some (.int .i64 ops') := by rw [cell_at HN5.out]; rfl
    have a5 : w5.cell? ⟨w.heap.size, 5, none⟩ = some (.int .i64 part') := by rw [cell_at HN5.out]; rfl
    have a6 : w5.cell? ⟨w.heap.size, 6, none⟩ = some (.int .i64 keep') := by rw [cell_at HN5.out]; rfl
    refine wp_region_heldi [0, 1, 2, 3, 4, 5, 6] 100 4 (fun w' => w'.cell? ⟨w.heap.size, 0, none⟩ = some (.slice aN L'.length cN) ∧ w'.cell? ⟨w.heap.size, 1, none⟩ = some (.int .i64 size') ∧ w'.cell? ⟨w.heap.size, 2, none⟩ = some (.bool down') ∧ w'.cell? ⟨w.heap.size, 3, none⟩ = some (.bool due') ∧ w'.cell? ⟨w.heap.size, 4, none⟩ = some (.int .i64 ops') ∧ w'.cell? ⟨w.heap.size, 5, none⟩ = some (.int .i64 part') ∧ w'.cell? ⟨w.heap.size, 6, none⟩ = some (.int .i64 keep')) (by kernel_rfl) (by kernel_rfl) (by kernel_rfl) ⟨a0, a1, a2, a3, a4, a5, a6⟩ (fun d _ _ _ _ h => by cases d <;> exact h) ?_
    iterate 7 (first | (refine heldI_step rfl rfl (fun w' hS => by (obtain ⟨s0, s1, s2, s3, s4, s5, s6⟩ := hS; go_simp; with_reducible rfl)) ?_; simp only [Act.put, List.setIfInBounds_toArray, List.set_cons_zero, List.set_cons_succ]) | (refine heldI_want rfl rfl (fun w' hS => by (obtain ⟨s0, s1, s2, s3, s4, s5, s6⟩ := hS; go_simp; with_reducible rfl)) ?_; simp only [Act.put, List.setIfInBounds_toArray, List.set_cons_zero, List.set_cons_succ]) | (refine heldI_skip rfl rfl ?_; simp only [Act.put, List.setIfInBounds_toArray, List.set_cons_zero, List.set_cons_succ]))
    refine heldI_nil ?_
    refine anyZ_next' (j := 7) (by kernel_rfl) rfl rfl ?_
    go_simp
    have kd := keep_drawn' w5 (w5.drawn + 1)
    refine (is_any (S5.out.keep kd) hT1 ⟨size', down', due', ops', part', keep'⟩ HRN.out (H5.out.keep kd (fun _ _ h => h))).mono ?_
    rintro e w6 ⟨rfl, hK6⟩
    have HK6 := hid (kd.trans hK6 (fun _ _ h => h))
    have HN6 := hid (HK6.out.at HN5.out (fun h => h))
    have HZ6 := hid (HK6.out.at HZ5.out (fun h => h))
    have hs6 : w5.heap.size ≤ w6.heap.size := HK6.out.size
    clear kd hK6 a0 a1 a2 a3 a4 a5 a6
    have b0 : w6.cell? ⟨w.heap.size, 0, none⟩ = some (.slice aN L'.length cN) := by rw [cell_at HN6.out]; rfl
    have b1 : w6.cell? ⟨w.heap.size, 1, none⟩ = some (.int .i64 size') := by rw [cell_at HN6.out]; rfl
    have b2 : w6.cell? ⟨w.heap.size, 2, none⟩ = some (.bool down') := by rw [cell_at HN6.out]; rfl
    have b3 : w6.cell? ⟨w.heap.size, 3, none⟩ = some (.bool due') := by rw [cell_at HN6.out]; rfl
    have b4 : w6.cell? ⟨w.heap.size, 4, none⟩ = some (.int .i64 ops') := by rw [cell_at HN6.out]; rfl
    have b5 : w6.cell? ⟨w.heap.size, 5, none⟩ = some (.int .i64 part') := by rw [cell_at HN6.out]; rfl
    have b6 : w6.cell? ⟨w.heap.size, 6, none⟩ = some (.int .i64 keep') := by rw [cell_at HN6.out]; rfl
    refine ⟨⟨b0, b1, b2, b3, b4, b5, b6⟩, ?_⟩
    refine heldI_run (t := 2) (by kernel_rfl) (fun d _ _ _ _ h => by cases d <;> exact h) w6 ⟨b0, b1, b2, b3, b4, b5, b6⟩ [8] _ _ (by kernel_rfl) ?_
    iterate 1 (first | (refine heldI_step rfl rfl (fun w' hS => by (obtain ⟨s0, s1, s2, s3, s4, s5, s6⟩ := hS; go_simp; with_reducible rfl)) ?_; simp only [Act.put, List.setIfInBounds_toArray, List.set_cons_zero, List.set_cons_succ]) | (refine heldI_want rfl rfl (fun w' hS => by (obtain ⟨s0, s1, s2, s3, s4, s5, s6⟩ := hS; go_simp; with_reducible rfl)) ?_; simp only [Act.put, List.setIfInBounds_toArray, List.set_cons_zero, List.set_cons_succ]) | (refine heldI_skip rfl rfl ?_; simp only [Act.put, List.setIfInBounds_toArray, List.set_cons_zero, List.set_cons_succ]))
    refine heldI_nil ?_
    clear b0 b1 b2 b3 b4 b5 b6
    have z0 : w6.cell? ⟨w.heap.size + 1 + 1, 0, none⟩ = some (.slice none 0 0) := by rw [cell_at HZ6.out]; rfl
    have z1 : w6.cell? ⟨w.heap.size + 1 + 1, 1, none⟩ = some (.int .i64 0) := by rw [cell_at HZ6.out]; rfl
    have z2 : w6.cell? ⟨w.heap.size + 1 + 1, 2, none⟩ = some (.bool false) := by rw [cell_at HZ6.out]; rfl
    have z3 : w6.cell? ⟨w.heap.size + 1 + 1, 3, none⟩ = some (.bool false) := by rw [cell_at HZ6.out]; rfl
    have z4 : w6.cell? ⟨w.heap.size + 1 + 1, 4, none⟩ = some (.int .i64 0) := by rw [cell_at HZ6.out]; rfl
    have z5 : w6.cell? ⟨w.heap.size + 1 + 1, 5, none⟩ = some (.int .i64 0) := by rw [cell_at HZ6.out]; rfl
    have z6 : w6.cell? ⟨w.heap.size + 1 + 1, 6, none⟩ = some (.int .i64 0) := by rw [cell_at HZ6.out]; rfl
    have y0 : w6.frozen? ⟨w.heap.size + 1 + 1, 0, none⟩ = false := frozen_at HZ6.out _
    have y1 : w6.frozen? ⟨w.heap.size + 1 + 1, 1, none⟩ = false := frozen_at HZ6.out _
    have y2 : w6.frozen? ⟨w.heap.size + 1 + 1, 2, none⟩ = false := frozen_at HZ6.out _
    have y3 : w6.frozen? ⟨w.heap.size + 1 + 1, 3, none⟩ = false := frozen_at HZ6.out _
    have y4 : w6.frozen? ⟨w.heap.size + 1 + 1, 4, none⟩ = false := frozen_at HZ6.out _
    have y5 : w6.frozen? ⟨w.heap.size + 1 + 1, 5, none⟩ = false := frozen_at HZ6.out _
    have y6 : w6.frozen? ⟨w.heap.size + 1 + 1, 6, none⟩ = false := frozen_at HZ6.out _
    refine anyZ_next' (j := 9) (by kernel_rfl) rfl rfl ?_
    go_simp
    clear z0 z1 z2 z3 z4 z5 z6 y0 y1 y2 y3 y4 y5 y6
    obtain ⟨w7, hw7⟩ : ∃ w7, (((((((w6.setCell ⟨w.heap.size + 1 + 1, 0, none⟩ (.slice aN L'.length cN)).setCell ⟨w.heap.size + 1 + 1, 1, none⟩ (.int .i64 size')).setCell ⟨w.heap.size + 1 + 1, 2, none⟩ (.bool down')).setCell ⟨w.heap.size + 1 + 1, 3, none⟩ (.bool due')).setCell ⟨w.heap.size + 1 + 1, 4, none⟩ (.int .i64 ops')).setCell ⟨w.heap.size + 1 + 1, 5, none⟩ (.int .i64 part')).setCell ⟨w.heap.size + 1 + 1, 6, none⟩ (.int .i64 keep')) = w7 := ⟨_, rfl⟩
    rw [hw7]
    have HK7 := hid (show Keep (fun i => i = w.heap.size + 1 + 1) w6 w7 from hw7 ▸ ((((((((Keep.refl (fun i => i = w.heap.size + 1 + 1) w6).setCell (p := ⟨w.heap.size + 1 + 1, 0, none⟩) (fun _ => rfl) (.slice aN L'.length cN)).setCell (p := ⟨w.heap.size + 1 + 1, 1, none⟩) (fun _ => rfl) (.int .i64 size')).setCell (p := ⟨w.heap.size + 1 + 1, 2, none⟩) (fun _ => rfl) (.bool down')).setCell (p := ⟨w.heap.size + 1 + 1, 3, none⟩) (fun _ => rfl) (.bool due')).setCell (p := ⟨w.heap.size + 1 + 1, 4, none⟩) (fun _ => rfl) (.int .i64 ops')).setCell (p := ⟨w.heap.size + 1 + 1, 5, none⟩) (fun _ => rfl) (.int .i64 part')).setCell (p := ⟨w.heap.size + 1 + 1, 6, none⟩) (fun _ => rfl) (.int .i64 keep')))
    have HN7 := hid (HK7.out.at HN6.out (by omega))
    have HZ7 := hid (show w7.heap[w.heap.size + 1 + 1]? = some (.cells #[.slice aN L'.length cN, .int .i64 size', .bool down', .bool due', .int .i64 ops', .int .i64 part', .int .i64 keep'] 28 (0, 0)) from hw7 ▸ slot_seven HZ6.out rfl (.slice aN L'.length cN) (.int .i64 size') (.bool down') (.bool due') (.int .i64 ops') (.int .i64 part') (.int .i64 keep'))
    clear hw7
    have b0 : w7.cell? ⟨w.heap.size, 0, none⟩ = some (.slice aN L'.length cN) := by rw [cell_at HN7.out]; rfl
    have b1 : w7.cell? ⟨w.heap.size, 1, none⟩ = some (.int .i64 size') := by rw [cell_at HN7.out]; rfl
    have b2 : w7.cell? ⟨w.heap.size, 2, none⟩ = some (.bool down') := by rw [cell_at HN7.out]; rfl
    have b3 : w7.cell? ⟨w.heap.size, 3, none⟩ = some (.bool due') := by rw [cell_at HN7.out]; rfl
    have b4 : w7.cell? ⟨w.heap.size, 4, none⟩ = some (.int .i64 ops') := by rw [cell_at HN7.out]; rfl
    have b5 : w7.cell? ⟨w.heap.size, 5, none⟩ = some (.int .i64 part') := by rw [cell_at HN7.out]; rfl
    have b6 : w7.cell? ⟨w.heap.size, 6, none⟩ = some (.int .i64 keep') := by rw [cell_at HN7.out]; rfl
    have g0 : w6.cell? ⟨w.heap.size, 0, none⟩ = some (.slice aN L'.length cN) := by rw [cell_at HN6.out]; rfl
    have g1 : w6.cell? ⟨w.heap.size, 1, none⟩ = some (.int .i64 size') := by rw [cell_at HN6.out]; rfl
    have g2 : w6.cell? ⟨w.heap.size, 2, none⟩ = some (.bool down') := by rw [cell_at HN6.out]; rfl
    have g3 : w6.cell? ⟨w.heap.size, 3, none⟩ = some (.bool due') := by rw [cell_at HN6.out]; rfl
    have g4 : w6.cell? ⟨w.heap.size, 4, none⟩ = some (.int .i64 ops') := by rw [cell_at HN6.out]; rfl
    have g5 : w6.cell? ⟨w.heap.size, 5, none⟩ = some (.int .i64 part') := by rw [cell_at HN6.out]; rfl
    have g6 : w6.cell? ⟨w.heap.size, 6, none⟩ = some (.int .i64 keep') := by rw [cell_at HN6.out]; rfl
    refine ⟨by refine ⟨?_, ?_, ?_, ?_, ?_, ?_, ?_⟩ <;> first | exact b0 | exact b1 | exact b2 | exact b3 | exact b4 | exact b5 | exact b6 | exact g0 | exact g1 | exact g2 | exact g3 | exact g4 | exact g5 | exact g6, ?_⟩
    refine heldI_run (t := 0) (by kernel_rfl) (fun d _ _ _ _ h => by cases d <;> exact h) w7 ⟨b0, b1, b2, b3, b4, b5, b6⟩ [10] _ _ (by kernel_rfl) ?_
    iterate 1 (first | (refine heldI_step rfl rfl (fun w' hS => by (obtain ⟨s0, s1, s2, s3, s4, s5, s6⟩ := hS; go_simp; with_reducible rfl)) ?_; simp only [Act.put, List.setIfInBounds_toArray, List.set_cons_zero, List.set_cons_succ]) | (refine heldI_want rfl rfl (fun w' hS => by (obtain ⟨s0, s1, s2, s3, s4, s5, s6⟩ := hS; go_simp; with_reducible rfl)) ?_; simp only [Act.put, List.setIfInBounds_toArray, List.set_cons_zero, List.set_cons_succ]) | (refine heldI_skip rfl rfl ?_; simp only [Act.put, List.setIfInBounds_toArray, List.set_cons_zero, List.set_cons_succ]))
    refine heldI_nil ?_
    refine anyZ_done (by kernel_rfl) ?_
    clear b0 b1 b2 b3 b4 b5 b6 g0 g1 g2 g3 g4 g5 g6
    have b0 : w7.cell? ⟨w.heap.size + 1 + 1, 0, none⟩ = some (.slice aN L'.length cN) := by rw [cell_at HZ7.out]; rfl
    have b1 : w7.cell? ⟨w.heap.size + 1 + 1, 1, none⟩ = some (.int .i64 size') := by rw [cell_at HZ7.out]; rfl
    have b2 : w7.cell? ⟨w.heap.size + 1 + 1, 2, none⟩ = some (.bool down') := by rw [cell_at HZ7.out]; rfl
    have b3 : w7.cell? ⟨w.heap.size + 1 + 1, 3, none⟩ = some (.bool due') := by rw [cell_at HZ7.out]; rfl
    have b4 : w7.cell? ⟨w.heap.size + 1 + 1, 4, none⟩ = some (.int .i64 ops') := by rw [cell_at HZ7.out]; rfl
    have b5 : w7.cell? ⟨w.heap.size + 1 + 1, 5, none⟩ = some (.int .i64 part') := by rw [cell_at HZ7.out]; rfl
    have b6 : w7.cell? ⟨w.heap.size + 1 + 1, 6, none⟩ = some (.int .i64 keep') := by rw [cell_at HZ7.out]; rfl
    go_wp2_with fail
    refine bodyPost_ret (v := .tuple #[RefD.val ⟨size', down', due', ops', part', keep'⟩ (.slice aN L'.length cN), .bool true]) (by rw [results_cell2 rfl]; go_simp; rfl) rfl ⟨r.1, _, _, _, fun i => X i ∨ (w1.heap.size ≤ i ∧ i < w2.heap.size), _, rfl, (S5.out.keep HK6.out).own HK7.out (fun i (h : i = w.heap.size + 1 + 1) => ⟨.inl (.inr ⟨by omega, by omega⟩), by omega⟩), hT1, HRN.out, ((H5.out.keep HK6.out (fun _ _ h => h)).keep HK7.out (fun i h (e : i = w.heap.size + 1 + 1) => by rcases h with (h | h) | h; have := HS.out.sub i (HXY.out i h); omega; omega; omega)).mono (fun i hi h => by rcases h with (h | h) | h; exact .inl (.inl h); exact .inr h; exact .inl (.inr h)), fun i h => .inl (.inl h), fun i h => h.elim (fun h => .inl (.inl (HXY.out i h))) .inr, fun i h => h.imp id (fun h => by omega), (((((HKB.out.mono (fun _ _ h => h.elim)).trans HKa.out (fun i hi h => ⟨h.1, fun hx => h.2 (.inl hx)⟩)).trans HK5.out (fun i hi (h : i = w.heap.size) => by omega)).trans HK6.out (fun i hi h => h.elim)).trans HK7.out (fun i hi (h : i = w.heap.size + 1 + 1) => by omega))⟩
  by_cases hk3 : m.kind.tmod 9 = 3
  · go_wp2_with fail
    obtain ⟨wb, hwb⟩ : ∃ wb, ((w.alloc (.cells #[.slice ao L.length cap, .int .i64 size, .bool down, .bool due, .int .i64 ops, .int .i64 part, .int .i64 keep] 28)).alloc (.cells #[.int .i64 m.kind, .string m.name, .string m.to, .slice A m.b.length C, .int .i64 m.n, .int .i64 m.part, .int .i64 m.keep] 33)).alloc (.cells #[.slice none 0 0, .int .i64 0, .bool false, .bool false, .int .i64 0, .int .i64 0, .int .i64 0] 28) = wb := ⟨_, rfl⟩
    have hkb : Keep (fun _ => False) w wb := hwb ▸ (((Keep.refl _ w).alloc _).alloc _).alloc _
    have hszb : wb.heap.size = w.heap.size + 3 := by rw [← hwb]; simp
    have hb0 : wb.heap[w.heap.size]? = some (.cells #[.slice ao L.length cap, .int .i64 size, .bool down, .bool due, .int .i64 ops, .int .i64 part, .int .i64 keep] 28 (0, 0)) := by rw [← hwb, Below.heap_alloc _ _ _ (by simp; omega), Below.heap_alloc _ _ _ (by simp)]; exact heap_alloc_new _ _
    have hb1 : wb.heap[w.heap.size + 1]? = some (.cells #[.int .i64 m.kind, .string m.name, .string m.to, .slice A m.b.length C, .int .i64 m.n, .int .i64 m.part, .int .i64 m.keep] 33 (0, 0)) := by rw [← hwb, Below.heap_alloc _ _ _ (by simp), show w.heap.size + 1 = (w.alloc (.cells #[.slice ao L.length cap, .int .i64 size, .bool down, .bool due, .int .i64 ops, .int .i64 part, .int .i64 keep] 28)).heap.size by simp]; exact heap_alloc_new _ _
    have hb2 : wb.heap[w.heap.size + 1 + 1]? = some (.cells #[.slice none 0 0, .int .i64 0, .bool false, .bool false, .int .i64 0, .int .i64 0, .int .i64 0] 28 (0, 0)) := by rw [← hwb, show w.heap.size + 1 + 1 = ((w.alloc (.cells #[.slice ao L.length cap, .int .i64 size, .bool down, .bool due, .int .i64 ops, .int .i64 part, .int .i64 keep] 28)).alloc (.cells #[.int .i64 m.kind, .string m.name, .string m.to, .slice A m.b.length C, .int .i64 m.n, .int .i64 m.part, .int .i64 m.keep] 33)).heap.size by simp]; exact heap_alloc_new _ _
    rw [hwb]
    have HKB := hid hkb
    have SB := hid (HS.out.more hkb)
    have HB0 := hid hb0
    have HB1 := hid hb1
    have HB2 := hid hb2
    clear hkb hb0 hb1 hb2 hwb
    refine (st_dsync SB.out m.name).mono ?_
    rintro e w1 ⟨rfl, hS1, hK1⟩
    have hT1 := tidy_sync ht m.name
    obtain ⟨r, hr⟩ : ∃ r, sync D m.name = r := ⟨_, rfl⟩
    rw [hr] at hS1 hT1 ⊢
    have HRR := hid hr
    clear hr
    have S1 := hid hS1
    have HK1 := hid (hK1)
    have hs1 := HK1.out.size
    have hsw := HS.out.size
    have HX := hid (show ∀ i, w.heap.size ≤ i → i < wb.heap.size → ¬ (W.heap.size ≤ i ∧ ¬ (Y i ∨ (w.heap.size ≤ i ∧ i < wb.heap.size))) from fun i h1 h2 hn => hn.2 (.inr ⟨h1, h2⟩))
    have HC0 := hid (HK1.out.at HB0.out (HX.out _ (by omega) (by omega)))
    have HC1 := hid (HK1.out.at HB1.out (HX.out _ (by omega) (by omega)))
    have HC2 := hid (HK1.out.at HB2.out (HX.out _ (by omega) (by omega)))
    have HN1 := hid (show ∀ i, (X i ∨ i < W.heap.size) → ¬ (W.heap.size ≤ i ∧ ¬ (Y i ∨ (w.heap.size ≤ i ∧ i < wb.heap.size))) from fun i h hn => h.elim (fun h => hn.2 (.inl (HXY.out i h))) (fun h => by omega))
    have H1 := hid ((H.out.keep HKB.out (fun _ _ h => h)).keep HK1.out HN1.out)
    have HG1 := hid (show ∀ i, (X i ∨ i < W.heap.size) → i < w1.heap.size from fun i h => h.elim (fun h => by have := HS.out.sub i (HXY.out i h); omega) (fun h => by omega))
    clear hS1 hK1
    have c0 : w1.cell? ⟨w.heap.size, 0, none⟩ = some (.slice ao L.length cap) := by rw [cell_at HC0.out]; rfl
    have c1 : w1.cell? ⟨w.heap.size, 1, none⟩ = some (.int .i64 size) := by rw [cell_at HC0.out]; rfl
    have c2 : w1.cell? ⟨w.heap.size, 2, none⟩ = some (.bool down) := by rw [cell_at HC0.out]; rfl
    have c3 : w1.cell? ⟨w.heap.size, 3, none⟩ = some (.bool due) := by rw [cell_at HC0.out]; rfl
    have c4 : w1.cell? ⟨w.heap.size, 4, none⟩ = some (.int .i64 ops) := by rw [cell_at HC0.out]; rfl
    have c5 : w1.cell? ⟨w.heap.size, 5, none⟩ = some (.int .i64 part) := by rw [cell_at HC0.out]; rfl
    have c6 : w1.cell? ⟨w.heap.size, 6, none⟩ = some (.int .i64 keep) := by rw [cell_at HC0.out]; rfl
    have d0 : w1.cell? ⟨w.heap.size + 1, 0, none⟩ = some (.int .i64 m.kind) := by rw [cell_at HC1.out]; rfl
    have d1 : w1.cell? ⟨w.heap.size + 1, 1, none⟩ = some (.string m.name) := by rw [cell_at HC1.out]; rfl
    have d2 : w1.cell? ⟨w.heap.size + 1, 2, none⟩ = some (.string m.to) := by rw [cell_at HC1.out]; rfl
    have d3 : w1.cell? ⟨w.heap.size + 1, 3, none⟩ = some (.slice A m.b.length C) := by rw [cell_at HC1.out]; rfl
    have d4 : w1.cell? ⟨w.heap.size + 1, 4, none⟩ = some (.int .i64 m.n) := by rw [cell_at HC1.out]; rfl
    have d5 : w1.cell? ⟨w.heap.size + 1, 5, none⟩ = some (.int .i64 m.part) := by rw [cell_at HC1.out]; rfl
    have d6 : w1.cell? ⟨w.heap.size + 1, 6, none⟩ = some (.int .i64 m.keep) := by rw [cell_at HC1.out]; rfl
    go_wp2_with fail
    refine (do_sync HR.out HOK.out ht H1.out HG1.out m.name ⟨#[]⟩ 0).mono ?_
    rintro e w2 ⟨vN, ⟨size', down', due', ops', part', keep'⟩, L', rfl, hRN, hF2, hK2⟩
    rw [HRR.out] at hRN ⊢
    obtain ⟨aN, cN, hvN⟩ := hF2.slice
    subst hvN
    have HRN := hid hRN
    have H2 := hid (hF2.mono (G' := fun i => (X i ∨ i < W.heap.size) ∨ (w1.heap.size ≤ i ∧ i < w2.heap.size)) (fun i hi h => h.imp id (fun h => ⟨h, hi⟩)))
    have hs2 := hK2.size
    have S2 := hid (S1.out.more hK2)
    have HE0 := hid (hK2.at HC0.out (fun h => h))
    have HE2 := hid (hK2.at HC2.out (fun h => h))
    have HKa := hid (HK1.out.trans hK2 (fun _ _ h => h.elim))
    clear hF2 hRN hK2 c0 c1 c2 c3 c4 c5 c6 d0 d1 d2 d3 d4 d5 d6
    unfold RefD.val RefD.cells
    have c0 : w2.cell? ⟨w.heap.size, 0, none⟩ = some (.slice ao L.length cap) := by rw [cell_at HE0.out]; rfl
    have c1 : w2.cell? ⟨w.heap.size, 1, none⟩ = some (.int .i64 size) := by rw [cell_at HE0.out]; rfl
    have c2 : w2.cell? ⟨w.heap.size, 2, none⟩ = some (.bool down) := by rw [cell_at HE0.out]; rfl
    have c3 : w2.cell? ⟨w.heap.size, 3, none⟩ = some (.bool due) := by rw [cell_at HE0.out]; rfl
    have c4 : w2.cell? ⟨w.heap.size, 4, none⟩ = some (.int .i64 ops) := by rw [cell_at HE0.out]; rfl
    have c5 : w2.cell? ⟨w.heap.size, 5, none⟩ = some (.int .i64 part) := by rw [cell_at HE0.out]; rfl
    have c6 : w2.cell? ⟨w.heap.size, 6, none⟩ = some (.int .i64 keep) := by rw [cell_at HE0.out]; rfl
    have f0 : w2.frozen? ⟨w.heap.size, 0, none⟩ = false := frozen_at HE0.out _
    have f1 : w2.frozen? ⟨w.heap.size, 1, none⟩ = false := frozen_at HE0.out _
    have f2 : w2.frozen? ⟨w.heap.size, 2, none⟩ = false := frozen_at HE0.out _
    have f3 : w2.frozen? ⟨w.heap.size, 3, none⟩ = false := frozen_at HE0.out _
    have f4 : w2.frozen? ⟨w.heap.size, 4, none⟩ = false := frozen_at HE0.out _
    have f5 : w2.frozen? ⟨w.heap.size, 5, none⟩ = false := frozen_at HE0.out _
    have f6 : w2.frozen? ⟨w.heap.size, 6, none⟩ = false := frozen_at HE0.out _
    go_wp2_with fail
    obtain ⟨w5, hw5⟩ : ∃ w5, (((((((w2.setCell ⟨w.heap.size, 0, none⟩ (.slice aN L'.length cN)).setCell ⟨w.heap.size, 1, none⟩ (.int .i64 size')).setCell ⟨w.heap.size, 2, none⟩ (.bool down')).setCell ⟨w.heap.size, 3, none⟩ (.bool due')).setCell ⟨w.heap.size, 4, none⟩ (.int .i64 ops')).setCell ⟨w.heap.size, 5, none⟩ (.int .i64 part')).setCell ⟨w.heap.size, 6, none⟩ (.int .i64 keep')) = w5 := ⟨_, rfl⟩
    rw [hw5]
    have HK5 := hid (show Keep (fun i => i = w.heap.size) w2 w5 from hw5 ▸ ((((((((Keep.refl (fun i => i = w.heap.size) w2).setCell (p := ⟨w.heap.size, 0, none⟩) (fun _ => rfl) (.slice aN L'.length cN)).setCell (p := ⟨w.heap.size, 1, none⟩) (fun _ => rfl) (.int .i64 size')).setCell (p := ⟨w.heap.size, 2, none⟩) (fun _ => rfl) (.bool down')).setCell (p := ⟨w.heap.size, 3, none⟩) (fun _ => rfl) (.bool due')).setCell (p := ⟨w.heap.size, 4, none⟩) (fun _ => rfl) (.int .i64 ops')).setCell (p := ⟨w.heap.size, 5, none⟩) (fun _ => rfl) (.int .i64 part')).setCell (p := ⟨w.heap.size, 6, none⟩) (fun _ => rfl) (.int .i64 keep')))
    have HN5 := hid (show w5.heap[w.heap.size]? = some (.cells #[.slice aN L'.length cN, .int .i64 size', .bool down', .bool due', .int .i64 ops', .int .i64 part', .int .i64 keep'] 28 (0, 0)) from hw5 ▸ slot_seven HE0.out rfl (.slice aN L'.length cN) (.int .i64 size') (.bool down') (.bool due') (.int .i64 ops') (.int .i64 part') (.int .i64 keep'))
    have HZ5 := hid (HK5.out.at HE2.out (by omega))
    have S5 := hid (S2.out.own HK5.out (fun i (h : i = w.heap.size) => ⟨.inl (.inr ⟨by omega, by omega⟩), by omega⟩))
    have H5 := hid (H2.out.keep HK5.out (fun i h (e : i = w.heap.size) => by rcases h with (h | h) | h; have := HS.out.sub i (HXY.out i h); omega; omega; omega))
    have hs5 := HK5.out.size
    clear hw5 c0 c1 c2 c3 c4 c5 c6 f0 f1 f2 f3 f4 f5 f6
    have a0 : w5.cell? ⟨w.heap.size, 0, none⟩ = some (.slice aN L'.length cN) := by rw [cell_at HN5.out]; rfl
    have a1 : w5.cell? ⟨w.heap.size, 1, none⟩ = some (.int .i64 size') := by rw [cell_at HN5.out]; rfl
    have a2 : w5.cell? ⟨w.heap.size, 2, none⟩ = some (.bool down') := by rw [cell_at HN5.out]; rfl
    have a3 : w5.cell? ⟨w.heap.size, 3, none⟩ = some (.bool due') := by rw [cell_at HN5.out]; rfl
    have a4 : w5.cell? ⟨w.heap.size, 4, none⟩ = some (.int .i64 ops') := by rw [cell_at HN5.out]; rfl
    have a5 : w5.cell? ⟨w.heap.size, 5, none⟩ = some (.int .i64 part') := by rw [cell_at HN5.out]; rfl
    have a6 : w5.cell? ⟨w.heap.size, 6, none⟩ = some (.int .i64 keep') := by rw [cell_at HN5.out]; rfl
    refine wp_region_heldi [0, 1, 2, 3, 4, 5, 6] 100 4 (fun w' => w'.cell? ⟨w.heap.size, 0, none⟩ = some (.slice aN L'.length cN) ∧ w'.cell? ⟨w.heap.size, 1, none⟩ = some (.int .i64 size') ∧ w'.cell? ⟨w.heap.size, 2, none⟩ = some (.bool down') ∧ w'.cell? ⟨w.heap.size, 3, none⟩ = some (.bool due') ∧ w'.cell? ⟨w.heap.size, 4, none⟩ = some (.int .i64 ops') ∧ w'.cell? ⟨w.heap.size, 5, none⟩ = some (.int .i64 part') ∧ w'.cell? ⟨w.heap.size, 6, none⟩ = some (.int .i64 keep')) (by kernel_rfl) (by kernel_rfl) (by kernel_rfl) ⟨a0, a1, a2, a3, a4, a5, a6⟩ (fun d _ _ _ _ h => by cases d <;> exact h) ?_
    iterate 7 (first | (refine heldI_step rfl rfl (fun w' hS => by (obtain ⟨s0, s1, s2, s3, s4, s5, s6⟩ := hS; go_simp; with_reducible rfl)) ?_; simp only [Act.put, List.setIfInBounds_toArray, List.set_cons_zero, List.set_cons_succ]) | (refine heldI_want rfl rfl (fun w' hS => by (obtain ⟨s0, s1, s2, s3, s4, s5, s6⟩ := hS; go_simp; with_reducible rfl)) ?_; simp only [Act.put, List.setIfInBounds_toArray, List.set_cons_zero, List.set_cons_succ]) | (refine heldI_skip rfl rfl ?_; simp only [Act.put, List.setIfInBounds_toArray, List.set_cons_zero, List.set_cons_succ]))
    refine heldI_nil ?_
    refine anyZ_next' (j := 7) (by kernel_rfl) rfl rfl ?_
    go_simp
    have kd := keep_drawn' w5 (w5.drawn + 1)
    refine (is_any (S5.out.keep kd) hT1 ⟨size', down', due', ops', part', keep'⟩ HRN.out (H5.out.keep kd (fun _ _ h => h))).mono ?_
    rintro e w6 ⟨rfl, hK6⟩
    have HK6 := hid (kd.trans hK6 (fun _ _ h => h))
    have HN6 := hid (HK6.out.at HN5.out (fun h => h))
    have HZ6 := hid (HK6.out.at HZ5.out (fun h => h))
    have hs6 : w5.heap.size ≤ w6.heap.size := HK6.out.size
    clear kd hK6 a0 a1 a2 a3 a4 a5 a6
    have b0 : w6.cell? ⟨w.heap.size, 0, none⟩ = some (.slice aN L'.length cN) := by rw [cell_at HN6.out]; rfl
    have b1 : w6.cell? ⟨w.heap.size, 1, none⟩ = some (.int .i64 size') := by rw [cell_at HN6.out]; rfl
    have b2 : w6.cell? ⟨w.heap.size, 2, none⟩ = some (.bool down') := by rw [cell_at HN6.out]; rfl
    have b3 : w6.cell? ⟨w.heap.size, 3, none⟩ = some (.bool due') := by rw [cell_at HN6.out]; rfl
    have b4 : w6.cell? ⟨w.heap.size, 4, none⟩ = some (.int .i64 ops') := by rw [cell_at HN6.out]; rfl
    have b5 : w6.cell? ⟨w.heap.size, 5, none⟩ = some (.int .i64 part') := by rw [cell_at HN6.out]; rfl
    have b6 : w6.cell? ⟨w.heap.size, 6, none⟩ = some (.int .i64 keep') := by rw [cell_at HN6.out]; rfl
    refine ⟨⟨b0, b1, b2, b3, b4, b5, b6⟩, ?_⟩
    refine heldI_run (t := 2) (by kernel_rfl) (fun d _ _ _ _ h => by cases d <;> exact h) w6 ⟨b0, b1, b2, b3, b4, b5, b6⟩ [8] _ _ (by kernel_rfl) ?_
    iterate 1 (first | (refine heldI_step rfl rfl (fun w' hS => by (obtain ⟨s0, s1, s2, s3, s4, s5, s6⟩ := hS; go_simp; with_reducible rfl)) ?_; simp only [Act.put, List.setIfInBounds_toArray, List.set_cons_zero, List.set_cons_succ]) | (refine heldI_want rfl rfl (fun w' hS => by (obtain ⟨s0, s1, s2, s3, s4, s5, s6⟩ := hS; go_simp; with_reducible rfl)) ?_; simp only [Act.put, List.setIfInBounds_toArray, List.set_cons_zero, List.set_cons_succ]) | (refine heldI_skip rfl rfl ?_; simp only [Act.put, List.setIfInBounds_toArray, List.set_cons_zero, List.set_cons_succ]))
    refine heldI_nil ?_
    clear b0 b1 b2 b3 b4 b5 b6
    have z0 : w6.cell? ⟨w.heap.size + 1 + 1, 0, none⟩ = some (.slice none 0 0) := by rw [cell_at HZ6.out]; rfl
    have z1 : w6.cell? ⟨w.heap.size + 1 + 1, 1, none⟩ = some (.int .i64 0) := by rw [cell_at HZ6.out]; rfl
    have z2 : w6.cell? ⟨w.heap.size + 1 + 1, 2, none⟩ = some (.bool false) := by rw [cell_at HZ6.out]; rfl
    have z3 : w6.cell? ⟨w.heap.size + 1 + 1, 3, none⟩ = some (.bool false) := by rw [cell_at HZ6.out]; rfl
    have z4 : w6.cell? ⟨w.heap.size + 1 + 1, 4, none⟩ = some (.int .i64 0) := by rw [cell_at HZ6.out]; rfl
    have z5 : w6.cell? ⟨w.heap.size + 1 + 1, 5, none⟩ = some (.int .i64 0) := by rw [cell_at HZ6.out]; rfl
    have z6 : w6.cell? ⟨w.heap.size + 1 + 1, 6, none⟩ = some (.int .i64 0) := by rw [cell_at HZ6.out]; rfl
    have y0 : w6.frozen? ⟨w.heap.size + 1 + 1, 0, none⟩ = false := frozen_at HZ6.out _
    have y1 : w6.frozen? ⟨w.heap.size + 1 + 1, 1, none⟩ = false := frozen_at HZ6.out _
    have y2 : w6.frozen? ⟨w.heap.size + 1 + 1, 2, none⟩ = false := frozen_at HZ6.out _
    have y3 : w6.frozen? ⟨w.heap.size + 1 + 1, 3, none⟩ = false := frozen_at HZ6.out _
    have y4 : w6.frozen? ⟨w.heap.size + 1 + 1, 4, none⟩ = false := frozen_at HZ6.out _
    have y5 : w6.frozen? ⟨w.heap.size + 1 + 1, 5, none⟩ = false := frozen_at HZ6.out _
    have y6 : w6.frozen? ⟨w.heap.size + 1 + 1, 6, none⟩ = false := frozen_at HZ6.out _
    refine anyZ_next' (j := 9) (by kernel_rfl) rfl rfl ?_
    go_simp
    clear z0 z1 z2 z3 z4 z5 z6 y0 y1 y2 y3 y4 y5 y6
    obtain ⟨w7, hw7⟩ : ∃ w7, (((((((w6.setCell ⟨w.heap.size + 1 + 1, 0, none⟩ (.slice aN L'.length cN)).setCell ⟨w.heap.size + 1 + 1, 1, none⟩ (.int .i64 size')).setCell ⟨w.heap.size + 1 + 1, 2, none⟩ (.bool down')).setCell ⟨w.heap.size + 1 + 1, 3, none⟩ (.bool due')).setCell ⟨w.heap.size + 1 + 1, 4, none⟩ (.int .i64 ops')).setCell ⟨w.heap.size + 1 + 1, 5, none⟩ (.int .i64 part')).setCell ⟨w.heap.size + 1 + 1, 6, none⟩ (.int .i64 keep')) = w7 := ⟨_, rfl⟩
    rw [hw7]
    have HK7 := hid (show Keep (fun i => i = w.heap.size + 1 + 1) w6 w7 from hw7 ▸ ((((((((Keep.refl (fun i => i = w.heap.size + 1 + 1) w6).setCell (p := ⟨w.heap.size + 1 + 1, 0, none⟩) (fun _ => rfl) (.slice aN L'.length cN)).setCell (p := ⟨w.heap.size + 1 + 1, 1, none⟩) (fun _ => rfl) (.int .i64 size')).setCell (p := ⟨w.heap.size + 1 + 1, 2, none⟩) (fun _ => rfl) (.bool down')).setCell (p := ⟨w.heap.size + 1 + 1, 3, none⟩) (fun _ => rfl) (.bool due')).setCell (p := ⟨w.heap.size + 1 + 1, 4, none⟩) (fun _ => rfl) (.int .i64 ops')).setCell (p := ⟨w.heap.size + 1 + 1, 5, none⟩) (fun _ => rfl) (.int .i64 part')).setCell (p := ⟨w.heap.size + 1 + 1, 6, none⟩) (fun _ => rfl) (.int .i64 keep')))
    have HN7 := hid (HK7.out.at HN6.out (by omega))
    have HZ7 := hid (show w7.heap[w.heap.size + 1 + 1]? = some (.cells #[.slice aN L'.length cN, .int .i64 size', .bool down', .bool due', .int .i64 ops', .int .i64 part', .int .i64 keep'] 28 (0, 0)) from hw7 ▸ slot_seven HZ6.out rfl (.slice aN L'.length cN) (.int .i64 size') (.bool down') (.bool due') (.int .i64 ops') (.int .i64 part') (.int .i64 keep'))
    clear hw7
    have b0 : w7.cell? ⟨w.heap.size, 0, none⟩ = some (.slice aN L'.length cN) := by rw [cell_at HN7.out]; rfl
    have b1 : w7.cell? ⟨w.heap.size, 1, none⟩ = some (.int .i64 size') := by rw [cell_at HN7.out]; rfl
    have b2 : w7.cell? ⟨w.heap.size, 2, none⟩ = some (.bool down') := by rw [cell_at HN7.out]; rfl
    have b3 : w7.cell? ⟨w.heap.size, 3, none⟩ = some (.bool due') := by rw [cell_at HN7.out]; rfl
    have b4 : w7.cell? ⟨w.heap.size, 4, none⟩ = some (.int .i64 ops') := by rw [cell_at HN7.out]; rfl
    have b5 : w7.cell? ⟨w.heap.size, 5, none⟩ = some (.int .i64 part') := by rw [cell_at HN7.out]; rfl
    have b6 : w7.cell? ⟨w.heap.size, 6, none⟩ = some (.int .i64 keep') := by rw [cell_at HN7.out]; rfl
    have g0 : w6.cell? ⟨w.heap.size, 0, none⟩ = some (.slice aN L'.length cN) := by rw [cell_at HN6.out]; rfl
    have g1 : w6.cell? ⟨w.heap.size, 1, none⟩ = some (.int .i64 size') := by rw [cell_at HN6.out]; rfl
    have g2 : w6.cell? ⟨w.heap.size, 2, none⟩ = some (.bool down') := by rw [cell_at HN6.out]; rfl
    have g3 : w6.cell? ⟨w.heap.size, 3, none⟩ = some (.bool due') := by rw [cell_at HN6.out]; rfl
    have g4 : w6.cell? ⟨w.heap.size, 4, none⟩ = some (.int .i64 ops') := by rw [cell_at HN6.out]; rfl
    have g5 : w6.cell? ⟨w.heap.size, 5, none⟩ = some (.int .i64 part') := by rw [cell_at HN6.out]; rfl
    have g6 : w6.cell? ⟨w.heap.size, 6, none⟩ = some (.int .i64 keep') := by rw [cell_at HN6.out]; rfl
    refine ⟨by refine ⟨?_, ?_, ?_, ?_, ?_, ?_, ?_⟩ <;> first | exact b0 | exact b1 | exact b2 | exact b3 | exact b4 | exact b5 | exact b6 | exact g0 | exact g1 | exact g2 | exact g3 | exact g4 | exact g5 | exact g6, ?_⟩
    refine heldI_run (t := 0) (by kernel_rfl) (fun d _ _ _ _ h => by cases d <;> exact h) w7 ⟨b0, b1, b2, b3, b4, b5, b6⟩ [10] _ _ (by kernel_rfl) ?_
    iterate 1 (first | (refine heldI_step rfl rfl (fun w' hS => by (obtain ⟨s0, s1, s2, s3, s4, s5, s6⟩ := hS; go_simp; with_reducible rfl)) ?_; simp only [Act.put, List.setIfInBounds_toArray, List.set_cons_zero, List.set_cons_succ]) | (refine heldI_want rfl rfl (fun w' hS => by (obtain ⟨s0, s1, s2, s3, s4, s5, s6⟩ := hS; go_simp; with_reducible rfl)) ?_; simp only [Act.put, List.setIfInBounds_toArray, List.set_cons_zero, List.set_cons_succ]) | (refine heldI_skip rfl rfl ?_; simp only [Act.put, List.setIfInBounds_toArray, List.set_cons_zero, List.set_cons_succ]))
    refine heldI_nil ?_
    refine anyZ_done (by kernel_rfl) ?_
    clear b0 b1 b2 b3 b4 b5 b6 g0 g1 g2 g3 g4 g5 g6
    have b0 : w7.cell? ⟨w.heap.size + 1 + 1, 0, none⟩ = some (.slice aN L'.length cN) := by rw [cell_at HZ7.out]; rfl
    have b1 : w7.cell? ⟨w.heap.size + 1 + 1, 1, none⟩ = some (.int .i64 size') := by rw [cell_at HZ7.out]; rfl
    have b2 : w7.cell? ⟨w.heap.size + 1 + 1, 2, none⟩ = some (.bool down') := by rw [cell_at HZ7.out]; rfl
    have b3 : w7.cell? ⟨w.heap.size + 1 + 1, 3, none⟩ = some (.bool due') := by rw [cell_at HZ7.out]; rfl
    have b4 : w7.cell? ⟨w.heap.size + 1 + 1, 4, none⟩ = some (.int .i64 ops') := by rw [cell_at HZ7.out]; rfl
    have b5 : w7.cell? ⟨w.heap.size + 1 + 1, 5, none⟩ = some (.int .i64 part') := by rw [cell_at HZ7.out]; rfl
    have b6 : w7.cell? ⟨w.heap.size + 1 + 1, 6, none⟩ = some (.int .i64 keep') := by rw [cell_at HZ7.out]; rfl
    go_wp2_with fail
    refine bodyPost_ret (v := .tuple #[RefD.val ⟨size', down', due', ops', part', keep'⟩ (.slice aN L'.length cN), .bool true]) (by rw [results_cell2 rfl]; go_simp; rfl) rfl ⟨r.1, _, _, _, fun i => X i ∨ (w1.heap.size ≤ i ∧ i < w2.heap.size), _, rfl, (S5.out.keep HK6.out).own HK7.out (fun i (h : i = w.heap.size + 1 + 1) => ⟨.inl (.inr ⟨by omega, by omega⟩), by omega⟩), hT1, HRN.out, ((H5.out.keep HK6.out (fun _ _ h => h)).keep HK7.out (fun i h (e : i = w.heap.size + 1 + 1) => by rcases h with (h | h) | h; have := HS.out.sub i (HXY.out i h); omega; omega; omega)).mono (fun i hi h => by rcases h with (h | h) | h; exact .inl (.inl h); exact .inr h; exact .inl (.inr h)), fun i h => .inl (.inl h), fun i h => h.elim (fun h => .inl (.inl (HXY.out i h))) .inr, fun i h => h.imp id (fun h => by omega), (((((HKB.out.mono (fun _ _ h => h.elim)).trans HKa.out (fun i hi h => ⟨h.1, fun hx => h.2 (.inl hx)⟩)).trans HK5.out (fun i hi (h : i = w.heap.size) => by omega)).trans HK6.out (fun i hi h => h.elim)).trans HK7.out (fun i hi (h : i = w.heap.size + 1 + 1) => by omega))⟩
  by_cases hk4 : m.kind.tmod 9 = 4
  · go_wp2_with fail
    obtain ⟨wb, hwb⟩ : ∃ wb, ((w.alloc (.cells #[.slice ao L.length cap, .int .i64 size, .bool down, .bool due, .int .i64 ops, .int .i64 part, .int .i64 keep] 28)).alloc (.cells #[.int .i64 m.kind, .string m.name, .string m.to, .slice A m.b.length C, .int .i64 m.n, .int .i64 m.part, .int .i64 m.keep] 33)).alloc (.cells #[.slice none 0 0, .int .i64 0, .bool false, .bool false, .int .i64 0, .int .i64 0, .int .i64 0] 28) = wb := ⟨_, rfl⟩
    have hkb : Keep (fun _ => False) w wb := hwb ▸ (((Keep.refl _ w).alloc _).alloc _).alloc _
    have hszb : wb.heap.size = w.heap.size + 3 := by rw [← hwb]; simp
    have hb0 : wb.heap[w.heap.size]? = some (.cells #[.slice ao L.length cap, .int .i64 size, .bool down, .bool due, .int .i64 ops, .int .i64 part, .int .i64 keep] 28 (0, 0)) := by rw [← hwb, Below.heap_alloc _ _ _ (by simp; omega), Below.heap_alloc _ _ _ (by simp)]; exact heap_alloc_new _ _
    have hb1 : wb.heap[w.heap.size + 1]? = some (.cells #[.int .i64 m.kind, .string m.name, .string m.to, .slice A m.b.length C, .int .i64 m.n, .int .i64 m.part, .int .i64 m.keep] 33 (0, 0)) := by rw [← hwb, Below.heap_alloc _ _ _ (by simp), show w.heap.size + 1 = (w.alloc (.cells #[.slice ao L.length cap, .int .i64 size, .bool down, .bool due, .int .i64 ops, .int .i64 part, .int .i64 keep] 28)).heap.size by simp]; exact heap_alloc_new _ _
    have hb2 : wb.heap[w.heap.size + 1 + 1]? = some (.cells #[.slice none 0 0, .int .i64 0, .bool false, .bool false, .int .i64 0, .int .i64 0, .int .i64 0] 28 (0, 0)) := by rw [← hwb, show w.heap.size + 1 + 1 = ((w.alloc (.cells #[.slice ao L.length cap, .int .i64 size, .bool down, .bool due, .int .i64 ops, .int .i64 part, .int .i64 keep] 28)).alloc (.cells #[.int .i64 m.kind, .string m.name, .string m.to, .slice A m.b.length C, .int .i64 m.n, .int .i64 m.part, .int .i64 m.keep] 33)).heap.size by simp]; exact heap_alloc_new _ _
    rw [hwb]
    have HKB := hid hkb
    have SB := hid (HS.out.more hkb)
    have HB0 := hid hb0
    have HB1 := hid hb1
    have HB2 := hid hb2
    clear hkb hb0 hb1 hb2 hwb
    refine (st_rename SB.out m.name m.to).mono ?_
    rintro e w1 ⟨rfl, hS1, hK1⟩
    have hT1 := tidy_rename ht m.name m.to
    obtain ⟨r, hr⟩ : ∃ r, rename D m.name m.to = r := ⟨_, rfl⟩
    rw [hr] at hS1 hT1 ⊢
    have HRR := hid hr
    clear hr
    have S1 := hid hS1
    have HK1 := hid (hK1)
    have hs1 := HK1.out.size
    have hsw := HS.out.size
    have HX := hid (show ∀ i, w.heap.size ≤ i → i < wb.heap.size → ¬ (W.heap.size ≤ i ∧ ¬ (Y i ∨ (w.heap.size ≤ i ∧ i < wb.heap.size))) from fun i h1 h2 hn => hn.2 (.inr ⟨h1, h2⟩))
    have HC0 := hid (HK1.out.at HB0.out (HX.out _ (by omega) (by omega)))
    have HC1 := hid (HK1.out.at HB1.out (HX.out _ (by omega) (by omega)))
    have HC2 := hid (HK1.out.at HB2.out (HX.out _ (by omega) (by omega)))
    have HN1 := hid (show ∀ i, (X i ∨ i < W.heap.size) → ¬ (W.heap.size ≤ i ∧ ¬ (Y i ∨ (w.heap.size ≤ i ∧ i < wb.heap.size))) from fun i h hn => h.elim (fun h => hn.2 (.inl (HXY.out i h))) (fun h => by omega))
    have H1 := hid ((H.out.keep HKB.out (fun _ _ h => h)).keep HK1.out HN1.out)
    have HG1 := hid (show ∀ i, (X i ∨ i < W.heap.size) → i < w1.heap.size from fun i h => h.elim (fun h => by have := HS.out.sub i (HXY.out i h); omega) (fun h => by omega))
    clear hS1 hK1
    have c0 : w1.cell? ⟨w.heap.size, 0, none⟩ = some (.slice ao L.length cap) := by rw [cell_at HC0.out]; rfl
    have c1 : w1.cell? ⟨w.heap.size, 1, none⟩ = some (.int .i64 size) := by rw [cell_at HC0.out]; rfl
    have c2 : w1.cell? ⟨w.heap.size, 2, none⟩ = some (.bool down) := by rw [cell_at HC0.out]; rfl
    have c3 : w1.cell? ⟨w.heap.size, 3, none⟩ = some (.bool due) := by rw [cell_at HC0.out]; rfl
    have c4 : w1.cell? ⟨w.heap.size, 4, none⟩ = some (.int .i64 ops) := by rw [cell_at HC0.out]; rfl
    have c5 : w1.cell? ⟨w.heap.size, 5, none⟩ = some (.int .i64 part) := by rw [cell_at HC0.out]; rfl
    have c6 : w1.cell? ⟨w.heap.size, 6, none⟩ = some (.int .i64 keep) := by rw [cell_at HC0.out]; rfl
    have d0 : w1.cell? ⟨w.heap.size + 1, 0, none⟩ = some (.int .i64 m.kind) := by rw [cell_at HC1.out]; rfl
    have d1 : w1.cell? ⟨w.heap.size + 1, 1, none⟩ = some (.string m.name) := by rw [cell_at HC1.out]; rfl
    have d2 : w1.cell? ⟨w.heap.size + 1, 2, none⟩ = some (.string m.to) := by rw [cell_at HC1.out]; rfl
    have d3 : w1.cell? ⟨w.heap.size + 1, 3, none⟩ = some (.slice A m.b.length C) := by rw [cell_at HC1.out]; rfl
    have d4 : w1.cell? ⟨w.heap.size + 1, 4, none⟩ = some (.int .i64 m.n) := by rw [cell_at HC1.out]; rfl
    have d5 : w1.cell? ⟨w.heap.size + 1, 5, none⟩ = some (.int .i64 m.part) := by rw [cell_at HC1.out]; rfl
    have d6 : w1.cell? ⟨w.heap.size + 1, 6, none⟩ = some (.int .i64 m.keep) := by rw [cell_at HC1.out]; rfl
    go_wp2_with fail
    refine (do_rename HR.out HOK.out ht H1.out HG1.out m.name m.to 0).mono ?_
    rintro e w2 ⟨vN, ⟨size', down', due', ops', part', keep'⟩, L', rfl, hRN, hF2, hK2⟩
    rw [HRR.out] at hRN ⊢
    obtain ⟨aN, cN, hvN⟩ := hF2.slice
    subst hvN
    have HRN := hid hRN
    have H2 := hid (hF2.mono (G' := fun i => (X i ∨ i < W.heap.size) ∨ (w1.heap.size ≤ i ∧ i < w2.heap.size)) (fun i hi h => h.imp id (fun h => ⟨h, hi⟩)))
    have hs2 := hK2.size
    have S2 := hid (S1.out.more hK2)
    have HE0 := hid (hK2.at HC0.out (fun h => h))
    have HE2 := hid (hK2.at HC2.out (fun h => h))
    have HKa := hid (HK1.out.trans hK2 (fun _ _ h => h.elim))
    clear hF2 hRN hK2 c0 c1 c2 c3 c4 c5 c6 d0 d1 d2 d3 d4 d5 d6
    unfold RefD.val RefD.cells
    have c0 : w2.cell? ⟨w.heap.size, 0, none⟩ = some (.slice ao L.length cap) := by rw [cell_at HE0.out]; rfl
    have c1 : w2.cell? ⟨w.heap.size, 1, none⟩ = some (.int .i64 size) := by rw [cell_at HE0.out]; rfl
    have c2 : w2.cell? ⟨w.heap.size, 2, none⟩ = some (.bool down) := by rw [cell_at HE0.out]; rfl
    have c3 : w2.cell? ⟨w.heap.size, 3, none⟩ = some (.bool due) := by rw [cell_at HE0.out]; rfl
    have c4 : w2.cell? ⟨w.heap.size, 4, none⟩ = some (.int .i64 ops) := by rw [cell_at HE0.out]; rfl
    have c5 : w2.cell? ⟨w.heap.size, 5, none⟩ = some (.int .i64 part) := by rw [cell_at HE0.out]; rfl
    have c6 : w2.cell? ⟨w.heap.size, 6, none⟩ = some (.int .i64 keep) := by rw [cell_at HE0.out]; rfl
    have f0 : w2.frozen? ⟨w.heap.size, 0, none⟩ = false := frozen_at HE0.out _
    have f1 : w2.frozen? ⟨w.heap.size, 1, none⟩ = false := frozen_at HE0.out _
    have f2 : w2.frozen? ⟨w.heap.size, 2, none⟩ = false := frozen_at HE0.out _
    have f3 : w2.frozen? ⟨w.heap.size, 3, none⟩ = false := frozen_at HE0.out _
    have f4 : w2.frozen? ⟨w.heap.size, 4, none⟩ = false := frozen_at HE0.out _
    have f5 : w2.frozen? ⟨w.heap.size, 5, none⟩ = false := frozen_at HE0.out _
    have f6 : w2.frozen? ⟨w.heap.size, 6, none⟩ = false := frozen_at HE0.out _
    go_wp2_with fail
    obtain ⟨w5, hw5⟩ : ∃ w5, (((((((w2.setCell ⟨w.heap.size, 0, none⟩ (.slice aN L'.length cN)).setCell ⟨w.heap.size, 1, none⟩ (.int .i64 size')).setCell ⟨w.heap.size, 2, none⟩ (.bool down')).setCell ⟨w.heap.size, 3, none⟩ (.bool due')).setCell ⟨w.heap.size, 4, none⟩ (.int .i64 ops')).setCell ⟨w.heap.size, 5, none⟩ (.int .i64 part')).setCell ⟨w.heap.size, 6, none⟩ (.int .i64 keep')) = w5 := ⟨_, rfl⟩
    rw [hw5]
    have HK5 := hid (show Keep (fun i => i = w.heap.size) w2 w5 from hw5 ▸ ((((((((Keep.refl (fun i => i = w.heap.size) w2).setCell (p := ⟨w.heap.size, 0, none⟩) (fun _ => rfl) (.slice aN L'.length cN)).setCell (p := ⟨w.heap.size, 1, none⟩) (fun _ => rfl) (.int .i64 size')).setCell (p := ⟨w.heap.size, 2, none⟩) (fun _ => rfl) (.bool down')).setCell (p := ⟨w.heap.size, 3, none⟩) (fun _ => rfl) (.bool due')).setCell (p := ⟨w.heap.size, 4, none⟩) (fun _ => rfl) (.int .i64 ops')).setCell (p := ⟨w.heap.size, 5, none⟩) (fun _ => rfl) (.int .i64 part')).setCell (p := ⟨w.heap.size, 6, none⟩) (fun _ => rfl) (.int .i64 keep')))
    have HN5 := hid (show w5.heap[w.heap.size]? = some (.cells #[.slice aN L'.length cN, .int .i64 size', .bool down', .bool due', .int .i64 ops', .int .i64 part', .int .i64 keep'] 28 (0, 0)) from hw5 ▸ slot_seven HE0.out rfl (.slice aN L'.length cN) (.int .i64 size') (.bool down') (.bool due') (.int .i64 ops') (.int .i64 part') (.int .i64 keep'))
    have HZ5 := hid (HK5.out.at HE2.out (by omega))
    have S5 := hid (S2.out.own HK5.out (fun i (h : i = w.heap.size) => ⟨.inl (.inr ⟨by omega, by omega⟩), by omega⟩))
    have H5 := hid (H2.out.keep HK5.out (fun i h (e : i = w.heap.size) => by rcases h with (h | h) | h; have := HS.out.sub i (HXY.out i h); omega; omega; omega))
    have hs5 := HK5.out.size
    clear hw5 c0 c1 c2 c3 c4 c5 c6 f0 f1 f2 f3 f4 f5 f6
    have a0 : w5.cell? ⟨w.heap.size, 0, none⟩ = some (.slice aN L'.length cN) := by rw [cell_at HN5.out]; rfl
    have a1 : w5.cell? ⟨w.heap.size, 1, none⟩ = some (.int .i64 size') := by rw [cell_at HN5.out]; rfl
    have a2 : w5.cell? ⟨w.heap.size, 2, none⟩ = some (.bool down') := by rw [cell_at HN5.out]; rfl
    have a3 : w5.cell? ⟨w.heap.size, 3, none⟩ = some (.bool due') := by rw [cell_at HN5.out]; rfl
    have a4 : w5.cell? ⟨w.heap.size, 4, none⟩ = some (.int .i64 ops') := by rw [cell_at HN5.out]; rfl
    have a5 : w5.cell? ⟨w.heap.size, 5, none⟩ = some (.int .i64 part') := by rw [cell_at HN5.out]; rfl
    have a6 : w5.cell? ⟨w.heap.size, 6, none⟩ = some (.int .i64 keep') := by rw [cell_at HN5.out]; rfl
    refine wp_region_heldi [0, 1, 2, 3, 4, 5, 6] 100 4 (fun w' => w'.cell? ⟨w.heap.size, 0, none⟩ = some (.slice aN L'.length cN) ∧ w'.cell? ⟨w.heap.size, 1, none⟩ = some (.int .i64 size') ∧ w'.cell? ⟨w.heap.size, 2, none⟩ = some (.bool down') ∧ w'.cell? ⟨w.heap.size, 3, none⟩ = some (.bool due') ∧ w'.cell? ⟨w.heap.size, 4, none⟩ = some (.int .i64 ops') ∧ w'.cell? ⟨w.heap.size, 5, none⟩ = some (.int .i64 part') ∧ w'.cell? ⟨w.heap.size, 6, none⟩ = some (.int .i64 keep')) (by kernel_rfl) (by kernel_rfl) (by kernel_rfl) ⟨a0, a1, a2, a3, a4, a5, a6⟩ (fun d _ _ _ _ h => by cases d <;> exact h) ?_
    iterate 7 (first | (refine heldI_step rfl rfl (fun w' hS => by (obtain ⟨s0, s1, s2, s3, s4, s5, s6⟩ := hS; go_simp; with_reducible rfl)) ?_; simp only [Act.put, List.setIfInBounds_toArray, List.set_cons_zero, List.set_cons_succ]) | (refine heldI_want rfl rfl (fun w' hS => by (obtain ⟨s0, s1, s2, s3, s4, s5, s6⟩ := hS; go_simp; with_reducible rfl)) ?_; simp only [Act.put, List.setIfInBounds_toArray, List.set_cons_zero, List.set_cons_succ]) | (refine heldI_skip rfl rfl ?_; simp only [Act.put, List.setIfInBounds_toArray, List.set_cons_zero, List.set_cons_succ]))
    refine heldI_nil ?_
    refine anyZ_next' (j := 7) (by kernel_rfl) rfl rfl ?_
    go_simp
    have kd := keep_drawn' w5 (w5.drawn + 1)
    refine (is_any (S5.out.keep kd) hT1 ⟨size', down', due', ops', part', keep'⟩ HRN.out (H5.out.keep kd (fun _ _ h => h))).mono ?_
    rintro e w6 ⟨rfl, hK6⟩
    have HK6 := hid (kd.trans hK6 (fun _ _ h => h))
    have HN6 := hid (HK6.out.at HN5.out (fun h => h))
    have HZ6 := hid (HK6.out.at HZ5.out (fun h => h))
    have hs6 : w5.heap.size ≤ w6.heap.size := HK6.out.size
    clear kd hK6 a0 a1 a2 a3 a4 a5 a6
    have b0 : w6.cell? ⟨w.heap.size, 0, none⟩ = some (.slice aN L'.length cN) := by rw [cell_at HN6.out]; rfl
    have b1 : w6.cell? ⟨w.heap.size, 1, none⟩ = some (.int .i64 size') := by rw [cell_at HN6.out]; rfl
    have b2 : w6.cell? ⟨w.heap.size, 2, none⟩ = some (.bool down') := by rw [cell_at HN6.out]; rfl
    have b3 : w6.cell? ⟨w.heap.size, 3, none⟩ = some (.bool due') := by rw [cell_at HN6.out]; rfl
    have b4 : w6.cell? ⟨w.heap.size, 4, none⟩ = some (.int .i64 ops') := by rw [cell_at HN6.out]; rfl
    have b5 : w6.cell? ⟨w.heap.size, 5, none⟩ = some (.int .i64 part') := by rw [cell_at HN6.out]; rfl
    have b6 : w6.cell? ⟨w.heap.size, 6, none⟩ = some (.int .i64 keep') := by rw [cell_at HN6.out]; rfl
    refine ⟨⟨b0, b1, b2, b3, b4, b5, b6⟩, ?_⟩
    refine heldI_run (t := 2) (by kernel_rfl) (fun d _ _ _ _ h => by cases d <;> exact h) w6 ⟨b0, b1, b2, b3, b4, b5, b6⟩ [8] _ _ (by kernel_rfl) ?_
    iterate 1 (first | (refine heldI_step rfl rfl (fun w' hS => by (obtain ⟨s0, s1, s2, s3, s4, s5, s6⟩ := hS; go_simp; with_reducible rfl)) ?_; simp only [Act.put, List.setIfInBounds_toArray, List.set_cons_zero, List.set_cons_succ]) | (refine heldI_want rfl rfl (fun w' hS => by (obtain ⟨s0, s1, s2, s3, s4, s5, s6⟩ := hS; go_simp; with_reducible rfl)) ?_; simp only [Act.put, List.setIfInBounds_toArray, List.set_cons_zero, List.set_cons_succ]) | (refine heldI_skip rfl rfl ?_; simp only [Act.put, List.setIfInBounds_toArray, List.set_cons_zero, List.set_cons_succ]))
    refine heldI_nil ?_
    clear b0 b1 b2 b3 b4 b5 b6
    have z0 : w6.cell? ⟨w.heap.size + 1 + 1, 0, none⟩ = some (.slice none 0 0) := by rw [cell_at HZ6.out]; rfl
    have z1 : w6.cell? ⟨w.heap.size + 1 + 1, 1, none⟩ = some (.int .i64 0) := by rw [cell_at HZ6.out]; rfl
    have z2 : w6.cell? ⟨w.heap.size + 1 + 1, 2, none⟩ = some (.bool false) := by rw [cell_at HZ6.out]; rfl
    have z3 : w6.cell? ⟨w.heap.size + 1 + 1, 3, none⟩ = some (.bool false) := by rw [cell_at HZ6.out]; rfl
    have z4 : w6.cell? ⟨w.heap.size + 1 + 1, 4, none⟩ = some (.int .i64 0) := by rw [cell_at HZ6.out]; rfl
    have z5 : w6.cell? ⟨w.heap.size + 1 + 1, 5, none⟩ = some (.int .i64 0) := by rw [cell_at HZ6.out]; rfl
    have z6 : w6.cell? ⟨w.heap.size + 1 + 1, 6, none⟩ = some (.int .i64 0) := by rw [cell_at HZ6.out]; rfl
    have y0 : w6.frozen? ⟨w.heap.size + 1 + 1, 0, none⟩ = false := frozen_at HZ6.out _
    have y1 : w6.frozen? ⟨w.heap.size + 1 + 1, 1, none⟩ = false := frozen_at HZ6.out _
    have y2 : w6.frozen? ⟨w.heap.size + 1 + 1, 2, none⟩ = false := frozen_at HZ6.out _
    have y3 : w6.frozen? ⟨w.heap.size + 1 + 1, 3, none⟩ = false := frozen_at HZ6.out _
    have y4 : w6.frozen? ⟨w.heap.size + 1 + 1, 4, none⟩ = false := frozen_at HZ6.out _
    have y5 : w6.frozen? ⟨w.heap.size + 1 + 1, 5, none⟩ = false := frozen_at HZ6.out _
    have y6 : w6.frozen? ⟨w.heap.size + 1 + 1, 6, none⟩ = false := frozen_at HZ6.out _
    refine anyZ_next' (j := 9) (by kernel_rfl) rfl rfl ?_
    go_simp
    clear z0 z1 z2 z3 z4 z5 z6 y0 y1 y2 y3 y4 y5 y6
    obtain ⟨w7, hw7⟩ : ∃ w7, (((((((w6.setCell ⟨w.heap.size + 1 + 1, 0, none⟩ (.slice aN L'.length cN)).setCell ⟨w.heap.size + 1 + 1, 1, none⟩ (.int .i64 size')).setCell ⟨w.heap.size + 1 + 1, 2, none⟩ (.bool down')).setCell ⟨w.heap.size + 1 + 1, 3, none⟩ (.bool due')).setCell ⟨w.heap.size + 1 + 1, 4, none⟩ (.int .i64 ops')).setCell ⟨w.heap.size + 1 + 1, 5, none⟩ (.int .i64 part')).setCell ⟨w.heap.size + 1 + 1, 6, none⟩ (.int .i64 keep')) = w7 := ⟨_, rfl⟩
    rw [hw7]
    have HK7 := hid (show Keep (fun i => i = w.heap.size + 1 + 1) w6 w7 from hw7 ▸ ((((((((Keep.refl (fun i => i = w.heap.size + 1 + 1) w6).setCell (p := ⟨w.heap.size + 1 + 1, 0, none⟩) (fun _ => rfl) (.slice aN L'.length cN)).setCell (p := ⟨w.heap.size + 1 + 1, 1, none⟩) (fun _ => rfl) (.int .i64 size')).setCell (p := ⟨w.heap.size + 1 + 1, 2, none⟩) (fun _ => rfl) (.bool down')).setCell (p := ⟨w.heap.size + 1 + 1, 3, none⟩) (fun _ => rfl) (.bool due')).setCell (p := ⟨w.heap.size + 1 + 1, 4, none⟩) (fun _ => rfl) (.int .i64 ops')).setCell (p := ⟨w.heap.size + 1 + 1, 5, none⟩) (fun _ => rfl) (.int .i64 part')).setCell (p := ⟨w.heap.size + 1 + 1, 6, none⟩) (fun _ => rfl) (.int .i64 keep')))
    have HN7 := hid (HK7.out.at HN6.out (by omega))
    have HZ7 := hid (show w7.heap[w.heap.size + 1 + 1]? = some (.cells #[.slice aN L'.length cN, .int .i64 size', .bool down', .bool due', .int .i64 ops', .int .i64 part', .int .i64 keep'] 28 (0, 0)) from hw7 ▸ slot_seven HZ6.out rfl (.slice aN L'.length cN) (.int .i64 size') (.bool down') (.bool due') (.int .i64 ops') (.int .i64 part') (.int .i64 keep'))
    clear hw7
    have b0 : w7.cell? ⟨w.heap.size, 0, none⟩ = some (.slice aN L'.length cN) := by rw [cell_at HN7.out]; rfl
    have b1 : w7.cell? ⟨w.heap.size, 1, none⟩ = some (.int .i64 size') := by rw [cell_at HN7.out]; rfl
    have b2 : w7.cell? ⟨w.heap.size, 2, none⟩ = some (.bool down') := by rw [cell_at HN7.out]; rfl
    have b3 : w7.cell? ⟨w.heap.size, 3, none⟩ = some (.bool due') := by rw [cell_at HN7.out]; rfl
    have b4 : w7.cell? ⟨w.heap.size, 4, none⟩ = some (.int .i64 ops') := by rw [cell_at HN7.out]; rfl
    have b5 : w7.cell? ⟨w.heap.size, 5, none⟩ = some (.int .i64 part') := by rw [cell_at HN7.out]; rfl
    have b6 : w7.cell? ⟨w.heap.size, 6, none⟩ = some (.int .i64 keep') := by rw [cell_at HN7.out]; rfl
    have g0 : w6.cell? ⟨w.heap.size, 0, none⟩ = some (.slice aN L'.length cN) := by rw [cell_at HN6.out]; rfl
    have g1 : w6.cell? ⟨w.heap.size, 1, none⟩ = some (.int .i64 size') := by rw [cell_at HN6.out]; rfl
    have g2 : w6.cell? ⟨w.heap.size, 2, none⟩ = some (.bool down') := by rw [cell_at HN6.out]; rfl
    have g3 : w6.cell? ⟨w.heap.size, 3, none⟩ = some (.bool due') := by rw [cell_at HN6.out]; rfl
    have g4 : w6.cell? ⟨w.heap.size, 4, none⟩ = some (.int .i64 ops') := by rw [cell_at HN6.out]; rfl
    have g5 : w6.cell? ⟨w.heap.size, 5, none⟩ = some (.int .i64 part') := by rw [cell_at HN6.out]; rfl
    have g6 : w6.cell? ⟨w.heap.size, 6, none⟩ = some (.int .i64 keep') := by rw [cell_at HN6.out]; rfl
    refine ⟨by refine ⟨?_, ?_, ?_, ?_, ?_, ?_, ?_⟩ <;> first | exact b0 | exact b1 | exact b2 | exact b3 | exact b4 | exact b5 | exact b6 | exact g0 | exact g1 | exact g2 | exact g3 | exact g4 | exact g5 | exact g6, ?_⟩
    refine heldI_run (t := 0) (by kernel_rfl) (fun d _ _ _ _ h => by cases d <;> exact h) w7 ⟨b0, b1, b2, b3, b4, b5, b6⟩ [10] _ _ (by kernel_rfl) ?_
    iterate 1 (first | (refine heldI_step rfl rfl (fun w' hS => by (obtain ⟨s0, s1, s2, s3, s4, s5, s6⟩ := hS; go_simp; with_reducible rfl)) ?_; simp only [Act.put, List.setIfInBounds_toArray, List.set_cons_zero, List.set_cons_succ]) | (refine heldI_want rfl rfl (fun w' hS => by (obtain ⟨s0, s1, s2, s3, s4, s5, s6⟩ := hS; go_simp; with_reducible rfl)) ?_; simp only [Act.put, List.setIfInBounds_toArray, List.set_cons_zero, List.set_cons_succ]) | (refine heldI_skip rfl rfl ?_; simp only [Act.put, List.setIfInBounds_toArray, List.set_cons_zero, List.set_cons_succ]))
    refine heldI_nil ?_
    refine anyZ_done (by kernel_rfl) ?_
    clear b0 b1 b2 b3 b4 b5 b6 g0 g1 g2 g3 g4 g5 g6
    have b0 : w7.cell? ⟨w.heap.size + 1 + 1, 0, none⟩ = some (.slice aN L'.length cN) := by rw [cell_at HZ7.out]; rfl
    have b1 : w7.cell? ⟨w.heap.size + 1 + 1, 1, none⟩ = some (.int .i64 size') := by rw [cell_at HZ7.out]; rfl
    have b2 : w7.cell? ⟨w.heap.size + 1 + 1, 2, none⟩ = some (.bool down') := by rw [cell_at HZ7.out]; rfl
    have b3 : w7.cell? ⟨w.heap.size + 1 + 1, 3, none⟩ = some (.bool due') := by rw [cell_at HZ7.out]; rfl
    have b4 : w7.cell? ⟨w.heap.size + 1 + 1, 4, none⟩ = some (.int .i64 ops') := by rw [cell_at HZ7.out]; rfl
    have b5 : w7.cell? ⟨w.heap.size + 1 + 1, 5, none⟩ = some (.int .i64 part') := by rw [cell_at HZ7.out]; rfl
    have b6 : w7.cell? ⟨w.heap.size + 1 + 1, 6, none⟩ = some (.int .i64 keep') := by rw [cell_at HZ7.out]; rfl
    go_wp2_with fail
    refine bodyPost_ret (v := .tuple #[RefD.val ⟨size', down', due', ops', part', keep'⟩ (.slice aN L'.length cN), .bool true]) (by rw [results_cell2 rfl]; go_simp; rfl) rfl ⟨r.1, _, _, _, fun i => X i ∨ (w1.heap.size ≤ i ∧ i < w2.heap.size), _, rfl, (S5.out.keep HK6.out).own HK7.out (fun i (h : i = w.heap.size + 1 + 1) => ⟨.inl (.inr ⟨by omega, by omega⟩), by omega⟩), hT1, HRN.out, ((H5.out.keep HK6.out (fun _ _ h => h)).keep HK7.out (fun i h (e : i = w.heap.size + 1 + 1) => by rcases h with (h | h) | h; have := HS.out.sub i (HXY.out i h); omega; omega; omega)).mono (fun i hi h => by rcases h with (h | h) | h; exact .inl (.inl h); exact .inr h; exact .inl (.inr h)), fun i h => .inl (.inl h), fun i h => h.elim (fun h => .inl (.inl (HXY.out i h))) .inr, fun i h => h.imp id (fun h => by omega), (((((HKB.out.mono (fun _ _ h => h.elim)).trans HKa.out (fun i hi h => ⟨h.1, fun hx => h.2 (.inl hx)⟩)).trans HK5.out (fun i hi (h : i = w.heap.size) => by omega)).trans HK6.out (fun i hi h => h.elim)).trans HK7.out (fun i hi (h : i = w.heap.size + 1 + 1) => by omega))⟩
  by_cases hk5 : m.kind.tmod 9 = 5
  · go_wp2_with fail
    obtain ⟨wb, hwb⟩ : ∃ wb, ((w.alloc (.cells #[.slice ao L.length cap, .int .i64 size, .bool down, .bool due, .int .i64 ops, .int .i64 part, .int .i64 keep] 28)).alloc (.cells #[.int .i64 m.kind, .string m.name, .string m.to, .slice A m.b.length C, .int .i64 m.n, .int .i64 m.part, .int .i64 m.keep] 33)).alloc (.cells #[.slice none 0 0, .int .i64 0, .bool false, .bool false, .int .i64 0, .int .i64 0, .int .i64 0] 28) = wb := ⟨_, rfl⟩
    have hkb : Keep (fun _ => False) w wb := hwb ▸ (((Keep.refl _ w).alloc _).alloc _).alloc _
    have hszb : wb.heap.size = w.heap.size + 3 := by rw [← hwb]; simp
    have hb0 : wb.heap[w.heap.size]? = some (.cells #[.slice ao L.length cap, .int .i64 size, .bool down, .bool due, .int .i64 ops, .int .i64 part, .int .i64 keep] 28 (0, 0)) := by rw [← hwb, Below.heap_alloc _ _ _ (by simp; omega), Below.heap_alloc _ _ _ (by simp)]; exact heap_alloc_new _ _
    have hb1 : wb.heap[w.heap.size + 1]? = some (.cells #[.int .i64 m.kind, .string m.name, .string m.to, .slice A m.b.length C, .int .i64 m.n, .int .i64 m.part, .int .i64 m.keep] 33 (0, 0)) := by rw [← hwb, Below.heap_alloc _ _ _ (by simp), show w.heap.size + 1 = (w.alloc (.cells #[.slice ao L.length cap, .int .i64 size, .bool down, .bool due, .int .i64 ops, .int .i64 part, .int .i64 keep] 28)).heap.size by simp]; exact heap_alloc_new _ _
    have hb2 : wb.heap[w.heap.size + 1 + 1]? = some (.cells #[.slice none 0 0, .int .i64 0, .bool false, .bool false, .int .i64 0, .int .i64 0, .int .i64 0] 28 (0, 0)) := by rw [← hwb, show w.heap.size + 1 + 1 = ((w.alloc (.cells #[.slice ao L.length cap, .int .i64 size, .bool down, .bool due, .int .i64 ops, .int .i64 part, .int .i64 keep] 28)).alloc (.cells #[.int .i64 m.kind, .string m.name, .string m.to, .slice A m.b.length C, .int .i64 m.n, .int .i64 m.part, .int .i64 m.keep] 33)).heap.size by simp]; exact heap_alloc_new _ _
    rw [hwb]
    have HKB := hid hkb
    have SB := hid (HS.out.more hkb)
    have HB0 := hid hb0
    have HB1 := hid hb1
    have HB2 := hid hb2
    clear hkb hb0 hb1 hb2 hwb
    refine (st_remove SB.out m.name).mono ?_
    rintro e w1 ⟨rfl, hS1, hK1⟩
    have hT1 := tidy_remove ht m.name
    obtain ⟨r, hr⟩ : ∃ r, remove D m.name = r := ⟨_, rfl⟩
    rw [hr] at hS1 hT1 ⊢
    have HRR := hid hr
    clear hr
    have S1 := hid hS1
    have HK1 := hid (hK1)
    have hs1 := HK1.out.size
    have hsw := HS.out.size
    have HX := hid (show ∀ i, w.heap.size ≤ i → i < wb.heap.size → ¬ (W.heap.size ≤ i ∧ ¬ (Y i ∨ (w.heap.size ≤ i ∧ i < wb.heap.size))) from fun i h1 h2 hn => hn.2 (.inr ⟨h1, h2⟩))
    have HC0 := hid (HK1.out.at HB0.out (HX.out _ (by omega) (by omega)))
    have HC1 := hid (HK1.out.at HB1.out (HX.out _ (by omega) (by omega)))
    have HC2 := hid (HK1.out.at HB2.out (HX.out _ (by omega) (by omega)))
    have HN1 := hid (show ∀ i, (X i ∨ i < W.heap.size) → ¬ (W.heap.size ≤ i ∧ ¬ (Y i ∨ (w.heap.size ≤ i ∧ i < wb.heap.size))) from fun i h hn => h.elim (fun h => hn.2 (.inl (HXY.out i h))) (fun h => by omega))
    have H1 := hid ((H.out.keep HKB.out (fun _ _ h => h)).keep HK1.out HN1.out)
    have HG1 := hid (show ∀ i, (X i ∨ i < W.heap.size) → i < w1.heap.size from fun i h => h.elim (fun h => by have := HS.out.sub i (HXY.out i h); omega) (fun h => by omega))
    clear hS1 hK1
    have c0 : w1.cell? ⟨w.heap.size, 0, none⟩ = some (.slice ao L.length cap) := by rw [cell_at HC0.out]; rfl
    have c1 : w1.cell? ⟨w.heap.size, 1, none⟩ = some (.int .i64 size) := by rw [cell_at HC0.out]; rfl
    have c2 : w1.cell? ⟨w.heap.size, 2, none⟩ = some (.bool down) := by rw [cell_at HC0.out]; rfl
    have c3 : w1.cell? ⟨w.heap.size, 3, none⟩ = some (.bool due) := by rw [cell_at HC0.out]; rfl
    have c4 : w1.cell? ⟨w.heap.size, 4, none⟩ = some (.int .i64 ops) := by rw [cell_at HC0.out]; rfl
    have c5 : w1.cell? ⟨w.heap.size, 5, none⟩ = some (.int .i64 part) := by rw [cell_at HC0.out]; rfl
    have c6 : w1.cell? ⟨w.heap.size, 6, none⟩ = some (.int .i64 keep) := by rw [cell_at HC0.out]; rfl
    have d0 : w1.cell? ⟨w.heap.size + 1, 0, none⟩ = some (.int .i64 m.kind) := by rw [cell_at HC1.out]; rfl
    have d1 : w1.cell? ⟨w.heap.size + 1, 1, none⟩ = some (.string m.name) := by rw [cell_at HC1.out]; rfl
    have d2 : w1.cell? ⟨w.heap.size + 1, 2, none⟩ = some (.string m.to) := by rw [cell_at HC1.out]; rfl
    have d3 : w1.cell? ⟨w.heap.size + 1, 3, none⟩ = some (.slice A m.b.length C) := by rw [cell_at HC1.out]; rfl
    have d4 : w1.cell? ⟨w.heap.size + 1, 4, none⟩ = some (.int .i64 m.n) := by rw [cell_at HC1.out]; rfl
    have d5 : w1.cell? ⟨w.heap.size + 1, 5, none⟩ = some (.int .i64 m.part) := by rw [cell_at HC1.out]; rfl
    have d6 : w1.cell? ⟨w.heap.size + 1, 6, none⟩ = some (.int .i64 m.keep) := by rw [cell_at HC1.out]; rfl
    go_wp2_with fail
    refine (do_remove HR.out HOK.out ht H1.out HG1.out m.name ⟨#[]⟩ 0).mono ?_
    rintro e w2 ⟨vN, ⟨size', down', due', ops', part', keep'⟩, L', rfl, hRN, hF2, hK2⟩
    rw [HRR.out] at hRN ⊢
    obtain ⟨aN, cN, hvN⟩ := hF2.slice
    subst hvN
    have HRN := hid hRN
    have H2 := hid (hF2.mono (G' := fun i => (X i ∨ i < W.heap.size) ∨ (w1.heap.size ≤ i ∧ i < w2.heap.size)) (fun i hi h => h.imp id (fun h => ⟨h, hi⟩)))
    have hs2 := hK2.size
    have S2 := hid (S1.out.more hK2)
    have HE0 := hid (hK2.at HC0.out (fun h => h))
    have HE2 := hid (hK2.at HC2.out (fun h => h))
    have HKa := hid (HK1.out.trans hK2 (fun _ _ h => h.elim))
    clear hF2 hRN hK2 c0 c1 c2 c3 c4 c5 c6 d0 d1 d2 d3 d4 d5 d6
    unfold RefD.val RefD.cells
    have c0 : w2.cell? ⟨w.heap.size, 0, none⟩ = some (.slice ao L.length cap) := by rw [cell_at HE0.out]; rfl
    have c1 : w2.cell? ⟨w.heap.size, 1, none⟩ = some (.int .i64 size) := by rw [cell_at HE0.out]; rfl
    have c2 : w2.cell? ⟨w.heap.size, 2, none⟩ = some (.bool down) := by rw [cell_at HE0.out]; rfl
    have c3 : w2.cell? ⟨w.heap.size, 3, none⟩ = some (.bool due) := by rw [cell_at HE0.out]; rfl
    have c4 : w2.cell? ⟨w.heap.size, 4, none⟩ = some (.int .i64 ops) := by rw [cell_at HE0.out]; rfl
    have c5 : w2.cell? ⟨w.heap.size, 5, none⟩ = some (.int .i64 part) := by rw [cell_at HE0.out]; rfl
    have c6 : w2.cell? ⟨w.heap.size, 6, none⟩ = some (.int .i64 keep) := by rw [cell_at HE0.out]; rfl
    have f0 : w2.frozen? ⟨w.heap.size, 0, none⟩ = false := frozen_at HE0.out _
    have f1 : w2.frozen? ⟨w.heap.size, 1, none⟩ = false := frozen_at HE0.out _
    have f2 : w2.frozen? ⟨w.heap.size, 2, none⟩ = false := frozen_at HE0.out _
    have f3 : w2.frozen? ⟨w.heap.size, 3, none⟩ = false := frozen_at HE0.out _
    have f4 : w2.frozen? ⟨w.heap.size, 4, none⟩ = false := frozen_at HE0.out _
    have f5 : w2.frozen? ⟨w.heap.size, 5, none⟩ = false := frozen_at HE0.out _
    have f6 : w2.frozen? ⟨w.heap.size, 6, none⟩ = false := frozen_at HE0.out _
    go_wp2_with fail
    obtain ⟨w5, hw5⟩ : ∃ w5, (((((((w2.setCell ⟨w.heap.size, 0, none⟩ (.slice aN L'.length cN)).setCell ⟨w.heap.size, 1, none⟩ (.int .i64 size')).setCell ⟨w.heap.size, 2, none⟩ (.bool down')).setCell ⟨w.heap.size, 3, none⟩ (.bool due')).setCell ⟨w.heap.size, 4, none⟩ (.int .i64 ops')).setCell ⟨w.heap.size, 5, none⟩ (.int .i64 part')).setCell ⟨w.heap.size, 6, none⟩ (.int .i64 keep')) = w5 := ⟨_, rfl⟩
    rw [hw5]
    have HK5 := hid (show Keep (fun i => i = w.heap.size) w2 w5 from hw5 ▸ ((((((((Keep.refl (fun i => i = w.heap.size) w2).setCell (p := ⟨w.heap.size, 0, none⟩) (fun _ => rfl) (.slice aN L'.length cN)).setCell (p := ⟨w.heap.size, 1, none⟩) (fun _ => rfl) (.int .i64 size')).setCell (p := ⟨w.heap.size, 2, none⟩) (fun _ => rfl) (.bool down')).setCell (p := ⟨w.heap.size, 3, none⟩) (fun _ => rfl) (.bool due')).setCell (p := ⟨w.heap.size, 4, none⟩) (fun _ => rfl) (.int .i64 ops')).setCell (p := ⟨w.heap.size, 5, none⟩) (fun _ => rfl) (.int .i64 part')).setCell (p := ⟨w.heap.size, 6, none⟩) (fun _ => rfl) (.int .i64 keep')))
    have HN5 := hid (show w5.heap[w.heap.size]? = some (.cells #[.slice aN L'.length cN, .int .i64 size', .bool down', .bool due', .int .i64 ops', .int .i64 part', .int .i64 keep'] 28 (0, 0)) from hw5 ▸ slot_seven HE0.out rfl (.slice aN L'.length cN) (.int .i64 size') (.bool down') (.bool due') (.int .i64 ops') (.int .i64 part') (.int .i64 keep'))
    have HZ5 := hid (HK5.out.at HE2.out (by omega))
    have S5 := hid (S2.out.own HK5.out (fun i (h : i = w.heap.size) => ⟨.inl (.inr ⟨by omega, by omega⟩), by omega⟩))
    have H5 := hid (H2.out.keep HK5.out (fun i h (e : i = w.heap.size) => by rcases h with (h | h) | h; have := HS.out.sub i (HXY.out i h); omega; omega; omega))
    have hs5 := HK5.out.size
    clear hw5 c0 c1 c2 c3 c4 c5 c6 f0 f1 f2 f3 f4 f5 f6
    have a0 : w5.cell? ⟨w.heap.size, 0, none⟩ = some (.slice aN L'.length cN) := by rw [cell_at HN5.out]; rfl
    have a1 : w5.cell? ⟨w.heap.size, 1, none⟩ = some (.int .i64 size') := by rw [cell_at HN5.out]; rfl
    have a2 : w5.cell? ⟨w.heap.size, 2, none⟩ = some (.bool down') := by rw [cell_at HN5.out]; rfl
    have a3 : w5.cell? ⟨w.heap.size, 3, none⟩ = some (.bool due') := by rw [cell_at HN5.out]; rfl
    have a4 : w5.cell? ⟨w.heap.size, 4, none⟩ = some (.int .i64 ops') := by rw [cell_at HN5.out]; rfl
    have a5 : w5.cell? ⟨w.heap.size, 5, none⟩ = some (.int .i64 part') := by rw [cell_at HN5.out]; rfl
    have a6 : w5.cell? ⟨w.heap.size, 6, none⟩ = some (.int .i64 keep') := by rw [cell_at HN5.out]; rfl
    refine wp_region_heldi [0, 1, 2, 3, 4, 5, 6] 100 4 (fun w' => w'.cell? ⟨w.heap.size, 0, none⟩ = some (.slice aN L'.length cN) ∧ w'.cell? ⟨w.heap.size, 1, none⟩ = some (.int .i64 size') ∧ w'.cell? ⟨w.heap.size, 2, none⟩ = some (.bool down') ∧ w'.cell? ⟨w.heap.size, 3, none⟩ = some (.bool due') ∧ w'.cell? ⟨w.heap.size, 4, none⟩ = some (.int .i64 ops') ∧ w'.cell? ⟨w.heap.size, 5, none⟩ = some (.int .i64 part') ∧ w'.cell? ⟨w.heap.size, 6, none⟩ = some (.int .i64 keep')) (by kernel_rfl) (by kernel_rfl) (by kernel_rfl) ⟨a0, a1, a2, a3, a4, a5, a6⟩ (fun d _ _ _ _ h => by cases d <;> exact h) ?_
    iterate 7 (first | (refine heldI_step rfl rfl (fun w' hS => by (obtain ⟨s0, s1, s2, s3, s4, s5, s6⟩ := hS; go_simp; with_reducible rfl)) ?_; simp only [Act.put, List.setIfInBounds_toArray, List.set_cons_zero, List.set_cons_succ]) | (refine heldI_want rfl rfl (fun w' hS => by (obtain ⟨s0, s1, s2, s3, s4, s5, s6⟩ := hS; go_simp; with_reducible rfl)) ?_; simp only [Act.put, List.setIfInBounds_toArray, List.set_cons_zero, List.set_cons_succ]) | (refine heldI_skip rfl rfl ?_; simp only [Act.put, List.setIfInBounds_toArray, List.set_cons_zero, List.set_cons_succ]))
    refine heldI_nil ?_
    refine anyZ_next' (j := 7) (by kernel_rfl) rfl rfl ?_
    go_simp
    have kd := keep_drawn' w5 (w5.drawn + 1)
    refine (is_any (S5.out.keep kd) hT1 ⟨size', down', due', ops', part', keep'⟩ HRN.out (H5.out.keep kd (fun _ _ h => h))).mono ?_
    rintro e w6 ⟨rfl, hK6⟩
    have HK6 := hid (kd.trans hK6 (fun _ _ h => h))
    have HN6 := hid (HK6.out.at HN5.out (fun h => h))
    have HZ6 := hid (HK6.out.at HZ5.out (fun h => h))
    have hs6 : w5.heap.size ≤ w6.heap.size := HK6.out.size
    clear kd hK6 a0 a1 a2 a3 a4 a5 a6
    have b0 : w6.cell? ⟨w.heap.size, 0, none⟩ = some (.slice aN L'.length cN) := by rw [cell_at HN6.out]; rfl
    have b1 : w6.cell? ⟨w.heap.size, 1, none⟩ = some (.int .i64 size') := by rw [cell_at HN6.out]; rfl
    have b2 : w6.cell? ⟨w.heap.size, 2, none⟩ = some (.bool down') := by rw [cell_at HN6.out]; rfl
    have b3 : w6.cell? ⟨w.heap.size, 3, none⟩ = some (.bool due') := by rw [cell_at HN6.out]; rfl
    have b4 : w6.cell? ⟨w.heap.size, 4, none⟩ = some (.int .i64 ops') := by rw [cell_at HN6.out]; rfl
    have b5 : w6.cell? ⟨w.heap.size, 5, none⟩ = some (.int .i64 part') := by rw [cell_at HN6.out]; rfl
    have b6 : w6.cell? ⟨w.heap.size, 6, none⟩ = some (.int .i64 keep') := by rw [cell_at HN6.out]; rfl
    refine ⟨⟨b0, b1, b2, b3, b4, b5, b6⟩, ?_⟩
    refine heldI_run (t := 2) (by kernel_rfl) (fun d _ _ _ _ h => by cases d <;> exact h) w6 ⟨b0, b1, b2, b3, b4, b5, b6⟩ [8] _ _ (by kernel_rfl) ?_
    iterate 1 (first | (refine heldI_step rfl rfl (fun w' hS => by (obtain ⟨s0, s1, s2, s3, s4, s5, s6⟩ := hS; go_simp; with_reducible rfl)) ?_; simp only [Act.put, List.setIfInBounds_toArray, List.set_cons_zero, List.set_cons_succ]) | (refine heldI_want rfl rfl (fun w' hS => by (obtain ⟨s0, s1, s2, s3, s4, s5, s6⟩ := hS; go_simp; with_reducible rfl)) ?_; simp only [Act.put, List.setIfInBounds_toArray, List.set_cons_zero, List.set_cons_succ]) | (refine heldI_skip rfl rfl ?_; simp only [Act.put, List.setIfInBounds_toArray, List.set_cons_zero, List.set_cons_succ]))
    refine heldI_nil ?_
    clear b0 b1 b2 b3 b4 b5 b6
    have z0 : w6.cell? ⟨w.heap.size + 1 + 1, 0, none⟩ = some (.slice none 0 0) := by rw [cell_at HZ6.out]; rfl
    have z1 : w6.cell? ⟨w.heap.size + 1 + 1, 1, none⟩ = some (.int .i64 0) := by rw [cell_at HZ6.out]; rfl
    have z2 : w6.cell? ⟨w.heap.size + 1 + 1, 2, none⟩ = some (.bool false) := by rw [cell_at HZ6.out]; rfl
    have z3 : w6.cell? ⟨w.heap.size + 1 + 1, 3, none⟩ = some (.bool false) := by rw [cell_at HZ6.out]; rfl
    have z4 : w6.cell? ⟨w.heap.size + 1 + 1, 4, none⟩ = some (.int .i64 0) := by rw [cell_at HZ6.out]; rfl
    have z5 : w6.cell? ⟨w.heap.size + 1 + 1, 5, none⟩ = some (.int .i64 0) := by rw [cell_at HZ6.out]; rfl
    have z6 : w6.cell? ⟨w.heap.size + 1 + 1, 6, none⟩ = some (.int .i64 0) := by rw [cell_at HZ6.out]; rfl
    have y0 : w6.frozen? ⟨w.heap.size + 1 + 1, 0, none⟩ = false := frozen_at HZ6.out _
    have y1 : w6.frozen? ⟨w.heap.size + 1 + 1, 1, none⟩ = false := frozen_at HZ6.out _
    have y2 : w6.frozen? ⟨w.heap.size + 1 + 1, 2, none⟩ = false := frozen_at HZ6.out _
    have y3 : w6.frozen? ⟨w.heap.size + 1 + 1, 3, none⟩ = false := frozen_at HZ6.out _
    have y4 : w6.frozen? ⟨w.heap.size + 1 + 1, 4, none⟩ = false := frozen_at HZ6.out _
    have y5 : w6.frozen? ⟨w.heap.size + 1 + 1, 5, none⟩ = false := frozen_at HZ6.out _
    have y6 : w6.frozen? ⟨w.heap.size + 1 + 1, 6, none⟩ = false := frozen_at HZ6.out _
    refine anyZ_next' (j := 9) (by kernel_rfl) rfl rfl ?_
    go_simp
    clear z0 z1 z2 z3 z4 z5 z6 y0 y1 y2 y3 y4 y5 y6
    obtain ⟨w7, hw7⟩ : ∃ w7, (((((((w6.setCell ⟨w.heap.size + 1 + 1, 0, none⟩ (.slice aN L'.length cN)).setCell ⟨w.heap.size + 1 + 1, 1, none⟩ (.int .i64 size')).setCell ⟨w.heap.size + 1 + 1, 2, none⟩ (.bool down')).setCell ⟨w.heap.size + 1 + 1, 3, none⟩ (.bool due')).setCell ⟨w.heap.size + 1 + 1, 4, none⟩ (.int .i64 ops')).setCell ⟨w.heap.size + 1 + 1, 5, none⟩ (.int .i64 part')).setCell ⟨w.heap.size + 1 + 1, 6, none⟩ (.int .i64 keep')) = w7 := ⟨_, rfl⟩
    rw [hw7]
    have HK7 := hid (show Keep (fun i => i = w.heap.size + 1 + 1) w6 w7 from hw7 ▸ ((((((((Keep.refl (fun i => i = w.heap.size + 1 + 1) w6).setCell (p := ⟨w.heap.size + 1 + 1, 0, none⟩) (fun _ => rfl) (.slice aN L'.length cN)).setCell (p := ⟨w.heap.size + 1 + 1, 1, none⟩) (fun _ => rfl) (.int .i64 size')).setCell (p := ⟨w.heap.size + 1 + 1, 2, none⟩) (fun _ => rfl) (.bool down')).setCell (p := ⟨w.heap.size + 1 + 1, 3, none⟩) (fun _ => rfl) (.bool due')).setCell (p := ⟨w.heap.size + 1 + 1, 4, none⟩) (fun _ => rfl) (.int .i64 ops')).setCell (p := ⟨w.heap.size + 1 + 1, 5, none⟩) (fun _ => rfl) (.int .i64 part')).setCell (p := ⟨w.heap.size + 1 + 1, 6, none⟩) (fun _ => rfl) (.int .i64 keep')))
    have HN7 := hid (HK7.out.at HN6.out (by omega))
    have HZ7 := hid (show w7.heap[w.heap.size + 1 + 1]? = some (.cells #[.slice aN L'.length cN, .int .i64 size', .bool down', .bool due', .int .i64 ops', .int .i64 part', .int .i64 keep'] 28 (0, 0)) from hw7 ▸ slot_seven HZ6.out rfl (.slice aN L'.length cN) (.int .i64 size') (.bool down') (.bool due') (.int .i64 ops') (.int .i64 part') (.int .i64 keep'))
    clear hw7
    have b0 : w7.cell? ⟨w.heap.size, 0, none⟩ = some (.slice aN L'.length cN) := by rw [cell_at HN7.out]; rfl
    have b1 : w7.cell? ⟨w.heap.size, 1, none⟩ = some (.int .i64 size') := by rw [cell_at HN7.out]; rfl
    have b2 : w7.cell? ⟨w.heap.size, 2, none⟩ = some (.bool down') := by rw [cell_at HN7.out]; rfl
    have b3 : w7.cell? ⟨w.heap.size, 3, none⟩ = some (.bool due') := by rw [cell_at HN7.out]; rfl
    have b4 : w7.cell? ⟨w.heap.size, 4, none⟩ = some (.int .i64 ops') := by rw [cell_at HN7.out]; rfl
    have b5 : w7.cell? ⟨w.heap.size, 5, none⟩ = some (.int .i64 part') := by rw [cell_at HN7.out]; rfl
    have b6 : w7.cell? ⟨w.heap.size, 6, none⟩ = some (.int .i64 keep') := by rw [cell_at HN7.out]; rfl
    have g0 : w6.cell? ⟨w.heap.size, 0, none⟩ = some (.slice aN L'.length cN) := by rw [cell_at HN6.out]; rfl
    have g1 : w6.cell? ⟨w.heap.size, 1, none⟩ = some (.int .i64 size') := by rw [cell_at HN6.out]; rfl
    have g2 : w6.cell? ⟨w.heap.size, 2, none⟩ = some (.bool down') := by rw [cell_at HN6.out]; rfl
    have g3 : w6.cell? ⟨w.heap.size, 3, none⟩ = some (.bool due') := by rw [cell_at HN6.out]; rfl
    have g4 : w6.cell? ⟨w.heap.size, 4, none⟩ = some (.int .i64 ops') := by rw [cell_at HN6.out]; rfl
    have g5 : w6.cell? ⟨w.heap.size, 5, none⟩ = some (.int .i64 part') := by rw [cell_at HN6.out]; rfl
    have g6 : w6.cell? ⟨w.heap.size, 6, none⟩ = some (.int .i64 keep') := by rw [cell_at HN6.out]; rfl
    refine ⟨by refine ⟨?_, ?_, ?_, ?_, ?_, ?_, ?_⟩ <;> first | exact b0 | exact b1 | exact b2 | exact b3 | exact b4 | exact b5 | exact b6 | exact g0 | exact g1 | exact g2 | exact g3 | exact g4 | exact g5 | exact g6, ?_⟩
    refine heldI_run (t := 0) (by kernel_rfl) (fun d _ _ _ _ h => by cases d <;> exact h) w7 ⟨b0, b1, b2, b3, b4, b5, b6⟩ [10] _ _ (by kernel_rfl) ?_
    iterate 1 (first | (refine heldI_step rfl rfl (fun w' hS => by (obtain ⟨s0, s1, s2, s3, s4, s5, s6⟩ := hS; go_simp; with_reducible rfl)) ?_; simp only [Act.put, List.setIfInBounds_toArray, List.set_cons_zero, List.set_cons_succ]) | (refine heldI_want rfl rfl (fun w' hS => by (obtain ⟨s0, s1, s2, s3, s4, s5, s6⟩ := hS; go_simp; with_reducible rfl)) ?_; simp only [Act.put, List.setIfInBounds_toArray, List.set_cons_zero, List.set_cons_succ]) | (refine heldI_skip rfl rfl ?_; simp only [Act.put, List.setIfInBounds_toArray, List.set_cons_zero, List.set_cons_succ]))
    refine heldI_nil ?_
    refine anyZ_done (by kernel_rfl) ?_
    clear b0 b1 b2 b3 b4 b5 b6 g0 g1 g2 g3 g4 g5 g6
    have b0 : w7.cell? ⟨w.heap.size + 1 + 1, 0, none⟩ = some (.slice aN L'.length cN) := by rw [cell_at HZ7.out]; rfl
    have b1 : w7.cell? ⟨w.heap.size + 1 + 1, 1, none⟩ = some (.int .i64 size') := by rw [cell_at HZ7.out]; rfl
    have b2 : w7.cell? ⟨w.heap.size + 1 + 1, 2, none⟩ = some (.bool down') := by rw [cell_at HZ7.out]; rfl
    have b3 : w7.cell? ⟨w.heap.size + 1 + 1, 3, none⟩ = some (.bool due') := by rw [cell_at HZ7.out]; rfl
    have b4 : w7.cell? ⟨w.heap.size + 1 + 1, 4, none⟩ = some (.int .i64 ops') := by rw [cell_at HZ7.out]; rfl
    have b5 : w7.cell? ⟨w.heap.size + 1 + 1, 5, none⟩ = some (.int .i64 part') := by rw [cell_at HZ7.out]; rfl
    have b6 : w7.cell? ⟨w.heap.size + 1 + 1, 6, none⟩ = some (.int .i64 keep') := by rw [cell_at HZ7.out]; rfl
    go_wp2_with fail
    refine bodyPost_ret (v := .tuple #[RefD.val ⟨size', down', due', ops', part', keep'⟩ (.slice aN L'.length cN), .bool true]) (by rw [results_cell2 rfl]; go_simp; rfl) rfl ⟨r.1, _, _, _, fun i => X i ∨ (w1.heap.size ≤ i ∧ i < w2.heap.size), _, rfl, (S5.out.keep HK6.out).own HK7.out (fun i (h : i = w.heap.size + 1 + 1) => ⟨.inl (.inr ⟨by omega, by omega⟩), by omega⟩), hT1, HRN.out, ((H5.out.keep HK6.out (fun _ _ h => h)).keep HK7.out (fun i h (e : i = w.heap.size + 1 + 1) => by rcases h with (h | h) | h; have := HS.out.sub i (HXY.out i h); omega; omega; omega)).mono (fun i hi h => by rcases h with (h | h) | h; exact .inl (.inl h); exact .inr h; exact .inl (.inr h)), fun i h => .inl (.inl h), fun i h => h.elim (fun h => .inl (.inl (HXY.out i h))) .inr, fun i h => h.imp id (fun h => by omega), (((((HKB.out.mono (fun _ _ h => h.elim)).trans HKa.out (fun i hi h => ⟨h.1, fun hx => h.2 (.inl hx)⟩)).trans HK5.out (fun i hi (h : i = w.heap.size) => by omega)).trans HK6.out (fun i hi h => h.elim)).trans HK7.out (fun i hi (h : i = w.heap.size + 1 + 1) => by omega))⟩
  by_cases hk6 : m.kind.tmod 9 = 6
  · go_wp2_with fail
    obtain ⟨wb, hwb⟩ : ∃ wb, ((w.alloc (.cells #[.slice ao L.length cap, .int .i64 size, .bool down, .bool due, .int .i64 ops, .int .i64 part, .int .i64 keep] 28)).alloc (.cells #[.int .i64 m.kind, .string m.name, .string m.to, .slice A m.b.length C, .int .i64 m.n, .int .i64 m.part, .int .i64 m.keep] 33)).alloc (.cells #[.slice none 0 0, .int .i64 0, .bool false, .bool false, .int .i64 0, .int .i64 0, .int .i64 0] 28) = wb := ⟨_, rfl⟩
    have hkb : Keep (fun _ => False) w wb := hwb ▸ (((Keep.refl _ w).alloc _).alloc _).alloc _
    have hszb : wb.heap.size = w.heap.size + 3 := by rw [← hwb]; simp
    have hb0 : wb.heap[w.heap.size]? = some (.cells #[.slice ao L.length cap, .int .i64 size, .bool down, .bool due, .int .i64 ops, .int .i64 part, .int .i64 keep] 28 (0, 0)) := by rw [← hwb, Below.heap_alloc _ _ _ (by simp; omega), Below.heap_alloc _ _ _ (by simp)]; exact heap_alloc_new _ _
    have hb1 : wb.heap[w.heap.size + 1]? = some (.cells #[.int .i64 m.kind, .string m.name, .string m.to, .slice A m.b.length C, .int .i64 m.n, .int .i64 m.part, .int .i64 m.keep] 33 (0, 0)) := by rw [← hwb, Below.heap_alloc _ _ _ (by simp), show w.heap.size + 1 = (w.alloc (.cells #[.slice ao L.length cap, .int .i64 size, .bool down, .bool due, .int .i64 ops, .int .i64 part, .int .i64 keep] 28)).heap.size by simp]; exact heap_alloc_new _ _
    have hb2 : wb.heap[w.heap.size + 1 + 1]? = some (.cells #[.slice none 0 0, .int .i64 0, .bool false, .bool false, .int .i64 0, .int .i64 0, .int .i64 0] 28 (0, 0)) := by rw [← hwb, show w.heap.size + 1 + 1 = ((w.alloc (.cells #[.slice ao L.length cap, .int .i64 size, .bool down, .bool due, .int .i64 ops, .int .i64 part, .int .i64 keep] 28)).alloc (.cells #[.int .i64 m.kind, .string m.name, .string m.to, .slice A m.b.length C, .int .i64 m.n, .int .i64 m.part, .int .i64 m.keep] 33)).heap.size by simp]; exact heap_alloc_new _ _
    rw [hwb]
    have HKB := hid hkb
    have SB := hid (HS.out.more hkb)
    have HB0 := hid hb0
    have HB1 := hid hb1
    have HB2 := hid hb2
    clear hkb hb0 hb1 hb2 hwb
    refine (st_cut SB.out m.n m.part m.keep hkn hkp hkk).mono ?_
    rintro e w1 ⟨rfl, hS1, hK1⟩
    have hT1 := tidy_cut ht m.n m.part m.keep
    obtain ⟨r, hr⟩ : ∃ r, cutTo D m.n m.part m.keep = r := ⟨_, rfl⟩
    rw [hr] at hS1 hT1 ⊢
    have HRR := hid hr
    clear hr
    have S1 := hid hS1
    have HK1 := hid (keep_both SB.out hS1 hK1)
    have hs1 := HK1.out.size
    have hsw := HS.out.size
    have HX := hid (show ∀ i, w.heap.size ≤ i → i < wb.heap.size → ¬ (W.heap.size ≤ i ∧ ¬ (Y i ∨ (w.heap.size ≤ i ∧ i < wb.heap.size))) from fun i h1 h2 hn => hn.2 (.inr ⟨h1, h2⟩))
    have HC0 := hid (HK1.out.at HB0.out (HX.out _ (by omega) (by omega)))
    have HC1 := hid (HK1.out.at HB1.out (HX.out _ (by omega) (by omega)))
    have HC2 := hid (HK1.out.at HB2.out (HX.out _ (by omega) (by omega)))
    have HN1 := hid (show ∀ i, (X i ∨ i < W.heap.size) → ¬ (W.heap.size ≤ i ∧ ¬ (Y i ∨ (w.heap.size ≤ i ∧ i < wb.heap.size))) from fun i h hn => h.elim (fun h => hn.2 (.inl (HXY.out i h))) (fun h => by omega))
    have H1 := hid ((H.out.keep HKB.out (fun _ _ h => h)).keep HK1.out HN1.out)
    have HG1 := hid (show ∀ i, (X i ∨ i < W.heap.size) → i < w1.heap.size from fun i h => h.elim (fun h => by have := HS.out.sub i (HXY.out i h); omega) (fun h => by omega))
    clear hS1 hK1
    have c0 : w1.cell? ⟨w.heap.size, 0, none⟩ = some (.slice ao L.length cap) := by rw [cell_at HC0.out]; rfl
    have c1 : w1.cell? ⟨w.heap.size, 1, none⟩ = some (.int .i64 size) := by rw [cell_at HC0.out]; rfl
    have c2 : w1.cell? ⟨w.heap.size, 2, none⟩ = some (.bool down) := by rw [cell_at HC0.out]; rfl
    have c3 : w1.cell? ⟨w.heap.size, 3, none⟩ = some (.bool due) := by rw [cell_at HC0.out]; rfl
    have c4 : w1.cell? ⟨w.heap.size, 4, none⟩ = some (.int .i64 ops) := by rw [cell_at HC0.out]; rfl
    have c5 : w1.cell? ⟨w.heap.size, 5, none⟩ = some (.int .i64 part) := by rw [cell_at HC0.out]; rfl
    have c6 : w1.cell? ⟨w.heap.size, 6, none⟩ = some (.int .i64 keep) := by rw [cell_at HC0.out]; rfl
    have d0 : w1.cell? ⟨w.heap.size + 1, 0, none⟩ = some (.int .i64 m.kind) := by rw [cell_at HC1.out]; rfl
    have d1 : w1.cell? ⟨w.heap.size + 1, 1, none⟩ = some (.string m.name) := by rw [cell_at HC1.out]; rfl
    have d2 : w1.cell? ⟨w.heap.size + 1, 2, none⟩ = some (.string m.to) := by rw [cell_at HC1.out]; rfl
    have d3 : w1.cell? ⟨w.heap.size + 1, 3, none⟩ = some (.slice A m.b.length C) := by rw [cell_at HC1.out]; rfl
    have d4 : w1.cell? ⟨w.heap.size + 1, 4, none⟩ = some (.int .i64 m.n) := by rw [cell_at HC1.out]; rfl
    have d5 : w1.cell? ⟨w.heap.size + 1, 5, none⟩ = some (.int .i64 m.part) := by rw [cell_at HC1.out]; rfl
    have d6 : w1.cell? ⟨w.heap.size + 1, 6, none⟩ = some (.int .i64 m.keep) := by rw [cell_at HC1.out]; rfl
    go_wp2_with fail
    refine (do_cut HR.out H1.out m.n m.part m.keep hkn).mono ?_
    rintro e w2 ⟨vN, ⟨size', down', due', ops', part', keep'⟩, L', rfl, hRN, hF2, hK2⟩
    rw [HRR.out] at hRN ⊢
    obtain ⟨aN, cN, hvN⟩ := hF2.slice
    subst hvN
    have HRN := hid hRN
    have H2 := hid (hF2.mono (G' := fun i => (X i ∨ i < W.heap.size) ∨ (w1.heap.size ≤ i ∧ i < w2.heap.size)) (fun i hi h => h.imp id (fun h => ⟨h, hi⟩)))
    have hs2 := hK2.size
    have S2 := hid (S1.out.more hK2)
    have HE0 := hid (hK2.at HC0.out (fun h => h))
    have HE2 := hid (hK2.at HC2.out (fun h => h))
    have HKa := hid (HK1.out.trans hK2 (fun _ _ h => h.elim))
    clear hF2 hRN hK2 c0 c1 c2 c3 c4 c5 c6 d0 d1 d2 d3 d4 d5 d6
    unfold RefD.val RefD.cells
    have c0 : w2.cell? ⟨w.heap.size, 0, none⟩ = some (.slice ao L.length cap) := by rw [cell_at HE0.out]; rfl
    have c1 : w2.cell? ⟨w.heap.size, 1, none⟩ = some (.int .i64 size) := by rw [cell_at HE0.out]; rfl
    have c2 : w2.cell? ⟨w.heap.size, 2, none⟩ = some (.bool down) := by rw [cell_at HE0.out]; rfl
    have c3 : w2.cell? ⟨w.heap.size, 3, none⟩ = some (.bool due) := by rw [cell_at HE0.out]; rfl
    have c4 : w2.cell? ⟨w.heap.size, 4, none⟩ = some (.int .i64 ops) := by rw [cell_at HE0.out]; rfl
    have c5 : w2.cell? ⟨w.heap.size, 5, none⟩ = some (.int .i64 part) := by rw [cell_at HE0.out]; rfl
    have c6 : w2.cell? ⟨w.heap.size, 6, none⟩ = some (.int .i64 keep) := by rw [cell_at HE0.out]; rfl
    have f0 : w2.frozen? ⟨w.heap.size, 0, none⟩ = false := frozen_at HE0.out _
    have f1 : w2.frozen? ⟨w.heap.size, 1, none⟩ = false := frozen_at HE0.out _
    have f2 : w2.frozen? ⟨w.heap.size, 2, none⟩ = false := frozen_at HE0.out _
    have f3 : w2.frozen? ⟨w.heap.size, 3, none⟩ = false := frozen_at HE0.out _
    have f4 : w2.frozen? ⟨w.heap.size, 4, none⟩ = false := frozen_at HE0.out _
    have f5 : w2.frozen? ⟨w.heap.size, 5, none⟩ = false := frozen_at HE0.out _
    have f6 : w2.frozen? ⟨w.heap.size, 6, none⟩ = false := frozen_at HE0.out _
    go_wp2_with fail
    obtain ⟨w5, hw5⟩ : ∃ w5, (((((((w2.setCell ⟨w.heap.size, 0, none⟩ (.slice aN L'.length cN)).setCell ⟨w.heap.size, 1, none⟩ (.int .i64 size')).setCell ⟨w.heap.size, 2, none⟩ (.bool down')).setCell ⟨w.heap.size, 3, none⟩ (.bool due')).setCell ⟨w.heap.size, 4, none⟩ (.int .i64 ops')).setCell ⟨w.heap.size, 5, none⟩ (.int .i64 part')).setCell ⟨w.heap.size, 6, none⟩ (.int .i64 keep')) = w5 := ⟨_, rfl⟩
    rw [hw5]
    have HK5 := hid (show Keep (fun i => i = w.heap.size) w2 w5 from hw5 ▸ ((((((((Keep.refl (fun i => i = w.heap.size) w2).setCell (p := ⟨w.heap.size, 0, none⟩) (fun _ => rfl) (.slice aN L'.length cN)).setCell (p := ⟨w.heap.size, 1, none⟩) (fun _ => rfl) (.int .i64 size')).setCell (p := ⟨w.heap.size, 2, none⟩) (fun _ => rfl) (.bool down')).setCell (p := ⟨w.heap.size, 3, none⟩) (fun _ => rfl) (.bool due')).setCell (p := ⟨w.heap.size, 4, none⟩) (fun _ => rfl) (.int .i64 ops')).setCell (p := ⟨w.heap.size, 5, none⟩) (fun _ => rfl) (.int .i64 part')).setCell (p := ⟨w.heap.size, 6, none⟩) (fun _ => rfl) (.int .i64 keep')))
    have HN5 := hid (show w5.heap[w.heap.size]? = some (.cells #[.slice aN L'.length cN, .int .i64 size', .bool down', .bool due', .int .i64 ops', .int .i64 part', .int .i64 keep'] 28 (0, 0)) from hw5 ▸ slot_seven HE0.out rfl (.slice aN L'.length cN) (.int .i64 size') (.bool down') (.bool due') (.int .i64 ops') (.int .i64 part') (.int .i64 keep'))
    have HZ5 := hid (HK5.out.at HE2.out (by omega))
    have S5 := hid (S2.out.own HK5.out (fun i (h : i = w.heap.size) => ⟨.inl (.inr ⟨by omega, by omega⟩), by omega⟩))
    have H5 := hid (H2.out.keep HK5.out (fun i h (e : i = w.heap.size) => by rcases h with (h | h) | h; have := HS.out.sub i (HXY.out i h); omega; omega; omega))
    have hs5 := HK5.out.size
    clear hw5 c0 c1 c2 c3 c4 c5 c6 f0 f1 f2 f3 f4 f5 f6
    have a0 : w5.cell? ⟨w.heap.size, 0, none⟩ = some (.slice aN L'.length cN) := by rw [cell_at HN5.out]; rfl
    have a1 : w5.cell? ⟨w.heap.size, 1, none⟩ = some (.int .i64 size') := by rw [cell_at HN5.out]; rfl
    have a2 : w5.cell? ⟨w.heap.size, 2, none⟩ = some (.bool down') := by rw [cell_at HN5.out]; rfl
    have a3 : w5.cell? ⟨w.heap.size, 3, none⟩ = some (.bool due') := by rw [cell_at HN5.out]; rfl
    have a4 : w5.cell? ⟨w.heap.size, 4, none⟩ = some (.int .i64 ops') := by rw [cell_at HN5.out]; rfl
    have a5 : w5.cell? ⟨w.heap.size, 5, none⟩ = some (.int .i64 part') := by rw [cell_at HN5.out]; rfl
    have a6 : w5.cell? ⟨w.heap.size, 6, none⟩ = some (.int .i64 keep') := by rw [cell_at HN5.out]; rfl
    refine wp_region_heldi [0, 1, 2, 3, 4, 5, 6] 100 4 (fun w' => w'.cell? ⟨w.heap.size, 0, none⟩ = some (.slice aN L'.length cN) ∧ w'.cell? ⟨w.heap.size, 1, none⟩ = some (.int .i64 size') ∧ w'.cell? ⟨w.heap.size, 2, none⟩ = some (.bool down') ∧ w'.cell? ⟨w.heap.size, 3, none⟩ = some (.bool due') ∧ w'.cell? ⟨w.heap.size, 4, none⟩ = some (.int .i64 ops') ∧ w'.cell? ⟨w.heap.size, 5, none⟩ = some (.int .i64 part') ∧ w'.cell? ⟨w.heap.size, 6, none⟩ = some (.int .i64 keep')) (by kernel_rfl) (by kernel_rfl) (by kernel_rfl) ⟨a0, a1, a2, a3, a4, a5, a6⟩ (fun d _ _ _ _ h => by cases d <;> exact h) ?_
    iterate 7 (first | (refine heldI_step rfl rfl (fun w' hS => by (obtain ⟨s0, s1, s2, s3, s4, s5, s6⟩ := hS; go_simp; with_reducible rfl)) ?_; simp only [Act.put, List.setIfInBounds_toArray, List.set_cons_zero, List.set_cons_succ]) | (refine heldI_want rfl rfl (fun w' hS => by (obtain ⟨s0, s1, s2, s3, s4, s5, s6⟩ := hS; go_simp; with_reducible rfl)) ?_; simp only [Act.put, List.setIfInBounds_toArray, List.set_cons_zero, List.set_cons_succ]) | (refine heldI_skip rfl rfl ?_; simp only [Act.put, List.setIfInBounds_toArray, List.set_cons_zero, List.set_cons_succ]))
    refine heldI_nil ?_
    refine anyZ_next' (j := 7) (by kernel_rfl) rfl rfl ?_
    go_simp
    have kd := keep_drawn' w5 (w5.drawn + 1)
    refine (is_any (S5.out.keep kd) hT1 ⟨size', down', due', ops', part', keep'⟩ HRN.out (H5.out.keep kd (fun _ _ h => h))).mono ?_
    rintro e w6 ⟨rfl, hK6⟩
    have HK6 := hid (kd.trans hK6 (fun _ _ h => h))
    have HN6 := hid (HK6.out.at HN5.out (fun h => h))
    have HZ6 := hid (HK6.out.at HZ5.out (fun h => h))
    have hs6 : w5.heap.size ≤ w6.heap.size := HK6.out.size
    clear kd hK6 a0 a1 a2 a3 a4 a5 a6
    have b0 : w6.cell? ⟨w.heap.size, 0, none⟩ = some (.slice aN L'.length cN) := by rw [cell_at HN6.out]; rfl
    have b1 : w6.cell? ⟨w.heap.size, 1, none⟩ = some (.int .i64 size') := by rw [cell_at HN6.out]; rfl
    have b2 : w6.cell? ⟨w.heap.size, 2, none⟩ = some (.bool down') := by rw [cell_at HN6.out]; rfl
    have b3 : w6.cell? ⟨w.heap.size, 3, none⟩ = some (.bool due') := by rw [cell_at HN6.out]; rfl
    have b4 : w6.cell? ⟨w.heap.size, 4, none⟩ = some (.int .i64 ops') := by rw [cell_at HN6.out]; rfl
    have b5 : w6.cell? ⟨w.heap.size, 5, none⟩ = some (.int .i64 part') := by rw [cell_at HN6.out]; rfl
    have b6 : w6.cell? ⟨w.heap.size, 6, none⟩ = some (.int .i64 keep') := by rw [cell_at HN6.out]; rfl
    refine ⟨⟨b0, b1, b2, b3, b4, b5, b6⟩, ?_⟩
    refine heldI_run (t := 2) (by kernel_rfl) (fun d _ _ _ _ h => by cases d <;> exact h) w6 ⟨b0, b1, b2, b3, b4, b5, b6⟩ [8] _ _ (by kernel_rfl) ?_
    iterate 1 (first | (refine heldI_step rfl rfl (fun w' hS => by (obtain ⟨s0, s1, s2, s3, s4, s5, s6⟩ := hS; go_simp; with_reducible rfl)) ?_; simp only [Act.put, List.setIfInBounds_toArray, List.set_cons_zero, List.set_cons_succ]) | (refine heldI_want rfl rfl (fun w' hS => by (obtain ⟨s0, s1, s2, s3, s4, s5, s6⟩ := hS; go_simp; with_reducible rfl)) ?_; simp only [Act.put, List.setIfInBounds_toArray, List.set_cons_zero, List.set_cons_succ]) | (refine heldI_skip rfl rfl ?_; simp only [Act.put, List.setIfInBounds_toArray, List.set_cons_zero, List.set_cons_succ]))
    refine heldI_nil ?_
    clear b0 b1 b2 b3 b4 b5 b6
    have z0 : w6.cell? ⟨w.heap.size + 1 + 1, 0, none⟩ = some (.slice none 0 0) := by rw [cell_at HZ6.out]; rfl
    have z1 : w6.cell? ⟨w.heap.size + 1 + 1, 1, none⟩ = some (.int .i64 0) := by rw [cell_at HZ6.out]; rfl
    have z2 : w6.cell? ⟨w.heap.size + 1 + 1, 2, none⟩ = some (.bool false) := by rw [cell_at HZ6.out]; rfl
    have z3 : w6.cell? ⟨w.heap.size + 1 + 1, 3, none⟩ = some (.bool false) := by rw [cell_at HZ6.out]; rfl
    have z4 : w6.cell? ⟨w.heap.size + 1 + 1, 4, none⟩ = some (.int .i64 0) := by rw [cell_at HZ6.out]; rfl
    have z5 : w6.cell? ⟨w.heap.size + 1 + 1, 5, none⟩ = some (.int .i64 0) := by rw [cell_at HZ6.out]; rfl
    have z6 : w6.cell? ⟨w.heap.size + 1 + 1, 6, none⟩ = some (.int .i64 0) := by rw [cell_at HZ6.out]; rfl
    have y0 : w6.frozen? ⟨w.heap.size + 1 + 1, 0, none⟩ = false := frozen_at HZ6.out _
    have y1 : w6.frozen? ⟨w.heap.size + 1 + 1, 1, none⟩ = false := frozen_at HZ6.out _
    have y2 : w6.frozen? ⟨w.heap.size + 1 + 1, 2, none⟩ = false := frozen_at HZ6.out _
    have y3 : w6.frozen? ⟨w.heap.size + 1 + 1, 3, none⟩ = false := frozen_at HZ6.out _
    have y4 : w6.frozen? ⟨w.heap.size + 1 + 1, 4, none⟩ = false := frozen_at HZ6.out _
    have y5 : w6.frozen? ⟨w.heap.size + 1 + 1, 5, none⟩ = false := frozen_at HZ6.out _
    have y6 : w6.frozen? ⟨w.heap.size + 1 + 1, 6, none⟩ = false := frozen_at HZ6.out _
    refine anyZ_next' (j := 9) (by kernel_rfl) rfl rfl ?_
    go_simp
    clear z0 z1 z2 z3 z4 z5 z6 y0 y1 y2 y3 y4 y5 y6
    obtain ⟨w7, hw7⟩ : ∃ w7, (((((((w6.setCell ⟨w.heap.size + 1 + 1, 0, none⟩ (.slice aN L'.length cN)).setCell ⟨w.heap.size + 1 + 1, 1, none⟩ (.int .i64 size')).setCell ⟨w.heap.size + 1 + 1, 2, none⟩ (.bool down')).setCell ⟨w.heap.size + 1 + 1, 3, none⟩ (.bool due')).setCell ⟨w.heap.size + 1 + 1, 4, none⟩ (.int .i64 ops')).setCell ⟨w.heap.size + 1 + 1, 5, none⟩ (.int .i64 part')).setCell ⟨w.heap.size + 1 + 1, 6, none⟩ (.int .i64 keep')) = w7 := ⟨_, rfl⟩
    rw [hw7]
    have HK7 := hid (show Keep (fun i => i = w.heap.size + 1 + 1) w6 w7 from hw7 ▸ ((((((((Keep.refl (fun i => i = w.heap.size + 1 + 1) w6).setCell (p := ⟨w.heap.size + 1 + 1, 0, none⟩) (fun _ => rfl) (.slice aN L'.length cN)).setCell (p := ⟨w.heap.size + 1 + 1, 1, none⟩) (fun _ => rfl) (.int .i64 size')).setCell (p := ⟨w.heap.size + 1 + 1, 2, none⟩) (fun _ => rfl) (.bool down')).setCell (p := ⟨w.heap.size + 1 + 1, 3, none⟩) (fun _ => rfl) (.bool due')).setCell (p := ⟨w.heap.size + 1 + 1, 4, none⟩) (fun _ => rfl) (.int .i64 ops')).setCell (p := ⟨w.heap.size + 1 + 1, 5, none⟩) (fun _ => rfl) (.int .i64 part')).setCell (p := ⟨w.heap.size + 1 + 1, 6, none⟩) (fun _ => rfl) (.int .i64 keep')))
    have HN7 := hid (HK7.out.at HN6.out (by omega))
    have HZ7 := hid (show w7.heap[w.heap.size + 1 + 1]? = some (.cells #[.slice aN L'.length cN, .int .i64 size', .bool down', .bool due', .int .i64 ops', .int .i64 part', .int .i64 keep'] 28 (0, 0)) from hw7 ▸ slot_seven HZ6.out rfl (.slice aN L'.length cN) (.int .i64 size') (.bool down') (.bool due') (.int .i64 ops') (.int .i64 part') (.int .i64 keep'))
    clear hw7
    have b0 : w7.cell? ⟨w.heap.size, 0, none⟩ = some (.slice aN L'.length cN) := by rw [cell_at HN7.out]; rfl
    have b1 : w7.cell? ⟨w.heap.size, 1, none⟩ = some (.int .i64 size') := by rw [cell_at HN7.out]; rfl
    have b2 : w7.cell? ⟨w.heap.size, 2, none⟩ = some (.bool down') := by rw [cell_at HN7.out]; rfl
    have b3 : w7.cell? ⟨w.heap.size, 3, none⟩ = some (.bool due') := by rw [cell_at HN7.out]; rfl
    have b4 : w7.cell? ⟨w.heap.size, 4, none⟩ = some (.int .i64 ops') := by rw [cell_at HN7.out]; rfl
    have b5 : w7.cell? ⟨w.heap.size, 5, none⟩ = some (.int .i64 part') := by rw [cell_at HN7.out]; rfl
    have b6 : w7.cell? ⟨w.heap.size, 6, none⟩ = some (.int .i64 keep') := by rw [cell_at HN7.out]; rfl
    have g0 : w6.cell? ⟨w.heap.size, 0, none⟩ = some (.slice aN L'.length cN) := by rw [cell_at HN6.out]; rfl
    have g1 : w6.cell? ⟨w.heap.size, 1, none⟩ = some (.int .i64 size') := by rw [cell_at HN6.out]; rfl
    have g2 : w6.cell? ⟨w.heap.size, 2, none⟩ = some (.bool down') := by rw [cell_at HN6.out]; rfl
    have g3 : w6.cell? ⟨w.heap.size, 3, none⟩ = some (.bool due') := by rw [cell_at HN6.out]; rfl
    have g4 : w6.cell? ⟨w.heap.size, 4, none⟩ = some (.int .i64 ops') := by rw [cell_at HN6.out]; rfl
    have g5 : w6.cell? ⟨w.heap.size, 5, none⟩ = some (.int .i64 part') := by rw [cell_at HN6.out]; rfl
    have g6 : w6.cell? ⟨w.heap.size, 6, none⟩ = some (.int .i64 keep') := by rw [cell_at HN6.out]; rfl
    refine ⟨by refine ⟨?_, ?_, ?_, ?_, ?_, ?_, ?_⟩ <;> first | exact b0 | exact b1 | exact b2 | exact b3 | exact b4 | exact b5 | exact b6 | exact g0 | exact g1 | exact g2 | exact g3 | exact g4 | exact g5 | exact g6, ?_⟩
    refine heldI_run (t := 0) (by kernel_rfl) (fun d _ _ _ _ h => by cases d <;> exact h) w7 ⟨b0, b1, b2, b3, b4, b5, b6⟩ [10] _ _ (by kernel_rfl) ?_
    iterate 1 (first | (refine heldI_step rfl rfl (fun w' hS => by (obtain ⟨s0, s1, s2, s3, s4, s5, s6⟩ := hS; go_simp; with_reducible rfl)) ?_; simp only [Act.put, List.setIfInBounds_toArray, List.set_cons_zero, List.set_cons_succ]) | (refine heldI_want rfl rfl (fun w' hS => by (obtain ⟨s0, s1, s2, s3, s4, s5, s6⟩ := hS; go_simp; with_reducible rfl)) ?_; simp only [Act.put, List.setIfInBounds_toArray, List.set_cons_zero, List.set_cons_succ]) | (refine heldI_skip rfl rfl ?_; simp only [Act.put, List.setIfInBounds_toArray, List.set_cons_zero, List.set_cons_succ]))
    refine heldI_nil ?_
    refine anyZ_done (by kernel_rfl) ?_
    clear b0 b1 b2 b3 b4 b5 b6 g0 g1 g2 g3 g4 g5 g6
    have b0 : w7.cell? ⟨w.heap.size + 1 + 1, 0, none⟩ = some (.slice aN L'.length cN) := by rw [cell_at HZ7.out]; rfl
    have b1 : w7.cell? ⟨w.heap.size + 1 + 1, 1, none⟩ = some (.int .i64 size') := by rw [cell_at HZ7.out]; rfl
    have b2 : w7.cell? ⟨w.heap.size + 1 + 1, 2, none⟩ = some (.bool down') := by rw [cell_at HZ7.out]; rfl
    have b3 : w7.cell? ⟨w.heap.size + 1 + 1, 3, none⟩ = some (.bool due') := by rw [cell_at HZ7.out]; rfl
    have b4 : w7.cell? ⟨w.heap.size + 1 + 1, 4, none⟩ = some (.int .i64 ops') := by rw [cell_at HZ7.out]; rfl
    have b5 : w7.cell? ⟨w.heap.size + 1 + 1, 5, none⟩ = some (.int .i64 part') := by rw [cell_at HZ7.out]; rfl
    have b6 : w7.cell? ⟨w.heap.size + 1 + 1, 6, none⟩ = some (.int .i64 keep') := by rw [cell_at HZ7.out]; rfl
    go_wp2_with fail
    refine bodyPost_ret (v := .tuple #[RefD.val ⟨size', down', due', ops', part', keep'⟩ (.slice aN L'.length cN), .bool true]) (by rw [results_cell2 rfl]; go_simp; rfl) rfl ⟨r.1, _, _, _, fun i => X i ∨ (w1.heap.size ≤ i ∧ i < w2.heap.size), _, rfl, (S5.out.keep HK6.out).own HK7.out (fun i (h : i = w.heap.size + 1 + 1) => ⟨.inl (.inr ⟨by omega, by omega⟩), by omega⟩), hT1, HRN.out, ((H5.out.keep HK6.out (fun _ _ h => h)).keep HK7.out (fun i h (e : i = w.heap.size + 1 + 1) => by rcases h with (h | h) | h; have := HS.out.sub i (HXY.out i h); omega; omega; omega)).mono (fun i hi h => by rcases h with (h | h) | h; exact .inl (.inl h); exact .inr h; exact .inl (.inr h)), fun i h => .inl (.inl h), fun i h => h.elim (fun h => .inl (.inl (HXY.out i h))) .inr, fun i h => h.imp id (fun h => by omega), (((((HKB.out.mono (fun _ _ h => h.elim)).trans HKa.out (fun i hi h => ⟨h.1, fun hx => h.2 (.inl hx)⟩)).trans HK5.out (fun i hi (h : i = w.heap.size) => by omega)).trans HK6.out (fun i hi h => h.elim)).trans HK7.out (fun i hi (h : i = w.heap.size + 1 + 1) => by omega))⟩
  by_cases hk7 : m.kind.tmod 9 = 7
  · go_wp2_with fail
    obtain ⟨wb, hwb⟩ : ∃ wb, ((w.alloc (.cells #[.slice ao L.length cap, .int .i64 size, .bool down, .bool due, .int .i64 ops, .int .i64 part, .int .i64 keep] 28)).alloc (.cells #[.int .i64 m.kind, .string m.name, .string m.to, .slice A m.b.length C, .int .i64 m.n, .int .i64 m.part, .int .i64 m.keep] 33)).alloc (.cells #[.slice none 0 0, .int .i64 0, .bool false, .bool false, .int .i64 0, .int .i64 0, .int .i64 0] 28) = wb := ⟨_, rfl⟩
    have hkb : Keep (fun _ => False) w wb := hwb ▸ (((Keep.refl _ w).alloc _).alloc _).alloc _
    have hszb : wb.heap.size = w.heap.size + 3 := by rw [← hwb]; simp
    have hb0 : wb.heap[w.heap.size]? = some (.cells #[.slice ao L.length cap, .int .i64 size, .bool down, .bool due, .int .i64 ops, .int .i64 part, .int .i64 keep] 28 (0, 0)) := by rw [← hwb, Below.heap_alloc _ _ _ (by simp; omega), Below.heap_alloc _ _ _ (by simp)]; exact heap_alloc_new _ _
    have hb1 : wb.heap[w.heap.size + 1]? = some (.cells #[.int .i64 m.kind, .string m.name, .string m.to, .slice A m.b.length C, .int .i64 m.n, .int .i64 m.part, .int .i64 m.keep] 33 (0, 0)) := by rw [← hwb, Below.heap_alloc _ _ _ (by simp), show w.heap.size + 1 = (w.alloc (.cells #[.slice ao L.length cap, .int .i64 size, .bool down, .bool due, .int .i64 ops, .int .i64 part, .int .i64 keep] 28)).heap.size by simp]; exact heap_alloc_new _ _
    have hb2 : wb.heap[w.heap.size + 1 + 1]? = some (.cells #[.slice none 0 0, .int .i64 0, .bool false, .bool false, .int .i64 0, .int .i64 0, .int .i64 0] 28 (0, 0)) := by rw [← hwb, show w.heap.size + 1 + 1 = ((w.alloc (.cells #[.slice ao L.length cap, .int .i64 size, .bool down, .bool due, .int .i64 ops, .int .i64 part, .int .i64 keep] 28)).alloc (.cells #[.int .i64 m.kind, .string m.name, .string m.to, .slice A m.b.length C, .int .i64 m.n, .int .i64 m.part, .int .i64 m.keep] 33)).heap.size by simp]; exact heap_alloc_new _ _
    rw [hwb]
    have HKB := hid hkb
    have SB := hid (HS.out.more hkb)
    have HB0 := hid hb0
    have HB1 := hid hb1
    have HB2 := hid hb2
    clear hkb hb0 hb1 hb2 hwb
    refine (st_shorten SB.out m.name m.n hkn).mono ?_
    rintro e w1 ⟨rfl, hS1, hK1⟩
    have hT1 := tidy_shorten ht m.name m.n
    obtain ⟨r, hr⟩ : ∃ r, shorten D m.name m.n = r := ⟨_, rfl⟩
    rw [hr] at hS1 hT1 ⊢
    have HRR := hid hr
    clear hr
    have S1 := hid hS1
    have HK1 := hid (hK1)
    have hs1 := HK1.out.size
    have hsw := HS.out.size
    have HX := hid (show ∀ i, w.heap.size ≤ i → i < wb.heap.size → ¬ (W.heap.size ≤ i ∧ ¬ (Y i ∨ (w.heap.size ≤ i ∧ i < wb.heap.size))) from fun i h1 h2 hn => hn.2 (.inr ⟨h1, h2⟩))
    have HC0 := hid (HK1.out.at HB0.out (HX.out _ (by omega) (by omega)))
    have HC1 := hid (HK1.out.at HB1.out (HX.out _ (by omega) (by omega)))
    have HC2 := hid (HK1.out.at HB2.out (HX.out _ (by omega) (by omega)))
    have HN1 := hid (show ∀ i, (X i ∨ i < W.heap.size) → ¬ (W.heap.size ≤ i ∧ ¬ (Y i ∨ (w.heap.size ≤ i ∧ i < wb.heap.size))) from fun i h hn => h.elim (fun h => hn.2 (.inl (HXY.out i h))) (fun h => by omega))
    have H1 := hid ((H.out.keep HKB.out (fun _ _ h => h)).keep HK1.out HN1.out)
    have HG1 := hid (show ∀ i, (X i ∨ i < W.heap.size) → i < w1.heap.size from fun i h => h.elim (fun h => by have := HS.out.sub i (HXY.out i h); omega) (fun h => by omega))
    clear hS1 hK1
    have c0 : w1.cell? ⟨w.heap.size, 0, none⟩ = some (.slice ao L.length cap) := by rw [cell_at HC0.out]; rfl
    have c1 : w1.cell? ⟨w.heap.size, 1, none⟩ = some (.int .i64 size) := by rw [cell_at HC0.out]; rfl
    have c2 : w1.cell? ⟨w.heap.size, 2, none⟩ = some (.bool down) := by rw [cell_at HC0.out]; rfl
    have c3 : w1.cell? ⟨w.heap.size, 3, none⟩ = some (.bool due) := by rw [cell_at HC0.out]; rfl
    have c4 : w1.cell? ⟨w.heap.size, 4, none⟩ = some (.int .i64 ops) := by rw [cell_at HC0.out]; rfl
    have c5 : w1.cell? ⟨w.heap.size, 5, none⟩ = some (.int .i64 part) := by rw [cell_at HC0.out]; rfl
    have c6 : w1.cell? ⟨w.heap.size, 6, none⟩ = some (.int .i64 keep) := by rw [cell_at HC0.out]; rfl
    have d0 : w1.cell? ⟨w.heap.size + 1, 0, none⟩ = some (.int .i64 m.kind) := by rw [cell_at HC1.out]; rfl
    have d1 : w1.cell? ⟨w.heap.size + 1, 1, none⟩ = some (.string m.name) := by rw [cell_at HC1.out]; rfl
    have d2 : w1.cell? ⟨w.heap.size + 1, 2, none⟩ = some (.string m.to) := by rw [cell_at HC1.out]; rfl
    have d3 : w1.cell? ⟨w.heap.size + 1, 3, none⟩ = some (.slice A m.b.length C) := by rw [cell_at HC1.out]; rfl
    have d4 : w1.cell? ⟨w.heap.size + 1, 4, none⟩ = some (.int .i64 m.n) := by rw [cell_at HC1.out]; rfl
    have d5 : w1.cell? ⟨w.heap.size + 1, 5, none⟩ = some (.int .i64 m.part) := by rw [cell_at HC1.out]; rfl
    have d6 : w1.cell? ⟨w.heap.size + 1, 6, none⟩ = some (.int .i64 m.keep) := by rw [cell_at HC1.out]; rfl
    go_wp2_with fail
    refine (do_shorten HR.out HOK.out ht H1.out HG1.out m.name ⟨#[]⟩ m.n).mono ?_
    rintro e w2 ⟨vN, ⟨size', down', due', ops', part', keep'⟩, L', rfl, hRN, hF2, hK2⟩
    rw [HRR.out] at hRN ⊢
    obtain ⟨aN, cN, hvN⟩ := hF2.slice
    subst hvN
    have HRN := hid hRN
    have H2 := hid (hF2.mono (G' := fun i => (X i ∨ i < W.heap.size) ∨ (w1.heap.size ≤ i ∧ i < w2.heap.size)) (fun i hi h => h.imp id (fun h => ⟨h, hi⟩)))
    have hs2 := hK2.size
    have S2 := hid (S1.out.more hK2)
    have HE0 := hid (hK2.at HC0.out (fun h => h))
    have HE2 := hid (hK2.at HC2.out (fun h => h))
    have HKa := hid (HK1.out.trans hK2 (fun _ _ h => h.elim))
    clear hF2 hRN hK2 c0 c1 c2 c3 c4 c5 c6 d0 d1 d2 d3 d4 d5 d6
    unfold RefD.val RefD.cells
    have c0 : w2.cell? ⟨w.heap.size, 0, none⟩ = some (.slice ao L.length cap) := by rw [cell_at HE0.out]; rfl
    have c1 : w2.cell? ⟨w.heap.size, 1, none⟩ = some (.int .i64 size) := by rw [cell_at HE0.out]; rfl
    have c2 : w2.cell? ⟨w.heap.size, 2, none⟩ = some (.bool down) := by rw [cell_at HE0.out]; rfl
    have c3 : w2.cell? ⟨w.heap.size, 3, none⟩ = some (.bool due) := by rw [cell_at HE0.out]; rfl
    have c4 : w2.cell? ⟨w.heap.size, 4, none⟩ = some (.int .i64 ops) := by rw [cell_at HE0.out]; rfl
    have c5 : w2.cell? ⟨w.heap.size, 5, none⟩ = some (.int .i64 part) := by rw [cell_at HE0.out]; rfl
    have c6 : w2.cell? ⟨w.heap.size, 6, none⟩ = some (.int .i64 keep) := by rw [cell_at HE0.out]; rfl
    have f0 : w2.frozen? ⟨w.heap.size, 0, none⟩ = false := frozen_at HE0.out _
    have f1 : w2.frozen? ⟨w.heap.size, 1, none⟩ = false := frozen_at HE0.out _
    have f2 : w2.frozen? ⟨w.heap.size, 2, none⟩ = false := frozen_at HE0.out _
    have f3 : w2.frozen? ⟨w.heap.size, 3, none⟩ = false := frozen_at HE0.out _
    have f4 : w2.frozen? ⟨w.heap.size, 4, none⟩ = false := frozen_at HE0.out _
    have f5 : w2.frozen? ⟨w.heap.size, 5, none⟩ = false := frozen_at HE0.out _
    have f6 : w2.frozen? ⟨w.heap.size, 6, none⟩ = false := frozen_at HE0.out _
    go_wp2_with fail
    obtain ⟨w5, hw5⟩ : ∃ w5, (((((((w2.setCell ⟨w.heap.size, 0, none⟩ (.slice aN L'.length cN)).setCell ⟨w.heap.size, 1, none⟩ (.int .i64 size')).setCell ⟨w.heap.size, 2, none⟩ (.bool down')).setCell ⟨w.heap.size, 3, none⟩ (.bool due')).setCell ⟨w.heap.size, 4, none⟩ (.int .i64 ops')).setCell ⟨w.heap.size, 5, none⟩ (.int .i64 part')).setCell ⟨w.heap.size, 6, none⟩ (.int .i64 keep')) = w5 := ⟨_, rfl⟩
    rw [hw5]
    have HK5 := hid (show Keep (fun i => i = w.heap.size) w2 w5 from hw5 ▸ ((((((((Keep.refl (fun i => i = w.heap.size) w2).setCell (p := ⟨w.heap.size, 0, none⟩) (fun _ => rfl) (.slice aN L'.length cN)).setCell (p := ⟨w.heap.size, 1, none⟩) (fun _ => rfl) (.int .i64 size')).setCell (p := ⟨w.heap.size, 2, none⟩) (fun _ => rfl) (.bool down')).setCell (p := ⟨w.heap.size, 3, none⟩) (fun _ => rfl) (.bool due')).setCell (p := ⟨w.heap.size, 4, none⟩) (fun _ => rfl) (.int .i64 ops')).setCell (p := ⟨w.heap.size, 5, none⟩) (fun _ => rfl) (.int .i64 part')).setCell (p := ⟨w.heap.size, 6, none⟩) (fun _ => rfl) (.int .i64 keep')))
    have HN5 := hid (show w5.heap[w.heap.size]? = some (.cells #[.slice aN L'.length cN, .int .i64 size', .bool down', .bool due', .int .i64 ops', .int .i64 part', .int .i64 keep'] 28 (0, 0)) from hw5 ▸ slot_seven HE0.out rfl (.slice aN L'.length cN) (.int .i64 size') (.bool down') (.bool due') (.int .i64 ops') (.int .i64 part') (.int .i64 keep'))
    have HZ5 := hid (HK5.out.at HE2.out (by omega))
    have S5 := hid (S2.out.own HK5.out (fun i (h : i = w.heap.size) => ⟨.inl (.inr ⟨by omega, by omega⟩), by omega⟩))
    have H5 := hid (H2.out.keep HK5.out (fun i h (e : i = w.heap.size) => by rcases h with (h | h) | h; have := HS.out.sub i (HXY.out i h); omega; omega; omega))
    have hs5 := HK5.out.size
    clear hw5 c0 c1 c2 c3 c4 c5 c6 f0 f1 f2 f3 f4 f5 f6
    have a0 : w5.cell? ⟨w.heap.size, 0, none⟩ = some (.slice aN L'.length cN) := by rw [cell_at HN5.out]; rfl
    have a1 : w5.cell? ⟨w.heap.size, 1, none⟩ = some (.int .i64 size') := by rw [cell_at HN5.out]; rfl
    have a2 : w5.cell? ⟨w.heap.size, 2, none⟩ = some (.bool down') := by rw [cell_at HN5.out]; rfl
    have a3 : w5.cell? ⟨w.heap.size, 3, none⟩ = some (.bool due') := by rw [cell_at HN5.out]; rfl
    have a4 : w5.cell? ⟨w.heap.size, 4, none⟩ = some (.int .i64 ops') := by rw [cell_at HN5.out]; rfl
    have a5 : w5.cell? ⟨w.heap.size, 5, none⟩ = some (.int .i64 part') := by rw [cell_at HN5.out]; rfl
    have a6 : w5.cell? ⟨w.heap.size, 6, none⟩ = some (.int .i64 keep') := by rw [cell_at HN5.out]; rfl
    refine wp_region_heldi [0, 1, 2, 3, 4, 5, 6] 100 4 (fun w' => w'.cell? ⟨w.heap.size, 0, none⟩ = some (.slice aN L'.length cN) ∧ w'.cell? ⟨w.heap.size, 1, none⟩ = some (.int .i64 size') ∧ w'.cell? ⟨w.heap.size, 2, none⟩ = some (.bool down') ∧ w'.cell? ⟨w.heap.size, 3, none⟩ = some (.bool due') ∧ w'.cell? ⟨w.heap.size, 4, none⟩ = some (.int .i64 ops') ∧ w'.cell? ⟨w.heap.size, 5, none⟩ = some (.int .i64 part') ∧ w'.cell? ⟨w.heap.size, 6, none⟩ = some (.int .i64 keep')) (by kernel_rfl) (by kernel_rfl) (by kernel_rfl) ⟨a0, a1, a2, a3, a4, a5, a6⟩ (fun d _ _ _ _ h => by cases d <;> exact h) ?_
    iterate 7 (first | (refine heldI_step rfl rfl (fun w' hS => by (obtain ⟨s0, s1, s2, s3, s4, s5, s6⟩ := hS; go_simp; with_reducible rfl)) ?_; simp only [Act.put, List.setIfInBounds_toArray, List.set_cons_zero, List.set_cons_succ]) | (refine heldI_want rfl rfl (fun w' hS => by (obtain ⟨s0, s1, s2, s3, s4, s5, s6⟩ := hS; go_simp; with_reducible rfl)) ?_; simp only [Act.put, List.setIfInBounds_toArray, List.set_cons_zero, List.set_cons_succ]) | (refine heldI_skip rfl rfl ?_; simp only [Act.put, List.setIfInBounds_toArray, List.set_cons_zero, List.set_cons_succ]))
    refine heldI_nil ?_
    refine anyZ_next' (j := 7) (by kernel_rfl) rfl rfl ?_
    go_simp
    have kd := keep_drawn' w5 (w5.drawn + 1)
    refine (is_any (S5.out.keep kd) hT1 ⟨size', down', due', ops', part', keep'⟩ HRN.out (H5.out.keep kd (fun _ _ h => h))).mono ?_
    rintro e w6 ⟨rfl, hK6⟩
    have HK6 := hid (kd.trans hK6 (fun _ _ h => h))
    have HN6 := hid (HK6.out.at HN5.out (fun h => h))
    have HZ6 := hid (HK6.out.at HZ5.out (fun h => h))
    have hs6 : w5.heap.size ≤ w6.heap.size := HK6.out.size
    clear kd hK6 a0 a1 a2 a3 a4 a5 a6
    have b0 : w6.cell? ⟨w.heap.size, 0, none⟩ = some (.slice aN L'.length cN) := by rw [cell_at HN6.out]; rfl
    have b1 : w6.cell? ⟨w.heap.size, 1, none⟩ = some (.int .i64 size') := by rw [cell_at HN6.out]; rfl
    have b2 : w6.cell? ⟨w.heap.size, 2, none⟩ = some (.bool down') := by rw [cell_at HN6.out]; rfl
    have b3 : w6.cell? ⟨w.heap.size, 3, none⟩ = some (.bool due') := by rw [cell_at HN6.out]; rfl
    have b4 : w6.cell? ⟨w.heap.size, 4, none⟩ = some (.int .i64 ops') := by rw [cell_at HN6.out]; rfl
    have b5 : w6.cell? ⟨w.heap.size, 5, none⟩ = some (.int .i64 part') := by rw [cell_at HN6.out]; rfl
    have b6 : w6.cell? ⟨w.heap.size, 6, none⟩ = some (.int .i64 keep') := by rw [cell_at HN6.out]; rfl
    refine ⟨⟨b0, b1, b2, b3, b4, b5, b6⟩, ?_⟩
    refine heldI_run (t := 2) (by kernel_rfl) (fun d _ _ _ _ h => by cases d <;> exact h) w6 ⟨b0, b1, b2, b3, b4, b5, b6⟩ [8] _ _ (by kernel_rfl) ?_
    iterate 1 (first | (refine heldI_step rfl rfl (fun w' hS => by (obtain ⟨s0, s1, s2, s3, s4, s5, s6⟩ := hS; go_simp; with_reducible rfl)) ?_; simp only [Act.put, List.setIfInBounds_toArray, List.set_cons_zero, List.set_cons_succ]) | (refine heldI_want rfl rfl (fun w' hS => by (obtain ⟨s0, s1, s2, s3, s4, s5, s6⟩ := hS; go_simp; with_reducible rfl)) ?_; simp only [Act.put, List.setIfInBounds_toArray, List.set_cons_zero, List.set_cons_succ]) | (refine heldI_skip rfl rfl ?_; simp only [Act.put, List.setIfInBounds_toArray, List.set_cons_zero, List.set_cons_succ]))
    refine heldI_nil ?_
    clear b0 b1 b2 b3 b4 b5 b6
    have z0 : w6.cell? ⟨w.heap.size + 1 + 1, 0, none⟩ = some (.slice none 0 0) := by rw [cell_at HZ6.out]; rfl
    have z1 : w6.cell? ⟨w.heap.size + 1 + 1, 1, none⟩ = some (.int .i64 0) := by rw [cell_at HZ6.out]; rfl
    have z2 : w6.cell? ⟨w.heap.size + 1 + 1, 2, none⟩ = some (.bool false) := by rw [cell_at HZ6.out]; rfl
    have z3 : w6.cell? ⟨w.heap.size + 1 + 1, 3, none⟩ = some (.bool false) := by rw [cell_at HZ6.out]; rfl
    have z4 : w6.cell? ⟨w.heap.size + 1 + 1, 4, none⟩ = some (.int .i64 0) := by rw [cell_at HZ6.out]; rfl
    have z5 : w6.cell? ⟨w.heap.size + 1 + 1, 5, none⟩ = some (.int .i64 0) := by rw [cell_at HZ6.out]; rfl
    have z6 : w6.cell? ⟨w.heap.size + 1 + 1, 6, none⟩ = some (.int .i64 0) := by rw [cell_at HZ6.out]; rfl
    have y0 : w6.frozen? ⟨w.heap.size + 1 + 1, 0, none⟩ = false := frozen_at HZ6.out _
    have y1 : w6.frozen? ⟨w.heap.size + 1 + 1, 1, none⟩ = false := frozen_at HZ6.out _
    have y2 : w6.frozen? ⟨w.heap.size + 1 + 1, 2, none⟩ = false := frozen_at HZ6.out _
    have y3 : w6.frozen? ⟨w.heap.size + 1 + 1, 3, none⟩ = false := frozen_at HZ6.out _
    have y4 : w6.frozen? ⟨w.heap.size + 1 + 1, 4, none⟩ = false := frozen_at HZ6.out _
    have y5 : w6.frozen? ⟨w.heap.size + 1 + 1, 5, none⟩ = false := frozen_at HZ6.out _
    have y6 : w6.frozen? ⟨w.heap.size + 1 + 1, 6, none⟩ = false := frozen_at HZ6.out _
    refine anyZ_next' (j := 9) (by kernel_rfl) rfl rfl ?_
    go_simp
    clear z0 z1 z2 z3 z4 z5 z6 y0 y1 y2 y3 y4 y5 y6
    obtain ⟨w7, hw7⟩ : ∃ w7, (((((((w6.setCell ⟨w.heap.size + 1 + 1, 0, none⟩ (.slice aN L'.length cN)).setCell ⟨w.heap.size + 1 + 1, 1, none⟩ (.int .i64 size')).setCell ⟨w.heap.size + 1 + 1, 2, none⟩ (.bool down')).setCell ⟨w.heap.size + 1 + 1, 3, none⟩ (.bool due')).setCell ⟨w.heap.size + 1 + 1, 4, none⟩ (.int .i64 ops')).setCell ⟨w.heap.size + 1 + 1, 5, none⟩ (.int .i64 part')).setCell ⟨w.heap.size + 1 + 1, 6, none⟩ (.int .i64 keep')) = w7 := ⟨_, rfl⟩
    rw [hw7]
    have HK7 := hid (show Keep (fun i => i = w.heap.size + 1 + 1) w6 w7 from hw7 ▸ ((((((((Keep.refl (fun i => i = w.heap.size + 1 + 1) w6).setCell (p := ⟨w.heap.size + 1 + 1, 0, none⟩) (fun _ => rfl) (.slice aN L'.length cN)).setCell (p := ⟨w.heap.size + 1 + 1, 1, none⟩) (fun _ => rfl) (.int .i64 size')).setCell (p := ⟨w.heap.size + 1 + 1, 2, none⟩) (fun _ => rfl) (.bool down')).setCell (p := ⟨w.heap.size + 1 + 1, 3, none⟩) (fun _ => rfl) (.bool due')).setCell (p := ⟨w.heap.size + 1 + 1, 4, none⟩) (fun _ => rfl) (.int .i64 ops')).setCell (p := ⟨w.heap.size + 1 + 1, 5, none⟩) (fun _ => rfl) (.int .i64 part')).setCell (p := ⟨w.heap.size + 1 + 1, 6, none⟩) (fun _ => rfl) (.int .i64 keep')))
    have HN7 := hid (HK7.out.at HN6.out (by omega))
    have HZ7 := hid (show w7.heap[w.heap.size + 1 + 1]? = some (.cells #[.slice aN L'.length cN, .int .i64 size', .bool down', .bool due', .int .i64 ops', .int .i64 part', .int .i64 keep'] 28 (0, 0)) from hw7 ▸ slot_seven HZ6.out rfl (.slice aN L'.length cN) (.int .i64 size') (.bool down') (.bool due') (.int .i64 ops') (.int .i64 part') (.int .i64 keep'))
    clear hw7
    have b0 : w7.cell? ⟨w.heap.size, 0, none⟩ = some (.slice aN L'.length cN) := by rw [cell_at HN7.out]; rfl
    have b1 : w7.cell? ⟨w.heap.size, 1, none⟩ = some (.int .i64 size') := by rw [cell_at HN7.out]; rfl
    have b2 : w7.cell? ⟨w.heap.size, 2, none⟩ = some (.bool down') := by rw [cell_at HN7.out]; rfl
    have b3 : w7.cell? ⟨w.heap.size, 3, none⟩ = some (.bool due') := by rw [cell_at HN7.out]; rfl
    have b4 : w7.cell? ⟨w.heap.size, 4, none⟩ = some (.int .i64 ops') := by rw [cell_at HN7.out]; rfl
    have b5 : w7.cell? ⟨w.heap.size, 5, none⟩ = some (.int .i64 part') := by rw [cell_at HN7.out]; rfl
    have b6 : w7.cell? ⟨w.heap.size, 6, none⟩ = some (.int .i64 keep') := by rw [cell_at HN7.out]; rfl
    have g0 : w6.cell? ⟨w.heap.size, 0, none⟩ = some (.slice aN L'.length cN) := by rw [cell_at HN6.out]; rfl
    have g1 : w6.cell? ⟨w.heap.size, 1, none⟩ = some (.int .i64 size') := by rw [cell_at HN6.out]; rfl
    have g2 : w6.cell? ⟨w.heap.size, 2, none⟩ = some (.bool down') := by rw [cell_at HN6.out]; rfl
    have g3 : w6.cell? ⟨w.heap.size, 3, none⟩ = some (.bool due') := by rw [cell_at HN6.out]; rfl
    have g4 : w6.cell? ⟨w.heap.size, 4, none⟩ = some (.int .i64 ops') := by rw [cell_at HN6.out]; rfl
    have g5 : w6.cell? ⟨w.heap.size, 5, none⟩ = some (.int .i64 part') := by rw [cell_at HN6.out]; rfl
    have g6 : w6.cell? ⟨w.heap.size, 6, none⟩ = some (.int .i64 keep') := by rw [cell_at HN6.out]; rfl
    refine ⟨by refine ⟨?_, ?_, ?_, ?_, ?_, ?_, ?_⟩ <;> first | exact b0 | exact b1 | exact b2 | exact b3 | exact b4 | exact b5 | exact b6 | exact g0 | exact g1 | exact g2 | exact g3 | exact g4 | exact g5 | exact g6, ?_⟩
    refine heldI_run (t := 0) (by kernel_rfl) (fun d _ _ _ _ h => by cases d <;> exact h) w7 ⟨b0, b1, b2, b3, b4, b5, b6⟩ [10] _ _ (by kernel_rfl) ?_
    iterate 1 (first | (refine heldI_step rfl rfl (fun w' hS => by (obtain ⟨s0, s1, s2, s3, s4, s5, s6⟩ := hS; go_simp; with_reducible rfl)) ?_; simp only [Act.put, List.setIfInBounds_toArray, List.set_cons_zero, List.set_cons_succ]) | (refine heldI_want rfl rfl (fun w' hS => by (obtain ⟨s0, s1, s2, s3, s4, s5, s6⟩ := hS; go_simp; with_reducible rfl)) ?_; simp only [Act.put, List.setIfInBounds_toArray, List.set_cons_zero, List.set_cons_succ]) | (refine heldI_skip rfl rfl ?_; simp only [Act.put, List.setIfInBounds_toArray, List.set_cons_zero, List.set_cons_succ]))
    refine heldI_nil ?_
    refine anyZ_done (by kernel_rfl) ?_
    clear b0 b1 b2 b3 b4 b5 b6 g0 g1 g2 g3 g4 g5 g6
    have b0 : w7.cell? ⟨w.heap.size + 1 + 1, 0, none⟩ = some (.slice aN L'.length cN) := by rw [cell_at HZ7.out]; rfl
    have b1 : w7.cell? ⟨w.heap.size + 1 + 1, 1, none⟩ = some (.int .i64 size') := by rw [cell_at HZ7.out]; rfl
    have b2 : w7.cell? ⟨w.heap.size + 1 + 1, 2, none⟩ = some (.bool down') := by rw [cell_at HZ7.out]; rfl
    have b3 : w7.cell? ⟨w.heap.size + 1 + 1, 3, none⟩ = some (.bool due') := by rw [cell_at HZ7.out]; rfl
    have b4 : w7.cell? ⟨w.heap.size + 1 + 1, 4, none⟩ = some (.int .i64 ops') := by rw [cell_at HZ7.out]; rfl
    have b5 : w7.cell? ⟨w.heap.size + 1 + 1, 5, none⟩ = some (.int .i64 part') := by rw [cell_at HZ7.out]; rfl
    have b6 : w7.cell? ⟨w.heap.size + 1 + 1, 6, none⟩ = some (.int .i64 keep') := by rw [cell_at HZ7.out]; rfl
    go_wp2_with fail
    refine bodyPost_ret (v := .tuple #[RefD.val ⟨size', down', due', ops', part', keep'⟩ (.slice aN L'.length cN), .bool true]) (by rw [results_cell2 rfl]; go_simp; rfl) rfl ⟨r.1, _, _, _, fun i => X i ∨ (w1.heap.size ≤ i ∧ i < w2.heap.size), _, rfl, (S5.out.keep HK6.out).own HK7.out (fun i (h : i = w.heap.size + 1 + 1) => ⟨.inl (.inr ⟨by omega, by omega⟩), by omega⟩), hT1, HRN.out, ((H5.out.keep HK6.out (fun _ _ h => h)).keep HK7.out (fun i h (e : i = w.heap.size + 1 + 1) => by rcases h with (h | h) | h; have := HS.out.sub i (HXY.out i h); omega; omega; omega)).mono (fun i hi h => by rcases h with (h | h) | h; exact .inl (.inl h); exact .inr h; exact .inl (.inr h)), fun i h => .inl (.inl h), fun i h => h.elim (fun h => .inl (.inl (HXY.out i h))) .inr, fun i h => h.imp id (fun h => by omega), (((((HKB.out.mono (fun _ _ h => h.elim)).trans HKa.out (fun i hi h => ⟨h.1, fun hx => h.2 (.inl hx)⟩)).trans HK5.out (fun i hi (h : i = w.heap.size) => by omega)).trans HK6.out (fun i hi h => h.elim)).trans HK7.out (fun i hi (h : i = w.heap.size + 1 + 1) => by omega))⟩
  go_wp2_with fail
  obtain ⟨wb, hwb⟩ : ∃ wb, ((w.alloc (.cells #[.slice ao L.length cap, .int .i64 size, .bool down, .bool due, .int .i64 ops, .int .i64 part, .int .i64 keep] 28)).alloc (.cells #[.int .i64 m.kind, .string m.name, .string m.to, .slice A m.b.length C, .int .i64 m.n, .int .i64 m.part, .int .i64 m.keep] 33)).alloc (.cells #[.slice none 0 0, .int .i64 0, .bool false, .bool false, .int .i64 0, .int .i64 0, .int .i64 0] 28) = wb := ⟨_, rfl⟩
  have hkb : Keep (fun _ => False) w wb := hwb ▸ (((Keep.refl _ w).alloc _).alloc _).alloc _
  have hszb : wb.heap.size = w.heap.size + 3 := by rw [← hwb]; simp
  have hb0 : wb.heap[w.heap.size]? = some (.cells #[.slice ao L.length cap, .int .i64 size, .bool down, .bool due, .int .i64 ops, .int .i64 part, .int .i64 keep] 28 (0, 0)) := by rw [← hwb, Below.heap_alloc _ _ _ (by simp; omega), Below.heap_alloc _ _ _ (by simp)]; exact heap_alloc_new _ _
  have hb1 : wb.heap[w.heap.size + 1]? = some (.cells #[.int .i64 m.kind, .string m.name, .string m.to, .slice A m.b.length C, .int .i64 m.n, .int .i64 m.part, .int .i64 m.keep] 33 (0, 0)) := by rw [← hwb, Below.heap_alloc _ _ _ (by simp), show w.heap.size + 1 = (w.alloc (.cells #[.slice ao L.length cap, .int .i64 size, .bool down, .bool due, .int .i64 ops, .int .i64 part, .int .i64 keep] 28)).heap.size by simp]; exact heap_alloc_new _ _
  have hb2 : wb.heap[w.heap.size + 1 + 1]? = some (.cells #[.slice none 0 0, .int .i64 0, .bool false, .bool false, .int .i64 0, .int .i64 0, .int .i64 0] 28 (0, 0)) := by rw [← hwb, show w.heap.size + 1 + 1 = ((w.alloc (.cells #[.slice ao L.length cap, .int .i64 size, .bool down, .bool due, .int .i64 ops, .int .i64 part, .int .i64 keep] 28)).alloc (.cells #[.int .i64 m.kind, .string m.name, .string m.to, .slice A m.b.length C, .int .i64 m.n, .int .i64 m.part, .int .i64 m.keep] 33)).heap.size by simp]; exact heap_alloc_new _ _
  rw [hwb]
  have HKB := hid hkb
  have SB := hid (HS.out.more hkb)
  have HB0 := hid hb0
  have HB1 := hid hb1
  have HB2 := hid hb2
  clear hkb hb0 hb1 hb2 hwb
  refine (st_on SB.out).mono ?_
  rintro e w1 ⟨rfl, hS1, hK1⟩
  have S1 := hid hS1
  have HK1 := hid (keep_both SB.out hS1 hK1)
  have hs1 := HK1.out.size
  have hsw := HS.out.size
  have HX := hid (show ∀ i, w.heap.size ≤ i → i < wb.heap.size → ¬ (W.heap.size ≤ i ∧ ¬ (Y i ∨ (w.heap.size ≤ i ∧ i < wb.heap.size))) from fun i h1 h2 hn => hn.2 (.inr ⟨h1, h2⟩))
  have HC0 := hid (HK1.out.at HB0.out (HX.out _ (by omega) (by omega)))
  have HC1 := hid (HK1.out.at HB1.out (HX.out _ (by omega) (by omega)))
  have HC2 := hid (HK1.out.at HB2.out (HX.out _ (by omega) (by omega)))
  have HN1 := hid (show ∀ i, (X i ∨ i < W.heap.size) → ¬ (W.heap.size ≤ i ∧ ¬ (Y i ∨ (w.heap.size ≤ i ∧ i < wb.heap.size))) from fun i h hn => h.elim (fun h => hn.2 (.inl (HXY.out i h))) (fun h => by omega))
  have H1 := hid ((H.out.keep HKB.out (fun _ _ h => h)).keep HK1.out HN1.out)
  have HG1 := hid (show ∀ i, (X i ∨ i < W.heap.size) → i < w1.heap.size from fun i h => h.elim (fun h => by have := HS.out.sub i (HXY.out i h); omega) (fun h => by omega))
  clear hS1 hK1
  have c0 : w1.cell? ⟨w.heap.size, 0, none⟩ = some (.slice ao L.length cap) := by rw [cell_at HC0.out]; rfl
  have c1 : w1.cell? ⟨w.heap.size, 1, none⟩ = some (.int .i64 size) := by rw [cell_at HC0.out]; rfl
  have c2 : w1.cell? ⟨w.heap.size, 2, none⟩ = some (.bool down) := by rw [cell_at HC0.out]; rfl
  have c3 : w1.cell? ⟨w.heap.size, 3, none⟩ = some (.bool due) := by rw [cell_at HC0.out]; rfl
  have c4 : w1.cell? ⟨w.heap.size, 4, none⟩ = some (.int .i64 ops) := by rw [cell_at HC0.out]; rfl
  have c5 : w1.cell? ⟨w.heap.size, 5, none⟩ = some (.int .i64 part) := by rw [cell_at HC0.out]; rfl
  have c6 : w1.cell? ⟨w.heap.size, 6, none⟩ = some (.int .i64 keep) := by rw [cell_at HC0.out]; rfl
  have d0 : w1.cell? ⟨w.heap.size + 1, 0, none⟩ = some (.int .i64 m.kind) := by rw [cell_at HC1.out]; rfl
  have d1 : w1.cell? ⟨w.heap.size + 1, 1, none⟩ = some (.string m.name) := by rw [cell_at HC1.out]; rfl
  have d2 : w1.cell? ⟨w.heap.size + 1, 2, none⟩ = some (.string m.to) := by rw [cell_at HC1.out]; rfl
  have d3 : w1.cell? ⟨w.heap.size + 1, 3, none⟩ = some (.slice A m.b.length C) := by rw [cell_at HC1.out]; rfl
  have d4 : w1.cell? ⟨w.heap.size + 1, 4, none⟩ = some (.int .i64 m.n) := by rw [cell_at HC1.out]; rfl
  have d5 : w1.cell? ⟨w.heap.size + 1, 5, none⟩ = some (.int .i64 m.part) := by rw [cell_at HC1.out]; rfl
  have d6 : w1.cell? ⟨w.heap.size + 1, 6, none⟩ = some (.int .i64 m.keep) := by rw [cell_at HC1.out]; rfl
  go_wp2_with fail
  refine (do_on HR.out H1.out).mono ?_
  rintro e w2 ⟨vN, ⟨size', down', due', ops', part', keep'⟩, L', rfl, hRN, hF2, hK2⟩
  obtain ⟨aN, cN, hvN⟩ := hF2.slice
  subst hvN
  have HRN := hid hRN
  have H2 := hid (hF2.mono (G' := fun i => (X i ∨ i < W.heap.size) ∨ (w1.heap.size ≤ i ∧ i < w2.heap.size)) (fun i hi h => h.imp id (fun h => ⟨h, hi⟩)))
  have hs2 := hK2.size
  have S2 := hid (S1.out.more hK2)
  have HE0 := hid (hK2.at HC0.out (fun h => h))
  have HE2 := hid (hK2.at HC2.out (fun h => h))
  have HKa := hid (HK1.out.trans hK2 (fun _ _ h => h.elim))
  clear hF2 hRN hK2 c0 c1 c2 c3 c4 c5 c6 d0 d1 d2 d3 d4 d5 d6
  unfold RefD.val RefD.cells
  have c0 : w2.cell? ⟨w.heap.size, 0, none⟩ = some (.slice ao L.length cap) := by rw [cell_at HE0.out]; rfl
  have c1 : w2.cell? ⟨w.heap.size, 1, none⟩ = some (.int .i64 size) := by rw [cell_at HE0.out]; rfl
  have c2 : w2.cell? ⟨w.heap.size, 2, none⟩ = some (.bool down) := by rw [cell_at HE0.out]; rfl
  have c3 : w2.cell? ⟨w.heap.size, 3, none⟩ = some (.bool due) := by rw [cell_at HE0.out]; rfl
  have c4 : w2.cell? ⟨w.heap.size, 4, none⟩ = some (.int .i64 ops) := by rw [cell_at HE0.out]; rfl
  have c5 : w2.cell? ⟨w.heap.size, 5, none⟩ = some (.int .i64 part) := by rw [cell_at HE0.out]; rfl
  have c6 : w2.cell? ⟨w.heap.size, 6, none⟩ = some (.int .i64 keep) := by rw [cell_at HE0.out]; rfl
  have f0 : w2.frozen? ⟨w.heap.size, 0, none⟩ = false := frozen_at HE0.out _
  have f1 : w2.frozen? ⟨w.heap.size, 1, none⟩ = false := frozen_at HE0.out _
  have f2 : w2.frozen? ⟨w.heap.size, 2, none⟩ = false := frozen_at HE0.out _
  have f3 : w2.frozen? ⟨w.heap.size, 3, none⟩ = false := frozen_at HE0.out _
  have f4 : w2.frozen? ⟨w.heap.size, 4, none⟩ = false := frozen_at HE0.out _
  have f5 : w2.frozen? ⟨w.heap.size, 5, none⟩ = false := frozen_at HE0.out _
  have f6 : w2.frozen? ⟨w.heap.size, 6, none⟩ = false := frozen_at HE0.out _
  go_wp2_with fail
  obtain ⟨w5, hw5⟩ : ∃ w5, (((((((w2.setCell ⟨w.heap.size, 0, none⟩ (.slice aN L'.length cN)).setCell ⟨w.heap.size, 1, none⟩ (.int .i64 size')).setCell ⟨w.heap.size, 2, none⟩ (.bool down')).setCell ⟨w.heap.size, 3, none⟩ (.bool due')).setCell ⟨w.heap.size, 4, none⟩ (.int .i64 ops')).setCell ⟨w.heap.size, 5, none⟩ (.int .i64 part')).setCell ⟨w.heap.size, 6, none⟩ (.int .i64 keep')) = w5 := ⟨_, rfl⟩
  rw [hw5]
  have HK5 := hid (show Keep (fun i => i = w.heap.size) w2 w5 from hw5 ▸ ((((((((Keep.refl (fun i => i = w.heap.size) w2).setCell (p := ⟨w.heap.size, 0, none⟩) (fun _ => rfl) (.slice aN L'.length cN)).setCell (p := ⟨w.heap.size, 1, none⟩) (fun _ => rfl) (.int .i64 size')).setCell (p := ⟨w.heap.size, 2, none⟩) (fun _ => rfl) (.bool down')).setCell (p := ⟨w.heap.size, 3, none⟩) (fun _ => rfl) (.bool due')).setCell (p := ⟨w.heap.size, 4, none⟩) (fun _ => rfl) (.int .i64 ops')).setCell (p := ⟨w.heap.size, 5, none⟩) (fun _ => rfl) (.int .i64 part')).setCell (p := ⟨w.heap.size, 6, none⟩) (fun _ => rfl) (.int .i64 keep')))
  have HN5 := hid (show w5.heap[w.heap.size]? = some (.cells #[.slice aN L'.length cN, .int .i64 size', .bool down', .bool due', .int .i64 ops', .int .i64 part', .int .i64 keep'] 28 (0, 0)) from hw5 ▸ slot_seven HE0.out rfl (.slice aN L'.length cN) (.int .i64 size') (.bool down') (.bool due') (.int .i64 ops') (.int .i64 part') (.int .i64 keep'))
  have HZ5 := hid (HK5.out.at HE2.out (by omega))
  have S5 := hid (S2.out.own HK5.out (fun i (h : i = w.heap.size) => ⟨.inl (.inr ⟨by omega, by omega⟩), by omega⟩))
  have H5 := hid (H2.out.keep HK5.out (fun i h (e : i = w.heap.size) => by rcases h with (h | h) | h; have := HS.out.sub i (HXY.out i h); omega; omega; omega))
  have hs5 := HK5.out.size
  clear hw5 c0 c1 c2 c3 c4 c5 c6 f0 f1 f2 f3 f4 f5 f6
  have a0 : w5.cell? ⟨w.heap.size, 0, none⟩ = some (.slice aN L'.length cN) := by rw [cell_at HN5.out]; rfl
  have a1 : w5.cell? ⟨w.heap.size, 1, none⟩ = some (.int .i64 size') := by rw [cell_at HN5.out]; rfl
  have a2 : w5.cell? ⟨w.heap.size, 2, none⟩ = some (.bool down') := by rw [cell_at HN5.out]; rfl
  have a3 : w5.cell? ⟨w.heap.size, 3, none⟩ = some (.bool due') := by rw [cell_at HN5.out]; rfl
  have a4 : w5.cell? ⟨w.heap.size, 4, none⟩ = some (.int .i64 ops') := by rw [cell_at HN5.out]; rfl
  have a5 : w5.cell? ⟨w.heap.size, 5, none⟩ = some (.int .i64 part') := by rw [cell_at HN5.out]; rfl
  have a6 : w5.cell? ⟨w.heap.size, 6, none⟩ = some (.int .i64 keep') := by rw [cell_at HN5.out]; rfl
  refine wp_region_heldi [0, 1, 2, 3, 4, 5, 6] 100 4 (fun w' => w'.cell? ⟨w.heap.size, 0, none⟩ = some (.slice aN L'.length cN) ∧ w'.cell? ⟨w.heap.size, 1, none⟩ = some (.int .i64 size') ∧ w'.cell? ⟨w.heap.size, 2, none⟩ = some (.bool down') ∧ w'.cell? ⟨w.heap.size, 3, none⟩ = some (.bool due') ∧ w'.cell? ⟨w.heap.size, 4, none⟩ = some (.int .i64 ops') ∧ w'.cell? ⟨w.heap.size, 5, none⟩ = some (.int .i64 part') ∧ w'.cell? ⟨w.heap.size, 6, none⟩ = some (.int .i64 keep')) (by kernel_rfl) (by kernel_rfl) (by kernel_rfl) ⟨a0, a1, a2, a3, a4, a5, a6⟩ (fun d _ _ _ _ h => by cases d <;> exact h) ?_
  iterate 7 (first | (refine heldI_step rfl rfl (fun w' hS => by (obtain ⟨s0, s1, s2, s3, s4, s5, s6⟩ := hS; go_simp; with_reducible rfl)) ?_; simp only [Act.put, List.setIfInBounds_toArray, List.set_cons_zero, List.set_cons_succ]) | (refine heldI_want rfl rfl (fun w' hS => by (obtain ⟨s0, s1, s2, s3, s4, s5, s6⟩ := hS; go_simp; with_reducible rfl)) ?_; simp only [Act.put, List.setIfInBounds_toArray, List.set_cons_zero, List.set_cons_succ]) | (refine heldI_skip rfl rfl ?_; simp only [Act.put, List.setIfInBounds_toArray, List.set_cons_zero, List.set_cons_succ]))
  refine heldI_nil ?_
  refine anyZ_next' (j := 7) (by kernel_rfl) rfl rfl ?_
  go_simp
  have kd := keep_drawn' w5 (w5.drawn + 1)
  refine (is_any (S5.out.keep kd) (tidy_on ht) ⟨size', down', due', ops', part', keep'⟩ HRN.out (H5.out.keep kd (fun _ _ h => h))).mono ?_
  rintro e w6 ⟨rfl, hK6⟩
  have HK6 := hid (kd.trans hK6 (fun _ _ h => h))
  have HN6 := hid (HK6.out.at HN5.out (fun h => h))
  have HZ6 := hid (HK6.out.at HZ5.out (fun h => h))
  have hs6 : w5.heap.size ≤ w6.heap.size := HK6.out.size
  clear kd hK6 a0 a1 a2 a3 a4 a5 a6
  have b0 : w6.cell? ⟨w.heap.size, 0, none⟩ = some (.slice aN L'.length cN) := by rw [cell_at HN6.out]; rfl
  have b1 : w6.cell? ⟨w.heap.size, 1, none⟩ = some (.int .i64 size') := by rw [cell_at HN6.out]; rfl
  have b2 : w6.cell? ⟨w.heap.size, 2, none⟩ = some (.bool down') := by rw [cell_at HN6.out]; rfl
  have b3 : w6.cell? ⟨w.heap.size, 3, none⟩ = some (.bool due') := by rw [cell_at HN6.out]; rfl
  have b4 : w6.cell? ⟨w.heap.size, 4, none⟩ = some (.int .i64 ops') := by rw [cell_at HN6.out]; rfl
  have b5 : w6.cell? ⟨w.heap.size, 5, none⟩ = some (.int .i64 part') := by rw [cell_at HN6.out]; rfl
  have b6 : w6.cell? ⟨w.heap.size, 6, none⟩ = some (.int .i64 keep') := by rw [cell_at HN6.out]; rfl
  refine ⟨⟨b0, b1, b2, b3, b4, b5, b6⟩, ?_⟩
  refine heldI_run (t := 2) (by kernel_rfl) (fun d _ _ _ _ h => by cases d <;> exact h) w6 ⟨b0, b1, b2, b3, b4, b5, b6⟩ [8] _ _ (by kernel_rfl) ?_
  iterate 1 (first | (refine heldI_step rfl rfl (fun w' hS => by (obtain ⟨s0, s1, s2, s3, s4, s5, s6⟩ := hS; go_simp; with_reducible rfl)) ?_; simp only [Act.put, List.setIfInBounds_toArray, List.set_cons_zero, List.set_cons_succ]) | (refine heldI_want rfl rfl (fun w' hS => by (obtain ⟨s0, s1, s2, s3, s4, s5, s6⟩ := hS; go_simp; with_reducible rfl)) ?_; simp only [Act.put, List.setIfInBounds_toArray, List.set_cons_zero, List.set_cons_succ]) | (refine heldI_skip rfl rfl ?_; simp only [Act.put, List.setIfInBounds_toArray, List.set_cons_zero, List.set_cons_succ]))
  refine heldI_nil ?_
  clear b0 b1 b2 b3 b4 b5 b6
  have z0 : w6.cell? ⟨w.heap.size + 1 + 1, 0, none⟩ = some (.slice none 0 0) := by rw [cell_at HZ6.out]; rfl
  have z1 : w6.cell? ⟨w.heap.size + 1 + 1, 1, none⟩ = some (.int .i64 0) := by rw [cell_at HZ6.out]; rfl
  have z2 : w6.cell? ⟨w.heap.size + 1 + 1, 2, none⟩ = some (.bool false) := by rw [cell_at HZ6.out]; rfl
  have z3 : w6.cell? ⟨w.heap.size + 1 + 1, 3, none⟩ = some (.bool false) := by rw [cell_at HZ6.out]; rfl
  have z4 : w6.cell? ⟨w.heap.size + 1 + 1, 4, none⟩ = some (.int .i64 0) := by rw [cell_at HZ6.out]; rfl
  have z5 : w6.cell? ⟨w.heap.size + 1 + 1, 5, none⟩ = some (.int .i64 0) := by rw [cell_at HZ6.out]; rfl
  have z6 : w6.cell? ⟨w.heap.size + 1 + 1, 6, none⟩ = some (.int .i64 0) := by rw [cell_at HZ6.out]; rfl
  have y0 : w6.frozen? ⟨w.heap.size + 1 + 1, 0, none⟩ = false := frozen_at HZ6.out _
  have y1 : w6.frozen? ⟨w.heap.size + 1 + 1, 1, none⟩ = false := frozen_at HZ6.out _
  have y2 : w6.frozen? ⟨w.heap.size + 1 + 1, 2, none⟩ = false := frozen_at HZ6.out _
  have y3 : w6.frozen? ⟨w.heap.size + 1 + 1, 3, none⟩ = false := frozen_at HZ6.out _
  have y4 : w6.frozen? ⟨w.heap.size + 1 + 1, 4, none⟩ = false := frozen_at HZ6.out _
  have y5 : w6.frozen? ⟨w.heap.size + 1 + 1, 5, none⟩ = false := frozen_at HZ6.out _
  have y6 : w6.frozen? ⟨w.heap.size + 1 + 1, 6, none⟩ = false := frozen_at HZ6.out _
  refine anyZ_next' (j := 9) (by kernel_rfl) rfl rfl ?_
  go_simp
  clear z0 z1 z2 z3 z4 z5 z6 y0 y1 y2 y3 y4 y5 y6
  obtain ⟨w7, hw7⟩ : ∃ w7, (((((((w6.setCell ⟨w.heap.size + 1 + 1, 0, none⟩ (.slice aN L'.length cN)).setCell ⟨w.heap.size + 1 + 1, 1, none⟩ (.int .i64 size')).setCell ⟨w.heap.size + 1 + 1, 2, none⟩ (.bool down')).setCell ⟨w.heap.size + 1 + 1, 3, none⟩ (.bool due')).setCell ⟨w.heap.size + 1 + 1, 4, none⟩ (.int .i64 ops')).setCell ⟨w.heap.size + 1 + 1, 5, none⟩ (.int .i64 part')).setCell ⟨w.heap.size + 1 + 1, 6, none⟩ (.int .i64 keep')) = w7 := ⟨_, rfl⟩
  rw [hw7]
  have HK7 := hid (show Keep (fun i => i = w.heap.size + 1 + 1) w6 w7 from hw7 ▸ ((((((((Keep.refl (fun i => i = w.heap.size + 1 + 1) w6).setCell (p := ⟨w.heap.size + 1 + 1, 0, none⟩) (fun _ => rfl) (.slice aN L'.length cN)).setCell (p := ⟨w.heap.size + 1 + 1, 1, none⟩) (fun _ => rfl) (.int .i64 size')).setCell (p := ⟨w.heap.size + 1 + 1, 2, none⟩) (fun _ => rfl) (.bool down')).setCell (p := ⟨w.heap.size + 1 + 1, 3, none⟩) (fun _ => rfl) (.bool due')).setCell (p := ⟨w.heap.size + 1 + 1, 4, none⟩) (fun _ => rfl) (.int .i64 ops')).setCell (p := ⟨w.heap.size + 1 + 1, 5, none⟩) (fun _ => rfl) (.int .i64 part')).setCell (p := ⟨w.heap.size + 1 + 1, 6, none⟩) (fun _ => rfl) (.int .i64 keep')))
  have HN7 := hid (HK7.out.at HN6.out (by omega))
  have HZ7 := hid (show w7.heap[w.heap.size + 1 + 1]? = some (.cells #[.slice aN L'.length cN, .int .i64 size', .bool down', .bool due', .int .i64 ops', .int .i64 part', .int .i64 keep'] 28 (0, 0)) from hw7 ▸ slot_seven HZ6.out rfl (.slice aN L'.length cN) (.int .i64 size') (.bool down') (.bool due') (.int .i64 ops') (.int .i64 part') (.int .i64 keep'))
  clear hw7
  have b0 : w7.cell? ⟨w.heap.size, 0, none⟩ = some (.slice aN L'.length cN) := by rw [cell_at HN7.out]; rfl
  have b1 : w7.cell? ⟨w.heap.size, 1, none⟩ = some (.int .i64 size') := by rw [cell_at HN7.out]; rfl
  have b2 : w7.cell? ⟨w.heap.size, 2, none⟩ = some (.bool down') := by rw [cell_at HN7.out]; rfl
  have b3 : w7.cell? ⟨w.heap.size, 3, none⟩ = some (.bool due') := by rw [cell_at HN7.out]; rfl
  have b4 : w7.cell? ⟨w.heap.size, 4, none⟩ = some (.int .i64 ops') := by rw [cell_at HN7.out]; rfl
  have b5 : w7.cell? ⟨w.heap.size, 5, none⟩ = some (.int .i64 part') := by rw [cell_at HN7.out]; rfl
  have b6 : w7.cell? ⟨w.heap.size, 6, none⟩ = some (.int .i64 keep') := by rw [cell_at HN7.out]; rfl
  have g0 : w6.cell? ⟨w.heap.size, 0, none⟩ = some (.slice aN L'.length cN) := by rw [cell_at HN6.out]; rfl
  have g1 : w6.cell? ⟨w.heap.size, 1, none⟩ = some (.int .i64 size') := by rw [cell_at HN6.out]; rfl
  have g2 : w6.cell? ⟨w.heap.size, 2, none⟩ = some (.bool down') := by rw [cell_at HN6.out]; rfl
  have g3 : w6.cell? ⟨w.heap.size, 3, none⟩ = some (.bool due') := by rw [cell_at HN6.out]; rfl
  have g4 : w6.cell? ⟨w.heap.size, 4, none⟩ = some (.int .i64 ops') := by rw [cell_at HN6.out]; rfl
  have g5 : w6.cell? ⟨w.heap.size, 5, none⟩ = some (.int .i64 part') := by rw [cell_at HN6.out]; rfl
  have g6 : w6.cell? ⟨w.heap.size, 6, none⟩ = some (.int .i64 keep') := by rw [cell_at HN6.out]; rfl
  refine ⟨by refine ⟨?_, ?_, ?_, ?_, ?_, ?_, ?_⟩ <;> first | exact b0 | exact b1 | exact b2 | exact b3 | exact b4 | exact b5 | exact b6 | exact g0 | exact g1 | exact g2 | exact g3 | exact g4 | exact g5 | exact g6, ?_⟩
  refine heldI_run (t := 0) (by kernel_rfl) (fun d _ _ _ _ h => by cases d <;> exact h) w7 ⟨b0, b1, b2, b3, b4, b5, b6⟩ [10] _ _ (by kernel_rfl) ?_
  iterate 1 (first | (refine heldI_step rfl rfl (fun w' hS => by (obtain ⟨s0, s1, s2, s3, s4, s5, s6⟩ := hS; go_simp; with_reducible rfl)) ?_; simp only [Act.put, List.setIfInBounds_toArray, List.set_cons_zero, List.set_cons_succ]) | (refine heldI_want rfl rfl (fun w' hS => by (obtain ⟨s0, s1, s2, s3, s4, s5, s6⟩ := hS; go_simp; with_reducible rfl)) ?_; simp only [Act.put, List.setIfInBounds_toArray, List.set_cons_zero, List.set_cons_succ]) | (refine heldI_skip rfl rfl ?_; simp only [Act.put, List.setIfInBounds_toArray, List.set_cons_zero, List.set_cons_succ]))
  refine heldI_nil ?_
  refine anyZ_done (by kernel_rfl) ?_
  clear b0 b1 b2 b3 b4 b5 b6 g0 g1 g2 g3 g4 g5 g6
  have b0 : w7.cell? ⟨w.heap.size + 1 + 1, 0, none⟩ = some (.slice aN L'.length cN) := by rw [cell_at HZ7.out]; rfl
  have b1 : w7.cell? ⟨w.heap.size + 1 + 1, 1, none⟩ = some (.int .i64 size') := by rw [cell_at HZ7.out]; rfl
  have b2 : w7.cell? ⟨w.heap.size + 1 + 1, 2, none⟩ = some (.bool down') := by rw [cell_at HZ7.out]; rfl
  have b3 : w7.cell? ⟨w.heap.size + 1 + 1, 3, none⟩ = some (.bool due') := by rw [cell_at HZ7.out]; rfl
  have b4 : w7.cell? ⟨w.heap.size + 1 + 1, 4, none⟩ = some (.int .i64 ops') := by rw [cell_at HZ7.out]; rfl
  have b5 : w7.cell? ⟨w.heap.size + 1 + 1, 5, none⟩ = some (.int .i64 part') := by rw [cell_at HZ7.out]; rfl
  have b6 : w7.cell? ⟨w.heap.size + 1 + 1, 6, none⟩ = some (.int .i64 keep') := by rw [cell_at HZ7.out]; rfl
  go_wp2_with fail
  refine bodyPost_ret (v := .tuple #[RefD.val ⟨size', down', due', ops', part', keep'⟩ (.slice aN L'.length cN), .bool true]) (by rw [results_cell2 rfl]; go_simp; rfl) rfl ⟨on D, _, _, _, fun i => X i ∨ (w1.heap.size ≤ i ∧ i < w2.heap.size), _, rfl, (S5.out.keep HK6.out).own HK7.out (fun i (h : i = w.heap.size + 1 + 1) => ⟨.inl (.inr ⟨by omega, by omega⟩), by omega⟩), tidy_on ht, HRN.out, ((H5.out.keep HK6.out (fun _ _ h => h)).keep HK7.out (fun i h (e : i = w.heap.size + 1 + 1) => by rcases h with (h | h) | h; have := HS.out.sub i (HXY.out i h); omega; omega; omega)).mono (fun i hi h => by rcases h with (h | h) | h; exact .inl (.inl h); exact .inr h; exact .inl (.inr h)), fun i h => .inl (.inl h), fun i h => h.elim (fun h => .inl (.inl (HXY.out i h))) .inr, fun i h => h.imp id (fun h => by omega), (((((HKB.out.mono (fun _ _ h => h.elim)).trans HKa.out (fun i hi h => ⟨h.1, fun hx => h.2 (.inl hx)⟩)).trans HK5.out (fun i hi (h : i = w.heap.size) => by omega)).trans HK6.out (fun i hi h => h.elim)).trans HK7.out (fun i hi (h : i = w.heap.size + 1 + 1) => by omega))⟩

end Go.Proofs.YtlabpmmcmejpmaaDoor.Ref
