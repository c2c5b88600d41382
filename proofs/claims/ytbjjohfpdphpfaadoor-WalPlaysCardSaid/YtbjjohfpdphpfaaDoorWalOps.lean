/- wal.Log's Append and Sync, wal.Open: walked. -/
import Derived.Test.YtbjjohfpdphpfaaDoorWal
namespace Go.Proofs.YtbjjohfpdphpfaaDoor.Wal
open Go Go.RowKit Go.Lib Go.Proofs.YtbjjohfpdphpfaaDoor.Dsk Go.Proofs.YtbjjohfpdphpfaaDoor.Frm

theorem frame_val (w : World) {v : Value} {l : List UInt8} {G : Nat → Prop} (h : BytesIn w v l G) :
    Calls Tryd.prog 60 #[v] w fun e w' => ∃ v, e = .returned (.tuple #[v, .int .i64 (if maxBody < l.length then 81 else 0)]) ∧ ByteRow w' w.heap.size v (if maxBody < l.length then [] else frame l) ∧ Keep (fun _ => False) w w' := by
  have h0 := h
  obtain ⟨ao, cap, rfl, -⟩ := h.read
  exact frame_any w h0

set_option maxRecDepth 100000 in
set_option maxHeartbeats 4000000 in
theorem wal_append {n db lb : Nat} {X : Nat → Prop} {w : World} {D : DiskM} {L : LogM} (h : Held n X w db D) (hn : n ≤ w.heap.size) (hX : ∀ i, X i → i < w.heap.size) (hL : LogAt w lb db L) (hlb : X lb) (hc : L.count ≤ 4294967296) {v : Value} {l : List UInt8} {G : Nat → Prop} (hB : BytesIn w v l G) :
    Calls Tryd.prog 39 #[ptr lb, v] w fun e w' => e = .returned (.int .i64 (walAppend D L l).2.2) ∧ Held n X w' db (walAppend D L l).1 ∧ LogAt w' lb db (walAppend D L l).2.1 ∧ Keep (fun i => (n ≤ i ∧ i < w.heap.size ∧ ¬ X i) ∨ i = lb) w w' := by
  have hlbs := hX lb hlb
  have c0 : w.cell? ⟨lb, 0, none⟩ = some (.int .i64 L.e) := by rw [cell_at hL]; rfl
  have H := hid h
  have HL := hid hL
  have HB := hid hB
  clear h hL hB
  unfold walAppend
  unfold ptr
  by_cases he : L.e = 0
  · rw [if_pos he]
    rw [he] at c0
    by_cases hb : maxBody < l.length
    · rw [if_pos hb]
      go_enter Tryd.func39, Tryd.ntmps39
      go_wp2_with fail
      refine (frame_val w HB.out).mono ?_
      rintro e w1 ⟨fv, rfl, hR, hK⟩
      simp only [hb, if_true] at hR
      rw [if_pos hb]
      have HK := hid hK
      clear hR hK
      go_wp2_with fail
      all_goals go_ret
      all_goals exact ⟨rfl, H.out.keep HK.out (fun _ h => h.elim), HL.out.keep HK.out (fun h => h), HK.out.mono fun _ _ h => h.elim⟩
    · rw [if_neg hb]
      by_cases hq : (append D L.name (frame l)).2 = 0
      · rw [if_pos hq]
        go_enter Tryd.func39, Tryd.ntmps39
        go_wp2_with fail
        refine (frame_val w HB.out).mono ?_
        rintro e w1 ⟨fv, rfl, hR, hK⟩
        simp only [hb, if_false] at hR
        rw [if_neg hb]
        have HR := hid hR
        have HK := hid hK
        have L1 := HL.out.keep hK (fun h => h)
        have c1 : w1.cell? ⟨lb, 1, none⟩ = some (.pointer (some ⟨db, 0, none⟩)) := by rw [cell_at L1]; rfl
        have c2 : w1.cell? ⟨lb, 2, none⟩ = some (.string L.name) := by rw [cell_at L1]; rfl
        have hs1 := hK.size
        have HL1 := hid L1
        clear hR hK L1
        go_wp2_with fail
        refine wp_region_still_tail 9 (by kernel_rfl) (by kernel_rfl) ?_
        simp only [List.take_succ_cons, List.take_zero, List.drop_succ_cons, List.drop_zero]
        repeat still_step
        refine wpStill_nil ?_
        change wpList _ _ _ _ _ (World.drew w1)
        have kd := keep_drawn' w1 (w1.drawn + 1)
        have HA := hid (held_append H.out hn hX (HK.out.trans kd (fun _ _ h => h)) L.name (HR.out.fb.bytesIn.keep kd (fun _ _ h => h)) (fun i hi => .inr (.inr hi)))
        go_wp2_with fail
        refine HA.out.mono ?_
        rintro e w2 ⟨rfl, hH, hK2⟩
        have kall : Keep (fun i => n ≤ i ∧ i < w.heap.size ∧ ¬ X i) w w2 := ((HK.out.trans kd (fun _ _ h => h)).mono (fun _ _ h => h.elim)).trans hK2 (fun _ _ h => h)
        have L2 := HL.out.keep kall (fun h => h.2.2 hlb)
        have hX2 : lb < w2.heap.size := Nat.lt_of_lt_of_le hlbs kall.size
        have c3 : w2.cell? ⟨lb, 3, none⟩ = some (.int .i64 (L.count : Int)) := by rw [cell_at L2]; rfl
        have f3 : w2.frozen? ⟨lb, 3, none⟩ = false := frozen_at L2 3
        have HL2 := hid L2
        have HH := hid hH
        have HK2 := hid kall
        clear hH hK2 kall L2 HA HR HL1 kd
        rw [hq]
        go_wp2_with fail
        all_goals go_ret
        all_goals exact ⟨rfl, HH.out.keep (keep_setCell _ _ _ _) (fun i hi _ _ => hi ▸ hlb), heap_setCell_self (i := 3) HL2.out (.int .i64 ((L.count : Int) + 1)), (HK2.out.mono fun i _ h => .inl h).setCell (fun _ => .inr rfl) _⟩
      · rw [if_neg hq]
        go_enter Tryd.func39, Tryd.ntmps39
        go_wp2_with fail
        refine (frame_val w HB.out).mono ?_
        rintro e w1 ⟨fv, rfl, hR, hK⟩
        simp only [hb, if_false] at hR
        rw [if_neg hb]
        have HR := hid hR
        have HK := hid hK
        have L1 := HL.out.keep hK (fun h => h)
        have c1 : w1.cell? ⟨lb, 1, none⟩ = some (.pointer (some ⟨db, 0, none⟩)) := by rw [cell_at L1]; rfl
        have c2 : w1.cell? ⟨lb, 2, none⟩ = some (.string L.name) := by rw [cell_at L1]; rfl
        have hs1 := hK.size
        have HL1 := hid L1
        clear hR hK L1
        go_wp2_with fail
        refine wp_region_still_tail 9 (by kernel_rfl) (by kernel_rfl) ?_
        simp only [List.take_succ_cons, List.take_zero, List.drop_succ_cons, List.drop_zero]
        repeat still_step
        refine wpStill_nil ?_
        change wpList _ _ _ _ _ (World.drew w1)
        have kd := keep_drawn' w1 (w1.drawn + 1)
        have HA := hid (held_append H.out hn hX (HK.out.trans kd (fun _ _ h => h)) L.name (HR.out.fb.bytesIn.keep kd (fun _ _ h => h)) (fun i hi => .inr (.inr hi)))
        go_wp2_with fail
        refine HA.out.mono ?_
        rintro e w2 ⟨rfl, hH, hK2⟩
        have kall : Keep (fun i => n ≤ i ∧ i < w.heap.size ∧ ¬ X i) w w2 := ((HK.out.trans kd (fun _ _ h => h)).mono (fun _ _ h => h.elim)).trans hK2 (fun _ _ h => h)
        have L2 := HL.out.keep kall (fun h => h.2.2 hlb)
        have hX2 : lb < w2.heap.size := Nat.lt_of_lt_of_le hlbs kall.size
        have c3 : w2.cell? ⟨lb, 3, none⟩ = some (.int .i64 (L.count : Int)) := by rw [cell_at L2]; rfl
        have f3 : w2.frozen? ⟨lb, 3, none⟩ = false := frozen_at L2 3
        have HL2 := hid L2
        have HH := hid hH
        have HK2 := hid kall
        clear hH hK2 kall L2 HA HR HL1 kd
        obtain ⟨c, hcv⟩ : ∃ c, (append D L.name (frame l)).2 = c := ⟨_, rfl⟩
        rw [hcv] at hq ⊢
        have HCV := hid hcv
        clear hcv
        have hqb : (c != 0) = true := by rw [bne_iff_ne]; exact hq
        go_wp2_with fail
        refine (keep_any w2 HL2.out c).mono ?_
        rintro e w3 ⟨rfl, hL3, hK3⟩
        have HL3 := hid hL3
        have HH3 := hid (HH.out.keep hK3 (fun i hi _ _ => hi ▸ hlb))
        have HK3 := hid ((HK2.out.mono (G := fun i => (n ≤ i ∧ i < w.heap.size ∧ ¬ X i) ∨ i = lb) fun i _ h => .inl h).trans hK3 (fun i _ h => .inr h))
        clear hL3 hK3
        go_wp2_with fail
        all_goals go_ret
        all_goals exact ⟨by rw [HCV.out]; rfl, HH3.out, by rw [HCV.out]; exact HL3.out, HK3.out⟩
  · rw [if_neg he]
    have hne : (L.e != 0) = true := by rw [bne_iff_ne]; exact he
    go_enter Tryd.func39, Tryd.ntmps39
    go_wp2_with fail
    all_goals go_ret
    all_goals exact ⟨rfl, H.out, HL.out, Keep.refl _ _⟩

set_option maxRecDepth 100000 in
set_option maxHeartbeats 4000000 in
theorem wal_sync {n db lb : Nat} {X : Nat → Prop} {w : World} {D : DiskM} {L : LogM} (h : Held n X w db D) (hn : n ≤ w.heap.size) (hX : ∀ i, X i → i < w.heap.size) (hL : LogAt w lb db L) (hlb : X lb) :
    Calls Tryd.prog 37 #[ptr lb] w fun e w' => e = .returned (.int .i64 (walSync D L).2.2) ∧ Held n X w' db (walSync D L).1 ∧ LogAt w' lb db (walSync D L).2.1 ∧ Keep (fun i => (n ≤ i ∧ i < w.heap.size ∧ ¬ X i) ∨ i = lb) w w' := by
  have hlbs := hX lb hlb
  have c0 : w.cell? ⟨lb, 0, none⟩ = some (.int .i64 L.e) := by rw [cell_at hL]; rfl
  have c3 : w.cell? ⟨lb, 3, none⟩ = some (.int .i64 (L.count : Int)) := by rw [cell_at hL]; rfl
  have c1 : w.cell? ⟨lb, 1, none⟩ = some (ptr db) := by rw [cell_at hL]; rfl
  have c2 : w.cell? ⟨lb, 2, none⟩ = some (.string L.name) := by rw [cell_at hL]; rfl
  have H := hid h
  have HL := hid hL
  clear h hL
  unfold walSync
  unfold ptr at *
  by_cases he : L.e = 0
  · rw [if_pos he]
    rw [he] at c0
    by_cases hb : L.count = 0
    · rw [if_pos hb]
      have hb2 : ((L.count : Int) == 0) = true := by rw [hb]; rfl
      go_enter Tryd.func37, Tryd.ntmps37
      go_wp2_with fail
      all_goals go_ret
      all_goals exact ⟨rfl, H.out, HL.out, Keep.refl _ _⟩
    · rw [if_neg hb]
      have hb2 : ((L.count : Int) == 0) = false := by rw [beq_eq_false_iff_ne]; omega
      by_cases hq : (sync D L.name).2 = 0
      · rw [if_pos hq]
        go_enter Tryd.func37, Tryd.ntmps37
        go_wp2_with fail
        refine wp_region_still_tail 8 (by kernel_rfl) (by kernel_rfl) ?_
        simp only [List.take_succ_cons, List.take_zero, List.drop_succ_cons, List.drop_zero]
        repeat still_step
        refine wpStill_nil ?_
        change wpList _ _ _ _ _ (World.drew w)
        have kd := keep_drawn' w (w.drawn + 1)
        have HA := hid (held_sync (H.out.keep kd (fun _ h => h.elim)) hn hX L.name)
        go_wp2_with fail
        refine HA.out.mono ?_
        rintro e w2 ⟨rfl, hH, hK2⟩
        have kall : Keep (fun i => n ≤ i ∧ i < w.heap.size ∧ ¬ X i) w w2 := (kd.mono (fun _ _ h => h.elim)).trans hK2 (fun _ _ h => h)
        have L2 := HL.out.keep kall (fun h => h.2.2 hlb)
        have hX2 : lb < w2.heap.size := Nat.lt_of_lt_of_le hlbs kall.size
        have c3' : w2.cell? ⟨lb, 3, none⟩ = some (.int .i64 (L.count : Int)) := by rw [cell_at L2]; rfl
        have f4 : w2.frozen? ⟨lb, 4, none⟩ = false := frozen_at L2 4
        have c4 : w2.cell? ⟨lb, 4, none⟩ = some (.int .i64 (L.sure : Int)) := by rw [cell_at L2]; rfl
        have HL2 := hid L2
        have HH := hid hH
        have HK2 := hid kall
        clear hH hK2 kall L2 HA kd
        rw [hq]
        go_wp2_with fail
        all_goals go_ret
        all_goals exact ⟨rfl, HH.out.keep (keep_setCell _ _ _ _) (fun i hi _ _ => hi ▸ hlb), heap_setCell_self (i := 4) HL2.out (.int .i64 (L.count : Int)), (HK2.out.mono fun i _ h => .inl h).setCell (fun _ => .inr rfl) _⟩
      · rw [if_neg hq]
        go_enter Tryd.func37, Tryd.ntmps37
        go_wp2_with fail
        refine wp_region_still_tail 8 (by kernel_rfl) (by kernel_rfl) ?_
        simp only [List.take_succ_cons, List.take_zero, List.drop_succ_cons, List.drop_zero]
        repeat still_step
        refine wpStill_nil ?_
        change wpList _ _ _ _ _ (World.drew w)
        have kd := keep_drawn' w (w.drawn + 1)
        have HA := hid (held_sync (H.out.keep kd (fun _ h => h.elim)) hn hX L.name)
        go_wp2_with fail
        refine HA.out.mono ?_
        rintro e w2 ⟨rfl, hH, hK2⟩
        have kall : Keep (fun i => n ≤ i ∧ i < w.heap.size ∧ ¬ X i) w w2 := (kd.mono (fun _ _ h => h.elim)).trans hK2 (fun _ _ h => h)
        have L2 := HL.out.keep kall (fun h => h.2.2 hlb)
        have hX2 : lb < w2.heap.size := Nat.lt_of_lt_of_le hlbs kall.size
        have c3' : w2.cell? ⟨lb, 3, none⟩ = some (.int .i64 (L.count : Int)) := by rw [cell_at L2]; rfl
        have f4 : w2.frozen? ⟨lb, 4, none⟩ = false := frozen_at L2 4
        have c4 : w2.cell? ⟨lb, 4, none⟩ = some (.int .i64 (L.sure : Int)) := by rw [cell_at L2]; rfl
        have HL2 := hid L2
        have HH := hid hH
        have HK2 := hid kall
        clear hH hK2 kall L2 HA kd
        obtain ⟨c, hcv⟩ : ∃ c, (sync D L.name).2 = c := ⟨_, rfl⟩
        rw [hcv] at hq ⊢
        have HCV := hid hcv
        clear hcv
        have hqb : (c != 0) = true := by rw [bne_iff_ne]; exact hq
        go_wp2_with fail
        refine (keep_any w2 HL2.out c).mono ?_
        rintro e w3 ⟨rfl, hL3, hK3⟩
        have HL3 := hid hL3
        have HH3 := hid (HH.out.keep hK3 (fun i hi _ _ => hi ▸ hlb))
        have HK3 := hid ((HK2.out.mono (G := fun i => (n ≤ i ∧ i < w.heap.size ∧ ¬ X i) ∨ i = lb) fun i _ h => .inl h).trans hK3 (fun i _ h => .inr h))
        clear hL3 hK3
        go_wp2_with fail
        all_goals go_ret
        all_goals exact ⟨by rw [HCV.out]; rfl, HH3.out, by rw [HCV.out]; exact HL3.out, HK3.out⟩
  · rw [if_neg he]
    have hne : (L.e != 0) = true := by rw [bne_iff_ne]; exact he
    go_enter Tryd.func37, Tryd.ntmps37
    go_wp2_with fail
    all_goals go_ret
    all_goals exact ⟨rfl, H.out, HL.out, Keep.refl _ _⟩

end Go.Proofs.YtbjjohfpdphpfaaDoor.Wal
