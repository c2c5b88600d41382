/- osierlaw20.SnapSaves, walked. -/
import Derived.Test.YtmdibkafjpglkaaGreatDoorAwake20
import Derived.Test.YtmdibkafjpglkaaGreatDoorSavesSays
import Derived.Test.YtmdibkafjpglkaaGreatDoorOpenSavings
namespace Go.Proofs.YtmdibkafjpglkaaGreatDoor.Snp
open Go Go.RowKit Go.Lib Go.Proofs.YtmdibkafjpglkaaGreatDoor.Dsk Go.Proofs.YtmdibkafjpglkaaGreatDoor.Wal Go.Proofs.YtmdibkafjpglkaaGreatDoor.Num Go.Proofs.YtmdibkafjpglkaaGreatDoor.Frm

set_option maxRecDepth 100000 in
set_option maxHeartbeats 8000000 in
theorem saves_row (W : World) {v0 : Value} {acts : List SaveM} (hA : SavesIn W v0 acts) (part keep : Int) (hpw : part < 9223372036854775808) (hkw : keep < 9223372036854775808) :
    Calls Tryz.prog 4 #[v0, .int .i64 part, .int .i64 keep] W fun e w' => e = .returned (.bool true) ∧ Keep (fun _ => False) W w' := by
  have hcv : ∀ (w : World) (n c : Nat) (cs : Array Value), (convert 22 22 (.slice (some ⟨w.heap.size, 0, none⟩) n c)).run Tryz.prog (w.alloc (.cells cs 5)) = .ok (.slice (some ⟨w.heap.size, 0, none⟩) n c) (w.alloc (.cells cs 5 (cs.size, cs.size + 1))) := fun w n c cs => conv_bytes w n c cs
  obtain ⟨ao0, cap0, rfl, hnil, hrow⟩ := hA.rows
  have HROW := hid hrow
  clear hrow hA
  by_cases hpk : part < 0 ∨ keep < 0
  · go_enter Tryz.func4, Tryz.ntmps4
    rcases hpk with h | h
    · go_wp2_with fail
      refine (awake20 W).mono ?_
      rintro e w1 ⟨rfl, hK⟩
      have HK := hid hK
      clear hK
      go_wp2_with fail
      all_goals go_ret
      all_goals exact ⟨rfl, HK.out⟩
    · by_cases h2 : part < 0
      · go_wp2_with fail
        refine (awake20 W).mono ?_
        rintro e w1 ⟨rfl, hK⟩
        have HK := hid hK
        clear hK
        go_wp2_with fail
        all_goals go_ret
        all_goals exact ⟨rfl, HK.out⟩
      · go_wp2_with fail
        refine (awake20 W).mono ?_
        rintro e w1 ⟨rfl, hK⟩
        have HK := hid hK
        clear hK
        go_wp2_with fail
        all_goals go_ret
        all_goals exact ⟨rfl, HK.out⟩
  have hp0 : 0 ≤ part := by omega
  have hk0 : 0 ≤ keep := by omega
  clear hpk
  go_enter Tryz.func4, Tryz.ntmps4
  go_wp2_with fail
  refine (awake20 W).mono ?_
  rintro e w1 ⟨rfl, hK⟩
  have HK1 := hid hK
  have hs1 := hK.size
  clear hK
  go_wp2_with fail
  refine (st_new w1 (Keep.refl _ w1) 1000000 (by decide)).mono ?_
  rintro e w2 ⟨db, rfl, hS⟩
  have S2 := hid hS
  clear hS
  unfold ptr
  go_wp2_with fail
  have ka := (Keep.refl (fun _ => False) w2).alloc (.cells #[byteV 120] 5 (1, 2))
  refine (st_dappend (S2.out.more ka) nmOther (one_byte (x := 120) (heap_alloc_new w2 (.cells #[byteV 120] 5 (1, 2)))) (fun i (h : i = w2.heap.size) => .inr (.inr ⟨by omega, by simp; omega⟩))).mono ?_
  rintro e3 w3 ⟨rfl, hS, -⟩
  have S3 := hid (hS.fewer (Y := fun _ => False) (fun _ h => h.elim))
  clear hS ka S2
  go_wp2_with fail
  refine (st_dsync S3.out nmOther).mono ?_
  rw [start_is]
  rintro e4 w4 ⟨rfl, hS, -⟩
  have S4 := hid hS
  clear hS S3
  go_wp2_with fail
  go_loopw [9, 10, 11] (fun gv wv iv wr => ∃ (i : Nat) (D : DiskM) (S : Option FileM) (g : Int) (was : List UInt8), iv = .int .i64 (i : Int) ∧ gv = .int .i64 g ∧ wv = .string ⟨was.toArray⟩ ∧ i ≤ 20 ∧ Hid (St w1 wr db D (fun _ => False)) ∧ Hid (Disk3 D S) ∧ Hid (Tidy D.files) ∧ Hid (Same S g was)) (fun _ _ iv _ => 20 - (RowKit.intOf iv).toNat)
  case atStart => exact ⟨0, start3, none, -1, [], rfl, rfl, rfl, by omega, S4, hid start_three, hid start_tidy, hid (.inl ⟨by omega, rfl⟩)⟩
  case round =>
    clear S4
    obtain ⟨i, D, S, g, was, rfl, rfl, rfl, hi20, HS, HD3, HTD, HSM⟩ := hrel
    by_cases hi1 : i < acts.length
    · by_cases hi2 : i < 20
      · obtain ⟨a0, rfl⟩ : ∃ a, ao0 = some a := by
          cases ao0 with
          | none => rw [hnil rfl] at hi1; simp at hi1
          | some a => exact ⟨a, rfl⟩
        obtain ⟨m, hm⟩ : ∃ m, acts[i]? = some m := ⟨acts[i], List.getElem?_eq_getElem hi1⟩
        obtain ⟨hfit, A, C, hcs, hB⟩ := HROW.out a0 rfl i m hm
        have hmv : ∀ (j : Nat) (x : Value), (m.cells A C)[j]? = some x → wr.cell? (a0.add (i * 3 + j)) = some x := fun j x hj => by
          have h := hcs j x hj
          have hb := lt_of_cell h
          rw [(HK1.out.trans HS.out.done (fun _ _ h => h)).cell hb (fun h => h)]
          exact h
        have d0 : wr.cell? (a0.add (i * 3)) = some (.int .i64 m.gen) := by exact hmv 0 _ rfl
        have d1 : wr.cell? ⟨(a0.add (i * 3)).block, (a0.add (i * 3)).off + 1, none⟩ = some (.slice A m.b.length C) := by rw [show (⟨(a0.add (i * 3)).block, (a0.add (i * 3)).off + 1, none⟩ : Addr) = a0.add (i * 3 + 1) by rw [← Addr.add_add]; rfl]; exact hmv 1 _ rfl
        have d2 : wr.cell? ⟨(a0.add (i * 3)).block, (a0.add (i * 3)).off + 2, none⟩ = some (.int .i64 m.cut) := by rw [show (⟨(a0.add (i * 3)).block, (a0.add (i * 3)).off + 2, none⟩ : Addr) = a0.add (i * 3 + 2) by rw [← Addr.add_add]; rfl]; exact hmv 2 _ rfl
        have HBW := hid hB
        have hgw := wf_lt hfit.gen
        have hcw := wf_lt hfit.cut
        clear hcs hmv hB hm hfit
        obtain ⟨gen, b, cut⟩ := m
        simp only at d0 d1 d2 HBW hgw hcw
        by_cases hlen : 1000 < (b.length : Int)
        · have HD := hid (HK1.out.trans HS.out.done (fun _ _ h => h))
          go_wp2_with fail
          all_goals go_ret
          all_goals exact ⟨rfl, HD.out.alloc _⟩
        have ka := (Keep.refl (fun _ => False) wr).alloc (.cells #[.int .i64 gen, .slice A b.length C, .int .i64 cut] 40)
        have hSm := HS.out.more ka
        have hblk := heap_alloc_new wr (.cells #[.int .i64 gen, .slice A b.length C, .int .i64 cut] 40)
        have hXg : (fun i => False ∨ (wr.heap.size ≤ i ∧ i < (wr.alloc (.cells #[.int .i64 gen, .slice A b.length C, .int .i64 cut] 40)).heap.size)) wr.heap.size := .inr ⟨Nat.le_refl _, by simp⟩
        obtain ⟨X, hX⟩ : ∃ X : Nat → Prop, (fun i => False ∨ (wr.heap.size ≤ i ∧ i < (wr.alloc (.cells #[.int .i64 gen, .slice A b.length C, .int .i64 cut] 40)).heap.size)) = X := ⟨_, rfl⟩
        rw [hX] at hSm hXg
        obtain ⟨gb, hgb⟩ : ∃ gb, wr.heap.size = gb := ⟨_, rfl⟩
        have HSm := hid hSm
        have HXg := hid (hgb ▸ hXg : X gb)
        have HBl := hid (show (wr.alloc (.cells #[.int .i64 gen, .slice A b.length C, .int .i64 cut] 40)).heap[gb]? = some (.cells #[.int .i64 gen, .slice A b.length C, .int .i64 cut] 40 (0, 0)) from hgb ▸ hblk)
        have HGB := hid hgb
        clear hSm hXg hblk ka hX hgb
        by_cases hc0 : cut < 0
        · go_wp2_with fail
          rw [HGB.out]
          obtain ⟨D1, hD1⟩ : ∃ D1, D1 = D := ⟨_, rfl⟩
          subst hD1
          have S5 := HSm
          have HD5 := HD3
          have HT5 := HTD
          have HB5 := HBl
          clear HSm HBl HD3 HTD
          generalize (wr.alloc (.cells #[.int .i64 gen, .slice A b.length C, .int .i64 cut] 40)) = w5 at *
          have y0 : w5.cell? ⟨gb, 0, none⟩ = some (.int .i64 gen) := by rw [cell_at HB5.out]; rfl
          have y1 : w5.cell? ⟨gb, 1, none⟩ = some (.slice A b.length C) := by rw [cell_at HB5.out]; rfl
          refine (save_any S5.out HT5.out nmS gen hgw (HBW.out.keep (HK1.out.trans S5.out.done (fun _ _ h => h)) (fun _ _ h => h)) (by omega) (by decide)).mono ?_
          rintro e w6 ⟨rfl, hS, hK⟩
          have HB6 := hid (hK.at HB5.out (fun h => h HXg.out))
          have hsay := saving_says HD5.out HSM.out hgw (show b.length ≤ 1000 by omega)
          have hT6 := tidy_saveP HT5.out nmS gen b
          obtain ⟨r, hr⟩ : ∃ r, saveP D1 nmS gen b = r := ⟨_, rfl⟩
          rw [hr] at hS hsay hT6 ⊢
          have S6 := hid hS
          have HT6 := hid hT6
          clear hr hS hK hT6
          have HSY := hid hsay
          clear hsay S5 HB5
          go_wp2_with fail
          refine (held_off S6.out.held).mono ?_
          intro e w' hh
          obtain ⟨he, hw⟩ := hh
          rw [he, hw]
          clear he hw w' e
          go_wp2_with fail
          refine (st_on S6.out).mono ?_
          rintro e w7 ⟨rfl, hS, hK⟩
          have S7 := hid hS
          have HB7 := hid (hK.at HB6.out (fun h => h HXg.out))
          clear hS hK S6 HB6
          go_wp2_with fail
          rcases HSY.out with ⟨hgn, hr2, hD⟩ | ⟨hgp, hr2, hof, S', hs', hD⟩ | ⟨hgp, hr2, hof, hD | ⟨S', hs', hD⟩⟩
          · have HD8 := hid hD
            have hld := HSM.out.load hD
            clear hD HSY
            rw [hr2]
            rcases hld with ⟨hgg, hld⟩ | ⟨hgg, hld⟩
            · skip
              refine (load_any S7.out nmS (three_tidy_read HD8.out HSM.out)).mono ?_
              rw [hld]
              rintro e w8 ⟨v8, rfl, hBv, hK⟩
              have S8 := hid ((S7.out.keep hK).fewer (Y := fun _ => False) (fun _ h => h.elim))
              have HB8 := hid (hK.at HB7.out (fun h => h))
              have x0 : w8.cell? ⟨gb, 0, none⟩ = some (.int .i64 gen) := by rw [cell_at HB8.out]; rfl
              have x1 : w8.cell? ⟨gb, 1, none⟩ = some (.slice A b.length C) := by rw [cell_at HB8.out]; rfl
              have hst1 := bytes_string hBv
              have hst2 := bytes_string (HBW.out.keep (HK1.out.trans S8.out.done (fun _ _ h => h)) (fun _ _ h => h))
              obtain ⟨a8, c8, rfl⟩ := bytes_len hBv
              clear hBv hK
              as_aux_lemma =>
                go_wp2_with fail
                exact ⟨⟨i + 1, Dsk.on r.1, S, g, was, by simp, rfl, rfl, by omega, S8, HD8, hid (tidy_on HT6.out), HSM⟩, by simp [RowKit.intOf]; omega⟩
            · skip
              refine (load_any S7.out nmS (three_tidy_read HD8.out HSM.out)).mono ?_
              rw [hld]
              rintro e w8 ⟨v8, rfl, hBv, hK⟩
              have S8 := hid ((S7.out.keep hK).fewer (Y := fun _ => False) (fun _ h => h.elim))
              have HB8 := hid (hK.at HB7.out (fun h => h))
              have x0 : w8.cell? ⟨gb, 0, none⟩ = some (.int .i64 gen) := by rw [cell_at HB8.out]; rfl
              have x1 : w8.cell? ⟨gb, 1, none⟩ = some (.slice A b.length C) := by rw [cell_at HB8.out]; rfl
              have hst1 := bytes_string hBv
              have hst2 := bytes_string (HBW.out.keep (HK1.out.trans S8.out.done (fun _ _ h => h)) (fun _ _ h => h))
              obtain ⟨a8, c8, rfl⟩ := bytes_len hBv
              clear hBv hK
              as_aux_lemma =>
                go_wp2_with fail
                exact ⟨⟨i + 1, Dsk.on r.1, S, g, was, by simp, rfl, rfl, by omega, S8, HD8, hid (tidy_on HT6.out), HSM⟩, by simp [RowKit.intOf]; omega⟩
          · have HD8 := hid hD
            have HS8 := hid hs'
            have hld : loadF (Dsk.on r.1) nmS = (gen, b, 0) := by
              rcases hs'.load hD with ⟨h, -⟩ | ⟨-, h⟩
              · omega
              · exact h
            clear hD hs' HSY
            rw [hr2, hof]
            refine (load_any S7.out nmS (three_tidy_read HD8.out HS8.out)).mono ?_
            rw [hld]
            rintro e w8 ⟨v8, rfl, hBv, hK⟩
            have S8 := hid ((S7.out.keep hK).fewer (Y := fun _ => False) (fun _ h => h.elim))
            have HB8 := hid (hK.at HB7.out (fun h => h))
            have x0 : w8.cell? ⟨gb, 0, none⟩ = some (.int .i64 gen) := by rw [cell_at HB8.out]; rfl
            have x1 : w8.cell? ⟨gb, 1, none⟩ = some (.slice A b.length C) := by rw [cell_at HB8.out]; rfl
            have hst1 := bytes_string hBv
            have hst2 := bytes_string (HBW.out.keep (HK1.out.trans S8.out.done (fun _ _ h => h)) (fun _ _ h => h))
            obtain ⟨a8, c8, rfl⟩ := bytes_len hBv
            clear hBv hK
            by_cases hgs : g < 0
            · skip
              as_aux_lemma =>
                go_wp2_with fail
                exact ⟨⟨i + 1, Dsk.on r.1, S', gen, b, by simp, rfl, rfl, by omega, S8, HD8, hid (tidy_on HT6.out), HS8⟩, by simp [RowKit.intOf]; omega⟩
            · skip
              cases hq1 : (gen == g)
              · skip
                as_aux_lemma =>
                  go_wp2_with fail
                  exact ⟨⟨i + 1, Dsk.on r.1, S', gen, b, by simp, rfl, rfl, by omega, S8, HD8, hid (tidy_on HT6.out), HS8⟩, by simp [RowKit.intOf]; omega⟩
              · cases hq2 : (b == was)
                · skip
                  as_aux_lemma =>
                    go_wp2_with fail
                    exact ⟨⟨i + 1, Dsk.on r.1, S', gen, b, by simp, rfl, rfl, by omega, S8, HD8, hid (tidy_on HT6.out), HS8⟩, by simp [RowKit.intOf]; omega⟩
                · skip
                  as_aux_lemma =>
                    go_wp2_with fail
                    exact ⟨⟨i + 1, Dsk.on r.1, S', gen, b, by simp, rfl, rfl, by omega, S8, HD8, hid (tidy_on HT6.out), HS8⟩, by simp [RowKit.intOf]; omega⟩
          · have HD8 := hid hD
            have hld := HSM.out.load hD
            clear hD HSY
            rw [hr2, hof]
            rcases hld with ⟨hgg, hld⟩ | ⟨hgg, hld⟩
            · skip
              refine (load_any S7.out nmS (three_tidy_read HD8.out HSM.out)).mono ?_
              rw [hld]
              rintro e w8 ⟨v8, rfl, hBv, hK⟩
              have S8 := hid ((S7.out.keep hK).fewer (Y := fun _ => False) (fun _ h => h.elim))
              have HB8 := hid (hK.at HB7.out (fun h => h))
              have x0 : w8.cell? ⟨gb, 0, none⟩ = some (.int .i64 gen) := by rw [cell_at HB8.out]; rfl
              have x1 : w8.cell? ⟨gb, 1, none⟩ = some (.slice A b.length C) := by rw [cell_at HB8.out]; rfl
              have hst1 := bytes_string hBv
              have hst2 := bytes_string (HBW.out.keep (HK1.out.trans S8.out.done (fun _ _ h => h)) (fun _ _ h => h))
              obtain ⟨a8, c8, rfl⟩ := bytes_len hBv
              clear hBv hK
              as_aux_lemma =>
                go_wp2_with fail
                exact ⟨⟨i + 1, Dsk.on r.1, S, g, was, by simp, rfl, rfl, by omega, S8, HD8, hid (tidy_on HT6.out), HSM⟩, by simp [RowKit.intOf]; omega⟩
            · skip
              refine (load_any S7.out nmS (three_tidy_read HD8.out HSM.out)).mono ?_
              rw [hld]
              rintro e w8 ⟨v8, rfl, hBv, hK⟩
              have S8 := hid ((S7.out.keep hK).fewer (Y := fun _ => False) (fun _ h => h.elim))
              have HB8 := hid (hK.at HB7.out (fun h => h))
              have x0 : w8.cell? ⟨gb, 0, none⟩ = some (.int .i64 gen) := by rw [cell_at HB8.out]; rfl
              have x1 : w8.cell? ⟨gb, 1, none⟩ = some (.slice A b.length C) := by rw [cell_at HB8.out]; rfl
              have hst1 := bytes_string hBv
              have hst2 := bytes_string (HBW.out.keep (HK1.out.trans S8.out.done (fun _ _ h => h)) (fun _ _ h => h))
              obtain ⟨a8, c8, rfl⟩ := bytes_len hBv
              clear hBv hK
              cases hq1 : (g == gen)
              · skip
                as_aux_lemma =>
                  go_wp2_with fail
                  exact ⟨⟨i + 1, Dsk.on r.1, S, g, was, by simp, rfl, rfl, by omega, S8, HD8, hid (tidy_on HT6.out), HSM⟩, by simp [RowKit.intOf]; omega⟩
              · cases hq2 : (was == b)
                · skip
                  as_aux_lemma =>
                    go_wp2_with fail
                    exact ⟨⟨i + 1, Dsk.on r.1, S, g, was, by simp, rfl, rfl, by omega, S8, HD8, hid (tidy_on HT6.out), HSM⟩, by simp [RowKit.intOf]; omega⟩
                · skip
                  as_aux_lemma =>
                    go_wp2_with fail
                    exact ⟨⟨i + 1, Dsk.on r.1, S, g, was, by simp, rfl, rfl, by omega, S8, HD8, hid (tidy_on HT6.out), HSM⟩, by simp [RowKit.intOf]; omega⟩
          · have HD8 := hid hD
            have HS8 := hid hs'
            have hld : loadF (Dsk.on r.1) nmS = (gen, b, 0) := by
              rcases hs'.load hD with ⟨h, -⟩ | ⟨-, h⟩
              · omega
              · exact h
            clear hD hs' HSY
            rw [hr2, hof]
            refine (load_any S7.out nmS (three_tidy_read HD8.out HS8.out)).mono ?_
            rw [hld]
            rintro e w8 ⟨v8, rfl, hBv, hK⟩
            have S8 := hid ((S7.out.keep hK).fewer (Y := fun _ => False) (fun _ h => h.elim))
            have HB8 := hid (hK.at HB7.out (fun h => h))
            have x0 : w8.cell? ⟨gb, 0, none⟩ = some (.int .i64 gen) := by rw [cell_at HB8.out]; rfl
            have x1 : w8.cell? ⟨gb, 1, none⟩ = some (.slice A b.length C) := by rw [cell_at HB8.out]; rfl
            have hst1 := bytes_string hBv
            have hst2 := bytes_string (HBW.out.keep (HK1.out.trans S8.out.done (fun _ _ h => h)) (fun _ _ h => h))
            obtain ⟨a8, c8, rfl⟩ := bytes_len hBv
            clear hBv hK
            by_cases hgs : g < 0
            · skip
              as_aux_lemma =>
                go_wp2_with fail
                exact ⟨⟨i + 1, Dsk.on r.1, S', gen, b, by simp, rfl, rfl, by omega, S8, HD8, hid (tidy_on HT6.out), HS8⟩, by simp [RowKit.intOf]; omega⟩
            · skip
              cases hq1 : (gen == g)
              · skip
                as_aux_lemma =>
                  go_wp2_with fail
                  exact ⟨⟨i + 1, Dsk.on r.1, S', gen, b, by simp, rfl, rfl, by omega, S8, HD8, hid (tidy_on HT6.out), HS8⟩, by simp [RowKit.intOf]; omega⟩
              · cases hq2 : (b == was)
                · skip
                  as_aux_lemma =>
                    go_wp2_with fail
                    exact ⟨⟨i + 1, Dsk.on r.1, S', gen, b, by simp, rfl, rfl, by omega, S8, HD8, hid (tidy_on HT6.out), HS8⟩, by simp [RowKit.intOf]; omega⟩
                · skip
                  as_aux_lemma =>
                    go_wp2_with fail
                    exact ⟨⟨i + 1, Dsk.on r.1, S', gen, b, by simp, rfl, rfl, by omega, S8, HD8, hid (tidy_on HT6.out), HS8⟩, by simp [RowKit.intOf]; omega⟩
        · go_wp2_with fail
          rw [HGB.out]
          refine (st_cut HSm.out cut part keep hcw hpw hkw).mono ?_
          rintro e w5 ⟨rfl, hS, hK⟩
          have S5 := hid hS
          have HB5 := hid (hK.at HBl.out (fun h => h HXg.out))
          have HD5 := hid (HD3.out.cut cut part keep (by omega) hp0 hk0)
          have HT5 := hid (tidy_cut HTD.out cut part keep)
          obtain ⟨D1, hD1⟩ : ∃ D1, (cutTo D cut part keep).1 = D1 := ⟨_, rfl⟩
          rw [hD1] at S5 HD5 HT5
          clear hS hK HSm HBl hD1
          have y0 : w5.cell? ⟨gb, 0, none⟩ = some (.int .i64 gen) := by rw [cell_at HB5.out]; rfl
          have y1 : w5.cell? ⟨gb, 1, none⟩ = some (.slice A b.length C) := by rw [cell_at HB5.out]; rfl
          go_wp2_with fail
          refine (save_any S5.out HT5.out nmS gen hgw (HBW.out.keep (HK1.out.trans S5.out.done (fun _ _ h => h)) (fun _ _ h => h)) (by omega) (by decide)).mono ?_
          rintro e w6 ⟨rfl, hS, hK⟩
          have HB6 := hid (hK.at HB5.out (fun h => h HXg.out))
          have hsay := saving_says HD5.out HSM.out hgw (show b.length ≤ 1000 by omega)
          have hT6 := tidy_saveP HT5.out nmS gen b
          obtain ⟨r, hr⟩ : ∃ r, saveP D1 nmS gen b = r := ⟨_, rfl⟩
          rw [hr] at hS hsay hT6 ⊢
          have S6 := hid hS
          have HT6 := hid hT6
          clear hr hS hK hT6
          have HSY := hid hsay
          clear hsay S5 HB5
          go_wp2_with fail
          refine (held_off S6.out.held).mono ?_
          intro e w' hh
          obtain ⟨he, hw⟩ := hh
          rw [he, hw]
          clear he hw w' e
          go_wp2_with fail
          refine (st_on S6.out).mono ?_
          rintro e w7 ⟨rfl, hS, hK⟩
          have S7 := hid hS
          have HB7 := hid (hK.at HB6.out (fun h => h HXg.out))
          clear hS hK S6 HB6
          go_wp2_with fail
          rcases HSY.out with ⟨hgn, hr2, hD⟩ | ⟨hgp, hr2, hof, S', hs', hD⟩ | ⟨hgp, hr2, hof, hD | ⟨S', hs', hD⟩⟩
          · have HD8 := hid hD
            have hld := HSM.out.load hD
            clear hD HSY
            rw [hr2]
            rcases hld with ⟨hgg, hld⟩ | ⟨hgg, hld⟩
            · skip
              refine (load_any S7.out nmS (three_tidy_read HD8.out HSM.out)).mono ?_
              rw [hld]
              rintro e w8 ⟨v8, rfl, hBv, hK⟩
              have S8 := hid ((S7.out.keep hK).fewer (Y := fun _ => False) (fun _ h => h.elim))
              have HB8 := hid (hK.at HB7.out (fun h => h))
              have x0 : w8.cell? ⟨gb, 0, none⟩ = some (.int .i64 gen) := by rw [cell_at HB8.out]; rfl
              have x1 : w8.cell? ⟨gb, 1, none⟩ = some (.slice A b.length C) := by rw [cell_at HB8.out]; rfl
              have hst1 := bytes_string hBv
              have hst2 := bytes_string (HBW.out.keep (HK1.out.trans S8.out.done (fun _ _ h => h)) (fun _ _ h => h))
              obtain ⟨a8, c8, rfl⟩ := bytes_len hBv
              clear hBv hK
              as_aux_lemma =>
                go_wp2_with fail
                exact ⟨⟨i + 1, Dsk.on r.1, S, g, was, by simp, rfl, rfl, by omega, S8, HD8, hid (tidy_on HT6.out), HSM⟩, by simp [RowKit.intOf]; omega⟩
            · skip
              refine (load_any S7.out nmS (three_tidy_read HD8.out HSM.out)).mono ?_
              rw [hld]
              rintro e w8 ⟨v8, rfl, hBv, hK⟩
              have S8 := hid ((S7.out.keep hK).fewer (Y := fun _ => False) (fun _ h => h.elim))
              have HB8 := hid (hK.at HB7.out (fun h => h))
              have x0 : w8.cell? ⟨gb, 0, none⟩ = some (.int .i64 gen) := by rw [cell_at HB8.out]; rfl
              have x1 : w8.cell? ⟨gb, 1, none⟩ = some (.slice A b.length C) := by rw [cell_at HB8.out]; rfl
              have hst1 := bytes_string hBv
              have hst2 := bytes_string (HBW.out.keep (HK1.out.trans S8.out.done (fun _ _ h => h)) (fun _ _ h => h))
              obtain ⟨a8, c8, rfl⟩ := bytes_len hBv
              clear hBv hK
              as_aux_lemma =>
                go_wp2_with fail
                exact ⟨⟨i + 1, Dsk.on r.1, S, g, was, by simp, rfl, rfl, by omega, S8, HD8, hid (tidy_on HT6.out), HSM⟩, by simp [RowKit.intOf]; omega⟩
          · have HD8 := hid hD
            have HS8 := hid hs'
            have hld : loadF (Dsk.on r.1) nmS = (gen, b, 0) := by
              rcases hs'.load hD with ⟨h, -⟩ | ⟨-, h⟩
              · omega
              · exact h
            clear hD hs' HSY
            rw [hr2, hof]
            refine (load_any S7.out nmS (three_tidy_read HD8.out HS8.out)).mono ?_
            rw [hld]
            rintro e w8 ⟨v8, rfl, hBv, hK⟩
            have S8 := hid ((S7.out.keep hK).fewer (Y := fun _ => False) (fun _ h => h.elim))
            have HB8 := hid (hK.at HB7.out (fun h => h))
            have x0 : w8.cell? ⟨gb, 0, none⟩ = some (.int .i64 gen) := by rw [cell_at HB8.out]; rfl
            have x1 : w8.cell? ⟨gb, 1, none⟩ = some (.slice A b.length C) := by rw [cell_at HB8.out]; rfl
            have hst1 := bytes_string hBv
            have hst2 := bytes_string (HBW.out.keep (HK1.out.trans S8.out.done (fun _ _ h => h)) (fun _ _ h => h))
            obtain ⟨a8, c8, rfl⟩ := bytes_len hBv
            clear hBv hK
            by_cases hgs : g < 0
            · skip
              as_aux_lemma =>
                go_wp2_with fail
                exact ⟨⟨i + 1, Dsk.on r.1, S', gen, b, by simp, rfl, rfl, by omega, S8, HD8, hid (tidy_on HT6.out), HS8⟩, by simp [RowKit.intOf]; omega⟩
            · skip
              cases hq1 : (gen == g)
              · skip
                as_aux_lemma =>
                  go_wp2_with fail
                  exact ⟨⟨i + 1, Dsk.on r.1, S', gen, b, by simp, rfl, rfl, by omega, S8, HD8, hid (tidy_on HT6.out), HS8⟩, by simp [RowKit.intOf]; omega⟩
              · cases hq2 : (b == was)
                · skip
                  as_aux_lemma =>
                    go_wp2_with fail
                    exact ⟨⟨i + 1, Dsk.on r.1, S', gen, b, by simp, rfl, rfl, by omega, S8, HD8, hid (tidy_on HT6.out), HS8⟩, by simp [RowKit.intOf]; omega⟩
                · skip
                  as_aux_lemma =>
                    go_wp2_with fail
                    exact ⟨⟨i + 1, Dsk.on r.1, S', gen, b, by simp, rfl, rfl, by omega, S8, HD8, hid (tidy_on HT6.out), HS8⟩, by simp [RowKit.intOf]; omega⟩
          · have HD8 := hid hD
            have hld := HSM.out.load hD
            clear hD HSY
            rw [hr2, hof]
            rcases hld with ⟨hgg, hld⟩ | ⟨hgg, hld⟩
            · skip
              refine (load_any S7.out nmS (three_tidy_read HD8.out HSM.out)).mono ?_
              rw [hld]
              rintro e w8 ⟨v8, rfl, hBv, hK⟩
              have S8 := hid ((S7.out.keep hK).fewer (Y := fun _ => False) (fun _ h => h.elim))
              have HB8 := hid (hK.at HB7.out (fun h => h))
              have x0 : w8.cell? ⟨gb, 0, none⟩ = some (.int .i64 gen) := by rw [cell_at HB8.out]; rfl
              have x1 : w8.cell? ⟨gb, 1, none⟩ = some (.slice A b.length C) := by rw [cell_at HB8.out]; rfl
              have hst1 := bytes_string hBv
              have hst2 := bytes_string (HBW.out.keep (HK1.out.trans S8.out.done (fun _ _ h => h)) (fun _ _ h => h))
              obtain ⟨a8, c8, rfl⟩ := bytes_len hBv
              clear hBv hK
              as_aux_lemma =>
                go_wp2_with fail
                exact ⟨⟨i + 1, Dsk.on r.1, S, g, was, by simp, rfl, rfl, by omega, S8, HD8, hid (tidy_on HT6.out), HSM⟩, by simp [RowKit.intOf]; omega⟩
            · skip
              refine (load_any S7.out nmS (three_tidy_read HD8.out HSM.out)).mono ?_
              rw [hld]
              rintro e w8 ⟨v8, rfl, hBv, hK⟩
              have S8 := hid ((S7.out.keep hK).fewer (Y := fun _ => False) (fun _ h => h.elim))
              have HB8 := hid (hK.at HB7.out (fun h => h))
              have x0 : w8.cell? ⟨gb, 0, none⟩ = some (.int .i64 gen) := by rw [cell_at HB8.out]; rfl
              have x1 : w8.cell? ⟨gb, 1, none⟩ = some (.slice A b.length C) := by rw [cell_at HB8.out]; rfl
              have hst1 := bytes_string hBv
              have hst2 := bytes_string (HBW.out.keep (HK1.out.trans S8.out.done (fun _ _ h => h)) (fun _ _ h => h))
              obtain ⟨a8, c8, rfl⟩ := bytes_len hBv
              clear hBv hK
              cases hq1 : (g == gen)
              · skip
                as_aux_lemma =>
                  go_wp2_with fail
                  exact ⟨⟨i + 1, Dsk.on r.1, S, g, was, by simp, rfl, rfl, by omega, S8, HD8, hid (tidy_on HT6.out), HSM⟩, by simp [RowKit.intOf]; omega⟩
              · cases hq2 : (was == b)
                · skip
                  as_aux_lemma =>
                    go_wp2_with fail
                    exact ⟨⟨i + 1, Dsk.on r.1, S, g, was, by simp, rfl, rfl, by omega, S8, HD8, hid (tidy_on HT6.out), HSM⟩, by simp [RowKit.intOf]; omega⟩
                · skip
                  as_aux_lemma =>
                    go_wp2_with fail
                    exact ⟨⟨i + 1, Dsk.on r.1, S, g, was, by simp, rfl, rfl, by omega, S8, HD8, hid (tidy_on HT6.out), HSM⟩, by simp [RowKit.intOf]; omega⟩
          · have HD8 := hid hD
            have HS8 := hid hs'
            have hld : loadF (Dsk.on r.1) nmS = (gen, b, 0) := by
              rcases hs'.load hD with ⟨h, -⟩ | ⟨-, h⟩
              · omega
              · exact h
            clear hD hs' HSY
            rw [hr2, hof]
            refine (load_any S7.out nmS (three_tidy_read HD8.out HS8.out)).mono ?_
            rw [hld]
            rintro e w8 ⟨v8, rfl, hBv, hK⟩
            have S8 := hid ((S7.out.keep hK).fewer (Y := fun _ => False) (fun _ h => h.elim))
            have HB8 := hid (hK.at HB7.out (fun h => h))
            have x0 : w8.cell? ⟨gb, 0, none⟩ = some (.int .i64 gen) := by rw [cell_at HB8.out]; rfl
            have x1 : w8.cell? ⟨gb, 1, none⟩ = some (.slice A b.length C) := by rw [cell_at HB8.out]; rfl
            have hst1 := bytes_string hBv
            have hst2 := bytes_string (HBW.out.keep (HK1.out.trans S8.out.done (fun _ _ h => h)) (fun _ _ h => h))
            obtain ⟨a8, c8, rfl⟩ := bytes_len hBv
            clear hBv hK
            by_cases hgs : g < 0
            · skip
              as_aux_lemma =>
                go_wp2_with fail
                exact ⟨⟨i + 1, Dsk.on r.1, S', gen, b, by simp, rfl, rfl, by omega, S8, HD8, hid (tidy_on HT6.out), HS8⟩, by simp [RowKit.intOf]; omega⟩
            · skip
              cases hq1 : (gen == g)
              · skip
                as_aux_lemma =>
                  go_wp2_with fail
                  exact ⟨⟨i + 1, Dsk.on r.1, S', gen, b, by simp, rfl, rfl, by omega, S8, HD8, hid (tidy_on HT6.out), HS8⟩, by simp [RowKit.intOf]; omega⟩
              · cases hq2 : (b == was)
                · skip
                  as_aux_lemma =>
                    go_wp2_with fail
                    exact ⟨⟨i + 1, Dsk.on r.1, S', gen, b, by simp, rfl, rfl, by omega, S8, HD8, hid (tidy_on HT6.out), HS8⟩, by simp [RowKit.intOf]; omega⟩
                · skip
                  as_aux_lemma =>
                    go_wp2_with fail
                    exact ⟨⟨i + 1, Dsk.on r.1, S', gen, b, by simp, rfl, rfl, by omega, S8, HD8, hid (tidy_on HT6.out), HS8⟩, by simp [RowKit.intOf]; omega⟩
      · obtain rfl : i = 20 := by omega
        go_wp2_with fail
        refine (st_read HS.out nmOther).mono ?_
        rw [HD3.out.reads]
        rintro e w5 ⟨v5, rfl, hF, hK⟩
        have hst := bytes_string hF.bytesIn
        have HD := hid (HK1.out.trans (HS.out.done.trans hK (fun _ _ h => h)) (fun _ _ h => h))
        obtain ⟨a5, c5, rfl⟩ := bytes_len hF.bytesIn
        have hst' : (convert 22 9 (.slice a5 1 c5)).run Tryz.prog w5 = .ok (.string ⟨#[120]⟩) w5 := hst
        clear hF hK hst
        go_wp2_with fail
        all_goals go_ret
        all_goals exact ⟨rfl, HD.out⟩
    · skip
      go_wp2_with fail
      refine (st_read HS.out nmOther).mono ?_
      rw [HD3.out.reads]
      rintro e w5 ⟨v5, rfl, hF, hK⟩
      have hst := bytes_string hF.bytesIn
      have HD := hid (HK1.out.trans (HS.out.done.trans hK (fun _ _ h => h)) (fun _ _ h => h))
      obtain ⟨a5, c5, rfl⟩ := bytes_len hF.bytesIn
      have hst' : (convert 22 9 (.slice a5 1 c5)).run Tryz.prog w5 = .ok (.string ⟨#[120]⟩) w5 := hst
      clear hF hK hst
      go_wp2_with fail
      all_goals go_ret
      all_goals exact ⟨rfl, HD.out⟩
theorem saves_all (v0 : Value) (part keep : Int) (W : World) (h0 : ∃ acts, SavesIn W v0 acts) (hp : (Lit.int .i64 part).wf = true) (hk : (Lit.int .i64 keep).wf = true) :
    Calls Tryz.prog 4 #[v0, .int .i64 part, .int .i64 keep] W fun e w' => e = .returned (.bool true) ∧ Below W.heap.size W w' := by
  obtain ⟨acts, hA⟩ := h0
  exact (saves_row W hA part keep (wf_lt hp) (wf_lt hk)).mono fun _ _ h => ⟨h.1, h.2.below (fun _ _ h => h.elim) (Nat.le_refl _)⟩
end Go.Proofs.YtmdibkafjpglkaaGreatDoor.Snp
