/- osierlaw19.WalPlays: as long as the power stays on a log has all records that were appended without an error; walked. -/
import Derived.Test.YtbjjohfpdphpfaaDoorWalAll
namespace Go.Proofs.YtbjjohfpdphpfaaDoor.Wal
open Go Go.RowKit Go.Lib Go.Proofs.YtbjjohfpdphpfaaDoor.Dsk Go.Proofs.YtbjjohfpdphpfaaDoor.Frm

/-- A row of one's own of such as are an argument's bytes. -/
structure Rec (W w : World) (v : Value) (ls : List (List UInt8)) (Y : Nat → Prop) : Prop where
  row : ∃ xs, w.ownsRow W.heap.size 33 1 v ls.length xs ∧ ∀ (j : Nat) (x : Value) (l : List UInt8), xs[j]? = some x → ls[j]? = some l → ∃ A C, x = .slice A l.length C ∧ BytesIn W x l (fun i => i < W.heap.size)
  mine : ∀ g, v.ownBlock = some g → Y g

section
variable {W w w' : World} {v : Value} {ls : List (List UInt8)} {Y F : Nat → Prop}
theorem Rec.nil : Rec W w (.slice none 0 0) [] Y := ⟨⟨[], World.ownsRow_nil _ _ _ 1, fun j x l h => by simp at h⟩, fun g h => by cases h⟩
theorem Rec.keep (h : Rec W w v ls Y) (k : Keep F w w') (hF : ∀ i, Y i → ¬ F i) : Rec W w' v ls Y := by
  obtain ⟨⟨xs, ⟨h1, h2⟩, hx⟩, hm⟩ := h
  refine ⟨⟨xs, ⟨h1, ?_⟩, hx⟩, hm⟩
  rcases h2 with h2 | ⟨g, cap, cur, hv, hg, hh, r⟩
  · exact .inl h2
  · exact .inr ⟨g, cap, cur, hv, hg, k.at hh (hF g (hm g (by rw [hv]; rfl))), r⟩
theorem Rec.more {Z : Nat → Prop} (h : Rec W w v ls Y) (hZ : ∀ i, Y i → Z i) : Rec W w v ls Z := ⟨h.row, fun g hg => hZ g (h.mine g hg)⟩
theorem Rec.slice (h : Rec W w v ls Y) : ∃ ao cap, v = .slice ao ls.length cap := by
  obtain ⟨⟨xs, h, -⟩, -⟩ := h
  exact own_slice h
theorem Rec.rows (h : Rec W w v ls Y) (k : Keep (fun i => W.heap.size ≤ i) W w) : RowsG w v ls (fun _ => True) := by
  obtain ⟨⟨xs, hown, hx⟩, -⟩ := h
  rcases own_cell hown with ⟨rfl, h0, -⟩ | ⟨g, cap, rfl, hg, hn, -, hlt, hl, hc⟩
  · obtain rfl : ls = [] := List.eq_nil_of_length_eq_zero h0
    exact RowsG.nil _ _
  · refine ⟨some ⟨g, 0, none⟩, cap, rfl, (fun e => by cases e), fun a ha r l hr => ?_⟩
    obtain rfl := Option.some.inj ha
    have hrl : r < xs.length := by have := (List.getElem?_eq_some_iff.1 hr).1; omega
    obtain ⟨A, C, hv, hB⟩ := hx r xs[r] l (List.getElem?_eq_getElem hrl) hr
    refine ⟨trivial, hlt, A, C, ?_, ?_⟩
    · rw [addr_add0, hc r hrl, hv]
    · rw [← hv]
      exact bytes_mono (hB.keep k (fun i hi h => by omega)) (fun _ _ _ => trivial)
end

theorem St.grow {W w w' : World} {db : Nat} {D : DiskM} {X G : Nat → Prop} (S : St W w db D X) (k : Keep G w w') (hG : ∀ i, G i → X i ∧ W.heap.size ≤ i) : St W w' db D (fun i => X i ∨ (w.heap.size ≤ i ∧ i < w'.heap.size)) :=
  ⟨(S.held.grow k (fun i h _ _ => (hG i h).1)).mono (fun _ _ hi => hi.imp id (fun h => h.1)), fun i hi => hi.elim (fun h => Nat.lt_of_lt_of_le (S.sub i h) k.size) (fun h => h.2), S.kept.trans k (fun i _ h => (hG i h).2)⟩

set_option maxRecDepth 100000 in
set_option maxHeartbeats 8000000 in
theorem plays_row (W : World) (room : Int) {v1 : Value} {acts : List (Int × List UInt8)} (hA : ActsIn W v1 acts) :
    Calls Tryd.prog 12 #[.int .i64 room, v1] W fun e w' => e = .returned (.bool true) ∧ Keep (fun _ => False) W w' := by
  have HA := hid hA
  obtain ⟨ao0, c0, hv0, hnil0, hrow0⟩ := hA.rows
  have HROW := hid hrow0
  subst hv0
  clear hA hrow0
  go_enter Tryd.func12, Tryd.ntmps12
  go_wp2_with fail
  refine (awake19 W).mono ?_
  rintro e w0 ⟨rfl, hK⟩
  have HK0 := hid hK
  clear hK
  by_cases h1 : room < 0
  · go_wp2_with fail
    all_goals go_ret
    all_goals exact ⟨rfl, HK0.out⟩
  by_cases h2 : 1000000 < room
  · go_wp2_with fail
    all_goals go_ret
    all_goals exact ⟨rfl, HK0.out⟩
  obtain ⟨R, rfl⟩ : ∃ R : Nat, room = (R : Int) := ⟨room.toNat, by omega⟩
  go_wp2_with fail
  refine (st_new W HK0.out (R : Int) (by omega)).mono ?_
  rintro e w2 ⟨db, rfl, hS⟩
  have S2 := hid (show St W w2 db (logD R [] 0) (fun _ => False) from hS)
  clear hS
  unfold ptr
  go_wp2_with fail
  obtain ⟨s0, ho0⟩ := logD_open (R := R) (s := 0) (ls := []) (by simp)
  refine (st_open S2.out nmLog).mono ?_
  rw [ho0]
  rintro e w3 ⟨lv, o, Y0, rfl, hS, -, ⟨lb0, rfl, hL, hYl, hlow⟩, hR, -⟩
  have S3 := hid hS
  have HL3 := hid hL
  have HY := hid hYl
  have hlb0 : W.heap.size ≤ lb0 := Nat.le_trans S2.out.size hlow
  obtain ⟨aoo, capo, hvo⟩ := rows_slice hR
  subst hvo
  clear hS hL hYl hR hlow ho0
  unfold ptr
  go_wp2_with fail
  go_loopw [7, 10, 11, 12] (fun lv av sv iv wr => ∃ (i : Nat) (ls : List (List UInt8)) (s u lb : Nat) (Y : Nat → Prop), lv = .pointer (some ⟨lb, 0, none⟩) ∧ sv = .int .i64 (u : Int) ∧ iv = .int .i64 (i : Int) ∧ i ≤ 40 ∧ ls.length ≤ i ∧ u ≤ ls.length ∧ (frames ls).length ≤ R ∧ Hid (∀ l ∈ ls, l.length ≤ 1000) ∧ Hid (St W wr db (logD R ls s) Y) ∧ Hid (LogAt wr lb db ⟨0, nmLog, ls.length, u⟩) ∧ Hid (Y lb) ∧ W.heap.size ≤ lb ∧ Hid (Rec W wr av ls (fun i => Y i ∧ i ≠ lb))) (fun _ _ _ iv _ => 40 - (RowKit.intOf iv).toNat)
  case atStart => exact ⟨0, [], s0, 0, lb0, Y0, rfl, rfl, rfl, by omega, by simp, by simp, by simp [frames], hid (by simp), S3, HL3, HY, hlb0, hid Rec.nil⟩
  case round =>
    obtain ⟨i, ls, s, u, lb, Y, rfl, rfl, rfl, hi40, hlsi, hul, hfR, HLEN, HS, HL, HYL, hlb, HREC⟩ := hrel
    obtain ⟨aoa, capa, hav⟩ := HREC.out.slice
    subst hav
    by_cases hi : i < acts.length ∧ i < 40
    · obtain ⟨hi1, hi2⟩ := hi
      obtain ⟨a0, rfl⟩ : ∃ a, ao0 = some a := by
        cases ao0 with
        | none => rw [hnil0 rfl] at hi1; simp at hi1
        | some a => exact ⟨a, rfl⟩
      obtain ⟨k, l, hkl⟩ : ∃ k l, acts[i]? = some (k, l) := ⟨(acts[i]).1, (acts[i]).2, List.getElem?_eq_getElem hi1⟩
      obtain ⟨hc0, hkw, A, C, hc1, hB⟩ := HROW.out a0 rfl i k l hkl
      have hblk := lt_of_cell hc0
      rw [add_block] at hblk
      have d0 : wr.cell? (a0.add (i * 2)) = some (.int .i64 k) := by rw [HS.out.kept.cell (by rw [add_block]; exact hblk) (by rw [add_block]; omega)]; exact hc0
      have d1 : wr.cell? (a0.add (i * 2 + 1)) = some (.slice A l.length C) := by rw [HS.out.kept.cell (by rw [add_block]; exact hblk) (by rw [add_block]; omega)]; exact hc1
      have hadd : a0.add (i * 2 + 1) = ⟨(a0.add (i * 2)).block, (a0.add (i * 2)).off + 1, none⟩ := by rw [← Addr.add_add]; rfl
      rw [hadd] at d1
      have HB := hid hB
      clear hc0 hc1 hB hadd
      have hkA := (Keep.refl (fun _ => False) wr).alloc (.cells #[.int .i64 k, .slice A l.length C] 55)
      by_cases hlen : 1000 < (l.length : Int)
      · have HD := hid (HS.out.keep hkA)
        clear hkA
        go_wp2_with fail
        all_goals go_ret
        all_goals exact ⟨rfl, HD.out.done⟩
      obtain ⟨wa, hwa⟩ : ∃ wa, wr.alloc (.cells #[.int .i64 k, .slice A l.length C] 55) = wa := ⟨_, rfl⟩
      have HBLK := hid (show wa.heap[wr.heap.size]? = some (.cells #[.int .i64 k, .slice A l.length C] 55 (0, 0)) by rw [← hwa]; exact heap_alloc_new _ _)
      rw [hwa] at hkA
      have HSZ := hid (show wr.heap.size < wa.heap.size by rw [← hwa]; simp)
      have SA := hid (HS.out.more hkA)
      have LA := hid (HL.out.keep hkA (fun h => h))
      have RA := hid ((HREC.out.keep hkA (fun _ _ h => h)).more (Z := fun i => (Y i ∨ (wr.heap.size ≤ i ∧ i < wa.heap.size)) ∧ i ≠ lb) (fun i hi => ⟨.inl hi.1, hi.2⟩))
      have YA := hid (show (Y lb ∨ (wr.heap.size ≤ lb ∧ lb < wa.heap.size)) from .inl HYL.out)
      have ZB := hid (show (Y wr.heap.size ∨ (wr.heap.size ≤ wr.heap.size ∧ wr.heap.size < wa.heap.size)) from .inr ⟨Nat.le_refl _, HSZ.out⟩)
      have NB := hid (show wr.heap.size ≠ lb from by have := HS.out.sub lb HYL.out; omega)
      have HSIZES := hid (show wr.heap.size ≤ wa.heap.size ∧ W.heap.size ≤ wr.heap.size from ⟨hkA.size, HS.out.size⟩)
      obtain ⟨Z, hZ⟩ : ∃ Z : Nat → Prop, (fun i => Y i ∨ (wr.heap.size ≤ i ∧ i < wa.heap.size)) = Z := ⟨_, rfl⟩
      rw [hZ] at SA
      replace RA : Hid (Rec W wa (.slice aoa ls.length capa) ls (fun i => Z i ∧ i ≠ lb)) := by rw [← hZ]; exact RA
      replace YA : Hid (Z lb) := by rw [← hZ]; exact YA
      replace ZB : Hid (Z wr.heap.size) := by rw [← hZ]; exact ZB
      have HWA := hid hwa
      clear hkA HREC HL HS hZ hwa
      by_cases hm0 : k.tmod 5 = 0
      · obtain ⟨s', hsy⟩ := logD_sync (R := R) (s := s) (u := u) (ls := ls) hul
        go_wp2_with fail
        rw [HWA.out]
        refine (st_sync SA.out LA.out YA.out hlb).mono ?_
        rw [hsy]
        rintro e wb ⟨rfl, hS, hL, hK⟩
        have SB := hid hS
        have LB := hid hL
        have RB := hid (RA.out.keep hK (fun i hi h => h.elim (fun h => h hi.1) (fun h => hi.2 h)))
        clear hS hL hK hsy
        go_wp2_with fail
        refine (count_any wb LB.out).mono ?_
        intro e w' hh
        obtain ⟨he, hw⟩ := hh
        rw [he, hw]
        clear he hw w' e
        go_wp2_with fail
        refine (sure_any wb LB.out).mono ?_
        intro e w' hh
        obtain ⟨he, hw⟩ := hh
        rw [he, hw]
        clear he hw w' e
        go_wp2_with fail
        exact ⟨⟨i + 1, ls, s', ls.length, lb, Z, rfl, rfl, by simp, by omega, by omega, by omega, hfR, HLEN, SB, LB, YA, hlb, RB⟩, by simp [RowKit.intOf]; omega⟩
      by_cases hm1 : k.tmod 5 = 1
      · obtain ⟨s', ho⟩ := logD_open (R := R) (s := s) (ls := ls) (fun x hx => by have := HLEN.out x hx; unfold maxBody; omega)
        go_wp2_with fail
        rw [HWA.out]
        refine (st_open SA.out nmLog).mono ?_
        rw [ho]
        rintro e wb ⟨lv, o, V, rfl, hS, hZV, ⟨mb, rfl, hL, hVl, hlow⟩, hR, hK⟩
        have SB := hid hS
        have LB := hid hL
        have VB := hid hVl
        have RB := hid ((RA.out.keep hK (fun i hi h => h hi.1)).more (Z := fun i => V i ∧ i ≠ mb) (fun i hi => ⟨hZV i hi.1, fun e => by have := SA.out.sub i hi.1; omega⟩))
        have HROWS := hid hR
        have hmb : W.heap.size ≤ mb := Nat.le_trans SA.out.size hlow
        obtain ⟨aoo2, capo2, hvo2⟩ := rows_slice hR
        subst hvo2
        clear hS hL hVl hlow hR hK hZV ho
        unfold ptr
        go_wp2_with fail
        refine (same_true wb HROWS.out (RB.out.rows SB.out.kept) (by omega)).mono ?_
        rintro e wc ⟨rfl, hK⟩
        have SC := hid (SB.out.keep hK)
        have LC := hid (LB.out.keep hK (fun h => h))
        have RC := hid (RB.out.keep hK (fun _ _ h => h))
        clear hK
        go_wp2_with fail
        refine (count_any wc LC.out).mono ?_
        intro e w' hh
        obtain ⟨he, hw⟩ := hh
        rw [he, hw]
        clear he hw w' e
        go_wp2_with fail
        refine (sure_any wc LC.out).mono ?_
        intro e w' hh
        obtain ⟨he, hw⟩ := hh
        rw [he, hw]
        clear he hw w' e
        go_wp2_with fail
        exact ⟨⟨i + 1, ls, s', 0, mb, V, rfl, rfl, by simp, by omega, by omega, by omega, hfR, HLEN, SC, LC, VB, hmb, RC⟩, by simp [RowKit.intOf]; omega⟩
      obtain ⟨F, hF⟩ : ∃ F, (frames ls).length = F := ⟨_, rfl⟩
      rw [hF] at hfR
      have hroom := logD_room (R := R) (ls := ls) (s := s)
      rw [hF] at hroom
      go_wp2_with fail
      rw [HWA.out]
      refine (st_room SA.out).mono ?_
      rw [hroom]
      rintro e wb ⟨rfl, hK⟩
      have SB := hid (SA.out.keep hK)
      have LB := hid (LA.out.keep hK (fun h => h))
      have RB := hid (RA.out.keep hK (fun _ _ h => h))
      have BB := hid (hK.at HBLK.out (fun h => h))
      have cb : wb.cell? ⟨wr.heap.size, 1, none⟩ = some (.slice A l.length C) := by rw [cell_at BB.out]; rfl
      have hbnd : wr.heap.size < wb.heap.size := by have := HSIZES.out; have := hK.size; have := HSZ.out; omega
      clear hK
      have hw1 : IntKind.i64.wrap ((l.length : Int) + 8) = (l.length : Int) + 8 := IntWalk.i64_in _ (by omega)
      go_wp2_with fail
      refine (st_append SB.out LB.out YA.out hlb (by simp only; omega) (HB.out.keep SB.out.kept (fun i hi h => by omega))).mono ?_
      by_cases hfull : (R : Int) - (F : Int) < (l.length : Int) + 8
      · rw [logD_full (by unfold maxBody; omega) (by rw [hF]; omega)]
        rintro e wc ⟨rfl, hS, hL, hK⟩
        have SC := hid hS
        have LC := hid hL
        have RC := hid (RB.out.keep hK (fun i hi h => h.elim (fun h => h hi.1) (fun h => hi.2 h)))
        have BC := hid (hK.at BB.out (fun h => h.elim (fun h => h ZB.out) (fun h => NB.out h)))
        have cc : wc.cell? ⟨wr.heap.size, 1, none⟩ = some (.slice A l.length C) := by rw [cell_at BC.out]; rfl
        clear hS hL hK cb
        go_wp2_with fail
        refine (st_room SC.out).mono ?_
        rw [hroom]
        rintro e wd ⟨rfl, hK⟩
        have SD := hid (SC.out.keep hK)
        have LD := hid (LC.out.keep hK (fun h => h))
        have RD := hid (RC.out.keep hK (fun _ _ h => h))
        clear hK
        go_wp2_with fail
        refine (count_any wd LD.out).mono ?_
        intro e w' hh
        obtain ⟨he, hw⟩ := hh
        rw [he, hw]
        clear he hw w' e
        go_wp2_with fail
        refine (sure_any wd LD.out).mono ?_
        intro e w' hh
        obtain ⟨he, hw⟩ := hh
        rw [he, hw]
        clear he hw w' e
        go_wp2_with fail
        exact ⟨⟨i + 1, ls, s, u, lb, Z, rfl, rfl, by simp, by omega, by omega, by omega, by omega, HLEN, SD, LD, YA, hlb, RD⟩, by simp [RowKit.intOf]; omega⟩
      · obtain ⟨s', hap⟩ := logD_append (R := R) (s := s) (u := u) (ls := ls) (x := l) (by unfold maxBody; omega) (by rw [hF]; omega)
        rw [hap]
        rintro e wc ⟨rfl, hS, hL, hK⟩
        have SC := hid hS
        have LC := hid hL
        have RC := hid (RB.out.keep hK (fun i hi h => h.elim (fun h => h hi.1) (fun h => hi.2 h)))
        have BC := hid (hK.at BB.out (fun h => h.elim (fun h => h ZB.out) (fun h => NB.out h)))
        have cc : wc.cell? ⟨wr.heap.size, 1, none⟩ = some (.slice A l.length C) := by rw [cell_at BC.out]; rfl
        have hF2 : (frames (ls ++ [l])).length = F + (l.length + 8) := by rw [frames_snoc, List.length_append, frame_length, hF]
        have hroom2 := logD_room (R := R) (ls := ls ++ [l]) (s := s')
        rw [hF2, show ((R : Int) - ((F + (l.length + 8) : Nat) : Int)) = (R : Int) - (F : Int) - (l.length : Int) - 8 by omega] at hroom2
        have hw2 : IntKind.i64.wrap ((R : Int) - (F : Int) - (l.length : Int)) = (R : Int) - (F : Int) - (l.length : Int) := IntWalk.i64_in _ (by omega)
        have hw3 : IntKind.i64.wrap ((R : Int) - (F : Int) - (l.length : Int) - 8) = (R : Int) - (F : Int) - (l.length : Int) - 8 := IntWalk.i64_in _ (by omega)
        clear hS hL hK cb hap
        go_wp2_with fail
        refine wp_region_heldi [0, 1, 2, 3, 5, 6, 7, 8, 9, 10] 100 3 (fun w' => w'.cell? ⟨wr.heap.size, 1, none⟩ = some (.slice A l.length C)) (by kernel_rfl) (by kernel_rfl) (by kernel_rfl) (by rw [show wc.drew.cell? ⟨wr.heap.size, 1, none⟩ = wc.cell? ⟨wr.heap.size, 1, none⟩ from rfl]; exact cc) (fun d _ _ _ _ h => by cases d <;> exact h) ?_
        iterate 10 (first | (refine heldI_step rfl rfl (fun w' hS => by (go_simp; with_reducible rfl)) ?_; simp only [Act.put, List.setIfInBounds_toArray, List.set_cons_zero, List.set_cons_succ]) | (refine heldI_want rfl rfl (fun w' hS => by (go_simp; with_reducible rfl)) ?_; simp only [Act.put, List.setIfInBounds_toArray, List.set_cons_zero, List.set_cons_succ]))
        refine heldI_nil ?_
        refine anyZ_next' (j := 4) (by kernel_rfl) rfl rfl ?_
        go_simp
        have kd := keep_drawn' wc (wc.drawn + 1)
        refine (st_room (SC.out.keep kd)).mono ?_
        rw [hroom2]
        rintro e wd ⟨rfl, hK⟩
        have hK2 := kd.trans hK (fun _ _ h => h)
        have SD := hid (SC.out.keep hK2)
        have LD := hid (LC.out.keep hK2 (fun h => h))
        have RD := hid (RC.out.keep hK2 (fun _ _ h => h))
        have BD := hid (hK2.at BC.out (fun h => h))
        have cd : wd.cell? ⟨wr.heap.size, 1, none⟩ = some (.slice A l.length C) := by rw [cell_at BD.out]; rfl
        clear hK hK2 kd cc
        refine ⟨cd, ?_⟩
        refine heldI_run (t := 0) (by kernel_rfl) (fun d _ _ _ _ h => by cases d <;> exact h) wd cd [11, 12] _ _ (by kernel_rfl) ?_
        iterate 2 (first | (refine heldI_step rfl rfl (fun w' hS => by (go_simp; with_reducible rfl)) ?_; simp only [Act.put, List.setIfInBounds_toArray, List.set_cons_zero, List.set_cons_succ]) | (refine heldI_want rfl rfl (fun w' hS => by (go_simp; with_reducible rfl)) ?_; simp only [Act.put, List.setIfInBounds_toArray, List.set_cons_zero, List.set_cons_succ]))
        refine heldI_nil ?_
        refine anyZ_done (by kernel_rfl) ?_
        obtain ⟨⟨xs, hown, hxs⟩, hmine⟩ := RD.out
        have HOWN := hid hown
        have HXS := hid hxs
        have HMINE := hid hmine
        clear hown hxs hmine
        have hsd := SD.out.size
        go_wp2_with (at_builtin; refine wpList_append_mine rfl _ _ 34 33 rfl (.slice none 0 0) 1 24 under_rows info_row rfl (by decide) rfl HOWN.out rfl rfl (by simp [Value.oneCell']) (by simp only [maxLen]; omega) (by omega) hsd ?_; intro v' we hown' hge hgm)
        obtain ⟨aov, capv, hv'⟩ := own_slice hown'
        subst hv'
        have hlt' := hown'.lt
        have kall : Keep (fun j => (Value.slice aoa ls.length capa).ownBlock = some j) wd we := (((Keep.refl (fun _ => False) wd).alloc (.cells #[.slice A l.length C] 33)).mono (fun _ _ h => h.elim)).trans (keep_grown hge (fun g hg => hg)) (fun j _ h => h)
        have hgz : ∀ j, (Value.slice aoa ls.length capa).ownBlock = some j → Z j ∧ W.heap.size ≤ j := fun j hj => ⟨(HMINE.out j hj).1, (HOWN.out.lt j hj).1⟩
        have SE := hid (SD.out.grow kall hgz)
        have LE := hid (LD.out.keep kall (fun h => (HMINE.out lb h).2 rfl))
        have hlbd := SD.out.sub lb YA.out
        have RE : Hid (Rec W we (.slice aov (ls.length + 1) capv) (ls ++ [l]) (fun i => (Z i ∨ (wd.heap.size ≤ i ∧ i < we.heap.size)) ∧ i ≠ lb)) := hid ⟨⟨xs ++ [.slice A l.length C], by rw [List.length_append]; exact hown', fun j x y hx hy => by
          by_cases hj : j < xs.length
          · rw [List.getElem?_append_left hj] at hx
            rw [List.getElem?_append_left (by have := HOWN.out.1; omega)] at hy
            exact HXS.out j x y hx hy
          · have hxl : xs.length = ls.length := by have := HOWN.out.1; omega
            rw [List.getElem?_append_right (by omega)] at hx hy
            obtain ⟨rfl, hjx⟩ : x = .slice A l.length C ∧ j - xs.length = 0 := by
              cases hq : j - xs.length with
              | zero => rw [hq] at hx; simp at hx; exact ⟨hx.symm, rfl⟩
              | succ n => rw [hq] at hx; simp at hx
            rw [show j - ls.length = 0 by omega] at hy
            obtain rfl : l = y := by simpa using hy
            exact ⟨A, C, rfl, HB.out⟩⟩, fun g hg => (hgm g hg).elim (fun h => ⟨.inl (HMINE.out g h).1, (HMINE.out g h).2⟩) (fun h => ⟨.inr ⟨by omega, (hlt' g hg).2⟩, by omega⟩)⟩
        have YE : Hid (Z lb ∨ (wd.heap.size ≤ lb ∧ lb < we.heap.size)) := hid (.inl YA.out)
        have HLEN2 : Hid (∀ x ∈ ls ++ [l], x.length ≤ 1000) := hid (fun x hx => (List.mem_append.1 hx).elim (HLEN.out x) (fun h => by obtain rfl : x = l := by simpa using h
                                                                                                                                      omega))
        clear hown' hge hgm hlt' kall hgz hlbd
        go_wp2_with fail
        refine (count_any we LE.out).mono ?_
        intro e w' hh
        obtain ⟨he, hw⟩ := hh
        rw [he, hw]
        clear he hw w' e
        go_wp2_with fail
        refine (sure_any we LE.out).mono ?_
        intro e w' hh
        obtain ⟨he, hw⟩ := hh
        rw [he, hw]
        clear he hw w' e
        go_wp2_with fail
        exact ⟨⟨i + 1, ls ++ [l], s', u, lb, _, rfl, rfl, by simp, by omega, by simp; omega, by simp; omega, by rw [hF2]; omega, HLEN2, SE, by simpa using LE, YE, hlb, RE⟩, by simp [RowKit.intOf]; omega⟩
    · obtain ⟨s', ho⟩ := logD_open (R := R) (s := s) (ls := ls) (fun x hx => by have := HLEN.out x hx; unfold maxBody; omega)
      by_cases hi1 : i < acts.length
      · have hi2 : ¬ i < 40 := fun h => hi ⟨hi1, h⟩
        go_wp2_with fail
        refine (st_open HS.out nmLog).mono ?_
        rw [ho]
        rintro e wb ⟨lv, o, V, rfl, hS, hZV, ⟨mb, rfl, hL, hVl, hlow⟩, hR, hK⟩
        have SB := hid hS
        have RB := hid ((HREC.out.keep hK (fun i hi h => h hi.1)).more (Z := V) (fun i hi => hZV i hi.1))
        have HROWS := hid hR
        obtain ⟨aoo2, capo2, hvo2⟩ := rows_slice hR
        subst hvo2
        clear hS hL hVl hlow hR hK hZV ho
        unfold ptr
        go_wp2_with fail
        refine (same_true wb HROWS.out (RB.out.rows SB.out.kept) (by omega)).mono ?_
        rintro e wc ⟨rfl, hK⟩
        have SC := hid (SB.out.keep hK)
        clear hK
        go_wp2_with fail
        all_goals go_ret
        all_goals exact ⟨rfl, SC.out.done⟩
      · go_wp2_with fail
        refine (st_open HS.out nmLog).mono ?_
        rw [ho]
        rintro e wb ⟨lv, o, V, rfl, hS, hZV, ⟨mb, rfl, hL, hVl, hlow⟩, hR, hK⟩
        have SB := hid hS
        have RB := hid ((HREC.out.keep hK (fun i hi h => h hi.1)).more (Z := V) (fun i hi => hZV i hi.1))
        have HROWS := hid hR
        obtain ⟨aoo2, capo2, hvo2⟩ := rows_slice hR
        subst hvo2
        clear hS hL hVl hlow hR hK hZV ho
        unfold ptr
        go_wp2_with fail
        refine (same_true wb HROWS.out (RB.out.rows SB.out.kept) (by omega)).mono ?_
        rintro e wc ⟨rfl, hK⟩
        have SC := hid (SB.out.keep hK)
        clear hK
        go_wp2_with fail
        all_goals go_ret
        all_goals exact ⟨rfl, SC.out.done⟩

theorem plays_any (room : Int) (v1 : Value) (W : World) (_h0 : (Lit.int .i64 room).wf = true) (h1 : ∃ acts, ActsIn W v1 acts) :
    Calls Tryd.prog 12 #[.int .i64 room, v1] W fun e w' => e = .returned (.bool true) ∧ Below W.heap.size W w' := by
  obtain ⟨acts, h1⟩ := h1
  exact (plays_row W room h1).mono fun _ _ hh => ⟨hh.1, hh.2.below (fun _ _ h => h.elim) (Nat.le_refl _)⟩

end Go.Proofs.YtbjjohfpdphpfaaDoor.Wal
