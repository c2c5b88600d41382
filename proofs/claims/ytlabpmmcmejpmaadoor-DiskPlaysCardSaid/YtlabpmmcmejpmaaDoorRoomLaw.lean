/- osierlaw18.DiskRoom: the room is what there was, less the bytes of all files; walked. -/
import Derived.Test.YtlabpmmcmejpmaaDoorDiskNames
import Derived.Test.YtlabpmmcmejpmaaDoorOpenActs18
namespace Go.Proofs.YtlabpmmcmejpmaaDoor.Wal
open Go Go.RowKit Go.Lib Go.Proofs.YtlabpmmcmejpmaaDoor.Dsk

def sumOf (fs : Files) (l : List ByteArray) : Nat := (l.map (fun n => (fileOf fs n).b.length)).sum
theorem total_sum (fs : Files) : total fs = (fs.map (fun p => p.2.b.length)).sum := by
  induction fs with
  | nil => rfl
  | cons p fs ih => simp [total, ih]
theorem sum_total {fs : Files} (hn : (fs.map (·.1)).Nodup) {l : List ByteArray} (hp : l.Perm (fs.map (·.1))) : sumOf fs l = total fs := by
  unfold sumOf
  rw [(hp.map _).sum_nat, total_sum, List.map_map]
  congr 1
  refine List.map_congr_left fun p hp => ?_
  simp only [Function.comp]
  unfold fileOf
  rw [mget_of_mem hn (k := p.1) (v := p.2) hp]
  rfl
theorem sum_take {fs : Files} {l : List ByteArray} {k : Nat} (hk : k < l.length) : sumOf fs (l.take (k + 1)) = sumOf fs (l.take k) + (fileOf fs l[k]).b.length := by
  unfold sumOf
  rw [List.take_succ_eq_append_getElem hk, List.map_append, List.sum_append]
  simp
theorem sum_le {fs : Files} {l : List ByteArray} (k : Nat) : sumOf fs (l.take k) ≤ sumOf fs l := by
  have h : sumOf fs l = sumOf fs (l.take k) + sumOf fs (l.drop k) := by
    unfold sumOf
    rw [← List.sum_append, ← List.map_append, List.take_append_drop]
  omega

/-- The power is on, no cut is due. -/
structure Up (D : DiskM) (R : Nat) : Prop where
  off : D.off = false
  cut : D.cut = none
  room : D.room = R
  tidy : Tidy D.files
theorem up_operate {D : DiskM} {R : Nat} (h : Up D R) {e : Int} {doP : Nat → Files → Files} (ht : Tidy (operate D e doP).1.files) : Up (operate D e doP).1 R := by
  obtain ⟨r, f, o, c⟩ := D
  obtain ⟨h1, h2, h3, h4⟩ := h
  simp only at h1 h2 h3
  subst h1 h2 h3
  refine ⟨?_, ?_, ?_, ht⟩ <;> simp only [operate] <;> split <;> rfl
section
variable {D : DiskM} {R : Nat}
theorem up_append (h : Up D R) (n : ByteArray) (b : List UInt8) : Up (append D n b).1 R := by
  have ht := tidy_append h.tidy n b
  unfold append at ht ⊢
  rw [h.off, if_neg (by simp)] at ht ⊢
  exact up_operate h ht
theorem up_rename (h : Up D R) (n m : ByteArray) : Up (rename D n m).1 R := by
  have ht := tidy_rename h.tidy n m
  unfold rename at ht ⊢
  rw [h.off, if_neg (by simp)] at ht ⊢
  exact up_operate h ht
theorem up_remove (h : Up D R) (n : ByteArray) : Up (remove D n).1 R := by
  have ht := tidy_remove h.tidy n
  unfold remove at ht ⊢
  rw [h.off, if_neg (by simp)] at ht ⊢
  exact up_operate h ht
theorem up_shorten (h : Up D R) (n : ByteArray) (k : Int) : Up (shorten D n k).1 R := by
  have ht := tidy_shorten h.tidy n k
  unfold shorten at ht ⊢
  rw [h.off, if_neg (by simp)] at ht ⊢
  exact up_operate h ht
theorem up_new (r : Int) : Up (new r) (max r 0).toNat := ⟨rfl, rfl, rfl, tidy_fresh r⟩
theorem up_read (h : Up D R) {n : ByteArray} (hn : mhas D.files n = true) : Dsk.read D n = ((fileOf D.files n).b, 0) := by
  unfold Dsk.read
  rw [h.off, if_neg (by simp), hn, if_pos rfl]
end

/-- A row of names. -/
def NamesAt (w : World) (v : Value) (l : List ByteArray) : Prop := ∃ ao cap, v = .slice ao l.length cap ∧ (ao = none → l = []) ∧ ∀ a, ao = some a → ∀ j s, l[j]? = some s → a.block < w.heap.size ∧ w.cell? (a.add j) = some (.string s)
theorem NamesAt.keep {w w' : World} {v : Value} {l : List ByteArray} (h : NamesAt w v l) (k : Keep (fun _ => False) w w') : NamesAt w' v l := by
  obtain ⟨ao, cap, e, h1, h2⟩ := h
  refine ⟨ao, cap, e, h1, fun a ha j s hj => ?_⟩
  obtain ⟨g1, g2⟩ := h2 a ha j s hj
  exact ⟨Nat.lt_of_lt_of_le g1 k.size, by rw [k.cell (by rw [ChangeShapes.block_add]; exact g1) (fun h => h)]; exact g2⟩
theorem names_at {w : World} {base : Nat} {v : Value} {l : List ByteArray} (h : w.ownsRow base 9 1 v l.length (l.map Value.string)) : NamesAt w v l := by
  rcases own_cell h with ⟨rfl, h0, -⟩ | ⟨g, cap, rfl, hg, hn, -, hlt, hl, hc⟩
  · obtain rfl : l = [] := List.eq_nil_of_length_eq_zero h0
    exact ⟨none, 0, rfl, fun _ => rfl, fun a ha => by cases ha⟩
  · refine ⟨some ⟨g, 0, none⟩, cap, rfl, (fun e => by cases e), fun a ha j s hj => ?_⟩
    obtain rfl := Option.some.inj ha
    have hjl : j < (l.map Value.string).length := by rw [List.length_map]; exact (List.getElem?_eq_some_iff.1 hj).1
    refine ⟨hlt, ?_⟩
    rw [addr_add0, hc j hjl, List.getElem_map]
    rw [List.getElem?_eq_some_iff] at hj
    obtain ⟨hj1, hj2⟩ := hj
    rw [hj2]
theorem st_names {W w : World} {db : Nat} {D : DiskM} {X : Nat → Prop} (S : St W w db D X) (ht : Tidy D.files) :
    Calls Tryd.prog 19 #[ptr db] w fun e w' => ∃ (v : Value) (l : List ByteArray), e = .returned v ∧ l.Perm (D.files.map (·.1)) ∧ Rising l ∧ NamesAt w' v l ∧ Keep (fun _ => False) w w' :=
  (names_any w S.held ht).mono fun _ _ ⟨v, l, h1, h2, h3, h4, h5⟩ => ⟨v, l, h1, h2, h3, names_at h4, keep_of_below h5⟩
theorem St.ok {W w : World} {db : Nat} {D : DiskM} {X : Nat → Prop} (S : St W w db D X) : Ok D := by
  obtain ⟨mr, gs, cv, h⟩ := S.held
  exact h.ok

set_option maxRecDepth 100000 in
set_option maxHeartbeats 8000000 in
theorem room_row (W : World) (room : Int) {v1 : Value} {acts : List ActM} (hA : Acts18 W v1 acts) :
    Calls Tryd.prog 5 #[.int .i64 room, v1] W fun e w' => e = .returned (.bool true) ∧ Keep (fun _ => False) W w' := by
  obtain ⟨ao0, c0, hv0, hnil0, hrow0⟩ := hA.rows
  have HROW := hid hrow0
  subst hv0
  clear hA hrow0
  go_enter Tryd.func5, Tryd.ntmps5
  go_wp2_with fail
  refine (awake18 W).mono ?_
  rintro e w0 ⟨rfl, hK⟩
  have HK0 := hid hK
  clear hK
  by_cases h2 : 1000000 < room
  · go_wp2_with fail
    all_goals go_ret
    all_goals exact ⟨rfl, HK0.out⟩
  go_wp2_with fail
  refine (st_new W HK0.out room (by omega)).mono ?_
  rintro e w2 ⟨db, rfl, hS⟩
  have S2 := hid hS
  clear hS
  obtain ⟨R, hR⟩ : ∃ R, (max room 0).toNat = R := ⟨_, rfl⟩
  have HU0 := hid (show Up (new room) R from hR ▸ up_new room)
  have hRI : max room 0 = (R : Int) := by omega
  have hR2 : R ≤ 1000000 := by omega
  unfold ptr
  go_wp2_with fail
  go_loopw [7] (fun iv wr => ∃ (i : Nat) (D : DiskM), iv = .int .i64 (i : Int) ∧ i ≤ 60 ∧ Hid (St W wr db D (fun _ => False)) ∧ Hid (Up D R)) (fun iv _ => 60 - (RowKit.intOf iv).toNat)
  case atStart => exact ⟨0, new room, rfl, by omega, S2, HU0⟩
  case round =>
    obtain ⟨i, D, rfl, hi60, HS, HU⟩ := hrel
    by_cases hi1 : i < acts.length
    · by_cases hi2 : i < 60
      · obtain ⟨a0, rfl⟩ : ∃ a, ao0 = some a := by
          cases ao0 with
          | none => rw [hnil0 rfl] at hi1; simp at hi1
          | some a => exact ⟨a, rfl⟩
        obtain ⟨m, hm⟩ : ∃ m, acts[i]? = some m := ⟨acts[i], List.getElem?_eq_getElem hi1⟩
        obtain ⟨hfit, A, C, hcs, hB⟩ := HROW.out a0 rfl i m hm
        have hmv : ∀ (j : Nat) (x : Value), (m.cells A C)[j]? = some x → wr.cell? (a0.add (i * 7 + j)) = some x := fun j x hj => by
          have h := hcs j x hj
          have hb := lt_of_cell h
          rw [HS.out.kept.cell hb (by rw [ChangeShapes.block_add] at hb ⊢; omega)]
          exact h
        have d0 : wr.cell? (a0.add (i * 7)) = some (.int .i64 m.kind) := hmv 0 _ rfl
        have d1 : wr.cell? ⟨(a0.add (i * 7)).block, (a0.add (i * 7)).off + 1, none⟩ = some (.string m.name) := by rw [show (⟨(a0.add (i * 7)).block, (a0.add (i * 7)).off + 1, none⟩ : Addr) = a0.add (i * 7 + 1) by rw [← Addr.add_add]; rfl]; exact hmv 1 _ rfl
        have d2 : wr.cell? ⟨(a0.add (i * 7)).block, (a0.add (i * 7)).off + 2, none⟩ = some (.string m.to) := by rw [show (⟨(a0.add (i * 7)).block, (a0.add (i * 7)).off + 2, none⟩ : Addr) = a0.add (i * 7 + 2) by rw [← Addr.add_add]; rfl]; exact hmv 2 _ rfl
        have d3 : wr.cell? ⟨(a0.add (i * 7)).block, (a0.add (i * 7)).off + 3, none⟩ = some (.slice A m.b.length C) := by rw [show (⟨(a0.add (i * 7)).block, (a0.add (i * 7)).off + 3, none⟩ : Addr) = a0.add (i * 7 + 3) by rw [← Addr.add_add]; rfl]; exact hmv 3 _ rfl
        have d4 : wr.cell? ⟨(a0.add (i * 7)).block, (a0.add (i * 7)).off + 4, none⟩ = some (.int .i64 m.n) := by rw [show (⟨(a0.add (i * 7)).block, (a0.add (i * 7)).off + 4, none⟩ : Addr) = a0.add (i * 7 + 4) by rw [← Addr.add_add]; rfl]; exact hmv 4 _ rfl
        have d5 : wr.cell? ⟨(a0.add (i * 7)).block, (a0.add (i * 7)).off + 5, none⟩ = some (.int .i64 m.part) := by rw [show (⟨(a0.add (i * 7)).block, (a0.add (i * 7)).off + 5, none⟩ : Addr) = a0.add (i * 7 + 5) by rw [← Addr.add_add]; rfl]; exact hmv 5 _ rfl
        have d6 : wr.cell? ⟨(a0.add (i * 7)).block, (a0.add (i * 7)).off + 6, none⟩ = some (.int .i64 m.keep) := by rw [show (⟨(a0.add (i * 7)).block, (a0.add (i * 7)).off + 6, none⟩ : Addr) = a0.add (i * 7 + 6) by rw [← Addr.add_add]; rfl]; exact hmv 6 _ rfl
        have hkn := wf_lt hfit.n
        have HB := hid hB
        clear hcs hmv hB hm
        have hkA := (Keep.refl (fun _ => False) wr).alloc (.cells #[.int .i64 m.kind, .string m.name, .string m.to, .slice A m.b.length C, .int .i64 m.n, .int .i64 m.part, .int .i64 m.keep] 33)
        by_cases hlen : 1000 < (m.b.length : Int)
        · have HD := hid (HS.out.keep hkA)
          clear hkA
          go_wp2_with fail
          all_goals go_ret
          all_goals exact ⟨rfl, HD.out.done⟩
        obtain ⟨wa, hwa⟩ : ∃ wa, wr.alloc (.cells #[.int .i64 m.kind, .string m.name, .string m.to, .slice A m.b.length C, .int .i64 m.n, .int .i64 m.part, .int .i64 m.keep] 33) = wa := ⟨_, rfl⟩
        rw [hwa] at hkA
        have SA := hid (HS.out.keep hkA)
        have HWA := hid hwa
        clear hkA HS hwa
        by_cases hm0 : m.kind.tmod 5 = 0
        · go_wp2_with fail
          rw [HWA.out]
          refine (st_remove SA.out m.name).mono ?_
          rintro e wb ⟨rfl, hS, -⟩
          have hU := up_remove HU.out m.name
          obtain ⟨D', hD'⟩ : ∃ D', (remove D m.name).1 = D' := ⟨_, rfl⟩
          rw [hD'] at hS hU
          have SB := hid hS
          have UB := hid hU
          clear hS hU hD'
          go_wp2_with fail
          refine (st_names SB.out UB.out.tidy).mono ?_
          rintro e wc ⟨v, l, rfl, hP, -, hN, hK⟩
          obtain ⟨aol, capl, hv, hnl, hcl⟩ := hN
          subst hv
          have SC := hid (SB.out.keep hK)
          have HCL := hid hcl
          have HP := hid hP
          have hl100 : l.length ≤ 100 := by
            have h1 := hP.length_eq
            rw [List.length_map] at h1
            have := UB.out.tidy.1
            omega
          have hsum := sum_total SC.out.ok.nodup hP
          have hroom := SC.out.ok.room
          rw [UB.out.room] at hroom
          obtain ⟨T, hT⟩ : ∃ T, total D'.files = T := ⟨_, rfl⟩
          rw [hT] at hsum hroom
          have HT := hid hT
          have HSUM := hid hsum
          clear hK hP hcl hT hsum SB
          go_wp2_with fail
          go_loopw [9, 11] (fun nv kv wr2 => ∃ k N : Nat, kv = .int .i64 (k : Int) ∧ nv = .int .i64 (N : Int) ∧ Hid (N = sumOf D'.files (l.take k)) ∧ k ≤ l.length ∧ Hid (Keep (fun _ => False) wc wr2)) (fun _ kv _ => l.length - (RowKit.intOf kv).toNat)
          case atStart => exact ⟨0, 0, rfl, rfl, hid (by simp [sumOf]), Nat.zero_le _, hid (Keep.refl _ _)⟩
          case round =>
            obtain ⟨k, N, rfl, rfl, HN, hk, hKr⟩ := hrel
            by_cases hkl : k < l.length
            · obtain ⟨al, rfl⟩ : ∃ a, aol = some a := by
                cases aol with
                | none => rw [hnl rfl] at hkl; simp at hkl
                | some a => exact ⟨a, rfl⟩
              obtain ⟨nm, hnm⟩ : ∃ nm, l[k]? = some nm := ⟨l[k], List.getElem?_eq_getElem hkl⟩
              obtain ⟨g1, g2⟩ := HCL.out al rfl k nm hnm
              have hcell : wr.cell? (al.add k) = some (.string nm) := by rw [hKr.out.cell (by rw [ChangeShapes.block_add]; exact g1) (fun h => h)]; exact g2
              have hmem : mhas D'.files nm = true := (mhas_iff _ _).2 (HP.out.mem_iff.1 (List.mem_of_getElem? hnm))
              have hstep := sum_take (fs := D'.files) hkl
              have hlek : l[k] = nm := by rw [List.getElem?_eq_getElem hkl] at hnm; exact Option.some.inj hnm
              rw [hlek, ← HN.out] at hstep
              have hle := sum_le (fs := D'.files) (l := l) (k + 1)
              rw [HSUM.out, hstep] at hle
              have HSTEP := hid hstep
              clear hlek hstep g2 hnm
              obtain ⟨bb, hbb⟩ : ∃ bb, (fileOf D'.files nm).b = bb := ⟨_, rfl⟩
              have HBB := hid hbb
              rw [hbb] at hle
              clear hbb
              go_wp2_with fail
              refine (st_read (SC.out.keep hKr.out) nm).mono ?_
              rw [up_read UB.out hmem, HBB.out]
              rintro e wd ⟨v', rfl, hF, hK⟩
              obtain ⟨aof, capf, hvf, -, -⟩ := hF.slice
              subst hvf
              have HK := hid (hKr.out.trans hK (fun _ _ h => h))
              have hwr : IntKind.i64.wrap ((N : Int) + (bb.length : Int)) = (N : Int) + (bb.length : Int) := IntWalk.i64_in _ (by omega)
              clear hF hK
              go_wp2_with fail
              exact ⟨⟨k + 1, N + bb.length, by simp, by simp, hid (by rw [HSTEP.out, HBB.out]), by omega, HK⟩, by simp [RowKit.intOf]; omega⟩
            · obtain rfl : k = l.length := by omega
              have hNT : N = T := by rw [HN.out, List.take_length, HSUM.out]
              subst hNT
              have SD := hid (SC.out.keep hKr.out)
              have hw1 : IntKind.i64.wrap ((R : Int) - (N : Int)) = (R : Int) - (N : Int) := IntWalk.i64_in _ (by omega)
              clear HSUM HN
              go_wp2_with fail
              refine (st_room SD.out).mono ?_
              rw [UB.out.room, HT.out]
              rintro e we ⟨rfl, hK⟩
              have SE := hid (SD.out.keep hK)
              clear hK
              go_wp2_with fail
              refine (st_room SE.out).mono ?_
              rw [UB.out.room, HT.out]
              rintro e wf ⟨rfl, hK⟩
              have SF := hid (SE.out.keep hK)
              clear hK
              go_wp2_with fail
              exact ⟨⟨i + 1, D', by simp, by omega, SF, UB⟩, by simp [RowKit.intOf]; omega⟩
        by_cases hm1 : m.kind.tmod 5 = 1
        · go_wp2_with fail
          rw [HWA.out]
          refine (st_rename SA.out m.name m.to).mono ?_
          rintro e wb ⟨rfl, hS, -⟩
          have hU := up_rename HU.out m.name m.to
          obtain ⟨D', hD'⟩ : ∃ D', (rename D m.name m.to).1 = D' := ⟨_, rfl⟩
          rw [hD'] at hS hU
          have SB := hid hS
          have UB := hid hU
          clear hS hU hD'
          go_wp2_with fail
          refine (st_names SB.out UB.out.tidy).mono ?_
          rintro e wc ⟨v, l, rfl, hP, -, hN, hK⟩
          obtain ⟨aol, capl, hv, hnl, hcl⟩ := hN
          subst hv
          have SC := hid (SB.out.keep hK)
          have HCL := hid hcl
          have HP := hid hP
          have hl100 : l.length ≤ 100 := by
            have h1 := hP.length_eq
            rw [List.length_map] at h1
            have := UB.out.tidy.1
            omega
          have hsum := sum_total SC.out.ok.nodup hP
          have hroom := SC.out.ok.room
          rw [UB.out.room] at hroom
          obtain ⟨T, hT⟩ : ∃ T, total D'.files = T := ⟨_, rfl⟩
          rw [hT] at hsum hroom
          have HT := hid hT
          have HSUM := hid hsum
          clear hK hP hcl hT hsum SB
          go_wp2_with fail
          go_loopw [9, 11] (fun nv kv wr2 => ∃ k N : Nat, kv = .int .i64 (k : Int) ∧ nv = .int .i64 (N : Int) ∧ Hid (N = sumOf D'.files (l.take k)) ∧ k ≤ l.length ∧ Hid (Keep (fun _ => False) wc wr2)) (fun _ kv _ => l.length - (RowKit.intOf kv).toNat)
          case atStart => exact ⟨0, 0, rfl, rfl, hid (by simp [sumOf]), Nat.zero_le _, hid (Keep.refl _ _)⟩
          case round =>
            obtain ⟨k, N, rfl, rfl, HN, hk, hKr⟩ := hrel
            by_cases hkl : k < l.length
            · obtain ⟨al, rfl⟩ : ∃ a, aol = some a := by
                cases aol with
                | none => rw [hnl rfl] at hkl; simp at hkl
                | some a => exact ⟨a, rfl⟩
              obtain ⟨nm, hnm⟩ : ∃ nm, l[k]? = some nm := ⟨l[k], List.getElem?_eq_getElem hkl⟩
              obtain ⟨g1, g2⟩ := HCL.out al rfl k nm hnm
              have hcell : wr.cell? (al.add k) = some (.string nm) := by rw [hKr.out.cell (by rw [ChangeShapes.block_add]; exact g1) (fun h => h)]; exact g2
              have hmem : mhas D'.files nm = true := (mhas_iff _ _).2 (HP.out.mem_iff.1 (List.mem_of_getElem? hnm))
              have hstep := sum_take (fs := D'.files) hkl
              have hlek : l[k] = nm := by rw [List.getElem?_eq_getElem hkl] at hnm; exact Option.some.inj hnm
              rw [hlek, ← HN.out] at hstep
              have hle := sum_le (fs := D'.files) (l := l) (k + 1)
              rw [HSUM.out, hstep] at hle
              have HSTEP := hid hstep
              clear hlek hstep g2 hnm
              obtain ⟨bb, hbb⟩ : ∃ bb, (fileOf D'.files nm).b = bb := ⟨_, rfl⟩
              have HBB := hid hbb
              rw [hbb] at hle
              clear hbb
              go_wp2_with fail
              refine (st_read (SC.out.keep hKr.out) nm).mono ?_
              rw [up_read UB.out hmem, HBB.out]
              rintro e wd ⟨v', rfl, hF, hK⟩
              obtain ⟨aof, capf, hvf, -, -⟩ := hF.slice
              subst hvf
              have HK := hid (hKr.out.trans hK (fun _ _ h => h))
              have hwr : IntKind.i64.wrap ((N : Int) + (bb.length : Int)) = (N : Int) + (bb.length : Int) := IntWalk.i64_in _ (by omega)
              clear hF hK
              go_wp2_with fail
              exact ⟨⟨k + 1, N + bb.length, by simp, by simp, hid (by rw [HSTEP.out, HBB.out]), by omega, HK⟩, by simp [RowKit.intOf]; omega⟩
            · obtain rfl : k = l.length := by omega
              have hNT : N = T := by rw [HN.out, List.take_length, HSUM.out]
              subst hNT
              have SD := hid (SC.out.keep hKr.out)
              have hw1 : IntKind.i64.wrap ((R : Int) - (N : Int)) = (R : Int) - (N : Int) := IntWalk.i64_in _ (by omega)
              clear HSUM HN
              go_wp2_with fail
              refine (st_room SD.out).mono ?_
              rw [UB.out.room, HT.out]
              rintro e we ⟨rfl, hK⟩
              have SE := hid (SD.out.keep hK)
              clear hK
              go_wp2_with fail
              refine (st_room SE.out).mono ?_
              rw [UB.out.room, HT.out]
              rintro e wf ⟨rfl, hK⟩
              have SF := hid (SE.out.keep hK)
              clear hK
              go_wp2_with fail
              exact ⟨⟨i + 1, D', by simp, by omega, SF, UB⟩, by simp [RowKit.intOf]; omega⟩
        by_cases hm2 : m.kind.tmod 5 = 2
        · go_wp2_with fail
          rw [HWA.out]
          refine (st_shorten SA.out m.name m.n hkn).mono ?_
          rintro e wb ⟨rfl, hS, -⟩
          have hU := up_shorten HU.out m.name m.n
          obtain ⟨D', hD'⟩ : ∃ D', (shorten D m.name m.n).1 = D' := ⟨_, rfl⟩
          rw [hD'] at hS hU
          have SB := hid hS
          have UB := hid hU
          clear hS hU hD'
          go_wp2_with fail
          refine (st_names SB.out UB.out.tidy).mono ?_
          rintro e wc ⟨v, l, rfl, hP, -, hN, hK⟩
          obtain ⟨aol, capl, hv, hnl, hcl⟩ := hN
          subst hv
          have SC := hid (SB.out.keep hK)
          have HCL := hid hcl
          have HP := hid hP
          have hl100 : l.length ≤ 100 := by
            have h1 := hP.length_eq
            rw [List.length_map] at h1
            have := UB.out.tidy.1
            omega
          have hsum := sum_total SC.out.ok.nodup hP
          have hroom := SC.out.ok.room
          rw [UB.out.room] at hroom
          obtain ⟨T, hT⟩ : ∃ T, total D'.files = T := ⟨_, rfl⟩
          rw [hT] at hsum hroom
          have HT := hid hT
          have HSUM := hid hsum
          clear hK hP hcl hT hsum SB
          go_wp2_with fail
          go_loopw [9, 11] (fun nv kv wr2 => ∃ k N : Nat, kv = .int .i64 (k : Int) ∧ nv = .int .i64 (N : Int) ∧ Hid (N = sumOf D'.files (l.take k)) ∧ k ≤ l.length ∧ Hid (Keep (fun _ => False) wc wr2)) (fun _ kv _ => l.length - (RowKit.intOf kv).toNat)
          case atStart => exact ⟨0, 0, rfl, rfl, hid (by simp [sumOf]), Nat.zero_le _, hid (Keep.refl _ _)⟩
          case round =>
            obtain ⟨k, N, rfl, rfl, HN, hk, hKr⟩ := hrel
            by_cases hkl : k < l.length
            · obtain ⟨al, rfl⟩ : ∃ a, aol = some a := by
                cases aol with
                | none => rw [hnl rfl] at hkl; simp at hkl
                | some a => exact ⟨a, rfl⟩
              obtain ⟨nm, hnm⟩ : ∃ nm, l[k]? = some nm := ⟨l[k], List.getElem?_eq_getElem hkl⟩
              obtain ⟨g1, g2⟩ := HCL.out al rfl k nm hnm
              have hcell : wr.cell? (al.add k) = some (.string nm) := by rw [hKr.out.cell (by rw [ChangeShapes.block_add]; exact g1) (fun h => h)]; exact g2
              have hmem : mhas D'.files nm = true := (mhas_iff _ _).2 (HP.out.mem_iff.1 (List.mem_of_getElem? hnm))
              have hstep := sum_take (fs := D'.files) hkl
              have hlek : l[k] = nm := by rw [List.getElem?_eq_getElem hkl] at hnm; exact Option.some.inj hnm
              rw [hlek, ← HN.out] at hstep
              have hle := sum_le (fs := D'.files) (l := l) (k + 1)
              rw [HSUM.out, hstep] at hle
              have HSTEP := hid hstep
              clear hlek hstep g2 hnm
              obtain ⟨bb, hbb⟩ : ∃ bb, (fileOf D'.files nm).b = bb := ⟨_, rfl⟩
              have HBB := hid hbb
              rw [hbb] at hle
              clear hbb
              go_wp2_with fail
              refine (st_read (SC.out.keep hKr.out) nm).mono ?_
              rw [up_read UB.out hmem, HBB.out]
              rintro e wd ⟨v', rfl, hF, hK⟩
              obtain ⟨aof, capf, hvf, -, -⟩ := hF.slice
              subst hvf
              have HK := hid (hKr.out.trans hK (fun _ _ h => h))
              have hwr : IntKind.i64.wrap ((N : Int) + (bb.length : Int)) = (N : Int) + (bb.length : Int) := IntWalk.i64_in _ (by omega)
              clear hF hK
              go_wp2_with fail
              exact ⟨⟨k + 1, N + bb.length, by simp, by simp, hid (by rw [HSTEP.out, HBB.out]), by omega, HK⟩, by simp [RowKit.intOf]; omega⟩
            · obtain rfl : k = l.length := by omega
              have hNT : N = T := by rw [HN.out, List.take_length, HSUM.out]
              subst hNT
              have SD := hid (SC.out.keep hKr.out)
              have hw1 : IntKind.i64.wrap ((R : Int) - (N : Int)) = (R : Int) - (N : Int) := IntWalk.i64_in _ (by omega)
              clear HSUM HN
              go_wp2_with fail
              refine (st_room SD.out).mono ?_
              rw [UB.out.room, HT.out]
              rintro e we ⟨rfl, hK⟩
              have SE := hid (SD.out.keep hK)
              clear hK
              go_wp2_with fail
              refine (st_room SE.out).mono ?_
              rw [UB.out.room, HT.out]
              rintro e wf ⟨rfl, hK⟩
              have SF := hid (SE.out.keep hK)
              clear hK
              go_wp2_with fail
              exact ⟨⟨i + 1, D', by simp, by omega, SF, UB⟩, by simp [RowKit.intOf]; omega⟩
        go_wp2_with fail
        rw [HWA.out]
        refine (st_dappend SA.out m.name (HB.out.keep SA.out.kept (fun i hi h => by omega)) (fun i hi => .inl hi)).mono ?_
        rintro e wb ⟨rfl, hS, -⟩
        have hU := up_append HU.out m.name m.b
        obtain ⟨D', hD'⟩ : ∃ D', (append D m.name m.b).1 = D' := ⟨_, rfl⟩
        rw [hD'] at hS hU
        have SB := hid hS
        have UB := hid hU
        clear hS hU hD'
        go_wp2_with fail
        refine (st_names SB.out UB.out.tidy).mono ?_
        rintro e wc ⟨v, l, rfl, hP, -, hN, hK⟩
        obtain ⟨aol, capl, hv, hnl, hcl⟩ := hN
        subst hv
        have SC := hid (SB.out.keep hK)
        have HCL := hid hcl
        have HP := hid hP
        have hl100 : l.length ≤ 100 := by
          have h1 := hP.length_eq
          rw [List.length_map] at h1
          have := UB.out.tidy.1
          omega
        have hsum := sum_total SC.out.ok.nodup hP
        have hroom := SC.out.ok.room
        rw [UB.out.room] at hroom
        obtain ⟨T, hT⟩ : ∃ T, total D'.files = T := ⟨_, rfl⟩
        rw [hT] at hsum hroom
        have HT := hid hT
        have HSUM := hid hsum
        clear hK hP hcl hT hsum SB
        go_wp2_with fail
        go_loopw [9, 11] (fun nv kv wr2 => ∃ k N : Nat, kv = .int .i64 (k : Int) ∧ nv = .int .i64 (N : Int) ∧ Hid (N = sumOf D'.files (l.take k)) ∧ k ≤ l.length ∧ Hid (Keep (fun _ => False) wc wr2)) (fun _ kv _ => l.length - (RowKit.intOf kv).toNat)
        case atStart => exact ⟨0, 0, rfl, rfl, hid (by simp [sumOf]), Nat.zero_le _, hid (Keep.refl _ _)⟩
        case round =>
          obtain ⟨k, N, rfl, rfl, HN, hk, hKr⟩ := hrel
          by_cases hkl : k < l.length
          · obtain ⟨al, rfl⟩ : ∃ a, aol = some a := by
              cases aol with
              | none => rw [hnl rfl] at hkl; simp at hkl
              | some a => exact ⟨a, rfl⟩
            obtain ⟨nm, hnm⟩ : ∃ nm, l[k]? = some nm := ⟨l[k], List.getElem?_eq_getElem hkl⟩
            obtain ⟨g1, g2⟩ := HCL.out al rfl k nm hnm
            have hcell : wr.cell? (al.add k) = some (.string nm) := by rw [hKr.out.cell (by rw [ChangeShapes.block_add]; exact g1) (fun h => h)]; exact g2
            have hmem : mhas D'.files nm = true := (mhas_iff _ _).2 (HP.out.mem_iff.1 (List.mem_of_getElem? hnm))
            have hstep := sum_take (fs := D'.files) hkl
            have hlek : l[k] = nm := by rw [List.getElem?_eq_getElem hkl] at hnm; exact Option.some.inj hnm
            rw [hlek, ← HN.out] at hstep
            have hle := sum_le (fs := D'.files) (l := l) (k + 1)
            rw [HSUM.out, hstep] at hle
            have HSTEP := hid hstep
            clear hlek hstep g2 hnm
            obtain ⟨bb, hbb⟩ : ∃ bb, (fileOf D'.files nm).b = bb := ⟨_, rfl⟩
            have HBB := hid hbb
            rw [hbb] at hle
            clear hbb
            go_wp2_with fail
            refine (st_read (SC.out.keep hKr.out) nm).mono ?_
            rw [up_read UB.out hmem, HBB.out]
            rintro e wd ⟨v', rfl, hF, hK⟩
            obtain ⟨aof, capf, hvf, -, -⟩ := hF.slice
            subst hvf
            have HK := hid (hKr.out.trans hK (fun _ _ h => h))
            have hwr : IntKind.i64.wrap ((N : Int) + (bb.length : Int)) = (N : Int) + (bb.length : Int) := IntWalk.i64_in _ (by omega)
            clear hF hK
            go_wp2_with fail
            exact ⟨⟨k + 1, N + bb.length, by simp, by simp, hid (by rw [HSTEP.out, HBB.out]), by omega, HK⟩, by simp [RowKit.intOf]; omega⟩
          · obtain rfl : k = l.length := by omega
            have hNT : N = T := by rw [HN.out, List.take_length, HSUM.out]
            subst hNT
            have SD := hid (SC.out.keep hKr.out)
            have hw1 : IntKind.i64.wrap ((R : Int) - (N : Int)) = (R : Int) - (N : Int) := IntWalk.i64_in _ (by omega)
            clear HSUM HN
            go_wp2_with fail
            refine (st_room SD.out).mono ?_
            rw [UB.out.room, HT.out]
            rintro e we ⟨rfl, hK⟩
            have SE := hid (SD.out.keep hK)
            clear hK
            go_wp2_with fail
            refine (st_room SE.out).mono ?_
            rw [UB.out.room, HT.out]
            rintro e wf ⟨rfl, hK⟩
            have SF := hid (SE.out.keep hK)
            clear hK
            go_wp2_with fail
            exact ⟨⟨i + 1, D', by simp, by omega, SF, UB⟩, by simp [RowKit.intOf]; omega⟩
      · go_wp2_with fail
        all_goals go_ret
        all_goals exact ⟨rfl, HS.out.done⟩
    · go_wp2_with fail
      all_goals go_ret
      all_goals exact ⟨rfl, HS.out.done⟩

theorem droom_any (room : Int) (v1 : Value) (W : World) (_h0 : (Lit.int .i64 room).wf = true) (h1 : ∃ acts, Acts18 W v1 acts) :
    Calls Tryd.prog 5 #[.int .i64 room, v1] W fun e w' => e = .returned (.bool true) ∧ Below W.heap.size W w' := by
  obtain ⟨acts, h1⟩ := h1
  exact (room_row W room h1).mono fun _ _ hh => ⟨hh.1, hh.2.below (fun _ _ h => h.elim) (Nat.le_refl _)⟩

end Go.Proofs.YtlabpmmcmejpmaaDoor.Wal
