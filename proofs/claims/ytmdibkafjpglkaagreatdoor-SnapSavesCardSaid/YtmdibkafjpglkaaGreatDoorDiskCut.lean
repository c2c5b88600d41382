/- d.operate where the power goes off. -/
import Derived.Test.YtmdibkafjpglkaaGreatDoorDiskOperate
namespace Go.Proofs.YtmdibkafjpglkaaGreatDoor.Dsk
open Go Go.RowKit Go.Lib

/-- The blocks that a disk hangs on are there. -/
theorem DiskAt.here {w : World} {db mr : Nat} {gs : ByteArray → Nat} {cv : Value} {D : DiskM} {F : Nat → Prop} (h : DiskAt w db mr gs cv D F) : DiskAt w db mr gs cv D (fun i => F i ∧ i < w.heap.size) := by
  refine ⟨h.disk, h.map, ?_, ?_, h.inj, h.ok, ⟨h.fdb, lt_of_block h.disk⟩, ⟨h.fmr, lt_of_block h.map.choose_spec.choose_spec.block⟩⟩
  · have := h.cut
    rcases hc : D.cut with _ | ⟨o, p, q⟩
    · rw [hc] at this; exact this
    · rw [hc] at this
      obtain ⟨g, h1, h2, h3, h4⟩ := this
      exact ⟨g, h1, h2, ⟨h3, lt_of_block h2⟩, h4⟩
  · intro p hp
    obtain ⟨v, h1, h2, h3⟩ := h.files p hp
    refine ⟨v, h1, ?_, h3, lt_of_block h1⟩
    obtain ⟨ao, cap, hv, r1, r2, r3⟩ := h2
    refine ⟨ao, cap, hv, r1, r2, ?_⟩
    rcases r3 with r3 | ⟨g, cs, fr, e, hg, q1, q2, hf⟩
    · exact .inl r3
    · exact .inr ⟨g, cs, fr, e, hg, q1, q2, hf, lt_of_block hg⟩

theorem ptrs_keys (gs : ByteArray → Nat) (fs : Files) : (ptrs gs fs).map (·.1) = fs.map (·.1) := by unfold ptrs; rw [List.map_map]; rfl

/-- One file, when the power goes off. -/
theorem DiskAt.fallOne {w : World} {db mr : Nat} {gs : ByteArray → Nat} {cv : Value} {D : DiskM} {F : Nat → Prop} {keep : Nat} {T : List ByteArray} {fs : Files} (h : DiskAt w db mr gs cv { D with files := partF keep T fs } F)
    (hd : (fs.map (·.1)).Nodup) (n : ByteArray) (hn : n ∈ T) (hh : mhas fs n = true) {ao : Option Addr} {cap : Nat}
    (hblk : w.heap[gs n]? = some (.cells #[.slice ao (fileOf fs n).b.length cap, .int .i64 ((fileOf fs n).sure : Int)] 65 (0, 0))) (hfb : FB w (.slice ao (fileOf fs n).b.length cap) (fileOf fs n).b F) :
    DiskAt ((w.setCell ⟨gs n, 0, none⟩ (.slice ao (leftOf keep (fileOf fs n)) cap)).setCell ⟨gs n, 1, none⟩ (.int .i64 (leftOf keep (fileOf fs n) : Int))) db mr gs cv { D with files := partF keep (T.filter (fun m => decide (m ≠ n))) fs } F ∧
    (w.setCell ⟨gs n, 0, none⟩ (.slice ao (leftOf keep (fileOf fs n)) cap)).heap[gs n]? = some (.cells #[.slice ao (leftOf keep (fileOf fs n)) cap, .int .i64 ((fileOf fs n).sure : Int)] 65 (0, 0)) := by
  have hh' : mhas (partF keep T fs) n = true := by rw [mhas_partF]; exact hh
  have hf' : fileOf (partF keep T fs) n = fileOf fs n := fileOf_partF keep T fs n hn
  have hsure : (fileOf fs n).sure ≤ (fileOf fs n).b.length := by rw [← hf']; exact h.ok.fileOf_sure n
  have hl : leftOf keep (fileOf fs n) ≤ (fileOf fs n).b.length := by unfold leftOf; omega
  have hl2 : (fileOf fs n).sure ≤ leftOf keep (fileOf fs n) := by unfold leftOf; omega
  have hroom := h.ok.room
  have hfb2 := hfb.first (leftOf keep (fileOf fs n)) hl
  have hlt : ((fileOf fs n).b.take (leftOf keep (fileOf fs n))).length = leftOf keep (fileOf fs n) := by rw [List.length_take]; omega
  have h1 := h.write hh' 0 (.slice ao (leftOf keep (fileOf fs n)) cap) ⟨(fileOf fs n).b.take (leftOf keep (fileOf fs n)), (fileOf fs n).sure⟩ (by simp only [hf']; exact hblk) ⟨_, by simp only [hf']; rfl, hfb2⟩
    (ok_mput h.ok _ _ (by simp only [hlt]; exact hl2) (by simp only [hf', hlt]; simp only at hroom; omega))
  have hb1 : (w.setCell ⟨gs n, 0, none⟩ (.slice ao (leftOf keep (fileOf fs n)) cap)).heap[gs n]? = some (.cells #[.slice ao (leftOf keep (fileOf fs n)) cap, .int .i64 ((fileOf fs n).sure : Int)] 65 (0, 0)) := by
    rw [heap_setCell_self hblk]; rfl
  have hfb3 : FB (w.setCell ⟨gs n, 0, none⟩ (.slice ao (leftOf keep (fileOf fs n)) cap)) (.slice ao (leftOf keep (fileOf fs n)) cap) ((fileOf fs n).b.take (leftOf keep (fileOf fs n))) F :=
    hfb2.other (notOf_cells hblk (by decide)) (fun k hk => by rw [Below.heap_setCell _ _ _ _ hk])
  have h2 := h1.write (mhas_mput _ _ _) 1 (.int .i64 (leftOf keep (fileOf fs n) : Int)) ⟨(fileOf fs n).b.take (leftOf keep (fileOf fs n)), leftOf keep (fileOf fs n)⟩ (v := .slice ao (leftOf keep (fileOf fs n)) cap) (by simp only [fileOf_mput]; exact hb1)
    ⟨_, by simp only [fileOf_mput]; rfl, hfb3⟩ (ok_mput h1.ok _ _ (by simp only [hlt]; exact Nat.le_refl _) (by
      have := h1.ok.room
      simp only [fileOf_mput, hlt] at this ⊢; omega))
  refine ⟨?_, hb1⟩
  rw [← partF_step keep T fs hd n hh]
  have he : fallF keep (fileOf fs n) = ⟨(fileOf fs n).b.take (leftOf keep (fileOf fs n)), leftOf keep (fileOf fs n)⟩ := rfl
  rw [he, ← mput_mput (partF keep T fs) n ⟨(fileOf fs n).b.take (leftOf keep (fileOf fs n)), (fileOf fs n).sure⟩]
  exact h2

theorem iterIs_blocks {w w' : World} {it r : Nat} {m : List (ByteArray × Value)} {es : Array MapEntry} {clock : Nat} {seen : Array Nat} (h : IterIs w it r Value.string m es clock seen) (h1 : w'.heap[it]? = w.heap[it]?) (h2 : w'.heap[r]? = w.heap[r]?) : IterIs w' it r Value.string m es clock seen :=
  ⟨h1.trans h.iter, mapIs_block h.map h2⟩

set_option maxRecDepth 100000 in
set_option maxHeartbeats 8000000 in
/-- The power goes off at this operation. -/
theorem operate_cut (w : World) {db mr : Nat} {gs : ByteArray → Nat} {cv : Value} {D : DiskM} {F G : Nat → Prop} (h : DiskAt w db mr gs cv D F) (e : Int) (fn : FuncId) (caps : List Value) (doP : Nat → Files → Files)
    (hen : ∀ (args : Array Value) (w : World), (callFunc fn args).run Tryz.prog w = .ok (.enter fn args) w) (hdo : e = 0 → DoesPart w db mr gs D F G fn caps doP) {p k : Nat} (hc : D.cut = some (0, p, k)) :
    Calls Tryz.prog 29 #[ptr db, .int .i64 e, .func (.func fn) #[] caps.toArray] w (Operated w db F G (operate D e doP)) := by
  have hcut := h.cut
  rw [hc] at hcut
  obtain ⟨g, rfl, hblk, hF, -, hp63, -⟩ := hcut
  have h3 := h.c3
  have g0 : w.cell? ⟨g, 0, none⟩ = some (.int .i64 0) := by rw [cell_at hblk]; rfl
  have g1 : w.cell? ⟨g, 1, none⟩ = some (.int .i64 (p : Int)) := by rw [cell_at hblk]; rfl
  have hop : operate D e doP = ({ D with off := true, cut := none, files := fallP k (if e = 0 then doP (min p (whole - 1)) D.files else D.files) }, 71) := by unfold operate; rw [hc]
  rw [hop]
  unfold ptr at *
  by_cases he : e = 0
  · have hd := hdo he (min p (whole - 1)) w (ptr g) D (by omega) rfl rfl h (Keep.refl _ _)
    have hd' := calls_list hd (args' := (.int .i64 (min (p : Int) 4611686018427387903) :: caps).toArray) (by
      have : ((min p (whole - 1) : Nat) : Int) = min (p : Int) 4611686018427387903 := by unfold whole; omega
      rw [this]; simp)
    have HD := hid hd'
    clear hd hd' hdo
    subst he
    rw [if_pos rfl]
    obtain ⟨F1, hF1d⟩ : ∃ F1 : Nat → Prop, F1 = fun i => F i ∨ w.heap.size ≤ i := ⟨_, rfl⟩
    obtain ⟨D1, hD1d⟩ : ∃ D1 : DiskM, D1 = { D with files := doP (min p (whole - 1)) D.files } := ⟨_, rfl⟩
    unfold ptr at HD
    go_enter Tryz.func29, Tryz.ntmps29
    go_wp2_with fail
    refine HD.out.mono ?_
    rintro e' w1 ⟨rfl, gs1, hD', hK'⟩
    have hX : DiskAt w1 db mr gs1 (ptr g) { D1 with cut := some (0, p, k) } F1 := by rw [hF1d, hD1d, ← hc]; exact hD'
    have HK' := hid hK'
    clear hD' hK' HD h h3 g0 g1 hblk
    -- the power goes off behind what was done in part
    have HX := hid hX
    have hXc := hX.cut
    obtain ⟨g', hg', hgb, hgF, -, -, hk63⟩ := hXc
    obtain rfl : g = g' := ptr_inj hg'
    have hP1 := hX.poke 2 (.bool true) { D1 with off := true, cut := some (0, p, k) } (ptr g) rfl rfl rfl hX.cut
    have hP2 := hP1.poke 3 (.pointer none) { D1 with off := true, cut := none } (.pointer none) rfl rfl rfl rfl
    have x2 := hX.c2
    have x3 := hX.c3
    have x1 := hX.c1
    have xf2 : w1.frozen? ⟨db, 2, none⟩ = false := frozen_at hX.disk 2
    have xf3 : w1.frozen? ⟨db, 3, none⟩ = false := frozen_at hX.disk 3
    have hgdb : db ≠ g := fun e => notOf_cells hgb (by decide) _ _ (e ▸ hX.disk)
    have hKY : Keep (fun i => i = db) w1 ((w1.setCell ⟨db, 2, none⟩ (.bool true)).setCell ⟨db, 3, none⟩ (.pointer none)) := ((Keep.refl (fun i => i = db) w1).setCell (p := ⟨db, 2, none⟩) (fun _ => rfl) _).setCell (p := ⟨db, 3, none⟩) (fun _ => rfl) _
    have hgb2 := hKY.at hgb (Ne.symm hgdb)
    have y1 := hP2.c1
    obtain ⟨es, clock, hm⟩ := hP2.map
    obtain ⟨hr, hit⟩ := run_range_map (P := Tryz.prog) 52 61 under_map hm
    have hlen : es.toList.length = (ptrs gs1 D1.files).length := by have := congrArg List.length hm.vals; simpa using this
    have hmlt := lt_of_block hm.block
    have hglt := lt_of_block hgb2
    have hdblt := lt_of_block hP2.disk
    have hszY : ((w1.setCell ⟨db, 2, none⟩ (.bool true)).setCell ⟨db, 3, none⟩ (.pointer none)).heap.size = w1.heap.size := by simp [World.setCell]
    have hP3 := (hP2.here).keep ((Keep.refl (fun _ => False) _).alloc (.mapIter (some mr) clock #[] clock)) (fun _ _ h => h)
    have hgb3 := ((Keep.refl (fun _ => False) _).alloc (.mapIter (some mr) clock #[] clock)).at hgb2 (by simp)
    have hK3 : Keep F1 w1 (((w1.setCell ⟨db, 2, none⟩ (.bool true)).setCell ⟨db, 3, none⟩ (.pointer none)).alloc (.mapIter (some mr) clock #[] clock)) := (hKY.mono (fun i _ hi => hi ▸ hX.fdb)).alloc _
    rw [hszY] at hr hit hP3 hmlt hglt hdblt
    have HIT := hid hit
    have HP3 := hid hP3
    have HG3 := hid hgb3
    have HK3 := hid hK3
    have hok := hid hX.ok
    clear hit hP3 hgb3 hK3 hgb2 hgb hP2 hP1 hX hm hKY hszY
    unfold ptr at *
    go_wp2_with fail
    go_loopw [9] (fun _ wr => ∃ seen, Hid (IterIs wr w1.heap.size mr Value.string (ptrs gs1 D1.files) es clock seen) ∧
        (Hid (DiskAt wr db mr gs1 (.pointer none) { D1 with off := true, cut := none, files := partF k ((todoOf (ptrs gs1 D1.files) es.toList seen).map (·.1)) D1.files } (fun i => F1 i ∧ i < w1.heap.size)) ∧
        (Hid (wr.heap[g]? = some (.cells #[.int .i64 ((0 : Nat) : Int), .int .i64 (p : Int), .int .i64 (k : Int)] 73 (0, 0))) ∧ Hid (Keep F1 w1 wr)))) (fun _ wr => itLeft (ptrs gs1 D1.files) es w1.heap.size wr)
    case atStart =>
      exact ⟨#[], HIT.out, (by
        show DiskAt _ _ _ _ _ _ _
        rw [todoOf_start _ _ hlen, ptrs_keys, partF_all]
        exact HP3.out), HG3.out, HK3.out⟩
    case round =>
      rename_i wr
      obtain ⟨seen, hI, hD, hG, hK⟩ := hrel
      rcases run_next_map (P := Tryz.prog) hI.out (by omega) 0 with ⟨hnil, hrun⟩ | ⟨q, en, w2, hrun, hst⟩
      · have hDn : Hid (DiskAt wr db mr gs1 (.pointer none) { D1 with off := true, cut := none, files := fallP k D1.files } (fun i => F1 i ∧ i < w1.heap.size)) := by
          have := hD.out
          rw [hnil] at this
          simp only [List.map_nil, partF_none] at this
          exact this
        clear hD
        go_wp2_with fail
        go_ret
        subst hF1d
        subst hD1d
        exact ⟨rfl, ⟨_, _, _, hDn.out.mono fun i hi => hi.1⟩, HK'.out.trans hK.out (fun i hi hf => hf.elim .inl (fun h => by omega))⟩
      · obtain ⟨hh, hv⟩ := mem_ptrs ((todoOf_sub _ _ _).mem hst.mem)
        have hnT : q.1 ∈ (todoOf (ptrs gs1 D1.files) es.toList seen).map (·.1) := List.mem_map_of_mem (f := (·.1)) hst.mem
        have hD2 := hD.out.keep hst.keep (fun i hi e => by have := hi.2; omega)
        obtain ⟨v, hb, hfb, -⟩ := hD2.file (n := q.1) (by simp only [mhas_partF]; exact hh)
        simp only [fileOf_partF k _ D1.files q.1 hnT] at hb hfb
        have hsure : (fileOf D1.files q.1).sure ≤ (fileOf D1.files q.1).b.length := hok.out.fileOf_sure q.1
        have hroom := hok.out.room
        have hsmall := hok.out.small
        have hbl : (fileOf D1.files q.1).b.length ≤ 2147483648 := by
          obtain ⟨f, hf⟩ := Option.isSome_iff_exists.1 (show (mget D1.files q.1).isSome = true from hh)
          have := total_mem (mget_mem hf)
          unfold fileOf; rw [hf]; simp only [Option.getD_some] at *; omega
        obtain ⟨ao, cap, hv2, hcap, hmax⟩ := hfb.slice
        subst hv2
        have hgi : gs1 q.1 < w1.heap.size := by
          obtain ⟨_, _, _, h3⟩ := hD2.file (n := q.1) (by simp only [mhas_partF]; exact hh)
          exact h3.2
        have hb2 := hst.keep.at hG.out (by omega)
        have hgq : gs1 q.1 ≠ g := fun e => notOf_cells hb2 (by decide) _ _ (e ▸ hb)
        have c0 : w2.cell? ⟨gs1 q.1, 0, none⟩ = some (.slice ao (fileOf D1.files q.1).b.length cap) := by rw [cell_at hb]; rfl
        have c1 : w2.cell? ⟨gs1 q.1, 1, none⟩ = some (.int .i64 (fileOf D1.files q.1).sure) := by rw [cell_at hb]; rfl
        have f0 : w2.frozen? ⟨gs1 q.1, 0, none⟩ = false := frozen_at hb 0
        have gk : w2.cell? ⟨g, 2, none⟩ = some (.int .i64 (k : Int)) := by rw [cell_at hb2]; rfl
        have hE := hst.entry
        rw [hv] at hE
        obtain ⟨hF1, hF2⟩ := DiskAt.fallOne (w := w2) (fs := D1.files) (D := { D1 with off := true, cut := none }) (keep := k) (T := (todoOf (ptrs gs1 D1.files) es.toList seen).map (·.1)) hD2 hok.out.nodup q.1 hnT hh (ao := ao) (cap := cap) hb hfb
        have HF1 := hid hF1
        have HB := hid hb
        have u0 : (w2.setCell ⟨gs1 q.1, 0, none⟩ (.slice ao (leftOf k (fileOf D1.files q.1)) cap)).cell? ⟨gs1 q.1, 0, none⟩ = some (.slice ao (leftOf k (fileOf D1.files q.1)) cap) := by rw [cell_at hF2]; rfl
        have u1 : (w2.setCell ⟨gs1 q.1, 0, none⟩ (.slice ao (leftOf k (fileOf D1.files q.1)) cap)).cell? ⟨gs1 q.1, 1, none⟩ = some (.int .i64 (fileOf D1.files q.1).sure) := by rw [cell_at hF2]; rfl
        have uf1 : (w2.setCell ⟨gs1 q.1, 0, none⟩ (.slice ao (leftOf k (fileOf D1.files q.1)) cap)).frozen? ⟨gs1 q.1, 1, none⟩ = false := frozen_at hF2 1
        have hleft : min ((fileOf D1.files q.1).b.length : Int) (((fileOf D1.files q.1).sure : Int) + min (k : Int) (((fileOf D1.files q.1).b.length : Int) - ((fileOf D1.files q.1).sure : Int))) = (leftOf k (fileOf D1.files q.1) : Int) := by unfold leftOf; omega
        have hll : leftOf k (fileOf D1.files q.1) ≤ (fileOf D1.files q.1).b.length := by unfold leftOf; omega
        have HN := hid hst
        have hsum := sumOf_filter (fun _ => 0) (todoOf (ptrs gs1 D1.files) es.toList seen) (nodup_sub (todoOf_sub _ _ _) (by rw [ptrs_keys]; exact hok.out.nodup)) q hst.mem
        rw [← hst.todo] at hsum
        have HS := hid hsum
        have HB2 := hid hb2
        have hKs : Keep (fun i => F1 i) w2 ((w2.setCell ⟨gs1 q.1, 0, none⟩ (.slice ao (leftOf k (fileOf D1.files q.1)) cap)).setCell ⟨gs1 q.1, 1, none⟩ (.int .i64 (leftOf k (fileOf D1.files q.1) : Int))) := by
          have hFg : F1 (gs1 q.1) := by obtain ⟨_, _, _, h3⟩ := hD2.file (n := q.1) (by simp only [mhas_partF]; exact hh); exact h3.1
          exact ((Keep.refl F1 w2).setCell (p := ⟨gs1 q.1, 0, none⟩) (fun _ => hFg) _).setCell (p := ⟨gs1 q.1, 1, none⟩) (fun _ => hFg) _
        have HKs := hid hKs
        have hOther : ∀ x, x ≠ gs1 q.1 → ((w2.setCell ⟨gs1 q.1, 0, none⟩ (.slice ao (leftOf k (fileOf D1.files q.1)) cap)).setCell ⟨gs1 q.1, 1, none⟩ (.int .i64 (leftOf k (fileOf D1.files q.1) : Int))).heap[x]? = w2.heap[x]? := fun x hx => by
          rw [Below.heap_setCell _ _ _ _ hx, Below.heap_setCell _ _ _ _ hx]
        have HO := hid hOther
        generalize hlen0 : (fileOf D1.files q.1).b.length = ln at *
        generalize hsure0 : (fileOf D1.files q.1).sure = sn at *
        generalize hleft0 : leftOf k (fileOf D1.files q.1) = lf at *
        have hwr1 : IntKind.i64.wrap ((ln : Int) - (sn : Int)) = (ln : Int) - (sn : Int) := IntWalk.i64_in _ (by omega)
        have hwr2 : IntKind.i64.wrap ((sn : Int) + min (k : Int) ((ln : Int) - (sn : Int))) = (sn : Int) + min (k : Int) ((ln : Int) - (sn : Int)) := IntWalk.i64_in _ (by omega)
        have hlc : (lf : Int) ≤ (cap : Int) := by omega
        have hlc2 : lf ≤ cap := by omega
        clear hst hF1 hF2 hb hfb hsum hb2 hKs hOther hD2 hv
        unfold ptr at hE
        go_wp2_with fail
        refine wp_region_heldz 32 34 3 (fun w' => w'.cell? ⟨gs1 q.1, 0, none⟩ = some (.slice ao ln cap) ∧ (w'.cell? ⟨gs1 q.1, 1, none⟩ = some (.int .i64 (sn : Int)) ∧ w'.cell? ⟨g, 2, none⟩ = some (.int .i64 (k : Int))))
          (by kernel_rfl) (by kernel_rfl) (by kernel_rfl) ⟨c0, c1, gk⟩ (fun d _ _ _ _ h => by cases d <;> exact h) ?_
        simp only [List.take_succ_cons, List.take_zero]
        refine held_step rfl (fun w' hSw => by (obtain ⟨s1, s2, s3⟩ := hSw; go_simp; with_reducible rfl)) ?_
        simp only [Act.put, List.setIfInBounds_toArray, List.set_cons_zero, List.set_cons_succ]
        repeat (refine held_step rfl (fun w' hSw => by (obtain ⟨s1, s2, s3⟩ := hSw; go_simp; with_reducible rfl)) ?_; simp only [Act.put, List.setIfInBounds_toArray, List.set_cons_zero, List.set_cons_succ])
        refine held_nil ?_
        refine anyZ_read (j := 32) (by kernel_rfl) rfl rfl ⟨c0, c1, gk⟩ (by go_simp; with_reducible rfl) ?_
        refine anyZ_read (j := 33) (by kernel_rfl) rfl rfl ⟨c0, c1, gk⟩ (by go_simp; with_reducible rfl) ?_
        refine anyZ_last (by kernel_rfl) rfl rfl (by kernel_rfl) ?_
        go_simp
        go_wp2_with fail
        have HI2 : Hid (IterIs ((w2.setCell ⟨gs1 q.1, 0, none⟩ (.slice ao lf cap)).setCell ⟨gs1 q.1, 1, none⟩ (.int .i64 (lf : Int))).drew w1.heap.size mr Value.string (ptrs gs1 D1.files) es clock (seen.push en.born)) :=
          iterIs_blocks HN.out.iter (HO.out _ (by omega)) (HO.out _ (fun e => notOf_map (U := 65) HN.out.iter.map.block _ _ (e ▸ HB.out)))
        go_roundw
        case rel => exact ⟨seen.push en.born, HI2, (by
          show DiskAt _ _ _ _ _ _ _
          have h1 := HF1.out.keep ((Keep.refl (fun _ => False) _).drew) (fun _ _ h => h)
          have h2 : (todoOf (ptrs gs1 D1.files) es.toList (seen.push en.born)).map (·.1) = ((todoOf (ptrs gs1 D1.files) es.toList seen).map (·.1)).filter (fun m => decide (m ≠ q.1)) := by
            rw [HN.out.todo, List.filter_map]; rfl
          rw [h2]
          exact h1), (HO.out _ (Ne.symm hgq)).trans HB2.out, ((hK.out.trans HN.out.keep (fun i hi e => by omega)).trans HKs.out (fun _ _ h => h)).drew⟩
        case measure => rw [itLeft_is HI2.out, itLeft_is hI.out]; have := HS.out.2; omega
  · rw [if_neg he]
    go_enter Tryz.func29, Tryz.ntmps29
    have hX : DiskAt w db mr gs (ptr g) { D with cut := some (0, p, k) } F := by rw [← hc]; exact h
    clear h
    -- the power goes off in world w
    have HX := hid hX
    have hXc := hX.cut
    obtain ⟨g', hg', hgb, hgF, -, -, hk63⟩ := hXc
    obtain rfl : g = g' := ptr_inj hg'
    have hP1 := hX.poke 2 (.bool true) { D with off := true, cut := some (0, p, k) } (ptr g) rfl rfl rfl hX.cut
    have hP2 := hP1.poke 3 (.pointer none) { D with off := true, cut := none } (.pointer none) rfl rfl rfl rfl
    have x2 := hX.c2
    have x3 := hX.c3
    have x1 := hX.c1
    have xf2 : w.frozen? ⟨db, 2, none⟩ = false := frozen_at hX.disk 2
    have xf3 : w.frozen? ⟨db, 3, none⟩ = false := frozen_at hX.disk 3
    have hgdb : db ≠ g := fun e => notOf_cells hgb (by decide) _ _ (e ▸ hX.disk)
    have hKY : Keep (fun i => i = db) w ((w.setCell ⟨db, 2, none⟩ (.bool true)).setCell ⟨db, 3, none⟩ (.pointer none)) := ((Keep.refl (fun i => i = db) w).setCell (p := ⟨db, 2, none⟩) (fun _ => rfl) _).setCell (p := ⟨db, 3, none⟩) (fun _ => rfl) _
    have hgb2 := hKY.at hgb (Ne.symm hgdb)
    have y1 := hP2.c1
    obtain ⟨es, clock, hm⟩ := hP2.map
    obtain ⟨hr, hit⟩ := run_range_map (P := Tryz.prog) 52 61 under_map hm
    have hlen : es.toList.length = (ptrs gs D.files).length := by have := congrArg List.length hm.vals; simpa using this
    have hmlt := lt_of_block hm.block
    have hglt := lt_of_block hgb2
    have hdblt := lt_of_block hP2.disk
    have hszY : ((w.setCell ⟨db, 2, none⟩ (.bool true)).setCell ⟨db, 3, none⟩ (.pointer none)).heap.size = w.heap.size := by simp [World.setCell]
    have hP3 := (hP2.here).keep ((Keep.refl (fun _ => False) _).alloc (.mapIter (some mr) clock #[] clock)) (fun _ _ h => h)
    have hgb3 := ((Keep.refl (fun _ => False) _).alloc (.mapIter (some mr) clock #[] clock)).at hgb2 (by simp)
    have hK3 : Keep F w (((w.setCell ⟨db, 2, none⟩ (.bool true)).setCell ⟨db, 3, none⟩ (.pointer none)).alloc (.mapIter (some mr) clock #[] clock)) := (hKY.mono (fun i _ hi => hi ▸ hX.fdb)).alloc _
    rw [hszY] at hr hit hP3 hmlt hglt hdblt
    have HIT := hid hit
    have HP3 := hid hP3
    have HG3 := hid hgb3
    have HK3 := hid hK3
    have hok := hid hX.ok
    clear hit hP3 hgb3 hK3 hgb2 hgb hP2 hP1 hX hm hKY hszY
    unfold ptr at *
    go_wp2_with fail
    go_loopw [9] (fun _ wr => ∃ seen, Hid (IterIs wr w.heap.size mr Value.string (ptrs gs D.files) es clock seen) ∧
        (Hid (DiskAt wr db mr gs (.pointer none) { D with off := true, cut := none, files := partF k ((todoOf (ptrs gs D.files) es.toList seen).map (·.1)) D.files } (fun i => F i ∧ i < w.heap.size)) ∧
        (Hid (wr.heap[g]? = some (.cells #[.int .i64 ((0 : Nat) : Int), .int .i64 (p : Int), .int .i64 (k : Int)] 73 (0, 0))) ∧ Hid (Keep F w wr)))) (fun _ wr => itLeft (ptrs gs D.files) es w.heap.size wr)
    case atStart =>
      exact ⟨#[], HIT.out, (by
        show DiskAt _ _ _ _ _ _ _
        rw [todoOf_start _ _ hlen, ptrs_keys, partF_all]
        exact HP3.out), HG3.out, HK3.out⟩
    case round =>
      rename_i wr
      obtain ⟨seen, hI, hD, hG, hK⟩ := hrel
      rcases run_next_map (P := Tryz.prog) hI.out (by omega) 0 with ⟨hnil, hrun⟩ | ⟨q, en, w2, hrun, hst⟩
      · have hDn : Hid (DiskAt wr db mr gs (.pointer none) { D with off := true, cut := none, files := fallP k D.files } (fun i => F i ∧ i < w.heap.size)) := by
          have := hD.out
          rw [hnil] at this
          simp only [List.map_nil, partF_none] at this
          exact this
        clear hD
        go_wp2_with fail
        go_ret
        exact ⟨rfl, ⟨_, _, _, hDn.out.mono fun i hi => .inl hi.1⟩, hK.out.mono fun i _ hi => .inl hi⟩
      · obtain ⟨hh, hv⟩ := mem_ptrs ((todoOf_sub _ _ _).mem hst.mem)
        have hnT : q.1 ∈ (todoOf (ptrs gs D.files) es.toList seen).map (·.1) := List.mem_map_of_mem (f := (·.1)) hst.mem
        have hD2 := hD.out.keep hst.keep (fun i hi e => by have := hi.2; omega)
        obtain ⟨v, hb, hfb, -⟩ := hD2.file (n := q.1) (by simp only [mhas_partF]; exact hh)
        simp only [fileOf_partF k _ D.files q.1 hnT] at hb hfb
        have hsure : (fileOf D.files q.1).sure ≤ (fileOf D.files q.1).b.length := hok.out.fileOf_sure q.1
        have hroom := hok.out.room
        have hsmall := hok.out.small
        have hbl : (fileOf D.files q.1).b.length ≤ 2147483648 := by
          obtain ⟨f, hf⟩ := Option.isSome_iff_exists.1 (show (mget D.files q.1).isSome = true from hh)
          have := total_mem (mget_mem hf)
          unfold fileOf; rw [hf]; simp only [Option.getD_some] at *; omega
        obtain ⟨ao, cap, hv2, hcap, hmax⟩ := hfb.slice
        subst hv2
        have hgi : gs q.1 < w.heap.size := by
          obtain ⟨_, _, _, h3⟩ := hD2.file (n := q.1) (by simp only [mhas_partF]; exact hh)
          exact h3.2
        have hb2 := hst.keep.at hG.out (by omega)
        have hgq : gs q.1 ≠ g := fun e => notOf_cells hb2 (by decide) _ _ (e ▸ hb)
        have c0 : w2.cell? ⟨gs q.1, 0, none⟩ = some (.slice ao (fileOf D.files q.1).b.length cap) := by rw [cell_at hb]; rfl
        have c1 : w2.cell? ⟨gs q.1, 1, none⟩ = some (.int .i64 (fileOf D.files q.1).sure) := by rw [cell_at hb]; rfl
        have f0 : w2.frozen? ⟨gs q.1, 0, none⟩ = false := frozen_at hb 0
        have gk : w2.cell? ⟨g, 2, none⟩ = some (.int .i64 (k : Int)) := by rw [cell_at hb2]; rfl
        have hE := hst.entry
        rw [hv] at hE
        obtain ⟨hF1, hF2⟩ := DiskAt.fallOne (w := w2) (fs := D.files) (D := { D with off := true, cut := none }) (keep := k) (T := (todoOf (ptrs gs D.files) es.toList seen).map (·.1)) hD2 hok.out.nodup q.1 hnT hh (ao := ao) (cap := cap) hb hfb
        have HF1 := hid hF1
        have HB := hid hb
        have u0 : (w2.setCell ⟨gs q.1, 0, none⟩ (.slice ao (leftOf k (fileOf D.files q.1)) cap)).cell? ⟨gs q.1, 0, none⟩ = some (.slice ao (leftOf k (fileOf D.files q.1)) cap) := by rw [cell_at hF2]; rfl
        have u1 : (w2.setCell ⟨gs q.1, 0, none⟩ (.slice ao (leftOf k (fileOf D.files q.1)) cap)).cell? ⟨gs q.1, 1, none⟩ = some (.int .i64 (fileOf D.files q.1).sure) := by rw [cell_at hF2]; rfl
        have uf1 : (w2.setCell ⟨gs q.1, 0, none⟩ (.slice ao (leftOf k (fileOf D.files q.1)) cap)).frozen? ⟨gs q.1, 1, none⟩ = false := frozen_at hF2 1
        have hleft : min ((fileOf D.files q.1).b.length : Int) (((fileOf D.files q.1).sure : Int) + min (k : Int) (((fileOf D.files q.1).b.length : Int) - ((fileOf D.files q.1).sure : Int))) = (leftOf k (fileOf D.files q.1) : Int) := by unfold leftOf; omega
        have hll : leftOf k (fileOf D.files q.1) ≤ (fileOf D.files q.1).b.length := by unfold leftOf; omega
        have HN := hid hst
        have hsum := sumOf_filter (fun _ => 0) (todoOf (ptrs gs D.files) es.toList seen) (nodup_sub (todoOf_sub _ _ _) (by rw [ptrs_keys]; exact hok.out.nodup)) q hst.mem
        rw [← hst.todo] at hsum
        have HS := hid hsum
        have HB2 := hid hb2
        have hKs : Keep (fun i => F i) w2 ((w2.setCell ⟨gs q.1, 0, none⟩ (.slice ao (leftOf k (fileOf D.files q.1)) cap)).setCell ⟨gs q.1, 1, none⟩ (.int .i64 (leftOf k (fileOf D.files q.1) : Int))) := by
          have hFg : F (gs q.1) := by obtain ⟨_, _, _, h3⟩ := hD2.file (n := q.1) (by simp only [mhas_partF]; exact hh); exact h3.1
          exact ((Keep.refl F w2).setCell (p := ⟨gs q.1, 0, none⟩) (fun _ => hFg) _).setCell (p := ⟨gs q.1, 1, none⟩) (fun _ => hFg) _
        have HKs := hid hKs
        have hOther : ∀ x, x ≠ gs q.1 → ((w2.setCell ⟨gs q.1, 0, none⟩ (.slice ao (leftOf k (fileOf D.files q.1)) cap)).setCell ⟨gs q.1, 1, none⟩ (.int .i64 (leftOf k (fileOf D.files q.1) : Int))).heap[x]? = w2.heap[x]? := fun x hx => by
          rw [Below.heap_setCell _ _ _ _ hx, Below.heap_setCell _ _ _ _ hx]
        have HO := hid hOther
        generalize hlen0 : (fileOf D.files q.1).b.length = ln at *
        generalize hsure0 : (fileOf D.files q.1).sure = sn at *
        generalize hleft0 : leftOf k (fileOf D.files q.1) = lf at *
        have hwr1 : IntKind.i64.wrap ((ln : Int) - (sn : Int)) = (ln : Int) - (sn : Int) := IntWalk.i64_in _ (by omega)
        have hwr2 : IntKind.i64.wrap ((sn : Int) + min (k : Int) ((ln : Int) - (sn : Int))) = (sn : Int) + min (k : Int) ((ln : Int) - (sn : Int)) := IntWalk.i64_in _ (by omega)
        have hlc : (lf : Int) ≤ (cap : Int) := by omega
        have hlc2 : lf ≤ cap := by omega
        clear hst hF1 hF2 hb hfb hsum hb2 hKs hOther hD2 hv
        unfold ptr at hE
        go_wp2_with fail
        refine wp_region_heldz 32 34 3 (fun w' => w'.cell? ⟨gs q.1, 0, none⟩ = some (.slice ao ln cap) ∧ (w'.cell? ⟨gs q.1, 1, none⟩ = some (.int .i64 (sn : Int)) ∧ w'.cell? ⟨g, 2, none⟩ = some (.int .i64 (k : Int))))
          (by kernel_rfl) (by kernel_rfl) (by kernel_rfl) ⟨c0, c1, gk⟩ (fun d _ _ _ _ h => by cases d <;> exact h) ?_
        simp only [List.take_succ_cons, List.take_zero]
        refine held_step rfl (fun w' hSw => by (obtain ⟨s1, s2, s3⟩ := hSw; go_simp; with_reducible rfl)) ?_
        simp only [Act.put, List.setIfInBounds_toArray, List.set_cons_zero, List.set_cons_succ]
        repeat (refine held_step rfl (fun w' hSw => by (obtain ⟨s1, s2, s3⟩ := hSw; go_simp; with_reducible rfl)) ?_; simp only [Act.put, List.setIfInBounds_toArray, List.set_cons_zero, List.set_cons_succ])
        refine held_nil ?_
        refine anyZ_read (j := 32) (by kernel_rfl) rfl rfl ⟨c0, c1, gk⟩ (by go_simp; with_reducible rfl) ?_
        refine anyZ_read (j := 33) (by kernel_rfl) rfl rfl ⟨c0, c1, gk⟩ (by go_simp; with_reducible rfl) ?_
        refine anyZ_last (by kernel_rfl) rfl rfl (by kernel_rfl) ?_
        go_simp
        go_wp2_with fail
        have HI2 : Hid (IterIs ((w2.setCell ⟨gs q.1, 0, none⟩ (.slice ao lf cap)).setCell ⟨gs q.1, 1, none⟩ (.int .i64 (lf : Int))).drew w.heap.size mr Value.string (ptrs gs D.files) es clock (seen.push en.born)) :=
          iterIs_blocks HN.out.iter (HO.out _ (by omega)) (HO.out _ (fun e => notOf_map (U := 65) HN.out.iter.map.block _ _ (e ▸ HB.out)))
        go_roundw
        case rel => exact ⟨seen.push en.born, HI2, (by
          show DiskAt _ _ _ _ _ _ _
          have h1 := HF1.out.keep ((Keep.refl (fun _ => False) _).drew) (fun _ _ h => h)
          have h2 : (todoOf (ptrs gs D.files) es.toList (seen.push en.born)).map (·.1) = ((todoOf (ptrs gs D.files) es.toList seen).map (·.1)).filter (fun m => decide (m ≠ q.1)) := by
            rw [HN.out.todo, List.filter_map]; rfl
          rw [h2]
          exact h1), (HO.out _ (Ne.symm hgq)).trans HB2.out, ((hK.out.trans HN.out.keep (fun i hi e => by omega)).trans HKs.out (fun _ _ h => h)).drew⟩
        case measure => rw [itLeft_is HI2.out, itLeft_is hI.out]; have := HS.out.2; omega

end Go.Proofs.YtmdibkafjpglkaaGreatDoor.Dsk
