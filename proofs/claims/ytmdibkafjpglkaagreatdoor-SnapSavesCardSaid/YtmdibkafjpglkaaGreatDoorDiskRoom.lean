/- d.Room(), walked. -/
import Derived.Test.YtmdibkafjpglkaaGreatDoorDiskMay
import Derived.Test.YtmdibkafjpglkaaGreatDoorMapTodo
namespace Go.Proofs.YtmdibkafjpglkaaGreatDoor.Dsk
open Go Go.RowKit Go.Lib

theorem sumOf_ptrs (gs : ByteArray → Nat) (fs : Files) (hn : (fs.map (·.1)).Nodup) : sumOf (fun n => (fileOf fs n).b.length) (ptrs gs fs) = total fs := by
  have : ∀ (l : Files), (∀ p ∈ l, p ∈ fs) → sumOf (fun n => (fileOf fs n).b.length) (ptrs gs l) = total l := by
    intro l
    induction l with
    | nil => intro _; rfl
    | cons p l ih =>
      intro h
      have hp : mget fs p.1 = some p.2 := mget_of_mem hn (h p List.mem_cons_self)
      have := ih fun q hq => h q (List.mem_cons_of_mem _ hq)
      unfold ptrs at this ⊢
      rw [List.map_cons, sumOf, this, total]
      unfold fileOf
      rw [hp]; rfl
  exact this fs fun _ h => h

theorem mem_ptrs {gs : ByteArray → Nat} {fs : Files} {p : ByteArray × Value} (h : p ∈ ptrs gs fs) : mhas fs p.1 = true ∧ p.2 = ptr (gs p.1) := by
  unfold ptrs at h
  obtain ⟨q, hq, rfl⟩ := List.mem_map.1 h
  exact ⟨(mhas_iff _ _).2 (List.mem_map_of_mem (f := (·.1)) hq), rfl⟩

set_option maxRecDepth 100000 in
set_option maxHeartbeats 2000000 in
/-- d.Room(). -/
theorem room_any (w : World) {db mr : Nat} {gs : ByteArray → Nat} {cv : Value} {D : DiskM} {F : Nat → Prop} (h : DiskAt w db mr gs cv D F) :
    Calls Tryz.prog 28 #[ptr db] w fun e w' => e = .returned (.int .i64 ((D.room : Int) - (total D.files : Int))) ∧ Keep (fun _ => False) w w' := by
  have h0 := h.c0
  have h1 := h.c1
  obtain ⟨es, clock, hm⟩ := h.map
  obtain ⟨hr, hit⟩ := run_range_map (P := Tryz.prog) 52 61 under_map hm
  have hHit := hid hit
  have hlen : es.toList.length = (ptrs gs D.files).length := by have := congrArg List.length hm.vals; simpa using this
  have hs := h.ok.room
  have hb := h.ok.small
  have hmlt := lt_of_block hm.block
  have hM := hid hm
  have hH := hid h
  clear hit hm
  unfold ptr
  go_enter Tryz.func28, Tryz.ntmps28
  go_wp2_with fail
  go_loopw [3] (fun i wr => ∃ seen, i = .int .i64 ((D.room : Int) - (total D.files : Int) + (sumOf (fun n => (fileOf D.files n).b.length) (todoOf (ptrs gs D.files) es.toList seen) : Int)) ∧ Hid (IterIs wr w.heap.size mr Value.string (ptrs gs D.files) es clock seen) ∧ Hid (Keep (fun _ => False) w wr)) (fun _ wr => itLeft (ptrs gs D.files) es w.heap.size wr)
  case atStart => exact ⟨#[], by
    rw [todoOf_start _ _ hlen, sumOf_ptrs gs D.files hH.out.ok.nodup]
    congr 1; omega, hHit, (Keep.refl _ w).alloc _⟩
  case round =>
    rename_i wr
    obtain ⟨seen, rfl, hI, hK⟩ := hrel
    rcases run_next_map (P := Tryz.prog) hI.out (by omega) 0 with ⟨hnil, hrun⟩ | ⟨p, e, w2, hrun, hst⟩
    · go_wp2_with fail
      go_ret
      exact ⟨ret_int (by rw [hnil]; simp [sumOf]), hK.out⟩
    · obtain ⟨hh, hv⟩ := mem_ptrs ((todoOf_sub _ _ _).mem hst.mem)
      obtain ⟨v, hblk, hfb, -⟩ := hH.out.file hh
      obtain ⟨ao, cap, rfl, hcap, hmax⟩ := hfb.slice
      have hblk2 : w2.heap[gs p.1]? = _ := hst.keep.at (hK.out.at hblk (by simp)) (by have := lt_of_block hblk; omega)
      have c2 : w2.cell? ⟨gs p.1, 0, none⟩ = some (.slice ao (fileOf D.files p.1).b.length cap) := by rw [cell_at hblk2]; rfl
      have hE := hst.entry
      rw [hv] at hE
      have hsum := sumOf_filter (fun n => (fileOf D.files n).b.length) (todoOf (ptrs gs D.files) es.toList seen) (nodup_sub (todoOf_sub _ _ _) hM.out.nodup) p hst.mem
      rw [← hst.todo] at hsum
      have hle : sumOf (fun n => (fileOf D.files n).b.length) (todoOf (ptrs gs D.files) es.toList seen) ≤ total D.files := Nat.le_trans (sumOf_sub _ (todoOf_sub _ _ _)) (Nat.le_of_eq (sumOf_ptrs gs D.files hH.out.ok.nodup))
      have hN := hid hst
      have hS := hid hsum
      unfold ptr at hE
      clear hst hblk hblk2 hfb hv
      go_wp2_with fail
      go_roundw
      case rel => exact ⟨seen.push e.born, by congr 1; have := hS.out.1; omega, hN.out.iter, (hK.out.trans hN.out.keep (by omega))⟩
      case measure => rw [itLeft_is hN.out.iter, itLeft_is hI.out]; have := hS.out.2; omega

end Go.Proofs.YtmdibkafjpglkaaGreatDoor.Dsk
