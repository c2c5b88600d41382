/- The reference's disk: done: walked, kind by kind. The reference's disk: wrong: walked, kind by kind. -/
import Derived.Test.YtlabpmmcmejpmaaDoorRefDisk5
import Derived.Test.YtlabpmmcmejpmaaDoorOwnBytes
namespace Go.Proofs.YtlabpmmcmejpmaaDoor.Ref
open Go Go.RowKit Go.Lib Go.Proofs.YtlabpmmcmejpmaaDoor.Dsk Go.Proofs.YtlabpmmcmejpmaaDoor.Wal

/-- The file of a name (the last one), or none. -/
def pick (name : ByteArray) (L : Files) : FileM := L.foldl (fun f p => if p.1 = name then p.2 else f) ⟨[], 0⟩
theorem pick_take {name : ByteArray} {L : Files} {i : Nat} {p : ByteArray × FileM} (h : L[i]? = some p) : pick name (L.take (i + 1)) = if p.1 = name then p.2 else pick name (L.take i) := by
  obtain ⟨h1, h2⟩ := List.getElem?_eq_some_iff.1 h
  unfold pick
  rw [List.take_succ_eq_append_getElem h1, h2, List.foldl_append]
  rfl
theorem put_at (w : World) {v : Value} {L : Files} {G : Nat → Prop} (h : FilesAt w v L G) (hl : L.length ≤ 100) (name : ByteArray) (l : List UInt8) (s : Int) (n k : Nat) {A0 : Option Addr} {C0 : Nat} (hf : BytesIn w (.slice A0 l.length C0) l G) (hn : l.length = n) (hs : s = (k : Int)) :
    Calls Tryd.prog 48 #[v, .agg #[.string name, .slice A0 n C0, .int .i64 s]] w fun e w' => ∃ v', e = .returned v' ∧ FilesAt w' v' (putF (name, ⟨l, k⟩) L) (fun i => G i ∨ w.heap.size ≤ i) ∧ Keep (fun _ => False) w w' := by
  subst hn hs
  exact put_any w h hl (name, ⟨l, k⟩) hf
/-- What Shorten makes of a file. -/
def shortF (sm : Bool) (k : Nat) (f : FileM) : FileM := if sm = true ∧ k < f.b.length then ⟨f.b.take k, if k < f.sure then k else f.sure⟩ else f
theorem bytes_more {w : World} {v : Value} {l : List UInt8} {G G' : Nat → Prop} (h : BytesIn w v l G) (hG : ∀ i, i < w.heap.size → G i → G' i) : BytesIn w v l G' := by
  obtain ⟨ao, cap, e, h1, h2, h3, h4⟩ := h.read
  exact ⟨ao, cap, e, h1, h2, h3, fun b hb j u hj => ⟨(h4 b hb j u hj).1, (h4 b hb j u hj).2.1, hG _ (h4 b hb j u hj).2.1 (h4 b hb j u hj).2.2⟩⟩
theorem slot_three {w : World} {g : Nat} {cs : Array Value} {t : TypeId} {fr : Nat × Nat} (h : w.heap[g]? = some (.cells cs t fr)) (hs : cs.size = 3) (x y z : Value) : (((w.setCell ⟨g, 0, none⟩ x).setCell ⟨g, 1, none⟩ y).setCell ⟨g, 2, none⟩ z).heap[g]? = some (.cells #[x, y, z] t fr) := by
  obtain ⟨l⟩ := cs
  match l, hs with
  | [a, b, c], _ =>
    rw [heap_setCell_self (heap_setCell_self (heap_setCell_self h x) y) z]
    rfl

set_option maxRecDepth 100000 in
set_option maxHeartbeats 4000000 in
theorem done_sync (w : World) {v : Value} {L : Files} {G : Nat → Prop} (h : FilesAt w v L G) (hl : L.length ≤ 100) (name to : ByteArray) (bv : Value) (size : Int) (whole sm : Bool) :
    Calls Tryd.prog 41 #[v, .int .i64 1, .string name, .string to, bv, .int .i64 size, .bool whole, .bool sm] w fun e w' => ∃ v', e = .returned v' ∧ FilesAt w' v' (putF (name, if whole = true then ⟨(pick name L).b, (pick name L).b.length⟩ else pick name L) L) (fun i => G i ∨ w.heap.size ≤ i) ∧ Keep (fun _ => False) w w' := by
  obtain ⟨ao, cap, hv⟩ := h.slice
  subst hv
  have H := hid h
  clear h
  go_enter Tryd.func41, Tryd.ntmps41
  go_wp2_with fail
  obtain ⟨wb, hwb⟩ : ∃ wb, w.alloc (.cells #[.string name, .slice none 0 0, .int .i64 0] 54) = wb := ⟨_, rfl⟩
  have hkb : Keep (fun _ => False) w wb := hwb ▸ (Keep.refl _ w).alloc _
  have hblk0 : wb.heap[w.heap.size]? = some (.cells #[.string name, .slice none 0 0, .int .i64 0] 54 (0, 0)) := hwb ▸ heap_alloc_new _ _
  have hszb : wb.heap.size = w.heap.size + 1 := by rw [← hwb]; simp
  rw [hwb]
  have HKB := hid hkb
  have HBLK := hid hblk0
  clear hkb hblk0 hwb
  go_loopw [18] (fun iv wr => ∃ i : Nat, iv = .int .i64 (i : Int) ∧ i ≤ L.length ∧ w.heap.size + 1 ≤ wr.heap.size ∧ Hid (∃ A C, wr.heap[w.heap.size]? = some (.cells #[.string name, .slice A (pick name (L.take i)).b.length C, .int .i64 ((pick name (L.take i)).sure : Int)] 54 (0, 0)) ∧ BytesIn w (.slice A (pick name (L.take i)).b.length C) (pick name (L.take i)).b G) ∧ Hid (Keep (fun _ => False) w wr)) (fun iv _ => L.length - (RowKit.intOf iv).toNat)
  case atStart => exact ⟨0, rfl, Nat.zero_le _, by omega, hid ⟨none, 0, HBLK.out, ⟨none, 0, rfl, by simp [pick], by simp [maxLen], fun _ => rfl, fun b hb => by cases hb⟩⟩, hid HKB.out⟩
  case round =>
    obtain ⟨i, rfl, hi, hsr, hS, hK⟩ := hrel
    obtain ⟨A0, C0, hblk, hB0⟩ := hS.out
    have HB0 := hid hB0
    have HBLKr := hid hblk
    have c0 : wr.cell? ⟨w.heap.size, 0, none⟩ = some (.string name) := by rw [cell_at hblk]; rfl
    have c1 : wr.cell? ⟨w.heap.size, 1, none⟩ = some (.slice A0 (pick name (L.take i)).b.length C0) := by rw [cell_at hblk]; rfl
    have c2 : wr.cell? ⟨w.heap.size, 2, none⟩ = some (.int .i64 ((pick name (L.take i)).sure : Int)) := by rw [cell_at hblk]; rfl
    have f0 : wr.frozen? ⟨w.heap.size, 0, none⟩ = false := frozen_at hblk _
    have f1 : wr.frozen? ⟨w.heap.size, 1, none⟩ = false := frozen_at hblk _
    have f2 : wr.frozen? ⟨w.heap.size, 2, none⟩ = false := frozen_at hblk _
    clear hblk hB0 hS
    by_cases hil : i < L.length
    · obtain ⟨a, n, f, A, C, rfl, hp, d0, d1, d2, hB⟩ := H.out.at2 hK.out (fun _ _ h => h) hil
      have HB := hid hB
      clear hB
      by_cases hn : n = name
      · subst hn
        have hbe : (n.toList == n.toList) = true := by simp
        have HPK := hid (show pick n (L.take (i + 1)) = f by rw [pick_take hp, if_pos rfl])
        clear hp
        go_wp2_with fail
        exact ⟨⟨i + 1, by simp, by omega, by simpa using hsr, hid (by rw [HPK.out]; exact ⟨A, C, slot_three HBLKr.out rfl _ _ _, HB.out⟩), hid (((hK.out.setCell (p := ⟨w.heap.size, 0, none⟩) (fun h => absurd h (Nat.lt_irrefl _)) _).setCell (p := ⟨w.heap.size, 1, none⟩) (fun h => absurd h (Nat.lt_irrefl _)) _).setCell (p := ⟨w.heap.size, 2, none⟩) (fun h => absurd h (Nat.lt_irrefl _)) _)⟩, by simp [RowKit.intOf]; omega⟩
      · have hbe : (n.toList == name.toList) = false := by rw [beq_eq_false_iff_ne]; exact fun e => hn (ByteArray.ext (Array.toList_inj.mp (by rw [toList_data, toList_data] at e; exact e)))
        have HPK := hid (show pick name (L.take (i + 1)) = pick name (L.take i) by rw [pick_take hp, if_neg hn])
        clear hp
        go_wp2_with fail
        exact ⟨⟨i + 1, by simp, by omega, hsr, hid (by rw [HPK.out]; exact ⟨A0, C0, HBLKr.out, HB0.out⟩), hK⟩, by simp [RowKit.intOf]; omega⟩
    · obtain rfl : i = L.length := by omega
      rw [List.take_length] at HBLKr HB0 c1 c2
      obtain ⟨fm, hfm⟩ : ∃ fm, pick name L = fm := ⟨_, rfl⟩
      rw [hfm] at HBLKr HB0 c1 c2
      have HFM := hid hfm
      clear hfm
      cases whole with
      | true =>
        go_wp2_with fail
        refine (put_any _ (H.out.keep (hK.out.setCell (p := ⟨w.heap.size, 2, none⟩) (fun h => absurd h (Nat.lt_irrefl _)) _) (fun _ _ h => h)) hl (name, ⟨fm.b, fm.b.length⟩) (HB0.out.keep (hK.out.setCell (p := ⟨w.heap.size, 2, none⟩) (fun h => absurd h (Nat.lt_irrefl _)) _) (fun _ _ h => h))).mono ?_
        rintro e w2 ⟨v', rfl, hF, hK2⟩
        have HF2 := hid hF
        have HK2 := hid hK2
        clear hF hK2
        go_wp2_with fail
        all_goals go_ret
        all_goals exact ⟨_, rfl, by rw [HFM.out]; exact HF2.out.mono (fun i _ h => h.imp id (fun h => by simp at h; omega)), (hK.out.setCell (p := ⟨w.heap.size, 2, none⟩) (fun h => absurd h (Nat.lt_irrefl _)) _).trans HK2.out (fun _ _ h => h)⟩
      | false =>
        go_wp2_with fail
        refine (put_any _ (H.out.keep hK.out (fun _ _ h => h)) hl (name, fm) (HB0.out.keep hK.out (fun _ _ h => h))).mono ?_
        rintro e w2 ⟨v', rfl, hF, hK2⟩
        have HF2 := hid hF
        have HK2 := hid hK2
        clear hF hK2
        go_wp2_with fail
        all_goals go_ret
        all_goals exact ⟨_, rfl, by rw [HFM.out]; exact HF2.out.mono (fun i _ h => h.imp id (fun h => by omega)), hK.out.trans HK2.out (fun _ _ h => h)⟩

set_option maxRecDepth 100000 in
set_option maxHeartbeats 4000000 in
theorem done_remove (w : World) {v : Value} {L : Files} {G : Nat → Prop} (h : FilesAt w v L G) (hl : L.length ≤ 100) (name to : ByteArray) (bv : Value) (size : Int) (whole sm : Bool) :
    Calls Tryd.prog 41 #[v, .int .i64 3, .string name, .string to, bv, .int .i64 size, .bool whole, .bool sm] w fun e w' => ∃ v', e = .returned v' ∧ FilesAt w' v' (if sm = true then mdel L name else L) (fun i => G i ∨ w.heap.size ≤ i) ∧ Keep (fun _ => False) w w' := by
  obtain ⟨ao, cap, hv⟩ := h.slice
  subst hv
  have H := hid h
  clear h
  go_enter Tryd.func41, Tryd.ntmps41
  go_wp2_with fail
  obtain ⟨wb, hwb⟩ : ∃ wb, w.alloc (.cells #[.string name, .slice none 0 0, .int .i64 0] 54) = wb := ⟨_, rfl⟩
  have hkb : Keep (fun _ => False) w wb := hwb ▸ (Keep.refl _ w).alloc _
  have hblk0 : wb.heap[w.heap.size]? = some (.cells #[.string name, .slice none 0 0, .int .i64 0] 54 (0, 0)) := hwb ▸ heap_alloc_new _ _
  have hszb : wb.heap.size = w.heap.size + 1 := by rw [← hwb]; simp
  rw [hwb]
  have HKB := hid hkb
  have HBLK := hid hblk0
  clear hkb hblk0 hwb
  go_loopw [18] (fun iv wr => ∃ i : Nat, iv = .int .i64 (i : Int) ∧ i ≤ L.length ∧ w.heap.size + 1 ≤ wr.heap.size ∧ Hid (∃ A C, wr.heap[w.heap.size]? = some (.cells #[.string name, .slice A (pick name (L.take i)).b.length C, .int .i64 ((pick name (L.take i)).sure : Int)] 54 (0, 0)) ∧ BytesIn w (.slice A (pick name (L.take i)).b.length C) (pick name (L.take i)).b G) ∧ Hid (Keep (fun _ => False) w wr)) (fun iv _ => L.length - (RowKit.intOf iv).toNat)
  case atStart => exact ⟨0, rfl, Nat.zero_le _, by omega, hid ⟨none, 0, HBLK.out, ⟨none, 0, rfl, by simp [pick], by simp [maxLen], fun _ => rfl, fun b hb => by cases hb⟩⟩, hid HKB.out⟩
  case round =>
    obtain ⟨i, rfl, hi, hsr, hS, hK⟩ := hrel
    obtain ⟨A0, C0, hblk, hB0⟩ := hS.out
    have HB0 := hid hB0
    have HBLKr := hid hblk
    have c0 : wr.cell? ⟨w.heap.size, 0, none⟩ = some (.string name) := by rw [cell_at hblk]; rfl
    have c1 : wr.cell? ⟨w.heap.size, 1, none⟩ = some (.slice A0 (pick name (L.take i)).b.length C0) := by rw [cell_at hblk]; rfl
    have c2 : wr.cell? ⟨w.heap.size, 2, none⟩ = some (.int .i64 ((pick name (L.take i)).sure : Int)) := by rw [cell_at hblk]; rfl
    have f0 : wr.frozen? ⟨w.heap.size, 0, none⟩ = false := frozen_at hblk _
    have f1 : wr.frozen? ⟨w.heap.size, 1, none⟩ = false := frozen_at hblk _
    have f2 : wr.frozen? ⟨w.heap.size, 2, none⟩ = false := frozen_at hblk _
    clear hblk hB0 hS
    by_cases hil : i < L.length
    · obtain ⟨a, n, f, A, C, rfl, hp, d0, d1, d2, hB⟩ := H.out.at2 hK.out (fun _ _ h => h) hil
      have HB := hid hB
      clear hB
      by_cases hn : n = name
      · subst hn
        have hbe : (n.toList == n.toList) = true := by simp
        have HPK := hid (show pick n (L.take (i + 1)) = f by rw [pick_take hp, if_pos rfl])
        clear hp
        go_wp2_with fail
        exact ⟨⟨i + 1, by simp, by omega, by simpa using hsr, hid (by rw [HPK.out]; exact ⟨A, C, slot_three HBLKr.out rfl _ _ _, HB.out⟩), hid (((hK.out.setCell (p := ⟨w.heap.size, 0, none⟩) (fun h => absurd h (Nat.lt_irrefl _)) _).setCell (p := ⟨w.heap.size, 1, none⟩) (fun h => absurd h (Nat.lt_irrefl _)) _).setCell (p := ⟨w.heap.size, 2, none⟩) (fun h => absurd h (Nat.lt_irrefl _)) _)⟩, by simp [RowKit.intOf]; omega⟩
      · have hbe : (n.toList == name.toList) = false := by rw [beq_eq_false_iff_ne]; exact fun e => hn (ByteArray.ext (Array.toList_inj.mp (by rw [toList_data, toList_data] at e; exact e)))
        have HPK := hid (show pick name (L.take (i + 1)) = pick name (L.take i) by rw [pick_take hp, if_neg hn])
        clear hp
        go_wp2_with fail
        exact ⟨⟨i + 1, by simp, by omega, hsr, hid (by rw [HPK.out]; exact ⟨A0, C0, HBLKr.out, HB0.out⟩), hK⟩, by simp [RowKit.intOf]; omega⟩
    · obtain rfl : i = L.length := by omega
      rw [List.take_length] at HBLKr HB0 c1 c2
      obtain ⟨fm, hfm⟩ : ∃ fm, pick name L = fm := ⟨_, rfl⟩
      rw [hfm] at HBLKr HB0 c1 c2
      clear hfm
      cases sm with
      | true =>
        go_wp2_with fail
        refine (without_any _ (H.out.keep hK.out (fun _ _ h => h)) hl name).mono ?_
        rintro e w2 ⟨v', rfl, hF, hK2⟩
        have HF2 := hid hF
        have HK2 := hid hK2
        clear hF hK2
        go_wp2_with fail
        all_goals go_ret
        all_goals exact ⟨_, rfl, HF2.out.mono (fun i _ h => h.imp id (fun h => by omega)), hK.out.trans HK2.out (fun _ _ h => h)⟩
      | false =>
        go_wp2_with fail
        all_goals go_ret
        all_goals exact ⟨_, rfl, (H.out.keep hK.out (fun _ _ h => h)).mono (fun i _ h => .inl h), hK.out⟩

set_option maxRecDepth 100000 in
set_option maxHeartbeats 4000000 in
theorem done_rename (w : World) {v : Value} {L : Files} {G : Nat → Prop} (h : FilesAt w v L G) (hl : L.length ≤ 100) (name to : ByteArray) (bv : Value) (size : Int) (whole sm : Bool) :
    Calls Tryd.prog 41 #[v, .int .i64 2, .string name, .string to, bv, .int .i64 size, .bool whole, .bool sm] w fun e w' => ∃ v', e = .returned v' ∧ FilesAt w' v' (if sm = true then putF (to, pick name L) (mdel L name) else L) (fun i => G i ∨ w.heap.size ≤ i) ∧ Keep (fun _ => False) w w' := by
  obtain ⟨ao, cap, hv⟩ := h.slice
  subst hv
  have H := hid h
  clear h
  go_enter Tryd.func41, Tryd.ntmps41
  go_wp2_with fail
  obtain ⟨wb, hwb⟩ : ∃ wb, w.alloc (.cells #[.string name, .slice none 0 0, .int .i64 0] 54) = wb := ⟨_, rfl⟩
  have hkb : Keep (fun _ => False) w wb := hwb ▸ (Keep.refl _ w).alloc _
  have hblk0 : wb.heap[w.heap.size]? = some (.cells #[.string name, .slice none 0 0, .int .i64 0] 54 (0, 0)) := hwb ▸ heap_alloc_new _ _
  have hszb : wb.heap.size = w.heap.size + 1 := by rw [← hwb]; simp
  rw [hwb]
  have HKB := hid hkb
  have HBLK := hid hblk0
  clear hkb hblk0 hwb
  go_loopw [18] (fun iv wr => ∃ i : Nat, iv = .int .i64 (i : Int) ∧ i ≤ L.length ∧ w.heap.size + 1 ≤ wr.heap.size ∧ Hid (∃ A C, wr.heap[w.heap.size]? = some (.cells #[.string name, .slice A (pick name (L.take i)).b.length C, .int .i64 ((pick name (L.take i)).sure : Int)] 54 (0, 0)) ∧ BytesIn w (.slice A (pick name (L.take i)).b.length C) (pick name (L.take i)).b G) ∧ Hid (Keep (fun _ => False) w wr)) (fun iv _ => L.length - (RowKit.intOf iv).toNat)
  case atStart => exact ⟨0, rfl, Nat.zero_le _, by omega, hid ⟨none, 0, HBLK.out, ⟨none, 0, rfl, by simp [pick], by simp [maxLen], fun _ => rfl, fun b hb => by cases hb⟩⟩, hid HKB.out⟩
  case round =>
    obtain ⟨i, rfl, hi, hsr, hS, hK⟩ := hrel
    obtain ⟨A0, C0, hblk, hB0⟩ := hS.out
    have HB0 := hid hB0
    have HBLKr := hid hblk
    have c0 : wr.cell? ⟨w.heap.size, 0, none⟩ = some (.string name) := by rw [cell_at hblk]; rfl
    have c1 : wr.cell? ⟨w.heap.size, 1, none⟩ = some (.slice A0 (pick name (L.take i)).b.length C0) := by rw [cell_at hblk]; rfl
    have c2 : wr.cell? ⟨w.heap.size, 2, none⟩ = some (.int .i64 ((pick name (L.take i)).sure : Int)) := by rw [cell_at hblk]; rfl
    have f0 : wr.frozen? ⟨w.heap.size, 0, none⟩ = false := frozen_at hblk _
    have f1 : wr.frozen? ⟨w.heap.size, 1, none⟩ = false := frozen_at hblk _
    have f2 : wr.frozen? ⟨w.heap.size, 2, none⟩ = false := frozen_at hblk _
    clear hblk hB0 hS
    by_cases hil : i < L.length
    · obtain ⟨a, n, f, A, C, rfl, hp, d0, d1, d2, hB⟩ := H.out.at2 hK.out (fun _ _ h => h) hil
      have HB := hid hB
      clear hB
      by_cases hn : n = name
      · subst hn
        have hbe : (n.toList == n.toList) = true := by simp
        have HPK := hid (show pick n (L.take (i + 1)) = f by rw [pick_take hp, if_pos rfl])
        clear hp
        go_wp2_with fail
        exact ⟨⟨i + 1, by simp, by omega, by simpa using hsr, hid (by rw [HPK.out]; exact ⟨A, C, slot_three HBLKr.out rfl _ _ _, HB.out⟩), hid (((hK.out.setCell (p := ⟨w.heap.size, 0, none⟩) (fun h => absurd h (Nat.lt_irrefl _)) _).setCell (p := ⟨w.heap.size, 1, none⟩) (fun h => absurd h (Nat.lt_irrefl _)) _).setCell (p := ⟨w.heap.size, 2, none⟩) (fun h => absurd h (Nat.lt_irrefl _)) _)⟩, by simp [RowKit.intOf]; omega⟩
      · have hbe : (n.toList == name.toList) = false := by rw [beq_eq_false_iff_ne]; exact fun e => hn (ByteArray.ext (Array.toList_inj.mp (by rw [toList_data, toList_data] at e; exact e)))
        have HPK := hid (show pick name (L.take (i + 1)) = pick name (L.take i) by rw [pick_take hp, if_neg hn])
        clear hp
        go_wp2_with fail
        exact ⟨⟨i + 1, by simp, by omega, hsr, hid (by rw [HPK.out]; exact ⟨A0, C0, HBLKr.out, HB0.out⟩), hK⟩, by simp [RowKit.intOf]; omega⟩
    · obtain rfl : i = L.length := by omega
      rw [List.take_length] at HBLKr HB0 c1 c2
      obtain ⟨fm, hfm⟩ : ∃ fm, pick name L = fm := ⟨_, rfl⟩
      rw [hfm] at HBLKr HB0 c1 c2
      have HFM := hid hfm
      clear hfm
      cases sm with
      | true =>
        clear c0 c1 c2 f0 f1 f2
        go_wp2_with fail
        refine (without_any _ ((H.out.mono (G' := fun i => G i ∧ i < w.heap.size) (fun i hi hg => ⟨hg, hi⟩)).keep hK.out (fun _ _ h => h)) hl name).mono ?_
        rintro e w1 ⟨v1, rfl, hF, hK1⟩
        have HF1 := hid hF
        have HK1 := hid hK1
        have hs1 := hK1.size
        have hml : (mdel L name).length ≤ 100 := Nat.le_trans (List.length_filter_le _ _) hl
        have hblk := hK1.at HBLKr.out (fun h => h)
        clear hF hK1
        have c0 : w1.cell? ⟨w.heap.size, 0, none⟩ = some (.string name) := by rw [cell_at hblk]; rfl
        have c1 : w1.cell? ⟨w.heap.size, 1, none⟩ = some (.slice A0 fm.b.length C0) := by rw [cell_at hblk]; rfl
        have c2 : w1.cell? ⟨w.heap.size, 2, none⟩ = some (.int .i64 (fm.sure : Int)) := by rw [cell_at hblk]; rfl
        have f0 : w1.frozen? ⟨w.heap.size, 0, none⟩ = false := frozen_at hblk _
        clear hblk
        obtain ⟨ao1, cap1, hv1⟩ := HF1.out.slice
        subst hv1
        go_wp2_with fail
        refine (put_any _ ((HF1.out.keep ((Keep.refl (fun i => i = w.heap.size) w1).setCell (p := ⟨w.heap.size, 0, none⟩) (fun _ => rfl) _) (fun i h e => by rcases h with ⟨-, h⟩ | h <;> omega)).mono (G' := fun i => G i ∨ w.heap.size ≤ i) (fun i _ h => h.elim (fun h => .inl h.1) (fun h => .inr (by omega)))) hml (to, fm) ((bytes_more HB0.out (G' := fun i => G i ∨ w.heap.size ≤ i) (fun i _ h => .inl h)).keep ((hK.out.trans HK1.out (fun _ _ h => h)).setCell (p := ⟨w.heap.size, 0, none⟩) (fun h => absurd h (Nat.lt_irrefl _)) _) (fun _ _ h => h))).mono ?_
        rintro e w2 ⟨v', rfl, hF, hK2⟩
        have HF2 := hid hF
        have HK2 := hid hK2
        clear hF hK2
        go_wp2_with fail
        all_goals go_ret
        all_goals exact ⟨_, rfl, by rw [HFM.out]; exact HF2.out.mono (fun i _ h => h.elim id (fun h => .inr (by simp at h; omega))), ((hK.out.trans HK1.out (fun _ _ h => h)).setCell (p := ⟨w.heap.size, 0, none⟩) (fun h => absurd h (Nat.lt_irrefl _)) _).trans HK2.out (fun _ _ h => h)⟩
      | false =>
        go_wp2_with fail
        all_goals go_ret
        all_goals exact ⟨_, rfl, (H.out.keep hK.out (fun _ _ h => h)).mono (fun i _ h => .inl h), hK.out⟩

set_option maxRecDepth 100000 in
set_option maxHeartbeats 4000000 in
theorem done_shorten (w : World) {v : Value} {L : Files} {G : Nat → Prop} (h : FilesAt w v L G) (hl : L.length ≤ 100) (name to : ByteArray) (bv : Value) (k : Nat) (whole sm : Bool) :
    Calls Tryd.prog 41 #[v, .int .i64 4, .string name, .string to, bv, .int .i64 (k : Int), .bool whole, .bool sm] w fun e w' => ∃ v', e = .returned v' ∧ FilesAt w' v' (putF (name, shortF sm k (pick name L)) L) (fun i => G i ∨ w.heap.size ≤ i) ∧ Keep (fun _ => False) w w' := by
  obtain ⟨ao, cap, hv⟩ := h.slice
  subst hv
  have H := hid h
  clear h
  go_enter Tryd.func41, Tryd.ntmps41
  go_wp2_with fail
  obtain ⟨wb, hwb⟩ : ∃ wb, w.alloc (.cells #[.string name, .slice none 0 0, .int .i64 0] 54) = wb := ⟨_, rfl⟩
  have hkb : Keep (fun _ => False) w wb := hwb ▸ (Keep.refl _ w).alloc _
  have hblk0 : wb.heap[w.heap.size]? = some (.cells #[.string name, .slice none 0 0, .int .i64 0] 54 (0, 0)) := hwb ▸ heap_alloc_new _ _
  have hszb : wb.heap.size = w.heap.size + 1 := by rw [← hwb]; simp
  rw [hwb]
  have HKB := hid hkb
  have HBLK := hid hblk0
  clear hkb hblk0 hwb
  go_loopw [18] (fun iv wr => ∃ i : Nat, iv = .int .i64 (i : Int) ∧ i ≤ L.length ∧ w.heap.size + 1 ≤ wr.heap.size ∧ Hid (∃ A C, wr.heap[w.heap.size]? = some (.cells #[.string name, .slice A (pick name (L.take i)).b.length C, .int .i64 ((pick name (L.take i)).sure : Int)] 54 (0, 0)) ∧ BytesIn w (.slice A (pick name (L.take i)).b.length C) (pick name (L.take i)).b G) ∧ Hid (Keep (fun _ => False) w wr)) (fun iv _ => L.length - (RowKit.intOf iv).toNat)
  case atStart => exact ⟨0, rfl, Nat.zero_le _, by omega, hid ⟨none, 0, HBLK.out, ⟨none, 0, rfl, by simp [pick], by simp [maxLen], fun _ => rfl, fun b hb => by cases hb⟩⟩, hid HKB.out⟩
  case round =>
    obtain ⟨i, rfl, hi, hsr, hS, hK⟩ := hrel
    obtain ⟨A0, C0, hblk, hB0⟩ := hS.out
    have HB0 := hid hB0
    have HBLKr := hid hblk
    have c0 : wr.cell? ⟨w.heap.size, 0, none⟩ = some (.string name) := by rw [cell_at hblk]; rfl
    have c1 : wr.cell? ⟨w.heap.size, 1, none⟩ = some (.slice A0 (pick name (L.take i)).b.length C0) := by rw [cell_at hblk]; rfl
    have c2 : wr.cell? ⟨w.heap.size, 2, none⟩ = some (.int .i64 ((pick name (L.take i)).sure : Int)) := by rw [cell_at hblk]; rfl
    have f0 : wr.frozen? ⟨w.heap.size, 0, none⟩ = false := frozen_at hblk _
    have f1 : wr.frozen? ⟨w.heap.size, 1, none⟩ = false := frozen_at hblk _
    have f2 : wr.frozen? ⟨w.heap.size, 2, none⟩ = false := frozen_at hblk _
    clear hblk hB0 hS
    by_cases hil : i < L.length
    · obtain ⟨a, n, f, A, C, rfl, hp, d0, d1, d2, hB⟩ := H.out.at2 hK.out (fun _ _ h => h) hil
      have HB := hid hB
      clear hB
      by_cases hn : n = name
      · subst hn
        have hbe : (n.toList == n.toList) = true := by simp
        have HPK := hid (show pick n (L.take (i + 1)) = f by rw [pick_take hp, if_pos rfl])
        clear hp
        go_wp2_with fail
        exact ⟨⟨i + 1, by simp, by omega, by simpa using hsr, hid (by rw [HPK.out]; exact ⟨A, C, slot_three HBLKr.out rfl _ _ _, HB.out⟩), hid (((hK.out.setCell (p := ⟨w.heap.size, 0, none⟩) (fun h => absurd h (Nat.lt_irrefl _)) _).setCell (p := ⟨w.heap.size, 1, none⟩) (fun h => absurd h (Nat.lt_irrefl _)) _).setCell (p := ⟨w.heap.size, 2, none⟩) (fun h => absurd h (Nat.lt_irrefl _)) _)⟩, by simp [RowKit.intOf]; omega⟩
      · have hbe : (n.toList == name.toList) = false := by rw [beq_eq_false_iff_ne]; exact fun e => hn (ByteArray.ext (Array.toList_inj.mp (by rw [toList_data, toList_data] at e; exact e)))
        have HPK := hid (show pick name (L.take (i + 1)) = pick name (L.take i) by rw [pick_take hp, if_neg hn])
        clear hp
        go_wp2_with fail
        exact ⟨⟨i + 1, by simp, by omega, hsr, hid (by rw [HPK.out]; exact ⟨A0, C0, HBLKr.out, HB0.out⟩), hK⟩, by simp [RowKit.intOf]; omega⟩
    · obtain rfl : i = L.length := by omega
      rw [List.take_length] at HBLKr HB0 c1 c2
      obtain ⟨fm, hfm⟩ : ∃ fm, pick name L = fm := ⟨_, rfl⟩
      rw [hfm] at HBLKr HB0 c1 c2
      have HFM := hid hfm
      clear hfm
      have hCl : fm.b.length ≤ C0 := by
        obtain ⟨ao', cap', e, z1, -⟩ := HB0.out.read
        injection e with _ _ e3
        rw [e3]; exact z1
      cases sm with
      | false =>
        have HRES := hid (show shortF false k (pick name L) = fm by rw [HFM.out]; exact if_neg (by simp))
        go_wp2_with fail
        refine (put_any _ (H.out.keep hK.out (fun _ _ h => h)) hl (name, fm) (HB0.out.keep hK.out (fun _ _ h => h))).mono ?_
        rintro e w2 ⟨v', rfl, hF, hK2⟩
        have HF2 := hid hF
        have HK2 := hid hK2
        clear hF hK2
        go_wp2_with fail
        all_goals go_ret
        all_goals exact ⟨_, rfl, by rw [HRES.out]; exact HF2.out.mono (fun i _ h => h.imp id (fun h => by omega)), hK.out.trans HK2.out (fun _ _ h => h)⟩
      | true =>
        by_cases hlt : k < fm.b.length
        · by_cases hsu : k < fm.sure
          · have HRES := hid (show shortF true k (pick name L) = ⟨fm.b.take k, k⟩ by rw [HFM.out]; unfold shortF; rw [if_pos ⟨rfl, hlt⟩, if_pos hsu])
            have HBK := hid (show BytesIn w (.slice A0 (fm.b.take k).length C0) (fm.b.take k) G by have h := HB0.out.first k (Nat.le_of_lt hlt); simpa [Nat.min_eq_left (Nat.le_of_lt hlt)] using h)
            have hlk : (fm.b.take k).length = k := by rw [List.length_take]; omega
            go_wp2_with fail
            refine (put_at _ (H.out.keep ((hK.out.setCell (p := ⟨w.heap.size, 1, none⟩) (fun h => absurd h (Nat.lt_irrefl _)) _).setCell (p := ⟨w.heap.size, 2, none⟩) (fun h => absurd h (Nat.lt_irrefl _)) _) (fun _ _ h => h)) hl name (fm.b.take k) _ _ k (HBK.out.keep ((hK.out.setCell (p := ⟨w.heap.size, 1, none⟩) (fun h => absurd h (Nat.lt_irrefl _)) _).setCell (p := ⟨w.heap.size, 2, none⟩) (fun h => absurd h (Nat.lt_irrefl _)) _) (fun _ _ h => h)) hlk rfl).mono ?_
            rintro e w2 ⟨v', rfl, hF, hK2⟩
            have HF2 := hid hF
            have HK2 := hid hK2
            clear hF hK2
            go_wp2_with fail
            all_goals go_ret
            all_goals exact ⟨_, rfl, by rw [HRES.out]; exact HF2.out.mono (fun i _ h => h.imp id (fun h => by simp at h; omega)), ((hK.out.setCell (p := ⟨w.heap.size, 1, none⟩) (fun h => absurd h (Nat.lt_irrefl _)) _).setCell (p := ⟨w.heap.size, 2, none⟩) (fun h => absurd h (Nat.lt_irrefl _)) _).trans HK2.out (fun _ _ h => h)⟩
          · have HRES := hid (show shortF true k (pick name L) = ⟨fm.b.take k, fm.sure⟩ by rw [HFM.out]; unfold shortF; rw [if_pos ⟨rfl, hlt⟩, if_neg hsu])
            have HBK := hid (show BytesIn w (.slice A0 (fm.b.take k).length C0) (fm.b.take k) G by have h := HB0.out.first k (Nat.le_of_lt hlt); simpa [Nat.min_eq_left (Nat.le_of_lt hlt)] using h)
            have hlk : (fm.b.take k).length = k := by rw [List.length_take]; omega
            go_wp2_with fail
            refine (put_at _ (H.out.keep (hK.out.setCell (p := ⟨w.heap.size, 1, none⟩) (fun h => absurd h (Nat.lt_irrefl _)) _) (fun _ _ h => h)) hl name (fm.b.take k) _ _ fm.sure (HBK.out.keep (hK.out.setCell (p := ⟨w.heap.size, 1, none⟩) (fun h => absurd h (Nat.lt_irrefl _)) _) (fun _ _ h => h)) hlk rfl).mono ?_
            rintro e w2 ⟨v', rfl, hF, hK2⟩
            have HF2 := hid hF
            have HK2 := hid hK2
            clear hF hK2
            go_wp2_with fail
            all_goals go_ret
            all_goals exact ⟨_, rfl, by rw [HRES.out]; exact HF2.out.mono (fun i _ h => h.imp id (fun h => by simp at h; omega)), (hK.out.setCell (p := ⟨w.heap.size, 1, none⟩) (fun h => absurd h (Nat.lt_irrefl _)) _).trans HK2.out (fun _ _ h => h)⟩
        · have HRES := hid (show shortF true k (pick name L) = fm by rw [HFM.out]; exact if_neg (by omega))
          go_wp2_with fail
          refine (put_any _ (H.out.keep hK.out (fun _ _ h => h)) hl (name, fm) (HB0.out.keep hK.out (fun _ _ h => h))).mono ?_
          rintro e w2 ⟨v', rfl, hF, hK2⟩
          have HF2 := hid hF
          have HK2 := hid hK2
          clear hF hK2
          go_wp2_with fail
          all_goals go_ret
          all_goals exact ⟨_, rfl, by rw [HRES.out]; exact HF2.out.mono (fun i _ h => h.imp id (fun h => by omega)), hK.out.trans HK2.out (fun _ _ h => h)⟩

set_option maxRecDepth 100000 in
set_option maxHeartbeats 4000000 in
theorem done_append (w : World) {v : Value} {L : Files} {G : Nat → Prop} (h : FilesAt w v L G) (hl : L.length ≤ 100) (name to : ByteArray) {b : List UInt8} {bo : Option Addr} {bc : Nat} (size : Int) (whole sm : Bool) (hb : BytesIn w (.slice bo b.length bc) b G) (hb1 : (pick name L).b.length ≤ 2147483648) (hb2 : b.length ≤ 2147483648) :
    Calls Tryd.prog 41 #[v, .int .i64 0, .string name, .string to, (.slice bo b.length bc), .int .i64 size, .bool whole, .bool sm] w fun e w' => ∃ v', e = .returned v' ∧ FilesAt w' v' (putF (name, ⟨(pick name L).b ++ b, (pick name L).sure⟩) L) (fun i => G i ∨ w.heap.size ≤ i) ∧ Keep (fun _ => False) w w' := by
  obtain ⟨ao, cap, hv⟩ := h.slice
  subst hv
  have H := hid h
  clear h
  go_enter Tryd.func41, Tryd.ntmps41
  go_wp2_with fail
  obtain ⟨wb, hwb⟩ : ∃ wb, w.alloc (.cells #[.string name, .slice none 0 0, .int .i64 0] 54) = wb := ⟨_, rfl⟩
  have hkb : Keep (fun _ => False) w wb := hwb ▸ (Keep.refl _ w).alloc _
  have hblk0 : wb.heap[w.heap.size]? = some (.cells #[.string name, .slice none 0 0, .int .i64 0] 54 (0, 0)) := hwb ▸ heap_alloc_new _ _
  have hszb : wb.heap.size = w.heap.size + 1 := by rw [← hwb]; simp
  rw [hwb]
  have HKB := hid hkb
  have HBLK := hid hblk0
  clear hkb hblk0 hwb
  go_loopw [18] (fun iv wr => ∃ i : Nat, iv = .int .i64 (i : Int) ∧ i ≤ L.length ∧ w.heap.size + 1 ≤ wr.heap.size ∧ Hid (∃ A C, wr.heap[w.heap.size]? = some (.cells #[.string name, .slice A (pick name (L.take i)).b.length C, .int .i64 ((pick name (L.take i)).sure : Int)] 54 (0, 0)) ∧ BytesIn w (.slice A (pick name (L.take i)).b.length C) (pick name (L.take i)).b G) ∧ Hid (Keep (fun _ => False) w wr)) (fun iv _ => L.length - (RowKit.intOf iv).toNat)
  case atStart => exact ⟨0, rfl, Nat.zero_le _, by omega, hid ⟨none, 0, HBLK.out, ⟨none, 0, rfl, by simp [pick], by simp [maxLen], fun _ => rfl, fun b hb => by cases hb⟩⟩, hid HKB.out⟩
  case round =>
    obtain ⟨i, rfl, hi, hsr, hS, hK⟩ := hrel
    obtain ⟨A0, C0, hblk, hB0⟩ := hS.out
    have HB0 := hid hB0
    have HBLKr := hid hblk
    have c0 : wr.cell? ⟨w.heap.size, 0, none⟩ = some (.string name) := by rw [cell_at hblk]; rfl
    have c1 : wr.cell? ⟨w.heap.size, 1, none⟩ = some (.slice A0 (pick name (L.take i)).b.length C0) := by rw [cell_at hblk]; rfl
    have c2 : wr.cell? ⟨w.heap.size, 2, none⟩ = some (.int .i64 ((pick name (L.take i)).sure : Int)) := by rw [cell_at hblk]; rfl
    have f0 : wr.frozen? ⟨w.heap.size, 0, none⟩ = false := frozen_at hblk _
    have f1 : wr.frozen? ⟨w.heap.size, 1, none⟩ = false := frozen_at hblk _
    have f2 : wr.frozen? ⟨w.heap.size, 2, none⟩ = false := frozen_at hblk _
    clear hblk hB0 hS
    by_cases hil : i < L.length
    · obtain ⟨a, n, f, A, C, rfl, hp, d0, d1, d2, hB⟩ := H.out.at2 hK.out (fun _ _ h => h) hil
      have HB := hid hB
      clear hB
      by_cases hn : n = name
      · subst hn
        have hbe : (n.toList == n.toList) = true := by simp
        have HPK := hid (show pick n (L.take (i + 1)) = f by rw [pick_take hp, if_pos rfl])
        clear hp
        go_wp2_with fail
        exact ⟨⟨i + 1, by simp, by omega, by simpa using hsr, hid (by rw [HPK.out]; exact ⟨A, C, slot_three HBLKr.out rfl _ _ _, HB.out⟩), hid (((hK.out.setCell (p := ⟨w.heap.size, 0, none⟩) (fun h => absurd h (Nat.lt_irrefl _)) _).setCell (p := ⟨w.heap.size, 1, none⟩) (fun h => absurd h (Nat.lt_irrefl _)) _).setCell (p := ⟨w.heap.size, 2, none⟩) (fun h => absurd h (Nat.lt_irrefl _)) _)⟩, by simp [RowKit.intOf]; omega⟩
      · have hbe : (n.toList == name.toList) = false := by rw [beq_eq_false_iff_ne]; exact fun e => hn (ByteArray.ext (Array.toList_inj.mp (by rw [toList_data, toList_data] at e; exact e)))
        have HPK := hid (show pick name (L.take (i + 1)) = pick name (L.take i) by rw [pick_take hp, if_neg hn])
        clear hp
        go_wp2_with fail
        exact ⟨⟨i + 1, by simp, by omega, hsr, hid (by rw [HPK.out]; exact ⟨A0, C0, HBLKr.out, HB0.out⟩), hK⟩, by simp [RowKit.intOf]; omega⟩
    · obtain rfl : i = L.length := by omega
      rw [List.take_length] at HBLKr HB0 c1 c2
      obtain ⟨fm, hfm⟩ : ∃ fm, pick name L = fm := ⟨_, rfl⟩
      rw [hfm] at HBLKr HB0 c1 c2
      have HFM := hid hfm
      clear hfm
      have HBr := hid (HB0.out.keep hK.out (fun _ _ h => h))
      have hs1 : ([] : List UInt8).length + fm.b.length ≤ 4294967296 := by rw [HFM.out] at hb1; simp; omega
      have hs2 : fm.b.length + b.length ≤ 4294967296 := by rw [HFM.out] at hb1; omega
      have HBB := hid hb
      clear hb c0 c1 c2 f0 f1 f2
      have c1 : wr.cell? ⟨w.heap.size, 1, none⟩ = some (.slice A0 fm.b.length C0) := by rw [cell_at HBLKr.out]; rfl
      go_wp2_with (first | (at_builtin; refine wpList_append_row rfl _ _ rfl (ByteRow.nil wr (w.heap.size + 1)) HBr.out rfl rfl hsr hs1 ?_; intro v1 wp hR hKp; rw [List.nil_append] at hR; have HR := hid hR; have HKP := hid (hK.out.trans hKp (fun i hi h => by omega)); have hsp := hKp.size; have hblk1 := hid (hKp.at HBLKr.out (by omega)); have HBp := hid (HBB.out.keep HKP.out (fun _ _ h => h)); clear hR hKp c1; obtain ⟨aR, cR, hv1⟩ := HR.out.slice; subst hv1) | (at_builtin; refine wpList_append_row rfl _ _ rfl HR.out HBp.out rfl rfl (by omega) hs2 ?_; intro v2 wq hR2 hKq; have HR2 := hid hR2; have HKQ := hid (HKP.out.trans hKq (fun i hi h => by omega)); have hsq := hKq.size; have hblk := hKq.at hblk1.out (by omega); have c0 : wq.cell? ⟨w.heap.size, 0, none⟩ = some (.string name) := (by rw [cell_at hblk]; rfl); have c1 : wq.cell? ⟨w.heap.size, 1, none⟩ = some (.slice A0 fm.b.length C0) := (by rw [cell_at hblk]; rfl); have c2 : wq.cell? ⟨w.heap.size, 2, none⟩ = some (.int .i64 (fm.sure : Int)) := (by rw [cell_at hblk]; rfl); have f1 : wq.frozen? ⟨w.heap.size, 1, none⟩ = false := frozen_at hblk _; clear hR2 hKq hblk; obtain ⟨aR2, cR2, hv2⟩ := HR2.out.slice; subst hv2; have HBQ := hid (((HR2.out.keep ((Keep.refl (fun i => i = w.heap.size) wq).setCell (p := ⟨w.heap.size, 1, none⟩) (fun _ => rfl) (.slice aR2 (fm.b.length + b.length) cR2)) (fun i h e => by omega)).fb.bytesIn))))
      have HRES := hid (show (⟨(pick name L).b ++ b, (pick name L).sure⟩ : FileM) = ⟨fm.b ++ b, fm.sure⟩ by rw [HFM.out])
      refine (put_at _ ((H.out.mono (G' := fun i => G i ∨ w.heap.size ≤ i) (fun i _ h => .inl h)).keep (HKQ.out.setCell (p := ⟨w.heap.size, 1, none⟩) (fun h => absurd h (Nat.lt_irrefl _)) _) (fun _ _ h => h)) hl name (fm.b ++ b) _ (fm.b.length + b.length) fm.sure (bytes_more HBQ.out (fun i _ h => .inr (by omega))) List.length_append rfl).mono ?_
      rintro e w2 ⟨v', rfl, hF, hK2⟩
      have HF2 := hid hF
      have HK2 := hid hK2
      clear hF hK2
      go_wp2_with fail
      all_goals go_ret
      all_goals exact ⟨_, rfl, by rw [HRES.out]; exact HF2.out.mono (fun i _ h => h.elim id (fun h => .inr (by simp at h; omega))), (HKQ.out.setCell (p := ⟨w.heap.size, 1, none⟩) (fun h => absurd h (Nat.lt_irrefl _)) _).trans HK2.out (fun _ _ h => h)⟩

end Go.Proofs.YtlabpmmcmejpmaaDoor.Ref

namespace Go.Proofs.YtlabpmmcmejpmaaDoor.Ref
open Go Go.RowKit Go.Lib Go.Proofs.YtlabpmmcmejpmaaDoor.Dsk Go.Proofs.YtlabpmmcmejpmaaDoor.Wal

def wrongAppend (R : RefD) (L : Files) (name : ByteArray) (m : Nat) : Int := if isName name.toList = true then (if R.size - (total L : Int) < (m : Int) ∨ mhas L name = false ∧ 100 ≤ L.length then 72 else 0) else 61
def wrongRename (L : Files) (name to : ByteArray) : Int := if isName to.toList = true then (if mhas L name = true then 0 else 70) else 61
def wrongShorten (L : Files) (name : ByteArray) (n : Int) : Int := if mhas L name = true then (if n < 0 then 1 else 0) else 70
def wrongOther (L : Files) (name : ByteArray) : Int := if mhas L name = true then 0 else 70

set_option maxRecDepth 100000 in
set_option maxHeartbeats 4000000 in
theorem wrong_sync (w : World) (R : RefD) {v : Value} {L : Files} {G : Nat → Prop} (h : FilesAt w v L G) (hl : L.length ≤ 100) (name to : ByteArray) (bv : Value) (n : Int) :
    Calls Tryd.prog 39 #[R.val v, .int .i64 1, .string name, .string to, bv, .int .i64 n] w fun e w' => e = .returned (.int .i64 (wrongOther L name)) ∧ Keep (fun _ => False) w w' := by
  obtain ⟨ao, cap, hv⟩ := h.slice
  subst hv
  obtain ⟨size, down, due, ops, part, keep⟩ := R
  have H := hid h
  clear h
  unfold RefD.val RefD.cells
  go_enter Tryd.func39, Tryd.ntmps39
  go_wp2_with fail
  refine (at_any _ ⟨size, down, due, ops, part, keep⟩ (H.out.keep ((Keep.refl (fun _ => False) w).alloc _) (fun _ _ h => h)) hl name).mono ?_
  rintro e w1 ⟨z, rfl, hz, hK⟩
  have HK1 := hid (((Keep.refl (fun _ => False) w).alloc (.cells #[.slice ao L.length cap, .int .i64 size, .bool down, .bool due, .int .i64 ops, .int .i64 part, .int .i64 keep] 28)).trans hK (fun _ _ h => h))
  have hs1 := hK.size
  clear hK
  cases hm : mhas L name with
  | true =>
    have hz' : 0 ≤ z := by rw [hm] at hz; simpa using hz
    have HM := hid hm
    clear hz hm
    have HR := hid (show wrongOther L name = 0 by unfold wrongOther; rw [HM.out]; rfl)
    go_wp2_with fail
    all_goals go_ret
    all_goals exact ⟨by rw [HR.out]; rfl, HK1.out⟩
  | false =>
    have hz' : ¬ 0 ≤ z := by rw [hm] at hz; simpa using hz
    rw [hm] at hz
    have HM := hid hm
    clear hm
    have HR := hid (show wrongOther L name = 70 by unfold wrongOther; rw [HM.out]; rfl)
    go_wp2_with fail
    all_goals go_ret
    all_goals exact ⟨by rw [HR.out]; rfl, HK1.out⟩

set_option maxRecDepth 100000 in
set_option maxHeartbeats 4000000 in
theorem wrong_remove (w : World) (R : RefD) {v : Value} {L : Files} {G : Nat → Prop} (h : FilesAt w v L G) (hl : L.length ≤ 100) (name to : ByteArray) (bv : Value) (n : Int) :
    Calls Tryd.prog 39 #[R.val v, .int .i64 3, .string name, .string to, bv, .int .i64 n] w fun e w' => e = .returned (.int .i64 (wrongOther L name)) ∧ Keep (fun _ => False) w w' := by
  obtain ⟨ao, cap, hv⟩ := h.slice
  subst hv
  obtain ⟨size, down, due, ops, part, keep⟩ := R
  have H := hid h
  clear h
  unfold RefD.val RefD.cells
  go_enter Tryd.func39, Tryd.ntmps39
  go_wp2_with fail
  refine (at_any _ ⟨size, down, due, ops, part, keep⟩ (H.out.keep ((Keep.refl (fun _ => False) w).alloc _) (fun _ _ h => h)) hl name).mono ?_
  rintro e w1 ⟨z, rfl, hz, hK⟩
  have HK1 := hid (((Keep.refl (fun _ => False) w).alloc (.cells #[.slice ao L.length cap, .int .i64 size, .bool down, .bool due, .int .i64 ops, .int .i64 part, .int .i64 keep] 28)).trans hK (fun _ _ h => h))
  have hs1 := hK.size
  clear hK
  cases hm : mhas L name with
  | true =>
    have hz' : 0 ≤ z := by rw [hm] at hz; simpa using hz
    have HM := hid hm
    clear hz hm
    have HR := hid (show wrongOther L name = 0 by unfold wrongOther; rw [HM.out]; rfl)
    go_wp2_with fail
    all_goals go_ret
    all_goals exact ⟨by rw [HR.out]; rfl, HK1.out⟩
  | false =>
    have hz' : ¬ 0 ≤ z := by rw [hm] at hz; simpa using hz
    rw [hm] at hz
    have HM := hid hm
    clear hm
    have HR := hid (show wrongOther L name = 70 by unfold wrongOther; rw [HM.out]; rfl)
    go_wp2_with fail
    all_goals go_ret
    all_goals exact ⟨by rw [HR.out]; rfl, HK1.out⟩

set_option maxRecDepth 100000 in
set_option maxHeartbeats 4000000 in
theorem wrong_shorten (w : World) (R : RefD) {v : Value} {L : Files} {G : Nat → Prop} (h : FilesAt w v L G) (hl : L.length ≤ 100) (name to : ByteArray) (bv : Value) (n : Int) :
    Calls Tryd.prog 39 #[R.val v, .int .i64 4, .string name, .string to, bv, .int .i64 n] w fun e w' => e = .returned (.int .i64 (wrongShorten L name n)) ∧ Keep (fun _ => False) w w' := by
  obtain ⟨ao, cap, hv⟩ := h.slice
  subst hv
  obtain ⟨size, down, due, ops, part, keep⟩ := R
  have H := hid h
  clear h
  unfold RefD.val RefD.cells
  go_enter Tryd.func39, Tryd.ntmps39
  go_wp2_with fail
  refine (at_any _ ⟨size, down, due, ops, part, keep⟩ (H.out.keep ((Keep.refl (fun _ => False) w).alloc _) (fun _ _ h => h)) hl name).mono ?_
  rintro e w1 ⟨z, rfl, hz, hK⟩
  have HK1 := hid (((Keep.refl (fun _ => False) w).alloc (.cells #[.slice ao L.length cap, .int .i64 size, .bool down, .bool due, .int .i64 ops, .int .i64 part, .int .i64 keep] 28)).trans hK (fun _ _ h => h))
  have hs1 := hK.size
  clear hK
  cases hm : mhas L name with
  | true =>
    have hz' : 0 ≤ z := by rw [hm] at hz; simpa using hz
    have HM := hid hm
    clear hz hm
    by_cases hn : n < 0
    · have HR := hid (show wrongShorten L name n = 1 by unfold wrongShorten; rw [HM.out, if_pos rfl, if_pos hn])
      go_wp2_with fail
      all_goals go_ret
      all_goals exact ⟨by rw [HR.out]; rfl, HK1.out⟩
    · have HR := hid (show wrongShorten L name n = 0 by unfold wrongShorten; rw [HM.out, if_pos rfl, if_neg hn])
      go_wp2_with fail
      all_goals go_ret
      all_goals exact ⟨by rw [HR.out]; rfl, HK1.out⟩
  | false =>
    have hz' : ¬ 0 ≤ z := by rw [hm] at hz; simpa using hz
    rw [hm] at hz
    have HM := hid hm
    clear hm
    have HR := hid (show wrongShorten L name n = 70 by unfold wrongShorten; rw [HM.out]; rfl)
    go_wp2_with fail
    all_goals go_ret
    all_goals exact ⟨by rw [HR.out]; rfl, HK1.out⟩

set_option maxRecDepth 100000 in
set_option maxHeartbeats 4000000 in
theorem wrong_rename (w : World) (R : RefD) {v : Value} {L : Files} {G : Nat → Prop} (h : FilesAt w v L G) (hl : L.length ≤ 100) (name to : ByteArray) (bv : Value) (n : Int) :
    Calls Tryd.prog 39 #[R.val v, .int .i64 2, .string name, .string to, bv, .int .i64 n] w fun e w' => e = .returned (.int .i64 (wrongRename L name to)) ∧ Keep (fun _ => False) w w' := by
  obtain ⟨ao, cap, hv⟩ := h.slice
  subst hv
  obtain ⟨size, down, due, ops, part, keep⟩ := R
  have H := hid h
  clear h
  unfold RefD.val RefD.cells
  go_enter Tryd.func39, Tryd.ntmps39
  go_wp2_with fail
  refine (at_any _ ⟨size, down, due, ops, part, keep⟩ (H.out.keep ((Keep.refl (fun _ => False) w).alloc _) (fun _ _ h => h)) hl name).mono ?_
  rintro e w1 ⟨z, rfl, hz, hK⟩
  have HK1 := hid (((Keep.refl (fun _ => False) w).alloc (.cells #[.slice ao L.length cap, .int .i64 size, .bool down, .bool due, .int .i64 ops, .int .i64 part, .int .i64 keep] 28)).trans hK (fun _ _ h => h))
  have hs1 := hK.size
  clear hK
  cases hm : mhas L name with
  | true =>
    have hz' : 0 ≤ z := by rw [hm] at hz; simpa using hz
    have HM := hid hm
    clear hz hm
    go_wp2_with fail
    refine (rmay_any _ to).mono ?_
    rintro e w2 ⟨rfl, hK2⟩
    have hs2 := hK2.size
    have HK2 := hid (HK1.out.trans hK2 (fun _ _ h => h))
    cases hn : isName to.toList with
    | true =>
      have HN := hid hn
      clear hn hK2
      have HR := hid (show wrongRename L name to = 0 by unfold wrongRename; rw [HN.out, if_pos rfl, HM.out]; rfl)
      go_wp2_with fail
      all_goals go_ret
      all_goals exact ⟨by rw [HR.out]; rfl, HK2.out⟩
    | false =>
      have HN := hid hn
      clear hn hK2
      have HR := hid (show wrongRename L name to = 61 by unfold wrongRename; rw [HN.out]; rfl)
      go_wp2_with fail
      all_goals go_ret
      all_goals exact ⟨by rw [HR.out]; rfl, HK2.out⟩
  | false =>
    have hz' : ¬ 0 ≤ z := by rw [hm] at hz; simpa using hz
    rw [hm] at hz
    have HM := hid hm
    clear hm
    go_wp2_with fail
    refine (rmay_any _ to).mono ?_
    rintro e w2 ⟨rfl, hK2⟩
    have hs2 := hK2.size
    have HK2 := hid (HK1.out.trans hK2 (fun _ _ h => h))
    cases hn : isName to.toList with
    | true =>
      have HN := hid hn
      clear hn hK2
      have HR := hid (show wrongRename L name to = 70 by unfold wrongRename; rw [HN.out, if_pos rfl, HM.out]; rfl)
      go_wp2_with fail
      all_goals go_ret
      all_goals exact ⟨by rw [HR.out]; rfl, HK2.out⟩
    | false =>
      have HN := hid hn
      clear hn hK2
      have HR := hid (show wrongRename L name to = 61 by unfold wrongRename; rw [HN.out]; rfl)
      go_wp2_with fail
      all_goals go_ret
      all_goals exact ⟨by rw [HR.out]; rfl, HK2.out⟩

set_option maxRecDepth 100000 in
set_option maxHeartbeats 4000000 in
theorem wrong_append (w : World) (R : RefD) {v : Value} {L : Files} {G : Nat → Prop} (h : FilesAt w v L G) (hl : L.length ≤ 100) (hs : 0 ≤ R.size ∧ R.size ≤ 2147483648) (ht : total L ≤ 2147483648) (name to : ByteArray) (bo : Option Addr) (m bc : Nat) (n : Int) :
    Calls Tryd.prog 39 #[R.val v, .int .i64 0, .string name, .string to, .slice bo m bc, .int .i64 n] w fun e w' => e = .returned (.int .i64 (wrongAppend R L name m)) ∧ Keep (fun _ => False) w w' := by
  obtain ⟨ao, cap, hv⟩ := h.slice
  subst hv
  obtain ⟨size, down, due, ops, part, keep⟩ := R
  have H := hid h
  clear h
  simp only at hs
  unfold RefD.val RefD.cells
  go_enter Tryd.func39, Tryd.ntmps39
  go_wp2_with fail
  refine (at_any _ ⟨size, down, due, ops, part, keep⟩ (H.out.keep ((Keep.refl (fun _ => False) w).alloc _) (fun _ _ h => h)) hl name).mono ?_
  rintro e w1 ⟨z, rfl, hz, hK⟩
  have HB1 := hid (hK.at (heap_alloc_new w (.cells #[.slice ao L.length cap, .int .i64 size, .bool down, .bool due, .int .i64 ops, .int .i64 part, .int .i64 keep] 28)) (fun h => h))
  have HK1 := hid (((Keep.refl (fun _ => False) w).alloc (.cells #[.slice ao L.length cap, .int .i64 size, .bool down, .bool due, .int .i64 ops, .int .i64 part, .int .i64 keep] 28)).trans hK (fun _ _ h => h))
  have hs1 := hK.size
  clear hK
  cases hm : mhas L name with
  | true =>
    have hz' : 0 ≤ z := by rw [hm] at hz; simpa using hz
    have HM := hid hm
    clear hz hm
    go_wp2_with fail
    refine (rmay_any _ name).mono ?_
    rintro e w2 ⟨rfl, hK2⟩
    have hs2 := hK2.size
    have HK2 := hid (HK1.out.trans hK2 (fun _ _ h => h))
    cases hn : isName name.toList with
    | false =>
      have HN := hid hn
      clear hn hK2
      have HR := hid (show wrongAppend ⟨size, down, due, ops, part, keep⟩ L name m = 61 by unfold wrongAppend; rw [HN.out]; rfl)
      go_wp2_with fail
      all_goals go_ret
      all_goals exact ⟨by rw [HR.out]; rfl, HK2.out⟩
    | true =>
      have HN := hid hn
      have HB2 := hid (hK2.at HB1.out (fun h => h))
      clear hn hK2
      have e0 : w2.cell? ⟨w.heap.size, 0, none⟩ = some (.slice ao L.length cap) := by rw [cell_at HB2.out]; rfl
      have e1 : w2.cell? ⟨w.heap.size, 1, none⟩ = some (.int .i64 size) := by rw [cell_at HB2.out]; rfl
      have e2 : w2.cell? ⟨w.heap.size, 2, none⟩ = some (.bool down) := by rw [cell_at HB2.out]; rfl
      have e3 : w2.cell? ⟨w.heap.size, 3, none⟩ = some (.bool due) := by rw [cell_at HB2.out]; rfl
      have e4 : w2.cell? ⟨w.heap.size, 4, none⟩ = some (.int .i64 ops) := by rw [cell_at HB2.out]; rfl
      have e5 : w2.cell? ⟨w.heap.size, 5, none⟩ = some (.int .i64 part) := by rw [cell_at HB2.out]; rfl
      have e6 : w2.cell? ⟨w.heap.size, 6, none⟩ = some (.int .i64 keep) := by rw [cell_at HB2.out]; rfl
      go_wp2_with fail
      refine (rroom_any _ ⟨size, down, due, ops, part, keep⟩ (H.out.keep HK2.out (fun _ _ h => h)) hl hs ht).mono ?_
      rintro e w3 ⟨rfl, hK3⟩
      have HB3 := hid (hK3.at HB2.out (fun h => h))
      have HK3 := hid (HK2.out.trans hK3 (fun _ _ h => h))
      clear hK3 e0 e1 e2 e3 e4 e5 e6
      have e0 : w3.cell? ⟨w.heap.size, 0, none⟩ = some (.slice ao L.length cap) := by rw [cell_at HB3.out]; rfl
      by_cases hr : size - (total L : Int) < (m : Int)
      · have HR := hid (show wrongAppend ⟨size, down, due, ops, part, keep⟩ L name m = 72 by unfold wrongAppend; rw [HN.out, if_pos rfl, if_pos (.inl hr)])
        go_wp2_with fail
        all_goals go_ret
        all_goals exact ⟨by rw [HR.out]; rfl, HK3.out⟩
      · have HR := hid (show wrongAppend ⟨size, down, due, ops, part, keep⟩ L name m = 0 by unfold wrongAppend; rw [HN.out, if_pos rfl, if_neg (by rw [HM.out]; rintro (h | ⟨h, -⟩); exact hr h; cases h)])
        go_wp2_with fail
        all_goals go_ret
        all_goals exact ⟨by rw [HR.out]; rfl, HK3.out⟩
  | false =>
    have hz' : ¬ 0 ≤ z := by rw [hm] at hz; simpa using hz
    rw [hm] at hz
    have HM := hid hm
    clear hm
    go_wp2_with fail
    refine (rmay_any _ name).mono ?_
    rintro e w2 ⟨rfl, hK2⟩
    have hs2 := hK2.size
    have HK2 := hid (HK1.out.trans hK2 (fun _ _ h => h))
    cases hn : isName name.toList with
    | false =>
      have HN := hid hn
      clear hn hK2
      have HR := hid (show wrongAppend ⟨size, down, due, ops, part, keep⟩ L name m = 61 by unfold wrongAppend; rw [HN.out]; rfl)
      go_wp2_with fail
      all_goals go_ret
      all_goals exact ⟨by rw [HR.out]; rfl, HK2.out⟩
    | true =>
      have HN := hid hn
      have HB2 := hid (hK2.at HB1.out (fun h => h))
      clear hn hK2
      have e0 : w2.cell? ⟨w.heap.size, 0, none⟩ = some (.slice ao L.length cap) := by rw [cell_at HB2.out]; rfl
      have e1 : w2.cell? ⟨w.heap.size, 1, none⟩ = some (.int .i64 size) := by rw [cell_at HB2.out]; rfl
      have e2 : w2.cell? ⟨w.heap.size, 2, none⟩ = some (.bool down) := by rw [cell_at HB2.out]; rfl
      have e3 : w2.cell? ⟨w.heap.size, 3, none⟩ = some (.bool due) := by rw [cell_at HB2.out]; rfl
      have e4 : w2.cell? ⟨w.heap.size, 4, none⟩ = some (.int .i64 ops) := by rw [cell_at HB2.out]; rfl
      have e5 : w2.cell? ⟨w.heap.size, 5, none⟩ = some (.int .i64 part) := by rw [cell_at HB2.out]; rfl
      have e6 : w2.cell? ⟨w.heap.size, 6, none⟩ = some (.int .i64 keep) := by rw [cell_at HB2.out]; rfl
      go_wp2_with fail
      refine (rroom_any _ ⟨size, down, due, ops, part, keep⟩ (H.out.keep HK2.out (fun _ _ h => h)) hl hs ht).mono ?_
      rintro e w3 ⟨rfl, hK3⟩
      have HB3 := hid (hK3.at HB2.out (fun h => h))
      have HK3 := hid (HK2.out.trans hK3 (fun _ _ h => h))
      clear hK3 e0 e1 e2 e3 e4 e5 e6
      have e0 : w3.cell? ⟨w.heap.size, 0, none⟩ = some (.slice ao L.length cap) := by rw [cell_at HB3.out]; rfl
      by_cases hr : size - (total L : Int) < (m : Int)
      · have HR := hid (show wrongAppend ⟨size, down, due, ops, part, keep⟩ L name m = 72 by unfold wrongAppend; rw [HN.out, if_pos rfl, if_pos (.inl hr)])
        go_wp2_with fail
        all_goals go_ret
        all_goals exact ⟨by rw [HR.out]; rfl, HK3.out⟩
      · by_cases h100 : 100 ≤ L.length
        · have HR := hid (show wrongAppend ⟨size, down, due, ops, part, keep⟩ L name m = 72 by unfold wrongAppend; rw [HN.out, if_pos rfl, if_pos (.inr ⟨HM.out, h100⟩)])
          go_wp2_with fail
          all_goals go_ret
          all_goals exact ⟨by rw [HR.out]; rfl, HK3.out⟩
        · have HR := hid (show wrongAppend ⟨size, down, due, ops, part, keep⟩ L name m = 0 by unfold wrongAppend; rw [HN.out, if_pos rfl, if_neg (by rintro (h | ⟨-, h⟩); exact hr h; exact h100 h)])
          go_wp2_with fail
          all_goals go_ret
          all_goals exact ⟨by rw [HR.out]; rfl, HK3.out⟩

end Go.Proofs.YtlabpmmcmejpmaaDoor.Ref
