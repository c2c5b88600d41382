/- package disk: New, On, Cut, walked. -/
import Derived.Test.YtlabpmmcmejpmaaDoorDiskSmall
namespace Go.Proofs.YtlabpmmcmejpmaaDoor.Dsk
open Go Go.RowKit Go.Lib

/-- d.On(). -/
theorem on_any (w : World) {db mr : Nat} {gs : ByteArray → Nat} {cv : Value} {D : DiskM} {F : Nat → Prop} (h : DiskAt w db mr gs cv D F) :
    Calls Tryd.prog 11 #[ptr db] w fun e w' => e = .returned (.tuple #[]) ∧ IsDisk w' db (on D) F ∧ Keep F w w' := by
  have h2 := h.c2
  have h3 := h.c3
  have f2 : w.frozen? ⟨db, 2, none⟩ = false := frozen_at h.disk 2
  have f3 : w.frozen? ⟨db, 3, none⟩ = false := frozen_at h.disk 3
  have hP1 := h.poke 2 (.bool false) { D with off := false } cv rfl rfl rfl h.cut
  have hP2 := hP1.poke 3 (.pointer none) (on D) (.pointer none) rfl rfl rfl rfl
  have k2 : Keep F w ((w.setCell ⟨db, 2, none⟩ (.bool false)).setCell ⟨db, 3, none⟩ (.pointer none)) :=
    ((Keep.refl F w).setCell (fun _ => h.fdb) _).setCell (fun _ => h.fdb) _
  unfold ptr
  go_enter Tryd.func11, Tryd.ntmps11
  go_wp2_with fail
  refine bodyPost_end (results_none rfl _ _ _) rfl ?_
  exact ⟨rfl, ⟨_, _, _, hP2⟩, k2⟩

set_option maxRecDepth 100000 in
/-- d.Cut(..). -/
theorem cut_any (w : World) {db mr : Nat} {gs : ByteArray → Nat} {cv : Value} {D : DiskM} {F : Nat → Prop} (h : DiskAt w db mr gs cv D F) (o p k : Int)
    (ho : o < 9223372036854775808) (hp : p < 9223372036854775808) (hk : k < 9223372036854775808) :
    Calls Tryd.prog 18 #[ptr db, .int .i64 o, .int .i64 p, .int .i64 k] w fun e w' =>
      e = .returned (.int .i64 (cutTo D o p k).2) ∧ IsDisk w' db (cutTo D o p k).1 (fun i => F i ∨ w.heap.size ≤ i) ∧ Keep F w w' := by
  have h2 := h.c2
  have h3 := h.c3
  have f3 : w.frozen? ⟨db, 3, none⟩ = false := frozen_at h.disk 3
  have hlt := lt_of_block h.disk
  have hm : DiskAt w db mr gs cv D (fun i => F i ∨ w.heap.size ≤ i) := h.mono fun i hi => .inl hi
  unfold ptr cutTo
  by_cases ho0 : o < 0
  · rw [if_pos (.inl ho0)]
    go_enter Tryd.func18, Tryd.ntmps18
    go_wp2_with fail
    go_ret
    exact ⟨rfl, ⟨_, _, _, hm⟩, Keep.refl _ _⟩
  by_cases hp0 : p < 0
  · rw [if_pos (.inr (.inl hp0))]
    go_enter Tryd.func18, Tryd.ntmps18
    go_wp2_with fail
    go_ret
    exact ⟨rfl, ⟨_, _, _, hm⟩, Keep.refl _ _⟩
  by_cases hk0 : k < 0
  · rw [if_pos (.inr (.inr hk0))]
    go_enter Tryd.func18, Tryd.ntmps18
    go_wp2_with fail
    go_ret
    exact ⟨rfl, ⟨_, _, _, hm⟩, Keep.refl _ _⟩
  rw [if_neg (by omega)]
  cases hoff : D.off with
  | true =>
    rw [hoff] at h2
    simp only [if_true]
    go_enter Tryd.func18, Tryd.ntmps18
    go_wp2_with fail
    go_ret
    exact ⟨rfl, ⟨_, _, _, hm⟩, Keep.refl _ _⟩
  | false =>
    rw [hoff] at h2
    simp only [Bool.false_eq_true, if_false]
    have hA : DiskAt (w.alloc (.cells #[.int .i64 o, .int .i64 p, .int .i64 k] 69)) db mr gs cv D (fun i => F i ∨ w.heap.size ≤ i) := by
      refine (h.keep ((Keep.refl (fun _ => False) w).alloc _) (fun _ _ h => h)).mono fun i hi => .inl hi
    have hC := hA.poke 3 (ptr w.heap.size) { D with cut := some (o.toNat, p.toNat, k.toNat) } (ptr w.heap.size) rfl rfl rfl ⟨w.heap.size, rfl, by
      rw [heap_alloc_new]
      rw [Int.toNat_of_nonneg (Int.not_lt.1 ho0), Int.toNat_of_nonneg (Int.not_lt.1 hp0), Int.toNat_of_nonneg (Int.not_lt.1 hk0)], .inr (Nat.le_refl _), by omega, by omega, by omega⟩
    have hK : Keep F w ((w.alloc (.cells #[.int .i64 o, .int .i64 p, .int .i64 k] 69)).setCell ⟨db, 3, none⟩ (ptr w.heap.size)) := ((Keep.refl F w).alloc _).setCell (fun _ => h.fdb) _
    rw [World.setCell_alloc_past (hn := hlt)] at hC hK
    rw [hoff] at hC
    go_enter Tryd.func18, Tryd.ntmps18
    go_wp2_with fail
    go_ret
    exact ⟨rfl, ⟨_, _, _, hC⟩, hK⟩

set_option maxRecDepth 100000 in
/-- New(room). -/
theorem new_any (room : Int) (w : World) (hr : room ≤ 2147483648) :
    Calls Tryd.prog 7 #[.int .i64 room] w fun e w' => ∃ db, e = .returned (ptr db) ∧ w.heap.size ≤ db ∧ IsDisk w' db (new room) (fun i => w.heap.size ≤ i) ∧ Keep (fun _ => False) w w' := by
  have hend : ∀ n : Int, n = max room 0 → IsDisk ((w.alloc (.map #[] 0)).alloc (.cells #[.int .i64 n, .map (some w.heap.size), .bool false, .pointer none] 52)) (w.heap.size + 1) (new room) (fun i => w.heap.size ≤ i) := by
    intro n hn
    refine ⟨w.heap.size, fun _ => 0, .pointer none, ⟨?_, ⟨#[], 0, ⟨?_, rfl, rfl, List.nodup_nil, ?_, ?_⟩⟩, rfl, ?_, ?_, ⟨List.nodup_nil, ?_, ?_, ?_⟩, Nat.le_succ _, Nat.le_refl _⟩⟩
    · have := heap_alloc_new (w.alloc (.map #[] 0)) (.cells #[.int .i64 n, .map (some w.heap.size), .bool false, .pointer none] 52)
      rw [World.size_alloc] at this
      rw [this, hn]
      unfold new
      simp only
      rw [Int.toNat_of_nonneg (by omega)]
    · rw [Below.heap_alloc _ _ _ (by simp), heap_alloc_new]
    · intro e he; simp at he
    · simp
    · intro p hp; cases hp
    · intro p hp; cases hp
    · intro p hp; cases hp
    · simp [new, total]
    · simp only [new]; omega
  have hmm : ∀ w : World, (Instr.makeMap 49 none).run Tryd.prog w = .ok (.map (some w.heap.size)) (w.alloc (.map #[] 0)) := fun _ => rfl
  have hK : ∀ o1 o2, Keep (fun _ => False) w ((w.alloc o1).alloc o2) := fun o1 o2 => ((Keep.refl _ w).alloc o1).alloc o2
  go_enter Tryd.func7, Tryd.ntmps7
  go_wp2_with fail
  go_ret
  exact ⟨w.heap.size + 1, rfl, Nat.le_succ _, hend _ (by simp), hK _ _⟩

end Go.Proofs.YtlabpmmcmejpmaaDoor.Dsk
