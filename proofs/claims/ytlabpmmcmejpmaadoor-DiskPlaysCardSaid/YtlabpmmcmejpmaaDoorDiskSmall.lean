/- package disk's small functions, walked. -/
import Derived.Test.YtlabpmmcmejpmaaDoorDiskRep
import Derived.Test.YtlabpmmcmejpmaaDoorTrim
import Derived.Test.YtlabpmmcmejpmaaDoorMapWalk
namespace Go.Proofs.YtlabpmmcmejpmaaDoor.Dsk
open Go Go.RowKit Go.Lib

theorem cell_at {w : World} {g : Nat} {cs : Array Value} {t : TypeId} {fr : Nat × Nat} (h : w.heap[g]? = some (.cells cs t fr)) (i : Nat) : w.cell? ⟨g, i, none⟩ = cs[i]? := cell_of_row _ _ _ _ _ _ h
theorem frozen_at {w : World} {g : Nat} {cs : Array Value} {t : TypeId} (h : w.heap[g]? = some (.cells cs t (0, 0))) (i : Nat) : w.frozen? ⟨g, i, none⟩ = false := by
  simp [World.frozen?, h]

theorem DiskAt.c0 {w : World} {db mr : Nat} {gs : ByteArray → Nat} {cv : Value} {D : DiskM} {F : Nat → Prop} (h : DiskAt w db mr gs cv D F) : w.cell? ⟨db, 0, none⟩ = some (.int .i64 (D.room : Int)) := by rw [cell_at h.disk]; rfl
theorem DiskAt.c1 {w : World} {db mr : Nat} {gs : ByteArray → Nat} {cv : Value} {D : DiskM} {F : Nat → Prop} (h : DiskAt w db mr gs cv D F) : w.cell? ⟨db, 1, none⟩ = some (.map (some mr)) := by rw [cell_at h.disk]; rfl
theorem DiskAt.c2 {w : World} {db mr : Nat} {gs : ByteArray → Nat} {cv : Value} {D : DiskM} {F : Nat → Prop} (h : DiskAt w db mr gs cv D F) : w.cell? ⟨db, 2, none⟩ = some (.bool D.off) := by rw [cell_at h.disk]; rfl
theorem DiskAt.c3 {w : World} {db mr : Nat} {gs : ByteArray → Nat} {cv : Value} {D : DiskM} {F : Nat → Prop} (h : DiskAt w db mr gs cv D F) : w.cell? ⟨db, 3, none⟩ = some cv := by rw [cell_at h.disk]; rfl

/-- d.down(). -/
theorem down_any (w : World) {db mr : Nat} {gs : ByteArray → Nat} {cv : Value} {D : DiskM} {F : Nat → Prop} (h : DiskAt w db mr gs cv D F) :
    Calls Tryd.prog 27 #[ptr db] w fun e w' => e = .returned (.int .i64 (if D.off then 71 else 0)) ∧ w' = w := by
  have h2 := h.c2
  unfold ptr
  cases ho : D.off with
  | true =>
    rw [ho] at h2
    go_enter Tryd.func27, Tryd.ntmps27
    go_wp2_with fail
    go_ret
    exact ⟨rfl, rfl⟩
  | false =>
    rw [ho] at h2
    go_enter Tryd.func27, Tryd.ntmps27
    go_wp2_with fail
    go_ret
    exact ⟨rfl, rfl⟩

/-- d.Off(). -/
theorem off_any (w : World) {db mr : Nat} {gs : ByteArray → Nat} {cv : Value} {D : DiskM} {F : Nat → Prop} (h : DiskAt w db mr gs cv D F) :
    Calls Tryd.prog 21 #[ptr db] w fun e w' => e = .returned (.bool D.off) ∧ w' = w := by
  have h2 := h.c2
  unfold ptr
  go_enter Tryd.func21, Tryd.ntmps21
  go_wp2_with fail
  go_ret
  exact ⟨rfl, rfl⟩

theorem mkey_name : MKey Tryd.prog 9 Value.string := mkey_string (by kernel_rfl)
theorem under_map : Tryd.prog.underlying 49 = some (.map 9 64) := by kernel_rfl
theorem zero_ptr (w : World) : (zeroValue 64).run Tryd.prog w = .ok (.pointer none) w := by
  have h : (Tryd.prog.info? 64).map (fun i => i.zero) = some (some (.pointer none)) := by kernel_rfl
  cases hi : Tryd.prog.info? 64 with
  | none => rw [hi] at h; cases h
  | some i =>
    rw [hi] at h
    simp only [Option.map_some, Option.some.injEq] at h
    simp [zeroValue, typeInfo, hi, h]

/-- d.files[name]. -/
theorem look_any {w : World} {db mr : Nat} {gs : ByteArray → Nat} {cv : Value} {D : DiskM} {F : Nat → Prop} (h : DiskAt w db mr gs cv D F) (name : ByteArray) :
    (Instr.lookup 49 (.map (some mr)) (.string name) false).run Tryd.prog w = .ok (if mhas D.files name then ptr (gs name) else .pointer none) w := by
  obtain ⟨es, clock, hm⟩ := h.map
  rw [run_lookup_map mkey_name 49 64 under_map (.pointer none) zero_ptr hm name false, mget_ptrs]
  unfold mhas
  cases mget D.files name <;> rfl

set_option maxRecDepth 100000 in
/-- d.none(name). -/
theorem none_any (w : World) {db mr : Nat} {gs : ByteArray → Nat} {cv : Value} {D : DiskM} {F : Nat → Prop} (h : DiskAt w db mr gs cv D F) (name : ByteArray) :
    Calls Tryd.prog 28 #[ptr db, .string name] w fun e w' => e = .returned (.int .i64 (noneE D name)) ∧ w' = w := by
  have h1 := h.c1
  have hl := look_any h name
  unfold noneE
  cases hh : mhas D.files name with
  | true =>
    rw [hh, if_pos rfl] at hl
    unfold ptr at hl ⊢
    have HL := hid hl
    clear hl
    go_enter Tryd.func28, Tryd.ntmps28
    go_wp2_with ((with_reducible refine at_lookup ?_); refine wpList_lookup rfl _ _ _ _ rfl rfl rfl HL.out ?_; dsimp only)
    go_ret
    exact ⟨rfl, rfl⟩
  | false =>
    rw [hh, if_neg (by simp)] at hl
    unfold ptr
    have HL := hid hl
    clear hl
    go_enter Tryd.func28, Tryd.ntmps28
    go_wp2_with ((with_reducible refine at_lookup ?_); refine wpList_lookup rfl _ _ _ _ rfl rfl rfl HL.out ?_; dsimp only)
    go_ret
    exact ⟨rfl, rfl⟩

end Go.Proofs.YtlabpmmcmejpmaaDoor.Dsk
