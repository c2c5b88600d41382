/- package disk's small functions, walked. package disk: New, On, Cut, walked. disk.may, walked: what may be a file's name. -/
import Derived.Test.YtmdibkafjpglkaaGreatDoorDiskRep
import Derived.Test.YtmdibkafjpglkaaGreatDoorTrim
import Derived.Test.YtmdibkafjpglkaaGreatDoorMapTodo
namespace Go.Proofs.YtmdibkafjpglkaaGreatDoor.Dsk
open Go Go.RowKit Go.Lib

theorem cell_at {w : World} {g : Nat} {cs : Array Value} {t : TypeId} {fr : Nat × Nat} (h : w.heap[g]? = some (.cells cs t fr)) (i : Nat) : w.cell? ⟨g, i, none⟩ = cs[i]? := cell_of_row _ _ _ _ _ _ h
theorem frozen_at {w : World} {g : Nat} {cs : Array Value} {t : TypeId} (h : w.heap[g]? = some (.cells cs t (0, 0))) (i : Nat) : w.frozen? ⟨g, i, none⟩ = false := by
  simp [World.frozen?, h]

theorem DiskAt.c0 {w : World} {db mr : Nat} {gs : ByteArray → Nat} {cv : Value} {D : DiskM} {F : Nat → Prop} (h : DiskAt w db mr gs cv D F) : w.cell? ⟨db, 0, none⟩ = some (.int .i64 (D.room : Int)) := by rw [cell_at h.disk]; rfl
theorem DiskAt.c1 {w : World} {db mr : Nat} {gs : ByteArray → Nat} {cv : Value} {D : DiskM} {F : Nat → Prop} (h : DiskAt w db mr gs cv D F) : w.cell? ⟨db, 1, none⟩ = some (.map (some mr)) := by rw [cell_at h.disk]; rfl
theorem DiskAt.c2 {w : World} {db mr : Nat} {gs : ByteArray → Nat} {cv : Value} {D : DiskM} {F : Nat → Prop} (h : DiskAt w db mr gs cv D F) : w.cell? ⟨db, 2, none⟩ = some (.bool D.off) := by rw [cell_at h.disk]; rfl
theorem DiskAt.c3 {w : World} {db mr : Nat} {gs : ByteArray → Nat} {cv : Value} {D : DiskM} {F : Nat → Prop} (h : DiskAt w db mr gs cv D F) : w.cell? ⟨db, 3, none⟩ = some cv := by rw [cell_at h.disk]; rfl

/-- d.down(). -/
theorem down_any (w : World) {db mr : Nat} {gs : ByteArray → Nat} {cv : Value} {D : DiskM} {F : Nat → Prop} (h : DiskAt w db mr gs cv D F) :
    Calls Tryz.prog 26 #[ptr db] w fun e w' => e = .returned (.int .i64 (if D.off then 71 else 0)) ∧ w' = w := by
  have h2 := h.c2
  unfold ptr
  cases ho : D.off with
  | true =>
    rw [ho] at h2
    go_enter Tryz.func26, Tryz.ntmps26
    go_wp2_with fail
    go_ret
    exact ⟨rfl, rfl⟩
  | false =>
    rw [ho] at h2
    go_enter Tryz.func26, Tryz.ntmps26
    go_wp2_with fail
    go_ret
    exact ⟨rfl, rfl⟩

/-- d.Off(). -/
theorem off_any (w : World) {db mr : Nat} {gs : ByteArray → Nat} {cv : Value} {D : DiskM} {F : Nat → Prop} (h : DiskAt w db mr gs cv D F) :
    Calls Tryz.prog 15 #[ptr db] w fun e w' => e = .returned (.bool D.off) ∧ w' = w := by
  have h2 := h.c2
  unfold ptr
  go_enter Tryz.func15, Tryz.ntmps15
  go_wp2_with fail
  go_ret
  exact ⟨rfl, rfl⟩

theorem mkey_name : MKey Tryz.prog 9 Value.string := mkey_string (by kernel_rfl)
theorem under_map : Tryz.prog.underlying 52 = some (.map 9 61) := by kernel_rfl
theorem zero_ptr (w : World) : (zeroValue 61).run Tryz.prog w = .ok (.pointer none) w := by
  have h : (Tryz.prog.info? 61).map (fun i => i.zero) = some (some (.pointer none)) := by kernel_rfl
  cases hi : Tryz.prog.info? 61 with
  | none => rw [hi] at h; cases h
  | some i =>
    rw [hi] at h
    simp only [Option.map_some, Option.some.injEq] at h
    simp [zeroValue, typeInfo, hi, h]

/-- d.files[name]. -/
theorem look_any {w : World} {db mr : Nat} {gs : ByteArray → Nat} {cv : Value} {D : DiskM} {F : Nat → Prop} (h : DiskAt w db mr gs cv D F) (name : ByteArray) :
    (Instr.lookup 52 (.map (some mr)) (.string name) false).run Tryz.prog w = .ok (if mhas D.files name then ptr (gs name) else .pointer none) w := by
  obtain ⟨es, clock, hm⟩ := h.map
  rw [run_lookup_map mkey_name 52 61 under_map (.pointer none) zero_ptr hm name false, mget_ptrs]
  unfold mhas
  cases mget D.files name <;> rfl

set_option maxRecDepth 100000 in
/-- d.none(name). -/
theorem none_any (w : World) {db mr : Nat} {gs : ByteArray → Nat} {cv : Value} {D : DiskM} {F : Nat → Prop} (h : DiskAt w db mr gs cv D F) (name : ByteArray) :
    Calls Tryz.prog 34 #[ptr db, .string name] w fun e w' => e = .returned (.int .i64 (noneE D name)) ∧ w' = w := by
  have h1 := h.c1
  have hl := look_any h name
  unfold noneE
  cases hh : mhas D.files name with
  | true =>
    rw [hh, if_pos rfl] at hl
    unfold ptr at hl ⊢
    have HL := hid hl
    clear hl
    go_enter Tryz.func34, Tryz.ntmps34
    go_wp2_with ((with_reducible refine at_lookup ?_); refine wpList_lookup rfl _ _ _ _ rfl rfl rfl HL.out ?_; dsimp only)
    go_ret
    exact ⟨rfl, rfl⟩
  | false =>
    rw [hh, if_neg (by simp)] at hl
    unfold ptr
    have HL := hid hl
    clear hl
    go_enter Tryz.func34, Tryz.ntmps34
    go_wp2_with ((with_reducible refine at_lookup ?_); refine wpList_lookup rfl _ _ _ _ rfl rfl rfl HL.out ?_; dsimp only)
    go_ret
    exact ⟨rfl, rfl⟩

end Go.Proofs.YtmdibkafjpglkaaGreatDoor.Dsk

namespace Go.Proofs.YtmdibkafjpglkaaGreatDoor.Dsk
open Go Go.RowKit Go.Lib

/-- d.On(). -/
theorem on_any (w : World) {db mr : Nat} {gs : ByteArray → Nat} {cv : Value} {D : DiskM} {F : Nat → Prop} (h : DiskAt w db mr gs cv D F) :
    Calls Tryz.prog 16 #[ptr db] w fun e w' => e = .returned (.tuple #[]) ∧ IsDisk w' db (on D) F ∧ Keep F w w' := by
  have h2 := h.c2
  have h3 := h.c3
  have f2 : w.frozen? ⟨db, 2, none⟩ = false := frozen_at h.disk 2
  have f3 : w.frozen? ⟨db, 3, none⟩ = false := frozen_at h.disk 3
  have hP1 := h.poke 2 (.bool false) { D with off := false } cv rfl rfl rfl h.cut
  have hP2 := hP1.poke 3 (.pointer none) (on D) (.pointer none) rfl rfl rfl rfl
  have k2 : Keep F w ((w.setCell ⟨db, 2, none⟩ (.bool false)).setCell ⟨db, 3, none⟩ (.pointer none)) :=
    ((Keep.refl F w).setCell (fun _ => h.fdb) _).setCell (fun _ => h.fdb) _
  unfold ptr
  go_enter Tryz.func16, Tryz.ntmps16
  go_wp2_with fail
  refine bodyPost_end (results_none rfl _ _ _) rfl ?_
  exact ⟨rfl, ⟨_, _, _, hP2⟩, k2⟩

set_option maxRecDepth 100000 in
/-- d.Cut(..). -/
theorem cut_any (w : World) {db mr : Nat} {gs : ByteArray → Nat} {cv : Value} {D : DiskM} {F : Nat → Prop} (h : DiskAt w db mr gs cv D F) (o p k : Int)
    (ho : o < 9223372036854775808) (hp : p < 9223372036854775808) (hk : k < 9223372036854775808) :
    Calls Tryz.prog 13 #[ptr db, .int .i64 o, .int .i64 p, .int .i64 k] w fun e w' =>
      e = .returned (.int .i64 (cutTo D o p k).2) ∧ IsDisk w' db (cutTo D o p k).1 (fun i => F i ∨ w.heap.size ≤ i) ∧ Keep F w w' := by
  have h2 := h.c2
  have h3 := h.c3
  have f3 : w.frozen? ⟨db, 3, none⟩ = false := frozen_at h.disk 3
  have hlt := lt_of_block h.disk
  have hm : DiskAt w db mr gs cv D (fun i => F i ∨ w.heap.size ≤ i) := h.mono fun i hi => .inl hi
  unfold ptr cutTo
  by_cases ho0 : o < 0
  · rw [if_pos (.inl ho0)]
    go_enter Tryz.func13, Tryz.ntmps13
    go_wp2_with fail
    go_ret
    exact ⟨rfl, ⟨_, _, _, hm⟩, Keep.refl _ _⟩
  by_cases hp0 : p < 0
  · rw [if_pos (.inr (.inl hp0))]
    go_enter Tryz.func13, Tryz.ntmps13
    go_wp2_with fail
    go_ret
    exact ⟨rfl, ⟨_, _, _, hm⟩, Keep.refl _ _⟩
  by_cases hk0 : k < 0
  · rw [if_pos (.inr (.inr hk0))]
    go_enter Tryz.func13, Tryz.ntmps13
    go_wp2_with fail
    go_ret
    exact ⟨rfl, ⟨_, _, _, hm⟩, Keep.refl _ _⟩
  rw [if_neg (by omega)]
  cases hoff : D.off with
  | true =>
    rw [hoff] at h2
    simp only [if_true]
    go_enter Tryz.func13, Tryz.ntmps13
    go_wp2_with fail
    go_ret
    exact ⟨rfl, ⟨_, _, _, hm⟩, Keep.refl _ _⟩
  | false =>
    rw [hoff] at h2
    simp only [Bool.false_eq_true, if_false]
    have hA : DiskAt (w.alloc (.cells #[.int .i64 o, .int .i64 p, .int .i64 k] 73)) db mr gs cv D (fun i => F i ∨ w.heap.size ≤ i) := by
      refine (h.keep ((Keep.refl (fun _ => False) w).alloc _) (fun _ _ h => h)).mono fun i hi => .inl hi
    have hC := hA.poke 3 (ptr w.heap.size) { D with cut := some (o.toNat, p.toNat, k.toNat) } (ptr w.heap.size) rfl rfl rfl ⟨w.heap.size, rfl, by
      rw [heap_alloc_new]
      rw [Int.toNat_of_nonneg (Int.not_lt.1 ho0), Int.toNat_of_nonneg (Int.not_lt.1 hp0), Int.toNat_of_nonneg (Int.not_lt.1 hk0)], .inr (Nat.le_refl _), by omega, by omega, by omega⟩
    have hK : Keep F w ((w.alloc (.cells #[.int .i64 o, .int .i64 p, .int .i64 k] 73)).setCell ⟨db, 3, none⟩ (ptr w.heap.size)) := ((Keep.refl F w).alloc _).setCell (fun _ => h.fdb) _
    rw [World.setCell_alloc_past (hn := hlt)] at hC hK
    rw [hoff] at hC
    go_enter Tryz.func13, Tryz.ntmps13
    go_wp2_with fail
    go_ret
    exact ⟨rfl, ⟨_, _, _, hC⟩, hK⟩

set_option maxRecDepth 100000 in
/-- New(room). -/
theorem new_any (room : Int) (w : World) (hr : room ≤ 2147483648) :
    Calls Tryz.prog 7 #[.int .i64 room] w fun e w' => ∃ db, e = .returned (ptr db) ∧ w.heap.size ≤ db ∧ IsDisk w' db (new room) (fun i => w.heap.size ≤ i) ∧ Keep (fun _ => False) w w' := by
  have hend : ∀ n : Int, n = max room 0 → IsDisk ((w.alloc (.map #[] 0)).alloc (.cells #[.int .i64 n, .map (some w.heap.size), .bool false, .pointer none] 55)) (w.heap.size + 1) (new room) (fun i => w.heap.size ≤ i) := by
    intro n hn
    refine ⟨w.heap.size, fun _ => 0, .pointer none, ⟨?_, ⟨#[], 0, ⟨?_, rfl, rfl, List.nodup_nil, ?_, ?_⟩⟩, rfl, ?_, ?_, ⟨List.nodup_nil, ?_, ?_, ?_⟩, Nat.le_succ _, Nat.le_refl _⟩⟩
    · have := heap_alloc_new (w.alloc (.map #[] 0)) (.cells #[.int .i64 n, .map (some w.heap.size), .bool false, .pointer none] 55)
      rw [World.size_alloc] at this
      rw [this, hn]
      unfold new
      simp only
      rw [Int.toNat_of_nonneg (by omega)]
    · rw [Below.heap_alloc _ _ _ (by simp), heap_alloc_new]
    · intro e he; simp at he
    · simp
    · intro p hp; cases hp
    · intro p hp; cases hp
    · intro p hp; cases hp
    · simp [new, total]
    · simp only [new]; omega
  have hmm : ∀ w : World, (Instr.makeMap 52 none).run Tryz.prog w = .ok (.map (some w.heap.size)) (w.alloc (.map #[] 0)) := fun _ => rfl
  have hK : ∀ o1 o2, Keep (fun _ => False) w ((w.alloc o1).alloc o2) := fun o1 o2 => ((Keep.refl _ w).alloc o1).alloc o2
  go_enter Tryz.func7, Tryz.ntmps7
  go_wp2_with fail
  go_ret
  exact ⟨w.heap.size + 1, rfl, Nat.le_succ _, hend _ (by simp), hK _ _⟩

end Go.Proofs.YtmdibkafjpglkaaGreatDoor.Dsk

namespace Go.Proofs.YtmdibkafjpglkaaGreatDoor.Dsk
open Go Go.RowKit Go.Lib Go.Shelf

def letters : List UInt8 := [45, 46, 48, 49, 50, 51, 52, 53, 54, 55, 56, 57, 65, 66, 67, 68, 69, 70, 71, 72, 73, 74, 75, 76, 77, 78, 79, 80, 81, 82, 83, 84, 85, 86, 87, 88, 89, 90, 97, 98, 99, 100, 101, 102, 103, 104, 105, 106, 107, 108, 109, 110, 111, 112, 113, 114, 115, 116, 117, 118, 119, 120, 121, 122]

theorem letters_name (b : UInt8) : letters.contains b = nameByte b := by
  have h : ∀ n : Fin 256, letters.contains (UInt8.ofNat n.val) = nameByte (UInt8.ofNat n.val) := by decide +kernel
  have := h ⟨b.toNat, b.toNat_lt⟩
  simpa using this

theorem trim_all (L : List UInt8) (p : UInt8 → Bool) (hp : ∀ b, L.contains b = p b) (l : List UInt8) : (Lib.trimS l L).isEmpty = l.all p := by
  unfold Lib.trimS Lib.trimLeftS Lib.trimRightS
  have e : (fun b => L.contains b) = p := funext hp
  rw [Bool.eq_iff_iff, List.isEmpty_iff]
  simp only [e]
  rw [Keys.dropWhile_nil]
  constructor
  · intro h
    rw [List.all_reverse] at h
    have h2 : (l.reverse.dropWhile p) = [] := by
      cases hc : l.reverse.dropWhile p with
      | nil => rfl
      | cons x t =>
        have := List.head?_dropWhile_not p l.reverse
        rw [hc] at this h
        simp at this h
        rw [h.1] at this
        cases this
    rw [Keys.dropWhile_nil, List.all_reverse] at h2
    exact h2
  · intro h
    have h2 : l.reverse.dropWhile p = [] := by rw [Keys.dropWhile_nil, List.all_reverse]; exact h
    rw [h2]; rfl

theorem trim_name (s : ByteArray) (w : World) (hs : s.size ≤ 9223372036854775807) :
    Calls Tryz.prog 61 #[.string s, .string ⟨#[45, 46, 48, 49, 50, 51, 52, 53, 54, 55, 56, 57, 65, 66, 67, 68, 69, 70, 71, 72, 73, 74, 75, 76, 77, 78, 79, 80, 81, 82, 83, 84, 85, 86, 87, 88, 89, 90, 97, 98, 99, 100, 101, 102, 103, 104, 105, 106, 107, 108, 109, 110, 111, 112, 113, 114, 115, 116, 117, 118, 119, 120, 121, 122]⟩] w
      fun e w' => ∃ r : ByteArray, e = .returned (.string r) ∧ r.toList.isEmpty = s.data.toList.all nameByte ∧ Below w.heap.size w w' := by
  have hcon := Any.strings_Trim_laid Tryz.lays160 (by kernel_rfl) s ⟨letters.toArray⟩ w hs (by decide) (ascii_of_all (by decide))
  refine hcon.mono fun e w' ⟨h1, h2⟩ => ⟨_, h1, ?_, h2⟩
  rw [← trim_all letters nameByte letters_name]
  simp

theorem name_no (s : ByteArray) (h : s.size = 0 ∨ 32 < s.size) : isName s.data.toList = false := by
  unfold isName
  have hl : s.data.toList.length = s.size := by simp
  rcases h with h | h
  · have : s.data.toList = [] := List.eq_nil_of_length_eq_zero (by omega)
    rw [this]; rfl
  · have : ¬ s.data.toList.length ≤ 32 := by omega
    simp only [this, decide_false, Bool.false_and, Bool.and_false]
theorem name_yes (s : ByteArray) (h : 0 < s.size) (h2 : s.size ≤ 32) : isName s.data.toList = s.data.toList.all nameByte := by
  unfold isName
  have hl : s.data.toList.length = s.size := by simp
  have h3 : s.data.toList.isEmpty = false := by rw [List.isEmpty_eq_false_iff]; intro e; rw [e] at hl; simp at hl; omega
  have h4 : s.data.toList.length ≤ 32 := by omega
  simp only [h3, h4, decide_true, Bool.not_false, Bool.true_and]
theorem emp_true {s : ByteArray} (h : s.toList.isEmpty = true) : s = ⟨#[]⟩ := by
  rw [toList_data, List.isEmpty_iff, Array.toList_eq_nil_iff] at h
  cases s; simp only at h; rw [h]

set_option maxRecDepth 100000 in
set_option maxHeartbeats 1000000 in
theorem dmay_any (s : ByteArray) (w : World) :
    Calls Tryz.prog 27 #[.string s] w fun e w' => e = .returned (.bool (isName s.toList)) ∧ Below w.heap.size w w' := by
  rw [toList_data]
  by_cases h0 : s = ⟨#[]⟩
  · subst h0
    go_enter Tryz.func27, Tryz.ntmps27
    go_wp2_with fail
    go_ret
    exact ⟨rfl, Below.refl _ _⟩
  · have hs0 : 0 < s.size := by
      rcases Nat.eq_zero_or_pos s.size with h | h
      · exact absurd (show s = ⟨#[]⟩ by cases s with | mk d => exact congrArg ByteArray.mk (Array.eq_empty_of_size_eq_zero h)) h0
      · exact h
    have he : ¬ s.toList = [] := by
      rw [toList_data]; intro h
      have hl : s.data.toList.length = s.size := by simp
      rw [h] at hl; simp at hl; omega
    have he2 : s.toList.isEmpty = false := by rw [List.isEmpty_eq_false_iff]; exact he
    by_cases h32 : (s.size : Int) ≤ 32
    · go_enter Tryz.func27, Tryz.ntmps27
      go_wp2_with (go_at_call 61; refine (trim_name s _ (by omega)).mono ?_; rintro e w' ⟨r, rfl, hr, hB⟩)
      all_goals go_ret
      all_goals (refine ⟨ret_bool ?_, by assumption⟩)
      all_goals rw [name_yes s hs0 (by omega), ← hr]
      all_goals simp [*]
    · go_enter Tryz.func27, Tryz.ntmps27
      go_wp2_with fail
      go_ret
      exact ⟨ret_bool (by rw [name_no s (.inr (by omega))]), Below.refl _ _⟩

end Go.Proofs.YtmdibkafjpglkaaGreatDoor.Dsk
