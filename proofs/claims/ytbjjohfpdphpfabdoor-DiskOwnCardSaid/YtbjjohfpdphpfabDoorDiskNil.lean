/- A disk that is none: its methods, walked. -/
import Derived.Test.YtbjjohfpdphpfabDoorDiskReadRow
namespace Go.Proofs.YtbjjohfpdphpfabDoor.Dsk
open Go Go.RowKit Go.Lib

set_option maxRecDepth 100000 in
theorem nil_down (w : World) : Calls Tryd.prog 27 #[.pointer none] w fun e w' => e = .returned (.int .i64 1) ∧ Keep (fun _ => False) w w' := by
  go_enter Tryd.func27, Tryd.ntmps27
  go_wp2_with fail
  all_goals go_ret
  all_goals exact ⟨rfl, Keep.refl _ _⟩
set_option maxRecDepth 100000 in
theorem nil_on (w : World) : Calls Tryd.prog 11 #[.pointer none] w fun e w' => e = .returned (.tuple #[]) ∧ Keep (fun _ => False) w w' := by
  go_enter Tryd.func11, Tryd.ntmps11
  go_wp2_with fail
  refine bodyPost_end (results_none rfl _ _ _) rfl ?_
  exact ⟨rfl, Keep.refl _ _⟩
set_option maxRecDepth 100000 in
theorem nil_read (name : ByteArray) (w : World) : Calls Tryd.prog 12 #[.pointer none, .string name] w fun e w' => e = .returned (.tuple #[.slice none 0 0, .int .i64 1]) ∧ Keep (fun _ => False) w w' := by
  go_enter Tryd.func12, Tryd.ntmps12
  go_wp2_with fail
  refine (nil_down _).mono ?_
  rintro e w1 ⟨rfl, hK⟩
  have HK := hid hK
  clear hK
  go_wp2_with fail
  all_goals go_ret2
  all_goals exact ⟨rfl, (Keep.refl _ w).trans HK.out (fun _ _ h => h)⟩
set_option maxRecDepth 100000 in
theorem nil_append (name : ByteArray) (A : Option Addr) (n C : Nat) (w : World) : Calls Tryd.prog 13 #[.pointer none, .string name, .slice A n C] w fun e w' => e = .returned (.int .i64 1) ∧ Keep (fun _ => False) w w' := by
  go_enter Tryd.func13, Tryd.ntmps13
  go_wp2_with fail
  refine (nil_down _).mono ?_
  rintro e w1 ⟨rfl, hK⟩
  have HK := hid hK
  clear hK
  go_wp2_with fail
  all_goals go_ret
  all_goals exact ⟨rfl, ((((Keep.refl _ w).alloc _).alloc _).alloc _).trans HK.out (fun _ _ h => h)⟩
set_option maxRecDepth 100000 in
theorem nil_sync (name : ByteArray) (w : World) : Calls Tryd.prog 14 #[.pointer none, .string name] w fun e w' => e = .returned (.int .i64 1) ∧ Keep (fun _ => False) w w' := by
  go_enter Tryd.func14, Tryd.ntmps14
  go_wp2_with fail
  refine (nil_down _).mono ?_
  rintro e w1 ⟨rfl, hK⟩
  have HK := hid hK
  clear hK
  go_wp2_with fail
  all_goals go_ret
  all_goals exact ⟨rfl, (((Keep.refl _ w).alloc _).alloc _).trans HK.out (fun _ _ h => h)⟩
set_option maxRecDepth 100000 in
theorem nil_rename (name to : ByteArray) (w : World) : Calls Tryd.prog 15 #[.pointer none, .string name, .string to] w fun e w' => e = .returned (.int .i64 1) ∧ Keep (fun _ => False) w w' := by
  go_enter Tryd.func15, Tryd.ntmps15
  go_wp2_with fail
  refine (nil_down _).mono ?_
  rintro e w1 ⟨rfl, hK⟩
  have HK := hid hK
  clear hK
  go_wp2_with fail
  all_goals go_ret
  all_goals exact ⟨rfl, ((((Keep.refl _ w).alloc _).alloc _).alloc _).trans HK.out (fun _ _ h => h)⟩
set_option maxRecDepth 100000 in
theorem nil_remove (name : ByteArray) (w : World) : Calls Tryd.prog 16 #[.pointer none, .string name] w fun e w' => e = .returned (.int .i64 1) ∧ Keep (fun _ => False) w w' := by
  go_enter Tryd.func16, Tryd.ntmps16
  go_wp2_with fail
  refine (nil_down _).mono ?_
  rintro e w1 ⟨rfl, hK⟩
  have HK := hid hK
  clear hK
  go_wp2_with fail
  all_goals go_ret
  all_goals exact ⟨rfl, (((Keep.refl _ w).alloc _).alloc _).trans HK.out (fun _ _ h => h)⟩
set_option maxRecDepth 100000 in
theorem nil_shorten (name : ByteArray) (k : Int) (w : World) : Calls Tryd.prog 17 #[.pointer none, .string name, .int .i64 k] w fun e w' => e = .returned (.int .i64 1) ∧ Keep (fun _ => False) w w' := by
  go_enter Tryd.func17, Tryd.ntmps17
  go_wp2_with fail
  refine (nil_down _).mono ?_
  rintro e w1 ⟨rfl, hK⟩
  have HK := hid hK
  clear hK
  go_wp2_with fail
  all_goals go_ret
  all_goals exact ⟨rfl, ((((Keep.refl _ w).alloc _).alloc _).alloc _).trans HK.out (fun _ _ h => h)⟩
set_option maxRecDepth 100000 in
theorem nil_cut (a b c : Int) (w : World) : Calls Tryd.prog 18 #[.pointer none, .int .i64 a, .int .i64 b, .int .i64 c] w fun e w' => e = .returned (.int .i64 1) ∧ Keep (fun _ => False) w w' := by
  go_enter Tryd.func18, Tryd.ntmps18
  go_wp2_with fail
  all_goals go_ret
  all_goals exact ⟨rfl, Keep.refl _ _⟩
set_option maxRecDepth 100000 in
theorem nil_names (w : World) : Calls Tryd.prog 19 #[.pointer none] w fun e w' => e = .returned (.slice none 0 0) ∧ Keep (fun _ => False) w w' := by
  go_enter Tryd.func19, Tryd.ntmps19
  go_wp2_with fail
  all_goals go_ret
  all_goals exact ⟨rfl, Keep.refl _ _⟩
set_option maxRecDepth 100000 in
theorem nil_room (w : World) : Calls Tryd.prog 20 #[.pointer none] w fun e w' => e = .returned (.int .i64 0) ∧ Keep (fun _ => False) w w' := by
  go_enter Tryd.func20, Tryd.ntmps20
  go_wp2_with fail
  all_goals go_ret
  all_goals exact ⟨rfl, Keep.refl _ _⟩
set_option maxRecDepth 100000 in
theorem nil_off (w : World) : Calls Tryd.prog 21 #[.pointer none] w fun e w' => e = .returned (.bool false) ∧ Keep (fun _ => False) w w' := by
  go_enter Tryd.func21, Tryd.ntmps21
  go_wp2_with fail
  all_goals go_ret
  all_goals exact ⟨rfl, Keep.refl _ _⟩
end Go.Proofs.YtbjjohfpdphpfabDoor.Dsk
