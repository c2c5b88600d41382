/- snap.Load of no disk, walked; what is left of a body, plain. -/
import Derived.Test.YtmdibkafjpglkaaGreatDoorSnapLoad
namespace Go.Proofs.YtmdibkafjpglkaaGreatDoor.Snp
open Go Go.RowKit Go.Lib Go.Proofs.YtmdibkafjpglkaaGreatDoor.Dsk Go.Proofs.YtmdibkafjpglkaaGreatDoor.Wal Go.Proofs.YtmdibkafjpglkaaGreatDoor.Num Go.Proofs.YtmdibkafjpglkaaGreatDoor.Frm

def nmS : ByteArray := ⟨#[115]⟩
theorem nmS_name : isName nmS.toList = true := by kernel_rfl
theorem left_drop (l : List UInt8) (h : (takeU l).1 = 0) : l.drop (l.length - (takeU l).2.2.length) = (takeU l).2.2 := by
  cases l with
  | nil => cases h
  | cons b t =>
    rw [takeU_cons] at h ⊢
    have hl := lead_pos ⟨b.toNat, b.toNat_lt⟩
    simp only at hl
    split at h
    · cases h
    · rename_i h1
      rw [if_neg h1]
      split at h
      · rename_i h2
        rw [if_pos h2]
        simp only [List.length_drop, List.length_cons]
        rw [show t.length + 1 - (t.length - (lead b.toNat - 1)) = (lead b.toNat - 1) + 1 by omega]
        rfl
      · cases h
set_option maxRecDepth 100000 in
theorem none_down (w : World) : Calls Tryz.prog 26 #[.pointer none] w fun e w' => e = .returned (.int .i64 1) ∧ Keep (fun _ => False) w w' := by
  go_enter Tryz.func26, Tryz.ntmps26
  go_wp2_with fail
  all_goals go_ret
  all_goals exact ⟨rfl, Keep.refl _ _⟩
set_option maxRecDepth 100000 in
theorem none_read (name : ByteArray) (w : World) : Calls Tryz.prog 17 #[.pointer none, .string name] w fun e w' => e = .returned (.tuple #[.slice none 0 0, .int .i64 1]) ∧ Keep (fun _ => False) w w' := by
  go_enter Tryz.func17, Tryz.ntmps17
  go_wp2_with fail
  refine (none_down _).mono ?_
  rintro e w1 ⟨rfl, hK⟩
  have HK := hid hK
  clear hK
  go_wp2_with fail
  all_goals go_ret2
  all_goals exact ⟨rfl, (Keep.refl _ w).trans HK.out (fun _ _ h => h)⟩
set_option maxRecDepth 100000 in
theorem load_nil (w : World) (name : ByteArray) : Calls Tryz.prog 8 #[.pointer none, .string name] w fun x w' => x = .returned (.tuple #[.int .i64 0, .slice none 0 0, .int .i64 1]) ∧ Keep (fun _ => False) w w' := by
  go_enter Tryz.func8, Tryz.ntmps8
  go_wp2_with fail
  refine (none_read name w).mono ?_
  rintro x w1 ⟨rfl, hK⟩
  have HK := hid hK
  clear hK
  go_wp2_with fail
  refine bodyPost_ret (v := _) (results_tmp3 rfl _ _ _) rfl ?_
  exact ⟨rfl, HK.out⟩
end Go.Proofs.YtmdibkafjpglkaaGreatDoor.Snp
