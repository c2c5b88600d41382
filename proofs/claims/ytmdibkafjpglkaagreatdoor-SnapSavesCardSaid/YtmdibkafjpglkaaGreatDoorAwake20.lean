/- osierlaw20.awake, walked. -/
import Derived.Test.YtmdibkafjpglkaaGreatDoorSnapTake
import Derived.Test.YtmdibkafjpglkaaGreatDoorSnapSave
namespace Go.Proofs.YtmdibkafjpglkaaGreatDoor.Snp
open Go Go.RowKit Go.Lib Go.Proofs.YtmdibkafjpglkaaGreatDoor.Dsk Go.Proofs.YtmdibkafjpglkaaGreatDoor.Wal Go.Proofs.YtmdibkafjpglkaaGreatDoor.Num Go.Proofs.YtmdibkafjpglkaaGreatDoor.Frm

theorem one_byte {w : World} {g : Nat} {x : UInt8} {t : TypeId} {fr : Nat × Nat} (h : w.heap[g]? = some (.cells #[byteV x] t fr)) : BytesIn w (.slice (some ⟨g, 0, none⟩) [x].length 1) [x] (fun i => i = g) := by
  refine ⟨some ⟨g, 0, none⟩, 1, rfl, Nat.le_refl _, by decide, by simp, ?_⟩
  rintro b hb j u hj
  obtain rfl := Option.some.inj hb
  refine ⟨?_, lt_of_block h, rfl⟩
  rw [addr_add0, cell_at h]
  match j with
  | 0 => simpa using hj
  | j + 1 => simp at hj
theorem tidy_bool (fs : Files) (h : (decide (fs.length ≤ 100) && fs.all fun p => isName p.1.toList) = true) : Tidy fs := by
  rw [Bool.and_eq_true, decide_eq_true_eq, List.all_eq_true] at h
  exact h
def aw1 : DiskM := (saveP (Dsk.new 1000) nmS 1 [97]).1
def aw2 : DiskM := (cutTo aw1 2 0 0).1
def aw3 : DiskM := (saveP aw2 nmS 2 [98]).1
theorem aw_one : saveP (Dsk.new 1000) nmS 1 [97] = (aw1, 0) := by kernel_rfl
theorem aw_two : cutTo aw1 2 0 0 = (aw2, 0) := by kernel_rfl
theorem aw_three : saveP aw2 nmS 2 [98] = (aw3, 71) := by kernel_rfl
theorem aw_load : loadF (Dsk.on aw3) nmS = (1, [97], 0) := by kernel_rfl
theorem aw_tidy : Tidy aw2.files := tidy_bool _ (by kernel_rfl)
theorem aw_small : (Dsk.read (Dsk.on aw3) nmS).1.length ≤ 4294967296 := Nat.le_of_ble_eq_true (by kernel_rfl)
set_option maxRecDepth 100000 in
set_option maxHeartbeats 4000000 in
theorem awake20 (w : World) : Calls Tryz.prog 6 #[] w fun e w' => e = .returned (.bool true) ∧ Keep (fun _ => False) w w' := by
  have hcv : ∀ (w : World) (n c : Nat) (cs : Array Value), (convert 22 22 (.slice (some ⟨w.heap.size, 0, none⟩) n c)).run Tryz.prog (w.alloc (.cells cs 5)) = .ok (.slice (some ⟨w.heap.size, 0, none⟩) n c) (w.alloc (.cells cs 5 (cs.size, cs.size + 1))) := fun w n c cs => conv_bytes w n c cs
  go_enter Tryz.func6, Tryz.ntmps6
  go_wp2_with fail
  refine (new_main w 1 256 actor_one).mono ?_
  rintro e w1 ⟨bb, g, m, rfl, hO, hK⟩
  have HO1 := hid hO
  have HK1 := hid hK
  clear hO hK
  go_wp2_with fail
  refine (put_main HO1.out).mono ?_
  rintro e w2 ⟨v2, rfl, hR, hK⟩
  obtain ⟨a2, c2, rfl⟩ := hR.slice
  have HB2 := hid (bytes_of_row hR)
  have HK2 := hid (HK1.out.trans hK (fun _ _ h => h))
  clear hR hK HO1
  go_wp2_with fail
  refine (take_main HB2.out).mono ?_
  rintro e w3 ⟨bc, rfl, hK⟩
  have HB3 := hid (HB2.out.keep hK (fun _ _ h => h))
  have HK3 := hid (HK2.out.trans hK (fun _ _ h => h))
  clear hK HB2
  go_wp2_with fail
  refine (st_new w3 (Keep.refl _ w3) 1000 (by decide)).mono ?_
  rintro e w4 ⟨db, rfl, hS⟩
  have S4 := hid hS
  clear hS
  unfold ptr
  go_wp2_with fail
  have ka := (Keep.refl (fun _ => False) w4).alloc (.cells #[byteV 97] 5 (1, 2))
  refine (save_any (S4.out.keep ka) ⟨Nat.zero_le _, fun _ h => nomatch h⟩ nmS 1 (by decide) (one_byte (x := 97) (heap_alloc_new w4 (.cells #[byteV 97] 5 (1, 2)))) (by decide) (by decide)).mono ?_
  rw [aw_one]
  rintro e w5 ⟨rfl, hS, -⟩
  have S5 := hid hS
  clear hS ka
  go_wp2_with fail
  refine (st_cut S5.out 2 0 0 (by decide) (by decide) (by decide)).mono ?_
  rw [aw_two]
  rintro e w6 ⟨rfl, hS, -⟩
  have S6 := hid hS
  clear hS
  go_wp2_with fail
  have ka := (Keep.refl (fun _ => False) w6).alloc (.cells #[byteV 98] 5 (1, 2))
  refine (save_any (S6.out.keep ka) aw_tidy nmS 2 (by decide) (one_byte (x := 98) (heap_alloc_new w6 (.cells #[byteV 98] 5 (1, 2)))) (by decide) (by decide)).mono ?_
  rw [aw_three]
  rintro e w7 ⟨rfl, hS, -⟩
  have S7 := hid hS
  clear hS ka
  go_wp2_with fail
  refine (st_on S7.out).mono ?_
  rintro e w8 ⟨rfl, hS, -⟩
  have S8 := hid hS
  clear hS
  go_wp2_with fail
  refine (load_any S8.out nmS aw_small).mono ?_
  rw [aw_load]
  rintro e w9 ⟨v9, rfl, hB, hK⟩
  have hst := bytes_string hB
  have hS9 := (S8.out.keep hK)
  have hs2 := bytes_string (HB3.out.keep hS9.done (fun _ _ h => h))
  have HK9 := hid (HK3.out.trans hS9.done (fun _ _ h => h))
  obtain ⟨a9, c9, rfl⟩ := bytes_len hB
  have hst' : (convert 22 9 (.slice a9 1 c9)).run Tryz.prog w9 = .ok (.string ⟨#[97]⟩) w9 := hst
  have hs2' : (convert 22 9 (.slice a2 mainB.length c2)).run Tryz.prog w9 = .ok (.string ⟨#[1, 4, 109, 97, 105, 110, 0, 0]⟩) w9 := hs2
  clear hB hK hS9 hst hs2
  go_wp2_with fail
  all_goals go_ret
  all_goals exact ⟨rfl, HK9.out⟩
end Go.Proofs.YtmdibkafjpglkaaGreatDoor.Snp
