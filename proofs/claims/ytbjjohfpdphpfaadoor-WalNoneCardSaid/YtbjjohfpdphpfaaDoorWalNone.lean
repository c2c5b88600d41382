/- osierlaw19.WalNone: a log that is none, no disk, a disk whose power is off, and a record that is too great are refused; walked. -/
import Derived.Test.YtbjjohfpdphpfaaDoorWalAwake
import Derived.Test.YtbjjohfpdphpfaaDoorOpenArgs
import Derived.Laws.OwnMore
namespace Go.Proofs.YtbjjohfpdphpfaaDoor.Wal
open Go Go.RowKit Go.Lib Go.Proofs.YtbjjohfpdphpfaaDoor.Dsk Go.Proofs.YtbjjohfpdphpfaaDoor.Frm

theorem true_below' {f : FuncId} {args : Array Value} {W : World} (h : Calls Tryd.prog f args W fun e w' => e = .returned (.bool true) ∧ Keep (fun _ => False) W w') : Calls Tryd.prog f args W fun e w' => e = .returned (.bool true) ∧ Below W.heap.size W w' :=
  h.mono fun _ _ hh => ⟨hh.1, hh.2.below (fun _ _ h => h.elim) (Nat.le_refl _)⟩

theorem nil_open (w : World) (name : ByteArray) : Calls Tryd.prog 32 #[.pointer none, .string name] w fun e w' => e = .returned (.tuple #[.pointer none, .slice none 0 0, .int .i64 1]) ∧ w' = w := by
  go_enter Tryd.func32, Tryd.ntmps32
  go_wp2_with fail
  refine bodyPost_ret (results_tmp3 rfl _ _ _) rfl ?_
  exact ⟨rfl, rfl⟩
theorem nil_append (w : World) (v : Value) : Calls Tryd.prog 39 #[.pointer none, v] w fun e w' => e = .returned (.int .i64 1) ∧ w' = w := by
  go_enter Tryd.func39, Tryd.ntmps39
  go_wp2_with fail
  all_goals go_ret
  all_goals exact ⟨rfl, rfl⟩
theorem nil_sync (w : World) : Calls Tryd.prog 37 #[.pointer none] w fun e w' => e = .returned (.int .i64 1) ∧ w' = w := by
  go_enter Tryd.func37, Tryd.ntmps37
  go_wp2_with fail
  all_goals go_ret
  all_goals exact ⟨rfl, rfl⟩
theorem nil_count (w : World) : Calls Tryd.prog 35 #[.pointer none] w fun e w' => e = .returned (.int .i64 0) ∧ w' = w := by
  go_enter Tryd.func35, Tryd.ntmps35
  go_wp2_with fail
  all_goals go_ret
  all_goals exact ⟨rfl, rfl⟩
theorem nil_sure (w : World) : Calls Tryd.prog 36 #[.pointer none] w fun e w' => e = .returned (.int .i64 0) ∧ w' = w := by
  go_enter Tryd.func36, Tryd.ntmps36
  go_wp2_with fail
  all_goals go_ret
  all_goals exact ⟨rfl, rfl⟩

def nD1 : DiskM := (cutTo (new 16777216) 0 0 0).1
def nD2 : DiskM := (walAppend nD1 L0 [120]).1
theorem no_open : walOpen (new 16777216) nmLog = ⟨new 16777216, some L0, [], 0⟩ := by kernel_rfl
theorem no_great : walAppend (new 16777216) L0 (List.replicate 4194305 0) = (new 16777216, L0, 81) := by
  unfold walAppend
  rw [if_pos (by rfl), if_pos (by rw [List.length_replicate]; decide)]
theorem no_cut : cutTo (new 16777216) 0 0 0 = (nD1, 0) := by kernel_rfl
theorem no_app : walAppend nD1 L0 [120] = (nD2, ⟨71, nmLog, 0, 0⟩, 71) := by kernel_rfl
theorem no_open2 : walOpen nD2 nmLog = ⟨nD2, none, [], 71⟩ := by kernel_rfl
theorem no_app2 (D : DiskM) : walAppend D ⟨71, nmLog, 0, 0⟩ [120] = (D, ⟨71, nmLog, 0, 0⟩, 71) := rfl
theorem no_sync (D : DiskM) : walSync D ⟨71, nmLog, 0, 0⟩ = (D, ⟨71, nmLog, 0, 0⟩, 71) := rfl

/-- New bytes, all nothing. -/
theorem make_zero (w : World) (n : Nat) (hn : n ≤ 4294967296) : ∃ w', (Instr.makeSlice 33 (.int .i64 (n : Int)) (.int .i64 (n : Int))).run Tryd.prog w = .ok (.slice (some ⟨w.heap.size, 0, none⟩) n n) w' ∧ BytesIn w' (.slice (some ⟨w.heap.size, 0, none⟩) n n) (List.replicate n 0) (fun i => w.heap.size ≤ i) ∧ Keep (fun _ => False) w w' := by
  obtain ⟨i, hi, hz, hsz, hby⟩ := info_parts info_u8
  obtain ⟨w', hr, ho, hg⟩ := run_make_full (P := Tryd.prog) w w.heap.size 33 5 i (.int .u8 0) 1 under_bytes hi hz hsz .i64 .i64 n (by rw [hby]; omega) (by simp only [maxLen]; omega) (Nat.le_refl _)
  have hrow : ByteRow w' w.heap.size (.slice (some ⟨w.heap.size, 0, none⟩) n n) (List.replicate n 0) := by
    unfold ByteRow
    rw [List.length_replicate, List.map_replicate]
    rw [Nat.mul_one, show (Value.int .u8 0).cells = #[.int .u8 0] from rfl, toList_madeCells_one] at ho
    exact ho
  exact ⟨w', hr, hrow.fb.bytesIn, keep_grown hg (fun g e => by cases e)⟩

set_option maxRecDepth 100000 in
set_option maxHeartbeats 8000000 in
theorem none_row (W : World) (v0 : Value) : Calls Tryd.prog 14 #[v0] W fun e w' => e = .returned (.bool true) ∧ Keep (fun _ => False) W w' := by
  have hcv : ∀ (w : World) (n c : Nat) (cs : Array Value), (convert 33 33 (.slice (some ⟨w.heap.size, 0, none⟩) n c)).run Tryd.prog (w.alloc (.cells cs 5)) = .ok (.slice (some ⟨w.heap.size, 0, none⟩) n c) (w.alloc (.cells cs 5 (cs.size, cs.size + 1))) := fun w n c cs => conv_bytes w n c cs
  go_enter Tryd.func14, Tryd.ntmps14
  go_wp2_with fail
  refine (awake19 W).mono ?_
  rintro e w0 ⟨rfl, hK⟩
  have HK0 := hid hK
  clear hK
  go_wp2_with fail
  refine (nil_open w0 nmLog).mono ?_
  intro e w' hh
  obtain ⟨he, hw⟩ := hh
  rw [he, hw]
  clear he hw w' e
  go_wp2_with fail
  refine (st_new W HK0.out 16777216 (by decide)).mono ?_
  rintro e w1 ⟨db, rfl, hS⟩
  have S1 := hid hS
  clear hS
  unfold ptr
  go_wp2_with fail
  refine (st_open S1.out nmLog).mono ?_
  rw [no_open]
  rintro e w2 ⟨lv, o, Y, rfl, hS, -, ⟨lb, rfl, hL, hYl, hlow⟩, hR, -⟩
  have S2 := hid hS
  have HL2 := hid hL
  have HY := hid hYl
  have hlb : W.heap.size ≤ lb := Nat.le_trans S1.out.size hlow
  obtain ⟨aoo, capo, hvo⟩ := rows_slice hR
  subst hvo
  clear hS hL hYl hR hlow
  obtain ⟨w3, hmk, hBz, hkz⟩ := make_zero w2 4194305 (by decide)
  have hmk' : (Instr.makeSlice 33 (.int .i64 4194305) (.int .i64 4194305)).run Tryd.prog w2 = .ok (.slice (some ⟨w2.heap.size, 0, none⟩) 4194305 4194305) w3 := hmk
  have HBZ := hid hBz
  have S3 := hid (S2.out.keep hkz)
  have HL3 := hid (HL2.out.keep hkz (fun h => h))
  clear hmk hBz hkz
  unfold ptr
  go_wp2_with fail
  refine (st_append S3.out HL3.out HY.out hlb (by decide) HBZ.out).mono ?_
  rw [no_great]
  rintro e w4 ⟨rfl, hS, hL, -⟩
  have S4 := hid hS
  have HL4 := hid hL
  clear hS hL hmk'
  go_wp2_with fail
  refine (st_cut S4.out 0 0 0 (by decide) (by decide) (by decide)).mono ?_
  rw [no_cut]
  rintro e w5 ⟨rfl, hS, hK⟩
  have S5 := hid hS
  have HL5 := hid (HL4.out.keep hK (fun h => h HY.out))
  clear hS hK
  go_wp2_with fail
  have ka := (Keep.refl (fun _ => False) w5).alloc (.cells #[byteV 120] 5 (1, 2))
  refine (st_append (S5.out.keep ka) (HL5.out.keep ka (fun h => h)) HY.out hlb (by decide) (one_byte (x := 120) (heap_alloc_new w5 (.cells #[byteV 120] 5 (1, 2))))).mono ?_
  rw [no_app]
  rintro e w6 ⟨rfl, hS, hL, -⟩
  have S6 := hid hS
  have HL6 := hid hL
  clear hS hL ka
  go_wp2_with fail
  refine (st_open S6.out nmLog).mono ?_
  rw [no_open2]
  rintro e w7 ⟨lv2, o2, Z, rfl, hS, hXZ, hlv, hR, hK⟩
  have hlv' : lv2 = .pointer none := hlv
  subst hlv'
  have S7 := hid hS
  have HL7 := hid (HL6.out.keep hK (fun h => h HY.out))
  have HZ := hid (hXZ lb HY.out)
  obtain ⟨ao2, cap2, hv2⟩ := rows_slice hR
  subst hv2
  clear hS hXZ hlv hR hK
  go_wp2_with fail
  refine (st_on S7.out).mono ?_
  rintro e w8 ⟨rfl, hS, hK⟩
  have S8 := hid hS
  have HL8 := hid (HL7.out.keep hK (fun h => h HZ.out))
  clear hS hK
  go_wp2_with fail
  have ka := (Keep.refl (fun _ => False) w8).alloc (.cells #[byteV 120] 5 (1, 2))
  refine (st_append (S8.out.keep ka) (HL8.out.keep ka (fun h => h)) HZ.out hlb (by decide) (one_byte (x := 120) (heap_alloc_new w8 (.cells #[byteV 120] 5 (1, 2))))).mono ?_
  rw [no_app2]
  rintro e w9 ⟨rfl, hS, hL, -⟩
  have S9 := hid hS
  have HL9 := hid hL
  clear hS hL ka
  go_wp2_with fail
  refine (st_sync S9.out HL9.out HZ.out hlb).mono ?_
  rw [no_sync]
  rintro e w10 ⟨rfl, hS, hL, -⟩
  have S10 := hid hS
  have HL10 := hid hL
  clear hS hL
  go_wp2_with fail
  refine (nil_append w10 v0).mono ?_
  intro e w' hh
  obtain ⟨he, hw⟩ := hh
  rw [he, hw]
  clear he hw w' e
  go_wp2_with fail
  refine (nil_sync w10).mono ?_
  intro e w' hh
  obtain ⟨he, hw⟩ := hh
  rw [he, hw]
  clear he hw w' e
  go_wp2_with fail
  refine (nil_count w10).mono ?_
  intro e w' hh
  obtain ⟨he, hw⟩ := hh
  rw [he, hw]
  clear he hw w' e
  go_wp2_with fail
  refine (nil_sure w10).mono ?_
  intro e w' hh
  obtain ⟨he, hw⟩ := hh
  rw [he, hw]
  clear he hw w' e
  go_wp2_with fail
  refine (count_any w10 HL10.out).mono ?_
  intro e w' hh
  obtain ⟨he, hw⟩ := hh
  rw [he, hw]
  clear he hw w' e
  go_wp2_with fail
  all_goals go_ret
  all_goals exact ⟨rfl, S10.out.done⟩

theorem none_any (v0 : Value) (W : World) (_h0 : ∃ A C l, v0 = .slice A (l : List UInt8).length C ∧ BytesIn W v0 l (fun i => i < W.heap.size)) :
    Calls Tryd.prog 14 #[v0] W fun e w' => e = .returned (.bool true) ∧ Below W.heap.size W w' := true_below' (none_row W v0)

end Go.Proofs.YtbjjohfpdphpfaaDoor.Wal
