/- osierlaw19.awake, walked. -/
import Derived.Test.YtbjjohfpdphpfaaDoorWalState
namespace Go.Proofs.YtbjjohfpdphpfaaDoor.Wal
open Go Go.RowKit Go.Lib Go.Proofs.YtbjjohfpdphpfaaDoor.Dsk Go.Proofs.YtbjjohfpdphpfaaDoor.Frm

def nmLog : ByteArray := ⟨#[108, 111, 103]⟩
def L0 : LogM := ⟨0, nmLog, 0, 0⟩
def aD1 : DiskM := (walAppend (new 1000) L0 [97]).1
def aD2 : DiskM := (walSync aD1 ⟨0, nmLog, 1, 0⟩).1
def aD3 : DiskM := (walAppend aD2 ⟨0, nmLog, 1, 1⟩ [98, 99]).1
theorem aw_open : walOpen (new 1000) nmLog = ⟨new 1000, some L0, [], 0⟩ := by kernel_rfl
theorem aw_app : walAppend (new 1000) L0 [97] = (aD1, ⟨0, nmLog, 1, 0⟩, 0) := by kernel_rfl
theorem aw_sync : walSync aD1 ⟨0, nmLog, 1, 0⟩ = (aD2, ⟨0, nmLog, 1, 1⟩, 0) := by kernel_rfl
theorem aw_app2 : walAppend aD2 ⟨0, nmLog, 1, 1⟩ [98, 99] = (aD3, ⟨0, nmLog, 2, 1⟩, 0) := by kernel_rfl
theorem aw_open2 : walOpen aD3 nmLog = ⟨aD3, some ⟨0, nmLog, 2, 0⟩, [[97], [98, 99]], 0⟩ := by kernel_rfl

/-- One byte in a block of its own. -/
theorem one_byte {w : World} {g : Nat} {x : UInt8} {t : TypeId} {fr : Nat × Nat} (h : w.heap[g]? = some (.cells #[byteV x] t fr)) : BytesIn w (.slice (some ⟨g, 0, none⟩) [x].length 1) [x] (fun i => i = g) := by
  refine ⟨some ⟨g, 0, none⟩, 1, rfl, Nat.le_refl _, by decide, by simp, ?_⟩
  rintro b hb j u hj
  obtain rfl := Option.some.inj hb
  refine ⟨?_, lt_of_block h, rfl⟩
  rw [addr_add0, cell_at h]
  match j with
  | 0 => simpa using hj
  | j + 1 => simp at hj

set_option maxRecDepth 100000 in
set_option maxHeartbeats 4000000 in
theorem awake19 (w : World) : Calls Tryd.prog 31 #[] w fun e w' => e = .returned (.bool true) ∧ Keep (fun _ => False) w w' := by
  have hcv : ∀ (w : World) (n c : Nat) (cs : Array Value), (convert 33 33 (.slice (some ⟨w.heap.size, 0, none⟩) n c)).run Tryd.prog (w.alloc (.cells cs 5)) = .ok (.slice (some ⟨w.heap.size, 0, none⟩) n c) (w.alloc (.cells cs 5 (cs.size, cs.size + 1))) := fun w n c cs => conv_bytes w n c cs
  go_enter Tryd.func31, Tryd.ntmps31
  go_wp2_with fail
  refine (st_new w (Keep.refl _ w) 1000 (by decide)).mono ?_
  rintro e w1 ⟨db, rfl, hS⟩
  have S1 := hid hS
  clear hS
  unfold ptr
  go_wp2_with fail
  refine (st_open S1.out nmLog).mono ?_
  rw [aw_open]
  rintro e w2 ⟨lv, o, Y, rfl, hS, -, ⟨lb, rfl, hL, hYl, hlow⟩, hR, -⟩
  have S2 := hid hS
  have HL2 := hid hL
  have HY := hid hYl
  have hlb : w.heap.size ≤ lb := Nat.le_trans S1.out.size hlow
  obtain ⟨aoo, capo, hvo⟩ := rows_slice hR
  subst hvo
  clear hS hL hYl hR hlow
  unfold ptr
  go_wp2_with fail
  have ka := (Keep.refl (fun _ => False) w2).alloc (.cells #[byteV 97] 5 (1, 2))
  refine (st_append (S2.out.keep ka) (HL2.out.keep ka (fun h => h)) HY.out hlb (by decide) (one_byte (x := 97) (heap_alloc_new w2 (.cells #[byteV 97] 5 (1, 2))))).mono ?_
  rw [aw_app]
  rintro e w3 ⟨rfl, hS, hL, -⟩
  have S3 := hid hS
  have HL3 := hid hL
  clear hS hL ka
  go_wp2_with fail
  refine (st_sync S3.out HL3.out HY.out hlb).mono ?_
  rw [aw_sync]
  rintro e w4 ⟨rfl, hS, hL, -⟩
  have S4 := hid hS
  have HL4 := hid hL
  clear hS hL
  go_wp2_with fail
  have ka := (Keep.refl (fun _ => False) w4).alloc (.cells #[byteV 98, byteV 99] 5 (2, 3))
  refine (st_append (S4.out.keep ka) (HL4.out.keep ka (fun h => h)) HY.out hlb (by decide) (two_bytes (x := 98) (y := 99) (heap_alloc_new w4 (.cells #[byteV 98, byteV 99] 5 (2, 3))))).mono ?_
  rw [aw_app2]
  rintro e w5 ⟨rfl, hS, hL, -⟩
  have S5 := hid hS
  have HL5 := hid hL
  clear hS hL ka
  go_wp2_with fail
  refine (st_open S5.out nmLog).mono ?_
  rw [aw_open2]
  rintro e w6 ⟨lv2, o2, Z, rfl, hS, hXZ, ⟨mb, rfl, hM, hZm, hlow⟩, hR, hK⟩
  have S6 := hid hS
  have HM6 := hid hM
  have HL6 := hid (HL5.out.keep hK (fun h => h HY.out))
  obtain ⟨ao2, cap2, hv2, hn2, hrow⟩ := hR.rows
  subst hv2
  have hao : ∃ a2, ao2 = some a2 := by
    cases ao2 with
    | none => have := hn2 rfl; cases this
    | some a2 => exact ⟨a2, rfl⟩
  obtain ⟨a2, rfl⟩ := hao
  obtain ⟨-, -, A, C, hcell, hBb⟩ := hrow a2 rfl 1 [98, 99] rfl
  have hst := bytes_string hBb
  have hcell' : w6.cell? ⟨a2.block, a2.off + 1, none⟩ = some (.slice A 2 C) := hcell
  have hst' : (convert 33 9 (.slice A 2 C)).run Tryd.prog w6 = .ok (.string ⟨#[98, 99]⟩) w6 := hst
  clear hS hM hXZ hZm hlow hR hK hn2 hrow hcell hBb hst
  unfold ptr
  go_wp2_with fail
  refine (count_any w6 HL6.out).mono ?_
  intro e w' hh
  obtain ⟨he, hw⟩ := hh
  rw [he, hw]
  clear he hw w' e
  go_wp2_with fail
  refine (sure_any w6 HL6.out).mono ?_
  intro e w' hh
  obtain ⟨he, hw⟩ := hh
  rw [he, hw]
  clear he hw w' e
  go_wp2_with fail
  refine (count_any w6 HM6.out).mono ?_
  intro e w' hh
  obtain ⟨he, hw⟩ := hh
  rw [he, hw]
  clear he hw w' e
  go_wp2_with fail
  all_goals go_ret
  all_goals exact ⟨rfl, S6.out.done⟩

end Go.Proofs.YtbjjohfpdphpfaaDoor.Wal
