/- frame.Frame, walked. -/
import Derived.Test.YtmdibkafjpglkaaGreatDoorFrameFirst
import Derived.Test.YtmdibkafjpglkaaGreatDoorOwnBytes
namespace Go.Proofs.YtmdibkafjpglkaaGreatDoor.Frm
open Go Go.RowKit Go.Lib Go.Proofs.YtmdibkafjpglkaaGreatDoor.Dsk

theorem sum_val (w : World) {v : Value} {l : List UInt8} {G : Nat → Prop} (h : BytesIn w v l G) :
    Calls Tryz.prog 65 #[v] w fun e w' => e = .returned (.int .u32 (crc l : Int)) ∧ w' = w := by
  have h0 := h
  obtain ⟨ao, cap, rfl, -⟩ := h.read
  exact sum_any w h0
/-- Only what is new has turned. -/
theorem keep_old {w w' w'' : World} {F G : Nat → Prop} (h : Keep F w w') (k : Keep G w' w'') (hF : ∀ i, i < w.heap.size → ¬ F i) (hG : ∀ i, i < w.heap.size → ¬ G i) : Keep (fun _ => False) w w'' :=
  ⟨k.os.trans h.os, k.tape.trans h.tape, k.output.trans h.output, Nat.le_trans h.size k.size, fun i hi _ => (k.block i (Nat.lt_of_lt_of_le hi h.size) (hG i hi)).trans (h.block i hi (hF i hi))⟩
theorem four_length (n : Nat) : (four n).length = 4 := rfl

theorem byteV_ofNat (m : Nat) : byteV (UInt8.ofNat m) = .int .u8 ((m : Int) % 256) := by
  unfold byteV
  rw [UInt8.toNat_ofNat']
  congr 1

set_option maxRecDepth 100000 in
set_option maxHeartbeats 1000000 in
theorem four_row (w : World) (n : Nat) (hn : n < 4294967296) :
    Calls Tryz.prog 64 #[.int .u32 (n : Int)] w fun e w' => ∃ v, e = .returned v ∧ ByteRow w' w.heap.size v (four n) ∧ Keep (fun _ => False) w w' := by
  have h3 : (n : Int) / 16777216 = (n : Int) / 16777216 % 256 := by omega
  have hc : (#[Value.int .u8 ((n : Int) % 256), Value.int .u8 ((n : Int) / 256 % 256), Value.int .u8 ((n : Int) / 65536 % 256), Value.int .u8 ((n : Int) / 16777216)] : Array Value).toList.take ((four n).length * 1) = (four n).map byteV := by
    unfold four
    simp only [List.map_cons, List.map_nil, byteV_ofNat, List.length_cons, List.length_nil]
    rw [h3]
    rfl
  have HC := hid hc
  clear h3 hc
  go_enter Tryz.func64, Tryz.ntmps64
  go_wp2_with fail
  go_ret
  exact ⟨_, rfl, ⟨by simp [four], .inr ⟨w.heap.size, 4, _, rfl, Nat.le_refl _, heap_alloc_new w _, Nat.le_refl _, by decide, rfl, HC.out⟩⟩, (Keep.refl _ w).alloc _⟩

set_option maxRecDepth 100000 in
set_option maxHeartbeats 2000000 in
theorem frame_any (w : World) {ao : Option Addr} {cap : Nat} {l : List UInt8} {G : Nat → Prop} (h : BytesIn w (.slice ao l.length cap) l G) :
    Calls Tryz.prog 37 #[.slice ao l.length cap] w fun e w' => ∃ v, e = .returned (.tuple #[v, .int .i64 (if maxBody < l.length then 81 else 0)]) ∧ ByteRow w' w.heap.size v (if maxBody < l.length then [] else frame l) ∧ Keep (fun _ => False) w w' := by
  have H := hid h
  clear h
  by_cases hl : 4194304 < (l.length : Int)
  · rw [if_pos (show maxBody < l.length by unfold maxBody; omega), if_pos (show maxBody < l.length by unfold maxBody; omega)]
    go_enter Tryz.func37, Tryz.ntmps37
    go_wp2_with fail
    all_goals go_ret2
    all_goals exact ⟨_, rfl, ByteRow.nil _ _, Keep.refl _ _⟩
  · rw [if_neg (show ¬ maxBody < l.length by unfold maxBody; omega), if_neg (show ¬ maxBody < l.length by unfold maxBody; omega)]
    go_enter Tryz.func37, Tryz.ntmps37
    go_wp2_with fail
    refine (four_row w l.length (by omega)).mono ?_
    rintro e w1 ⟨v1, rfl, hR, hK⟩
    have HR1 := hid hR
    have HK1 := hid hK
    have H1 := hid (H.out.keep hK (fun _ _ h => h))
    have hs1 := hK.size
    clear hR hK H
    go_wp2_with (at_builtin; refine wpList_append_row rfl _ _ rfl HR1.out H1.out rfl rfl hs1 (by rw [four_length]; omega) ?_; intro v2 w2 hR hK)
    have hs2 := Nat.le_trans hs1 hK.size
    have HR2 := hid hR
    have HK2 := hid (keep_old HK1.out hK (fun _ _ h => h) (fun i hi h => by omega))
    clear hR hK HR1
    refine (sum_val w2 HR2.out.fb.bytesIn).mono ?_
    intro e w' hh
    obtain ⟨he, hw⟩ := hh
    rw [he, hw]
    clear he hw w' e
    go_wp2_with fail
    refine (four_row w2 (crc (four l.length ++ l)) (crc_lt _)).mono ?_
    rintro e w3 ⟨v3, rfl, hR, hK⟩
    have HR3 := hid (HR2.out.keep hK (fun _ _ h => h))
    have HS3 := hid hR.fb.bytesIn
    have HK3 := hid (HK2.out.trans hK (fun _ _ h => h))
    have hs3 := HK3.out.size
    clear hR hK
    go_wp2_with (at_builtin; refine wpList_append_row rfl _ _ rfl HR3.out HS3.out rfl rfl hs3 (by rw [List.length_append, four_length, four_length]; omega) ?_; intro v4 w4 hR hK)
    have HR4 := hid hR
    have HK4 := hid (keep_old HK3.out hK (fun _ _ h => h) (fun i hi h => by omega))
    clear hR hK
    all_goals go_ret2
    all_goals exact ⟨_, rfl, HR4.out, HK4.out⟩

end Go.Proofs.YtmdibkafjpglkaaGreatDoor.Frm
