/- osierlaw20.SnapRefuses, walked. -/
import Derived.Test.YtmdibkafjpglkaaGreatDoorAwake20
import Derived.Test.YtmdibkafjpglkaaGreatDoorRefusesPure
import Derived.Test.YtmdibkafjpglkaaGreatDoorOpenArgs
namespace Go.Proofs.YtmdibkafjpglkaaGreatDoor.Snp
open Go Go.RowKit Go.Lib Go.Proofs.YtmdibkafjpglkaaGreatDoor.Dsk Go.Proofs.YtmdibkafjpglkaaGreatDoor.Wal Go.Proofs.YtmdibkafjpglkaaGreatDoor.Num Go.Proofs.YtmdibkafjpglkaaGreatDoor.Frm

theorem make_zeros (n : Nat) (hn : n ≤ 1073741824) : ∃ (cs : Array Value) (zs : List UInt8), zs.length = n ∧
    (∀ w : World, (Instr.makeSlice 22 (.int .i64 (n : Int)) (.int .i64 (n : Int))).run Tryz.prog w = .ok (.slice (some ⟨w.heap.size, 0, none⟩) n n) (w.alloc (.cells cs 5))) ∧
    ∀ w : World, BytesIn (w.alloc (.cells cs 5)) (.slice (some ⟨w.heap.size, 0, none⟩) zs.length n) zs (fun i => i = w.heap.size) := by
  obtain ⟨i, hi, hz, hsz, hby⟩ := info_parts info_u8
  have hM : maxLen = 9223372036854775807 := rfl
  refine ⟨madeCells #[.int .u8 0] n, List.replicate n 0, List.length_replicate, fun w => ?_, fun w => ?_⟩
  · have hmk := run_make (P := Tryz.prog) w 22 5 i (.int .u8 0) under_bytes hi hz .i64 .i64 (n : Int) (n : Int) (by omega) (by omega) (by rw [hby]; omega) (by omega)
    rw [hsz, show ((n : Int)).toNat = n by omega, Nat.mul_one] at hmk
    exact hmk
  · refine ⟨some ⟨w.heap.size, 0, none⟩, n, rfl, by rw [List.length_replicate]; exact Nat.le_refl _, by omega, (fun e => by cases e), fun b hb j u hj => ?_⟩
    obtain rfl := Option.some.inj hb
    have hjn : j < n := by
      have := (List.getElem?_eq_some_iff.1 hj).1
      simpa using this
    refine ⟨?_, by simp, rfl⟩
    rw [addr_add0, cell_at (heap_alloc_new w _), ← hj]
    simp [madeCells, hjn, byteV, Nat.mod_one]
set_option maxRecDepth 100000 in
theorem nil_save (name : ByteArray) (gen : Int) (v : Value) (w : World) : Calls Tryz.prog 14 #[.pointer none, .string name, .int .i64 gen, v] w fun e w' => e = .returned (.int .i64 1) ∧ w' = w := by
  go_enter Tryz.func14, Tryz.ntmps14
  go_wp2_with fail
  all_goals go_ret
  all_goals exact ⟨rfl, rfl⟩
set_option maxRecDepth 100000 in
theorem put_nil (w : World) : Calls Tryz.prog 18 #[.pointer none] w fun e w' => e = .returned (.slice none 0 0) ∧ w' = w := by
  go_enter Tryz.func18, Tryz.ntmps18
  go_wp2_with fail
  all_goals go_ret
  all_goals exact ⟨rfl, rfl⟩
/-- What the first two calls say. -/
theorem both_say (name : ByteArray) (gen : Int) (h0 : 0 ≤ gen) : ∃ x e : Int, (append (Dsk.new 16777216) (name ++ dotNew) [120]).2 = x ∧ (saveP (append (Dsk.new 16777216) (name ++ dotNew) [120]).1 name gen []).2 = e ∧ (x = 0 ∧ e = 0 ∨ x = 61 ∧ e = 61 ∨ x = 0 ∧ e = 61 ∧ name.toList = []) := by
  refine ⟨_, _, rfl, rfl, ?_⟩
  cases hn : isName (name ++ dotNew).toList with
  | false =>
    rw [first_none hn, save_none h0 hn]
    exact .inr (.inl ⟨rfl, rfl⟩)
  | true =>
    rw [first_append hn, save_name h0 hn]
    by_cases hz : name.toList = []
    · have : isName name.toList = false := by rw [hz]; rfl
      rw [if_neg (by rw [this]; decide)]
      exact .inr (.inr ⟨rfl, rfl, hz⟩)
    · rw [if_pos (name_of_new hn hz)]
      exact .inl ⟨rfl, rfl⟩
set_option maxRecDepth 100000 in
set_option maxHeartbeats 4000000 in
theorem refuses_row (W : World) (name : ByteArray) (gen : Int) (hg : gen < 9223372036854775808) :
    Calls Tryz.prog 5 #[.string name, .int .i64 gen] W fun e w' => e = .returned (.bool true) ∧ Keep (fun _ => False) W w' := by
  have hcv : ∀ (w : World) (n c : Nat) (cs : Array Value), (convert 22 22 (.slice (some ⟨w.heap.size, 0, none⟩) n c)).run Tryz.prog (w.alloc (.cells cs 5)) = .ok (.slice (some ⟨w.heap.size, 0, none⟩) n c) (w.alloc (.cells cs 5 (cs.size, cs.size + 1))) := fun w n c cs => conv_bytes w n c cs
  obtain ⟨big, zs, hzl, hmk, hzs⟩ := make_zeros 4194304 (by decide)
  have hmk' : ∀ w : World, (Instr.makeSlice 22 (.int .i64 4194304) (.int .i64 4194304)).run Tryz.prog w = .ok (.slice (some ⟨w.heap.size, 0, none⟩) 4194304 4194304) (w.alloc (.cells big 5)) := hmk
  have HZ := hid hzl
  have HZS := hid hzs
  clear hzl hmk hzs
  by_cases h1 : 100 < (name.size : Int)
  · go_enter Tryz.func5, Tryz.ntmps5
    go_wp2_with fail
    refine (awake20 W).mono ?_
    rintro e w1 ⟨rfl, hK⟩
    have HK := hid hK
    clear hK
    go_wp2_with fail
    all_goals go_ret
    all_goals exact ⟨rfl, HK.out⟩
  by_cases h2 : gen < 0
  · go_enter Tryz.func5, Tryz.ntmps5
    go_wp2_with fail
    refine (awake20 W).mono ?_
    rintro e w1 ⟨rfl, hK⟩
    have HK := hid hK
    clear hK
    go_wp2_with fail
    all_goals go_ret
    all_goals exact ⟨rfl, HK.out⟩
  have hns : name.size ≤ 1000000 := by omega
  have h0 : 0 ≤ gen := by omega
  have hcat : ∀ w : World, (binOp BinOp.add 9 (.string name) (.string ⟨#[46, 110, 101, 119]⟩)).run Tryz.prog w = .ok (.string (name ++ dotNew)) w := fun w => run_string_add_sum w name dotNew (by have : dotNew.size = 4 := rfl; omega)
  obtain ⟨x, e, hx, he, hxe⟩ := both_say name gen h0
  go_enter Tryz.func5, Tryz.ntmps5
  go_wp2_with fail
  refine (awake20 W).mono ?_
  rintro e w1 ⟨rfl, hK⟩
  have HK1 := hid hK
  clear hK
  go_wp2_with fail
  refine (st_new w1 (Keep.refl _ w1) 16777216 (by decide)).mono ?_
  rintro e w2 ⟨db, rfl, hS⟩
  have S2 := hid hS
  clear hS
  unfold ptr
  go_wp2_with fail
  have ka := (Keep.refl (fun _ => False) w2).alloc (.cells #[byteV 120] 5 (1, 2))
  refine (st_dappend (S2.out.more ka) (name ++ dotNew) (one_byte (x := 120) (heap_alloc_new w2 (.cells #[byteV 120] 5 (1, 2)))) (fun i (h : i = w2.heap.size) => .inr (.inr ⟨by omega, by simp; omega⟩))).mono ?_
  rw [hx]
  rintro e3 w3 ⟨rfl, hS, -⟩
  have S3 := hid (hS.fewer (Y := fun _ => False) (fun _ h => h.elim))
  clear hS ka
  have hcal := calm_append (calm_new 16777216) (name ++ dotNew) [120]
  have htid := tidy_append (tidy_fresh 16777216) (name ++ dotNew) [120]
  obtain ⟨D3, hD3⟩ : ∃ D, (append (Dsk.new 16777216) (name ++ dotNew) [120]).1 = D := ⟨_, rfl⟩
  rw [hD3] at S3 hcal htid he
  have HCL := hid hcal
  have HTD := hid htid
  clear hD3 hx hcal htid
  go_wp2_with fail
  refine (save_any (b := []) S3.out HTD.out name gen hg (none_in w3 (fun _ => False)) (Nat.zero_le _) hns).mono ?_
  rw [he]
  rintro e4 w4 ⟨rfl, hS, -⟩
  have hcal := calm_saveP HCL.out name gen []
  have htid := tidy_saveP HTD.out name gen []
  obtain ⟨D4, hD4⟩ : ∃ D, (saveP D3 name gen []).1 = D := ⟨_, rfl⟩
  rw [hD4] at hS hcal htid
  have S4 := hid hS
  have HC4 := hid hcal
  have HT4 := hid htid
  clear hD4 he hcal htid hS HCL HTD S3
  go_wp2_with fail
  refine (nil_save _ _ _ _).mono ?_
  intro e w' hh
  obtain ⟨he, hw⟩ := hh
  rw [he, hw]
  clear he hw w' e
  go_wp2_with fail
  have ka := (Keep.refl (fun _ => False) w4).alloc (.cells big 5)
  have hSv := save_any (b := zs) (S4.out.keep ka) HT4.out nmS gen hg (HZS.out w4) (by rw [HZ.out]; decide) (by decide)
  rw [save_much h0 (by rw [HZ.out]; decide), HZ.out] at hSv
  refine hSv.mono ?_
  rintro e5 w5 ⟨rfl, hS, -⟩
  have S5 := hid hS
  clear hS ka hSv
  go_wp2_with fail
  refine (st_cut S5.out 0 0 0 (by decide) (by decide) (by decide)).mono ?_
  rw [cut_now HC4.out]
  rintro e6 w6 ⟨rfl, hS, -⟩
  have S6 := hid hS
  have HT6 := hid (show Tidy (cut0 D4).files from HT4.out)
  clear hS
  go_wp2_with fail
  refine (st_dsync S6.out nmS).mono ?_
  rintro e7 w7 ⟨rfl, hS, -⟩
  have HO7 := hid (sync_now HC4.out nmS)
  have HT7 := hid (tidy_sync HT6.out nmS)
  have S7 := hid hS
  clear hS
  go_wp2_with fail
  refine (save_any (b := []) S7.out HT7.out nmS gen hg (none_in w7 (fun _ => False)) (Nat.zero_le _) (by decide)).mono ?_
  rw [save_off h0 HO7.out]
  rintro e8 w8 ⟨rfl, hS, -⟩
  have HK8 := hid (HK1.out.trans hS.done (fun _ _ h => h))
  clear hS
  rcases hxe with ⟨rfl, rfl⟩ | ⟨rfl, rfl⟩ | ⟨rfl, rfl, hne⟩
  · go_wp2_with fail
    refine (put_nil _).mono ?_
    rintro e w' ⟨rfl, rfl⟩
    go_wp2_with fail
    all_goals go_ret
    all_goals exact ⟨rfl, HK8.out⟩
  · go_wp2_with fail
    refine (put_nil _).mono ?_
    rintro e w' ⟨rfl, rfl⟩
    go_wp2_with fail
    all_goals go_ret
    all_goals exact ⟨rfl, HK8.out⟩
  · have hnb : (name.toList == []) = true := by rw [hne]; rfl
    go_wp2_with fail
    refine (put_nil _).mono ?_
    rintro e w' ⟨rfl, rfl⟩
    go_wp2_with fail
    all_goals go_ret
    all_goals exact ⟨rfl, HK8.out⟩
theorem refuses_all (name : ByteArray) (gen : Int) (W : World) (_ : name.size ≤ 140737488351232) (hg : (Lit.int .i64 gen).wf = true) :
    Calls Tryz.prog 5 #[.string name, .int .i64 gen] W fun e w' => e = .returned (.bool true) ∧ Below W.heap.size W w' :=
  (refuses_row W name gen (wf_lt hg)).mono fun _ _ h => ⟨h.1, h.2.below (fun _ _ h => h.elim) (Nat.le_refl _)⟩
end Go.Proofs.YtmdibkafjpglkaaGreatDoor.Snp
