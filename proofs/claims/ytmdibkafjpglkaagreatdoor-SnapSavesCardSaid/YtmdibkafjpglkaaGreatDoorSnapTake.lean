/- snap.Put of fresh branches, walked. A reader's Count, Text and End, where there is no error: walked. snap.Take of the bytes of fresh branches, walked. -/
import Derived.Test.YtmdibkafjpglkaaGreatDoorBranchRead
import Derived.Test.YtmdibkafjpglkaaGreatDoorDiskNames
import Derived.Test.YtmdibkafjpglkaaGreatDoorSnapLoad
namespace Go.Proofs.YtmdibkafjpglkaaGreatDoor.Snp
open Go Go.RowKit Go.Lib Go.Proofs.YtmdibkafjpglkaaGreatDoor.Dsk Go.Proofs.YtmdibkafjpglkaaGreatDoor.Num

section
variable {w : World} {g m : Nat}
set_option maxRecDepth 100000 in
set_option maxHeartbeats 1000000 in
theorem ops_new (h : DocNew w g m) : Calls Tryz.prog 49 #[ptr g] w fun e w' => e = .returned (.slice none 0 0) ∧ Keep (fun _ => False) w w' := by
  obtain ⟨s, h1, h2⟩ := h
  have b0 : w.cell? ⟨g, 0, none⟩ = some (.map (some m)) := by rw [cell_at h1]; rfl
  have hmis : MapIs w m Value.string [] #[] 0 := ⟨h2, rfl, rfl, List.nodup_nil, fun e he => by simp at he, List.nodup_nil⟩
  obtain ⟨hr, hit⟩ := run_range_map (P := Tryz.prog) 125 102 (K := 98) (by kernel_rfl) hmis
  have hml := lt_of_block h2
  have hnx : (Instr.next (.pointer (some ⟨w.heap.size, 0, none⟩)) false 0).run Tryz.prog (w.alloc (.mapIter (some m) 0 #[] 0)) = .ok (.tuple #[.bool false]) (w.alloc (.mapIter (some m) 0 #[] 0)) := by
    rcases run_next_map (P := Tryz.prog) hit (by omega) 0 with ⟨-, h⟩ | ⟨p, e, w2, -, hst⟩
    · exact h
    · have := hst.mem; cases this
  clear h1 h2 hit hmis
  unfold ptr
  go_enter Tryz.func49, Tryz.ntmps49
  go_wp2_with fail
  refine wp_loop_rounds 1 ?_
  rw [rounds_succ]
  go_wp2_with fail
  refine (sort_none _ _).mono ?_
  rintro e w' ⟨rfl, rfl⟩
  go_wp2_with fail
  all_goals go_ret
  all_goals exact ⟨rfl, (Keep.refl _ w).alloc _⟩
set_option maxRecDepth 100000 in
set_option maxHeartbeats 1000000 in
theorem wait_new (h : DocNew w g m) : Calls Tryz.prog 50 #[ptr g] w fun e w' => e = .returned (.slice none 0 0) ∧ w' = w := by
  obtain ⟨s, h1, -⟩ := h
  have b1 : w.cell? ⟨g, 1, none⟩ = some (.slice none 0 0) := by rw [cell_at h1]; rfl
  clear h1
  unfold ptr
  go_enter Tryz.func50, Tryz.ntmps50
  go_wp2_with fail
  refine wp_loop_rounds 1 ?_
  rw [rounds_succ]
  go_wp2_with fail
  all_goals go_ret
  all_goals exact ⟨rfl, rfl⟩
end
set_option maxRecDepth 100000 in
set_option maxHeartbeats 1000000 in
theorem rows_nil (w : World) {base : Nat} {v : Value} {l : List UInt8} (h : ByteRow w base v l) (hl : l.length ≤ 2147483648) :
    Calls Tryz.prog 47 #[v, .slice none 0 0] w fun e w' => ∃ v, e = .returned v ∧ ByteRow w' w.heap.size v (l ++ [0]) ∧ Keep (fun _ => False) w w' := by
  obtain ⟨ao, cap, rfl⟩ := h.slice
  have HP := hid (put_uint w (bytes_of_row h) hl 0 (by decide))
  clear h
  obtain ⟨L, hL⟩ : ∃ L, l.length = L := ⟨_, rfl⟩
  rw [hL] at HP ⊢
  go_enter Tryz.func47, Tryz.ntmps47
  go_wp2_with fail
  refine HP.out.mono ?_
  rintro e w1 ⟨v, rfl, hR, hK⟩
  have HR := hid hR
  have HK := hid hK
  clear hR hK
  go_wp2_with fail
  refine wp_loop_rounds 1 ?_
  rw [rounds_succ]
  go_wp2_with fail
  all_goals go_ret
  all_goals exact ⟨_, rfl, HR.out, HK.out⟩
theorem row_lower {w : World} {base base' : Nat} {v : Value} {l : List UInt8} (h : ByteRow w base v l) (hb : base' ≤ base) : ByteRow w base' v l := owns_mono h hb
/-- The bytes of fresh branches. -/
def mainB : List UInt8 := [1, 4, 109, 97, 105, 110, 0, 0]
set_option maxRecDepth 100000 in
set_option maxHeartbeats 2000000 in
theorem put_main {w : World} {bb g m : Nat} {r actor : Int} (h : OneBr w bb g m r actor) : Calls Tryz.prog 18 #[ptr bb] w fun e w' => ∃ v, e = .returned v ∧ ByteRow w' w.heap.size v mainB ∧ Keep (fun _ => False) w w' := by
  have H := hid h
  clear h
  go_enter Tryz.func18, Tryz.ntmps18
  unfold ptr
  go_wp2_with fail
  refine (names_main H.out).mono ?_
  rintro e w1 ⟨v1, rfl, hO, hK⟩
  rcases own_cell hO with ⟨-, h, -⟩ | ⟨nb, ncap, rfl, hnb, hn1, hnm, hnl, -, hnc⟩
  · exact absurd h (by decide)
  have hn0 : w1.cell? ⟨nb, 0, none⟩ = some (.string nmMain) := hnc 0 (by simp)
  have HN1 := hid hn0
  have H1 := hid (H.out.keep hK)
  have HK1 := hid hK
  clear hO hK hnc hn0
  go_wp2_with fail
  refine (put_uint w1 (l := []) (none_in w1 (fun _ => False)) (Nat.zero_le _) 1 (by decide)).mono ?_
  rintro e w2 ⟨v2, rfl, hR, hK⟩
  have HR2 := hid hR
  have hn2 : w2.cell? ⟨nb, 0, none⟩ = some (.string nmMain) := by rw [hK.cell hnl (fun h => h)]; exact HN1.out
  have H2 := hid (H1.out.keep hK)
  have HK2 := hid (HK1.out.trans hK (fun _ _ h => h))
  obtain ⟨a2, c2, rfl⟩ := hR.slice
  clear hR hK
  go_wp2_with fail
  refine wp_loop_rounds 2 ?_
  rw [rounds_succ]
  go_wp2_with fail
  refine (doc_main H2.out).mono ?_
  rintro e w' ⟨rfl, rfl⟩
  go_wp2_with fail
  refine (put_text _ (bytes_of_row HR2.out) (Nat.le_of_ble_eq_true rfl) nmMain (Nat.le_of_ble_eq_true rfl)).mono ?_
  rintro e w3 ⟨v3, rfl, hR, hK⟩
  have HR3 := hid hR
  have H3 := hid (H2.out.keep hK)
  have HK3 := hid (HK2.out.trans hK (fun _ _ h => h))
  clear hR hK HR2
  go_wp2_with fail
  refine (ops_new H3.out.doc).mono ?_
  rintro e w4 ⟨rfl, hK⟩
  have HR4 := hid (HR3.out.keep hK (fun _ _ h => h))
  have H4 := hid (H3.out.keep hK)
  have HK4 := hid (HK3.out.trans hK (fun _ _ h => h))
  clear hK HR3
  go_wp2_with fail
  refine (rows_nil _ HR4.out (Nat.le_of_ble_eq_true rfl)).mono ?_
  rintro e w5 ⟨v5, rfl, hR, hK⟩
  have HR5 := hid hR
  have H5 := hid (H4.out.keep hK)
  have HK5 := hid (HK4.out.trans hK (fun _ _ h => h))
  clear hR hK HR4
  go_wp2_with fail
  refine (wait_new H5.out.doc).mono ?_
  rintro e w' ⟨rfl, rfl⟩
  go_wp2_with fail
  refine (rows_nil _ HR5.out (Nat.le_of_ble_eq_true rfl)).mono ?_
  rintro e w6 ⟨v6, rfl, hR, hK⟩
  have HR6 := hid hR
  have HK6 := hid (HK5.out.trans hK (fun _ _ h => h))
  have hl6 : w.heap.size ≤ w'.heap.size := HK5.out.size
  clear hR hK HR5
  go_wp2_with fail
  rw [rounds_succ]
  go_wp2_with fail
  all_goals go_ret
  all_goals exact ⟨_, rfl, row_lower HR6.out hl6, HK6.out⟩
end Go.Proofs.YtmdibkafjpglkaaGreatDoor.Snp

namespace Go.Proofs.YtmdibkafjpglkaaGreatDoor.Num
open Go Go.RowKit Go.Lib Go.Proofs.YtmdibkafjpglkaaGreatDoor.Dsk

section
variable {w w' : World} {rb C : Nat} {A : Option Addr} {l : List UInt8} {e : Int} {G F : Nat → Prop}
set_option maxRecDepth 100000 in
theorem count_ok (h : ReaderAt w rb A C l 0 G) (hl : l.length < 9223372036854775808) (k : Nat) (hk : 1 ≤ k) (hk2 : k < 1000) {n : Nat} {t : List UInt8} (ht : takeU l = (0, n, t)) (hn : n ≤ t.length / k) (hn3 : n < 9223372036854775808) :
    Calls Tryz.prog 52 #[ptr rb, .int .i64 (k : Int)] w fun x w' => x = .returned (.int .i64 (n : Int)) ∧ (∃ A' C', ReaderAt w' rb A' C' t 0 G) ∧ Keep (fun i => i = rb) w w' := by
  have hU := uint_any h hl
  have htl := Snp.takeU_len l
  rw [ht] at hU htl
  have HU := hid hU
  have hq : Int.tdiv (t.length : Int) (k : Int) = ((t.length / k : Nat) : Int) := rfl
  have hq0 : t.length / k ≤ t.length := Nat.div_le_self _ _
  have hmx : max (k : Int) 1 = (k : Int) := by omega
  have hle : ¬ (n : Int) > ((t.length / k : Nat) : Int) := by omega
  clear hU h ht
  unfold ptr at HU ⊢
  go_enter Tryz.func52, Tryz.ntmps52
  go_wp2_with fail
  refine HU.out.mono ?_
  rintro x w1 ⟨rfl, ⟨A1, C1, hR⟩, hK⟩
  have HR := hid hR
  have HK := hid hK
  clear hR hK
  go_wp2_with fail
  refine (left_any HR.out).mono ?_
  rintro x w' ⟨rfl, rfl⟩
  go_wp2_with fail
  all_goals go_ret
  all_goals exact ⟨rfl, ⟨_, _, HR.out⟩, HK.out⟩
set_option maxRecDepth 100000 in
theorem text_ok (h : ReaderAt w rb A C l 0 G) (hl : l.length < 9223372036854775808) {n : Nat} {t : List UInt8} (ht : takeU l = (0, n, t)) (hn : n ≤ t.length) :
    Calls Tryz.prog 53 #[ptr rb] w fun x w' => x = .returned (.string ⟨(t.take n).toArray⟩) ∧ (∃ A' C', ReaderAt w' rb A' C' (t.drop n) 0 G) ∧ Keep (fun i => i = rb) w w' := by
  have hU := uint_any h hl
  have htl := Snp.takeU_len l
  rw [ht] at hU htl
  have HU := hid hU
  have hap := h.apart
  clear hU h ht
  unfold ptr at HU ⊢
  go_enter Tryz.func53, Tryz.ntmps53
  go_wp2_with fail
  refine HU.out.mono ?_
  rintro x w1 ⟨rfl, ⟨A1, C1, hR⟩, hK⟩
  have HR := hid hR
  have HK := hid hK
  clear hR hK
  go_wp2_with fail
  refine (take_ok HR.out n hn (by omega)).mono ?_
  rintro x w2 ⟨rfl, hR, hK⟩
  have hst := bytes_string (((HR.out.bytes.keep hK (fun i hi (e : i = rb) => hap (e ▸ hi)))).first n hn)
  have HR2 := hid hR
  have HK2 := hid (HK.out.trans hK (fun _ _ h => h))
  clear hR hK
  go_wp2_with fail
  all_goals go_ret
  all_goals exact ⟨rfl, ⟨_, _, HR2.out⟩, HK2.out⟩
set_option maxRecDepth 100000 in
theorem end_ok (h : ReaderAt w rb A C [] 0 G) : Calls Tryz.prog 57 #[ptr rb] w fun x w' => x = .returned (.int .i64 0) ∧ w' = w := by
  have H := hid h
  clear h
  unfold ptr
  go_enter Tryz.func57, Tryz.ntmps57
  go_wp2_with fail
  refine (left_any H.out).mono ?_
  rintro x w' ⟨rfl, rfl⟩
  go_wp2_with fail
  refine (err_any H.out).mono ?_
  rintro x w' ⟨rfl, rfl⟩
  go_wp2_with fail
  all_goals go_ret
  all_goals exact ⟨rfl, rfl⟩
end
end Go.Proofs.YtmdibkafjpglkaaGreatDoor.Num

namespace Go.Proofs.YtmdibkafjpglkaaGreatDoor.Snp
open Go Go.RowKit Go.Lib Go.Proofs.YtmdibkafjpglkaaGreatDoor.Dsk Go.Proofs.YtmdibkafjpglkaaGreatDoor.Num

set_option maxRecDepth 100000 in
theorem taken_none {w : World} {rb C : Nat} {A : Option Addr} {t : List UInt8} {G : Nat → Prop} (h : ReaderAt w rb A C (0 :: t) 0 G) (ht : t.length < 100) :
    Calls Tryz.prog 54 #[ptr rb] w fun x w' => x = .returned (.slice none 0 0) ∧ (∃ A' C', ReaderAt w' rb A' C' t 0 G) ∧ Keep (fun i => i = rb) w w' := by
  have hC := hid (count_ok h (by simp only [List.length_cons]; omega) 10 (by decide) (by decide) (n := 0) (t := t) (take_put 0 (by decide) t) (Nat.zero_le _) (by decide))
  clear h
  unfold ptr at hC ⊢
  go_enter Tryz.func54, Tryz.ntmps54
  go_wp2_with fail
  refine hC.out.mono ?_
  rintro x w1 ⟨rfl, ⟨A1, C1, hR⟩, hK⟩
  have HR := hid hR
  have HK := hid hK
  clear hR hK
  go_wp2_with fail
  refine wp_loop_rounds 1 ?_
  rw [rounds_succ]
  go_wp2_with fail
  all_goals go_ret
  all_goals exact ⟨rfl, ⟨_, _, HR.out⟩, HK.out⟩
set_option maxRecDepth 100000 in
theorem equal_any {w : World} {v1 v2 : Value} {l1 l2 : List UInt8} {G1 G2 : Nat → Prop} (h1 : BytesIn w v1 l1 G1) (h2 : BytesIn w v2 l2 G2) :
    Calls Tryz.prog 58 #[v1, v2] w fun x w' => x = .returned (.bool (l1 == l2)) ∧ w' = w := by
  have e1 := bytes_string h1
  have e2 := bytes_string h2
  clear h1 h2
  go_enter Tryz.func58, Tryz.ntmps58
  go_wp2_with fail
  all_goals go_ret
  all_goals exact ⟨rfl, rfl⟩
set_option maxRecDepth 100000 in
set_option maxHeartbeats 2000000 in
theorem take_main {w : World} {A : Option Addr} {C : Nat} {G : Nat → Prop} (h : BytesIn w (.slice A mainB.length C) mainB G) :
    Calls Tryz.prog 20 #[.int .i64 2, .slice A mainB.length C] w fun e w' => ∃ bb, e = .returned (.tuple #[ptr bb, .int .i64 0]) ∧ Keep (fun _ => False) w w' := by
  have H := hid h
  clear h
  go_enter Tryz.func20, Tryz.ntmps20
  go_wp2_with fail
  refine (new_main w 2 512 actor_two).mono ?_
  rintro e w1 ⟨bb, g, m, rfl, hO, hK⟩
  have HO1 := hid hO
  have HK1 := hid hK
  have HB1 := hid (bytes_more' (H.out.keep hK (fun _ _ h => h)))
  clear hO hK
  go_wp2_with fail
  refine (read_any w1 HB1.out (fun i h => h.2)).mono ?_
  rintro e w2 ⟨rfl, hR, hK⟩
  have HR2 := hid hR
  have K2 := hid hK
  clear hR hK
  go_wp2_with fail
  refine (count_ok HR2.out (by decide) 3 (by decide) (by decide) (n := 1) (t := [4, 109, 97, 105, 110, 0, 0]) (take_put 1 (by decide) _) (by decide) (by decide)).mono ?_
  rintro e w3 ⟨rfl, ⟨A3, C3, hR⟩, hK⟩
  have HR3 := hid hR
  have K3 := hid (K2.out.trans hK (fun i hi (h : i = w1.heap.size) => by omega))
  clear hR hK
  go_wp2_with fail
  refine wp_loop_rounds 2 ?_
  rw [rounds_succ]
  go_wp2_with fail
  refine (text_ok HR3.out (by decide) (n := 4) (t := [109, 97, 105, 110, 0, 0]) (take_put 4 (by decide) _) (by decide)).mono ?_
  rintro e w4 ⟨rfl, ⟨A4, C4, hR⟩, hK⟩
  have HR4 := hid (show ReaderAt w4 w1.heap.size A4 C4 (0 :: [0]) 0 _ from hR)
  have K4 := hid (K3.out.trans hK (fun i hi (h : i = w1.heap.size) => by omega))
  clear hR hK
  go_wp2_with fail
  refine (taken_none HR4.out (by decide)).mono ?_
  rintro e w5 ⟨rfl, ⟨A5, C5, hR⟩, hK⟩
  have HR5 := hid hR
  have K5 := hid (K4.out.trans hK (fun i hi (h : i = w1.heap.size) => by omega))
  clear hR hK
  go_wp2_with fail
  refine (taken_none HR5.out (by decide)).mono ?_
  rintro e w6 ⟨rfl, ⟨A6, C6, hR⟩, hK⟩
  have HR6 := hid hR
  have K6 := hid (K5.out.trans hK (fun i hi (h : i = w1.heap.size) => by omega))
  clear hR hK
  go_wp2_with fail
  refine (err_any HR6.out).mono ?_
  rintro e w' ⟨rfl, rfl⟩
  go_wp2_with fail
  refine wp_loop_rounds 1 ?_
  rw [rounds_succ]
  go_wp2_with fail
  rw [rounds_succ]
  go_wp2_with fail
  refine (end_ok HR6.out).mono ?_
  rintro e w' ⟨rfl, rfl⟩
  go_wp2_with fail
  refine (put_main (HO1.out.keep K6.out)).mono ?_
  rintro e w7 ⟨v7, rfl, hR, hK⟩
  have HR7 := hid (bytes_of_row hR)
  have HB7 := hid (HB1.out.keep (K6.out.trans hK (fun _ _ h => h)) (fun _ _ h => h))
  have HK7 := hid ((HK1.out.trans K6.out (fun _ _ h => h)).trans hK (fun _ _ h => h))
  clear hR hK
  go_wp2_with fail
  refine (equal_any HR7.out HB7.out).mono ?_
  rintro e w' ⟨rfl, rfl⟩
  have heq : (mainB == mainB) = true := by decide
  go_wp2_with fail
  refine bodyPost_ret (v := _) (results_tmp2 rfl _ _ _) rfl ?_
  exact ⟨_, rfl, HK7.out⟩
end Go.Proofs.YtmdibkafjpglkaaGreatDoor.Snp
