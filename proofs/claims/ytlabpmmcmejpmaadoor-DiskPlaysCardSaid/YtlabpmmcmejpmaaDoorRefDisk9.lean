/- The reference's disk: fall: walked. The reference's disk: Do: walked. -/
import Derived.Test.YtlabpmmcmejpmaaDoorRefDisk4
import Derived.Test.YtlabpmmcmejpmaaDoorRefDisk8
import Derived.Test.YtlabpmmcmejpmaaDoorHeldI
namespace Go.Proofs.YtlabpmmcmejpmaaDoor.Ref
open Go Go.RowKit Go.Lib Go.Proofs.YtlabpmmcmejpmaaDoor.Dsk Go.Proofs.YtlabpmmcmejpmaaDoor.Wal

def refFall (R : RefD) : RefD := ⟨R.size, true, false, 0, 0, 0⟩
def cutF (k : Int) (f : FileM) : FileM := if k < (f.b.length : Int) - (f.sure : Int) then ⟨f.b.take (f.sure + k.toNat), f.sure + k.toNat⟩ else ⟨f.b, f.b.length⟩
def fallF (k : Int) (L : Files) : Files := L.map fun p => (p.1, cutF k p.2)

set_option maxRecDepth 100000 in
set_option maxHeartbeats 4000000 in
theorem fall_any (w : World) (R : RefD) {v : Value} {L : Files} {G : Nat → Prop} (h : FilesAt w v L G) (hl : L.length ≤ 100) (hs : ∀ p ∈ L, p.2.sure ≤ p.2.b.length ∧ p.2.b.length ≤ 2147483648) (hk : 0 ≤ R.keep) :
    Calls Tryd.prog 42 #[R.val v] w fun e w' => ∃ v', e = .returned ((refFall R).val v') ∧ FilesAt w' v' (fallF R.keep L) (fun i => G i ∨ w.heap.size ≤ i) ∧ Keep (fun _ => False) w w' := by
  obtain ⟨ao, cap, hv⟩ := h.slice
  subst hv
  obtain ⟨size, down, due, ops, part, keep⟩ := R
  simp only at hk
  obtain ⟨keep, rfl⟩ := Int.eq_ofNat_of_zero_le hk
  have H := hid (h.mono (G' := fun i => G i ∧ i < w.heap.size) (fun i hi hg => ⟨hg, hi⟩))
  have HS := hid hs
  clear h hs
  unfold RefD.val RefD.cells
  go_enter Tryd.func42, Tryd.ntmps42
  go_wp2_with fail
  obtain ⟨wb, hwb⟩ : ∃ wb, (w.alloc (.cells #[.slice ao L.length cap, .int .i64 size, .bool down, .bool due, .int .i64 ops, .int .i64 part, .int .i64 keep] 28)).alloc (.cells #[.slice none 0 0, .int .i64 0, .bool false, .bool false, .int .i64 0, .int .i64 0, .int .i64 0] 28) = wb := ⟨_, rfl⟩
  have hkb : Keep (fun _ => False) w wb := hwb ▸ ((Keep.refl _ w).alloc _).alloc _
  have hb0 : wb.heap[w.heap.size]? = some (.cells #[.slice ao L.length cap, .int .i64 size, .bool down, .bool due, .int .i64 ops, .int .i64 part, .int .i64 keep] 28 (0, 0)) := by rw [← hwb, Below.heap_alloc _ _ _ (by simp)]; exact heap_alloc_new _ _
  have hb1 : wb.heap[w.heap.size + 1]? = some (.cells #[.slice none 0 0, .int .i64 0, .bool false, .bool false, .int .i64 0, .int .i64 0, .int .i64 0] 28 (0, 0)) := by rw [← hwb, show w.heap.size + 1 = (w.alloc (.cells #[.slice ao L.length cap, .int .i64 size, .bool down, .bool due, .int .i64 ops, .int .i64 part, .int .i64 keep] 28)).heap.size by simp]; exact heap_alloc_new _ _
  have hszb : wb.heap.size = w.heap.size + 2 := by rw [← hwb]; simp
  rw [hwb]
  have HKB := hid hkb
  have HB0 := hid hb0
  have HB1 := hid hb1
  clear hkb hb0 hb1 hwb
  go_loopw [3, 4] (fun ov iv wr => ∃ i : Nat, iv = .int .i64 (i : Int) ∧ i ≤ L.length ∧ Hid (OwnFiles w wr (w.heap.size + 2) ov (fallF keep (L.take i)) (fun i => G i ∧ i < w.heap.size)) ∧ Hid (Keep (fun _ => False) wb wr)) (fun _ iv _ => L.length - (RowKit.intOf iv).toNat)
  case atStart => exact ⟨0, rfl, Nat.zero_le _, hid (OwnFiles.nil _ _ _ _), hid (Keep.refl _ _)⟩
  case round =>
    obtain ⟨i, rfl, hi, hO, hKr⟩ := hrel
    have hK := hid (HKB.out.trans hKr.out (fun _ _ h => h))
    have hsr := hKr.out.size
    obtain ⟨aoo, capo, hvo⟩ := hO.out.slice
    subst hvo
    have hblk := hKr.out.at HB0.out (fun h => h)
    have e0 : wr.cell? ⟨w.heap.size, 0, none⟩ = some (.slice ao L.length cap) := by rw [cell_at hblk]; rfl
    have e1 : wr.cell? ⟨w.heap.size, 1, none⟩ = some (.int .i64 size) := by rw [cell_at hblk]; rfl
    have e6 : wr.cell? ⟨w.heap.size, 6, none⟩ = some (.int .i64 keep) := by rw [cell_at hblk]; rfl
    clear hblk
    by_cases hil : i < L.length
    · obtain ⟨a, n, f, A, C, rfl, hp, d0, d1, d2, hB⟩ := H.out.at2 hK.out (fun _ _ h => h) hil
      obtain ⟨hs1, hs2⟩ := HS.out _ (List.mem_of_getElem? hp)
      simp only at hs1 hs2
      have HTK := hid (show fallF keep (L.take (i + 1)) = fallF keep (L.take i) ++ [(n, cutF keep f)] by
        obtain ⟨h1, h2⟩ := List.getElem?_eq_some_iff.1 hp
        rw [List.take_succ_eq_append_getElem h1, h2]
        unfold fallF
        rw [List.map_append]
        rfl)
      have hab : a.block < w.heap.size := by
        obtain ⟨ao', cap', e, -, h2⟩ := H.out
        injection e with e1 _ _
        subst e1
        exact (h2 a rfl i _ hp).1
      have hw1 : IntKind.i64.wrap ((f.b.length : Int) - (f.sure : Int)) = (f.b.length : Int) - (f.sure : Int) := IntWalk.i64_in _ (by omega)
      have e6' : (wr.alloc (.cells #[.string n, .slice A f.b.length C, .int .i64 (f.sure : Int)] 54)).cell? ⟨w.heap.size, 6, none⟩ = some (.int .i64 keep) := by rw [← e6]; exact World.cell?_of_block (Below.heap_alloc _ _ _ (by simp only; omega))
      have hCl : f.b.length ≤ C := by
        obtain ⟨ao', cap', e, z1, -⟩ := hB.read
        injection e with _ _ e3
        rw [e3]; exact z1
      have HBI := hid hB
      clear hp hB
      by_cases hcut : keep < (f.b.length : Int) - (f.sure : Int)
      · have hw2 : IntKind.i64.wrap ((f.sure : Int) + keep) = (f.sure : Int) + keep := IntWalk.i64_in _ (by omega)
        obtain ⟨its, ho1, ho2, ho3⟩ := hO.out
        have HIT := hid (show ItemIs w (n, .slice A (f.sure + keep) C, f.sure + keep) (n, cutF keep f) (fun i => G i ∧ i < w.heap.size) by
          unfold cutF
          rw [if_pos hcut]
          have hle : f.sure + keep ≤ f.b.length := by omega
          exact ⟨rfl, rfl, A, C, by simp [Nat.min_eq_left hle], by have h := HBI.out.first (f.sure + keep) hle; simpa [Nat.min_eq_left hle] using h⟩)
        have hsq : (wr.alloc (.cells #[.string n, .slice A (f.sure + keep) C, .int .i64 ((f.sure : Int) + (keep : Int))] 54)).heap.size = wr.heap.size + 1 := by simp
        have HO1 := hid (ownsRow_keep ho1 ((Keep.refl (fun _ => False) wr).alloc (.cells #[.string n, .slice A (f.sure + keep) C, .int .i64 ((f.sure : Int) + (keep : Int))] 54)) (fun _ _ h => h))
        have HO3 := hid ho3
        have hlen : (fallF keep (L.take i)).length ≤ 100 := by unfold fallF; rw [List.length_map, List.length_take]; omega
        have hml : its.length ≤ 202 := by omega
        have hsz : w.heap.size + 2 ≤ (wr.alloc (.cells #[.string n, .slice A (f.sure + keep) C, .int .i64 ((f.sure : Int) + (keep : Int))] 54)).heap.size := by omega
        have HK1 := hid (hKr.out.alloc (.cells #[.string n, .slice A (f.sure + keep) C, .int .i64 ((f.sure : Int) + (keep : Int))] 54))
        clear ho1 ho3
        go_wp2_with (at_builtin; refine wpList_append_one rfl _ _ 26 54 rfl (.agg #[.string ⟨#[]⟩, .slice none 0 0, .int .i64 0]) 3 48 under_files info_file rfl (by decide) rfl HO1.out (by rw [hsq]; rfl) rfl (by simp [Value.oneCell']) (by simp only [maxLen]; omega) (by omega) hsz ?_; intro v' w2 hown' hB2 hg2)
        have HON := hid (OwnFiles.snoc ho2 HO3.out HIT.out (by have e : [Value.string n, .slice A (f.sure + keep) C, .int .i64 ((f.sure : Int) + (keep : Int))] = cells3 (n, .slice A (f.sure + keep) C, f.sure + keep) := by simp [cells3]
                                                               rw [← e]; exact hown'))
        have HKn := hid (HK1.out.trans (Keep.of_below (F := fun i => w.heap.size + 2 ≤ i) hB2 (fun i _ h => h)) (fun i hi h => by omega))
        exact ⟨⟨i + 1, by simp, by omega, hid (by rw [HTK.out]; exact HON.out), HKn⟩, by simp [RowKit.intOf]; omega⟩
      · 
        obtain ⟨its, ho1, ho2, ho3⟩ := hO.out
        have HIT := hid (show ItemIs w (n, .slice A (f.b.length) C, f.b.length) (n, cutF keep f) (fun i => G i ∧ i < w.heap.size) by
          unfold cutF
          rw [if_neg hcut]
          exact ⟨rfl, rfl, A, C, rfl, HBI.out⟩)
        have hsq : (wr.alloc (.cells #[.string n, .slice A (f.b.length) C, .int .i64 (f.b.length)] 54)).heap.size = wr.heap.size + 1 := by simp
        have HO1 := hid (ownsRow_keep ho1 ((Keep.refl (fun _ => False) wr).alloc (.cells #[.string n, .slice A (f.b.length) C, .int .i64 (f.b.length)] 54)) (fun _ _ h => h))
        have HO3 := hid ho3
        have hlen : (fallF keep (L.take i)).length ≤ 100 := by unfold fallF; rw [List.length_map, List.length_take]; omega
        have hml : its.length ≤ 202 := by omega
        have hsz : w.heap.size + 2 ≤ (wr.alloc (.cells #[.string n, .slice A (f.b.length) C, .int .i64 (f.b.length)] 54)).heap.size := by omega
        have HK1 := hid (hKr.out.alloc (.cells #[.string n, .slice A (f.b.length) C, .int .i64 (f.b.length)] 54))
        clear ho1 ho3
        go_wp2_with (at_builtin; refine wpList_append_one rfl _ _ 26 54 rfl (.agg #[.string ⟨#[]⟩, .slice none 0 0, .int .i64 0]) 3 48 under_files info_file rfl (by decide) rfl HO1.out (by rw [hsq]; rfl) rfl (by simp [Value.oneCell']) (by simp only [maxLen]; omega) (by omega) hsz ?_; intro v' w2 hown' hB2 hg2)
        have HON := hid (OwnFiles.snoc ho2 HO3.out HIT.out (by have e : [Value.string n, .slice A (f.b.length) C, .int .i64 (f.b.length)] = cells3 (n, .slice A (f.b.length) C, f.b.length) := by simp [cells3]
                                                               rw [← e]; exact hown'))
        have HKn := hid (HK1.out.trans (Keep.of_below (F := fun i => w.heap.size + 2 ≤ i) hB2 (fun i _ h => h)) (fun i hi h => by omega))
        exact ⟨⟨i + 1, by simp, by omega, hid (by rw [HTK.out]; exact HON.out), HKn⟩, by simp [RowKit.intOf]; omega⟩
    · obtain rfl : i = L.length := by omega
      rw [List.take_length] at hO
      have HFL := hid (hO.out.files hK.out (fun _ _ h => h))
      have hblk1 := hKr.out.at HB1.out (fun h => h)
      have g0 : wr.cell? ⟨w.heap.size + 1, 0, none⟩ = some (.slice none 0 0) := by rw [cell_at hblk1]; rfl
      have g1 : wr.cell? ⟨w.heap.size + 1, 1, none⟩ = some (.int .i64 0) := by rw [cell_at hblk1]; rfl
      have g2 : wr.cell? ⟨w.heap.size + 1, 2, none⟩ = some (.bool false) := by rw [cell_at hblk1]; rfl
      have g3 : wr.cell? ⟨w.heap.size + 1, 3, none⟩ = some (.bool false) := by rw [cell_at hblk1]; rfl
      have g4 : wr.cell? ⟨w.heap.size + 1, 4, none⟩ = some (.int .i64 0) := by rw [cell_at hblk1]; rfl
      have g5 : wr.cell? ⟨w.heap.size + 1, 5, none⟩ = some (.int .i64 0) := by rw [cell_at hblk1]; rfl
      have g6 : wr.cell? ⟨w.heap.size + 1, 6, none⟩ = some (.int .i64 0) := by rw [cell_at hblk1]; rfl
      have f0 : wr.frozen? ⟨w.heap.size + 1, 0, none⟩ = false := frozen_at hblk1 _
      have f1 : wr.frozen? ⟨w.heap.size + 1, 1, none⟩ = false := frozen_at hblk1 _
      have f2 : wr.frozen? ⟨w.heap.size + 1, 2, none⟩ = false := frozen_at hblk1 _
      have f3 : wr.frozen? ⟨w.heap.size + 1, 3, none⟩ = false := frozen_at hblk1 _
      have f4 : wr.frozen? ⟨w.heap.size + 1, 4, none⟩ = false := frozen_at hblk1 _
      have f5 : wr.frozen? ⟨w.heap.size + 1, 5, none⟩ = false := frozen_at hblk1 _
      have f6 : wr.frozen? ⟨w.heap.size + 1, 6, none⟩ = false := frozen_at hblk1 _
      clear hblk1
      go_wp2_with fail
      have hKF := hid ((((((((Keep.refl (fun i => i = w.heap.size + 1) wr).setCell (p := ⟨w.heap.size + 1, 0, none⟩) (fun _ => rfl) (.slice aoo (fallF keep L).length capo)).setCell (p := ⟨w.heap.size + 1, 1, none⟩) (fun _ => rfl) (.int .i64 size)).setCell (p := ⟨w.heap.size + 1, 2, none⟩) (fun _ => rfl) (.bool true)).setCell (p := ⟨w.heap.size + 1, 3, none⟩) (fun _ => rfl) (.bool false)).setCell (p := ⟨w.heap.size + 1, 4, none⟩) (fun _ => rfl) (.int .i64 0)).setCell (p := ⟨w.heap.size + 1, 5, none⟩) (fun _ => rfl) (.int .i64 0)).setCell (p := ⟨w.heap.size + 1, 6, none⟩) (fun _ => rfl) (.int .i64 0))
      refine bodyPost_ret (v := RefD.val (refFall ⟨size, down, due, ops, part, keep⟩) (.slice aoo (fallF keep L).length capo)) (by rw [results_cell1 rfl]; go_simp; rfl) rfl ⟨_, rfl, (HFL.out.keep hKF.out ?_).mono ?_, hK.out.trans hKF.out ?_⟩
      · rintro i (⟨-, h⟩ | h) <;> omega
      · rintro i - (⟨h, -⟩ | h)
        · exact .inl h
        · exact .inr (by omega)
      · intro i hi h; omega

end Go.Proofs.YtlabpmmcmejpmaaDoor.Ref

namespace Go.Proofs.YtlabpmmcmejpmaaDoor.Ref
open Go Go.RowKit Go.Lib Go.Proofs.YtlabpmmcmejpmaaDoor.Dsk Go.Proofs.YtlabpmmcmejpmaaDoor.Wal

def FilesOk (L : Files) : Prop := L.length ≤ 100 ∧ ∀ p ∈ L, p.2.sure ≤ p.2.b.length ∧ p.2.b.length ≤ 2147483648
/-- The bytes that an operation takes in. -/
def refN (R : RefD) (m : Nat) : Nat := if (refDue R).2 = true ∧ R.part < (m : Int) then R.part.toNat else m
def refL (R : RefD) (L : Files) (e : Int) (m : Nat) (dn : Nat → Bool → Bool → Files) : Files := if e = 0 then dn (refN R m) (!(refDue R).2) (!(refDue R).2 || decide (0 < R.part)) else L
def refDo (R : RefD) (L : Files) (e : Int) (m : Nat) (dn : Nat → Bool → Bool → Files) : RefD × Files × Int :=
  if R.down = true then (R, L, 71) else if (refDue R).2 = true then (refFall R, fallF R.keep (refL R L e m dn), 71) else ((refDue R).1, refL R L e m dn, e)
theorem refDue_true {R : RefD} (h : (refDue R).2 = true) : (refDue R).1 = R := by
  unfold refDue at h ⊢
  split
  · split
    · rename_i h1 h2; rw [if_pos h1, if_pos h2] at h; cases h
    · rfl
  · rfl

set_option maxRecDepth 100000 in
set_option maxHeartbeats 8000000 in
theorem do_any (w : World) (R : RefD) {v : Value} {L : Files} {G : Nat → Prop} (h : FilesAt w v L G) (hok : FilesOk L) (ho : R.ops < 9223372036854775808) (hp : 0 ≤ R.part) (hk : 0 ≤ R.keep) (hG : ∀ i, G i → i < w.heap.size) (kind : Int) (name to : ByteArray) {b : List UInt8} {bo : Option Addr} {bc : Nat} (hb : BytesIn w (.slice bo b.length bc) b G) (n : Int) (e : Int) (dn : Nat → Bool → Bool → Files)
    (hw : ∀ w1, FilesAt w1 v L G → Calls Tryd.prog 39 #[R.val v, .int .i64 kind, .string name, .string to, .slice bo b.length bc, .int .i64 n] w1 fun x w' => x = .returned (.int .i64 e) ∧ Keep (fun _ => False) w1 w')
    (hd : e = 0 → ∀ w1 k wh sm, k ≤ b.length → FilesAt w1 v L G → BytesIn w1 (.slice bo k bc) (b.take k) G → Calls Tryd.prog 41 #[v, .int .i64 kind, .string name, .string to, .slice bo k bc, .int .i64 n, .bool wh, .bool sm] w1 fun x w' => ∃ v', x = .returned v' ∧ FilesAt w' v' (dn k wh sm) (fun i => G i ∨ w1.heap.size ≤ i) ∧ Keep (fun _ => False) w1 w')
    (hdn : e = 0 → ∀ k wh sm, k ≤ b.length → FilesOk (dn k wh sm)) :
    Calls Tryd.prog 24 #[R.val v, .int .i64 kind, .string name, .string to, .slice bo b.length bc, .int .i64 n] w fun x w' => ∃ v', x = .returned (.tuple #[(refDo R L e b.length dn).1.val v', .int .i64 (refDo R L e b.length dn).2.2]) ∧ FilesAt w' v' (refDo R L e b.length dn).2.1 (fun i => G i ∨ w.heap.size ≤ i) ∧ Keep (fun _ => False) w w' := by
  obtain ⟨ao, cap, hv⟩ := h.slice
  subst hv
  have H0 := hid h
  have HB := hid hb
  have HOK := hid hok
  have HW := hid hw
  have HD := hid hd
  have HDN := hid hdn
  have HGB := hid hG
  have hCl : b.length ≤ bc := by
    obtain ⟨ao', cap', e, z1, -⟩ := hb.read
    injection e with _ _ e3
    rw [e3]; exact z1
  clear h hb hok hw hd hdn hG
  obtain ⟨size, down, due, ops, part, keep⟩ := R
  simp only at ho hp hk
  obtain ⟨part, rfl⟩ := Int.eq_ofNat_of_zero_le hp
  unfold RefD.val RefD.cells
  obtain ⟨RR, hRR⟩ : ∃ RR, refDo ⟨size, down, due, ops, part, keep⟩ L e b.length dn = RR := ⟨_, rfl⟩
  rw [hRR]
  have HRR := hid hRR
  clear hRR
  cases down with
  | true =>
    have HR := hid (show RR = (⟨size, true, due, ops, part, keep⟩, L, 71) by rw [← HRR.out]; rfl)
    go_enter Tryd.func24, Tryd.ntmps24
    go_wp2_with fail
    refine bodyPost_ret (v := .tuple #[RefD.val ⟨size, true, due, ops, part, keep⟩ (.slice ao L.length cap), .int .i64 71]) (by rw [results_cell2 rfl]; go_simp; rfl) rfl ⟨.slice ao L.length cap, by rw [HR.out]; rfl, by rw [HR.out]; exact (H0.out.keep (((Keep.refl (fun _ => False) w).alloc _).alloc _) (fun _ _ h => h)).mono (fun i _ h => .inl h), ((Keep.refl (fun _ => False) w).alloc _).alloc _⟩
  | false =>
    go_enter Tryd.func24, Tryd.ntmps24
    go_wp2_with fail
    obtain ⟨wb, hwb⟩ : ∃ wb, (w.alloc (.cells #[.slice ao L.length cap, .int .i64 size, .bool false, .bool due, .int .i64 ops, .int .i64 part, .int .i64 keep] 28)).alloc (.cells #[.slice none 0 0, .int .i64 0, .bool false, .bool false, .int .i64 0, .int .i64 0, .int .i64 0] 28) = wb := ⟨_, rfl⟩
    have hkb : Keep (fun _ => False) w wb := hwb ▸ ((Keep.refl _ w).alloc _).alloc _
    have hb0 : wb.heap[w.heap.size]? = some (.cells #[.slice ao L.length cap, .int .i64 size, .bool false, .bool due, .int .i64 ops, .int .i64 part, .int .i64 keep] 28 (0, 0)) := by rw [← hwb, Below.heap_alloc _ _ _ (by simp)]; exact heap_alloc_new _ _
    have hb1 : wb.heap[w.heap.size + 1]? = some (.cells #[.slice none 0 0, .int .i64 0, .bool false, .bool false, .int .i64 0, .int .i64 0, .int .i64 0] 28 (0, 0)) := by rw [← hwb, show w.heap.size + 1 = (w.alloc (.cells #[.slice ao L.length cap, .int .i64 size, .bool false, .bool due, .int .i64 ops, .int .i64 part, .int .i64 keep] 28)).heap.size by simp]; exact heap_alloc_new _ _
    have hszb : wb.heap.size = w.heap.size + 2 := by rw [← hwb]; simp
    rw [hwb]
    have HKB := hid hkb
    have HB0 := hid hb0
    have HB1 := hid hb1
    clear hkb hb0 hb1 hwb
    refine (HW.out wb (H0.out.keep HKB.out (fun _ _ h => h))).mono ?_
    rintro x w1 ⟨rfl, hK1⟩
    have HK1 := hid (HKB.out.trans hK1 (fun _ _ h => h))
    have HC0 := hid (hK1.at HB0.out (fun h => h))
    have HC1 := hid (hK1.at HB1.out (fun h => h))
    have hs1 := hK1.size
    clear hK1
    have c0 : w1.cell? ⟨w.heap.size, 0, none⟩ = some (.slice ao L.length cap) := by rw [cell_at HC0.out]; rfl
    have c1 : w1.cell? ⟨w.heap.size, 1, none⟩ = some (.int .i64 size) := by rw [cell_at HC0.out]; rfl
    have c2 : w1.cell? ⟨w.heap.size, 2, none⟩ = some (.bool false) := by rw [cell_at HC0.out]; rfl
    have c3 : w1.cell? ⟨w.heap.size, 3, none⟩ = some (.bool due) := by rw [cell_at HC0.out]; rfl
    have c4 : w1.cell? ⟨w.heap.size, 4, none⟩ = some (.int .i64 ops) := by rw [cell_at HC0.out]; rfl
    have c5 : w1.cell? ⟨w.heap.size, 5, none⟩ = some (.int .i64 part) := by rw [cell_at HC0.out]; rfl
    have c6 : w1.cell? ⟨w.heap.size, 6, none⟩ = some (.int .i64 keep) := by rw [cell_at HC0.out]; rfl
    go_wp2_with fail
    refine (rdue_any w1 ⟨size, false, due, ops, part, keep⟩ ao L.length cap ho).mono ?_
    rintro x w2 ⟨rfl, hK2⟩
    obtain ⟨⟨xsize, xdown, xdue, xops, xpart, xkeep⟩, hx⟩ : ∃ X, (refDue ⟨size, false, due, ops, part, keep⟩).1 = X := ⟨_, rfl⟩
    obtain ⟨d, hdue⟩ : ∃ d, (refDue ⟨size, false, due, ops, part, keep⟩).2 = d := ⟨_, rfl⟩
    rw [hx, hdue]
    unfold RefD.val RefD.cells
    have hxs : xdown = false ∧ xsize = size ∧ xpart = part ∧ xkeep = keep := by
      unfold refDue at hx
      split at hx
      · split at hx
        · injection hx with e1 e2 e3 e4 e5 e6; exact ⟨e2.symm, e1.symm, e5.symm, e6.symm⟩
        · injection hx with e1 e2 e3 e4 e5 e6; exact ⟨e2.symm, e1.symm, e5.symm, e6.symm⟩
      · injection hx with e1 e2 e3 e4 e5 e6; exact ⟨e2.symm, e1.symm, e5.symm, e6.symm⟩
    obtain ⟨rfl, rfl, rfl, rfl⟩ := hxs
    have HX := hid hx
    have HDUE := hid hdue
    have HK2 := hid (HK1.out.trans hK2 (fun _ _ h => h))
    have HD1 := hid (hK2.at HC1.out (fun h => h))
    have hs2 := hK2.size
    clear hx hdue hK2 c0 c1 c2 c3 c4 c5 c6
    cases d with
    | false =>
      by_cases he : e = 0
      · subst he
        go_wp2_with fail
        obtain ⟨w3, hw3⟩ : ∃ w3, w2.alloc (.cells #[.slice ao L.length cap, .int .i64 xsize, .bool false, .bool xdue, .int .i64 xops, .int .i64 part, .int .i64 xkeep] 28) = w3 := ⟨_, rfl⟩
        rw [hw3]
        have HX3 := hid (show w3.heap[w2.heap.size]? = some (.cells #[.slice ao L.length cap, .int .i64 xsize, .bool false, .bool xdue, .int .i64 xops, .int .i64 part, .int .i64 xkeep] 28 (0, 0)) from hw3 ▸ heap_alloc_new w2 _)
        have HK23 := hid (show Keep (fun _ => False) w2 w3 from hw3 ▸ (Keep.refl (fun _ => False) w2).alloc _)
        have HK3 := hid (HK2.out.trans HK23.out (fun _ _ h => h))
        have HD3 := hid (HK23.out.at HD1.out (fun h => h))
        have hs3 : w3.heap.size = w2.heap.size + 1 := by rw [← hw3]; simp
        clear hw3
        have hHB : BytesIn w (.slice bo b.length bc) (b.take b.length) G := by rw [List.take_length]; exact HB.out
        have HHB := hid hHB
        clear hHB
        have a0 : w3.cell? ⟨w2.heap.size, 0, none⟩ = some (.slice ao L.length cap) := by rw [cell_at HX3.out]; rfl
        have a5 : w3.cell? ⟨w2.heap.size, 5, none⟩ = some (.int .i64 part) := by rw [cell_at HX3.out]; rfl
        refine wp_region_heldi [0, 1, 2, 3, 4, 5, 6, 7, 8, 9, 10, 11, 12, 13, 14, 15] 18 3 (fun w' => w'.cell? ⟨w2.heap.size, 0, none⟩ = some (.slice ao L.length cap) ∧ w'.cell? ⟨w2.heap.size, 5, none⟩ = some (.int .i64 (part : Int))) (by kernel_rfl) (by kernel_rfl) (by kernel_rfl) ⟨a0, a5⟩ (fun d _ _ _ _ h => by cases d <;> exact h) ?_
        iterate 16 (first | (refine heldI_step rfl rfl (fun w' hS => by (obtain ⟨s1, s2⟩ := hS; go_simp; with_reducible rfl)) ?_; simp only [Act.put, List.setIfInBounds_toArray, List.set_cons_zero, List.set_cons_succ]) | (refine heldI_want rfl rfl (fun w' hS => by (obtain ⟨s1, s2⟩ := hS; go_simp; with_reducible rfl)) ?_; simp only [Act.put, List.setIfInBounds_toArray, List.set_cons_zero, List.set_cons_succ]) | (refine heldI_skip rfl rfl ?_; simp only [Act.put, List.setIfInBounds_toArray, List.set_cons_zero, List.set_cons_succ]))
        refine heldI_nil ?_
        refine anyZ_next' (j := 16) (by kernel_rfl) rfl rfl ?_
        go_simp
        have kd := keep_drawn' w3 (w3.drawn + 1)
        have HKd := hid (HK3.out.trans kd (fun _ _ h => h))
        refine (HD.out (by trivial) _ b.length true true (Nat.le_refl _) (H0.out.keep HKd.out (fun _ _ h => h)) (HHB.out.keep HKd.out (fun _ _ h => h))).mono ?_
        rintro x w4 ⟨v', rfl, hF, hK4⟩
        obtain ⟨aV, cV, hV⟩ := hF.slice
        subst hV
        have hs4 : w3.heap.size ≤ w4.heap.size := hK4.size
        have HK4' := hid (kd.trans hK4 (fun _ _ h => h))
        have HX4 := hid (HK4'.out.at HX3.out (fun h => h))
        have HF4 := hid (hF.mono (G' := fun i => G i ∨ w3.heap.size ≤ i) (fun i _ h => h))
        have HK4 := hid (HKd.out.trans hK4 (fun _ _ h => h))
        have HE1 := hid (HK4'.out.at HD3.out (fun h => h))
        clear hF hK4 kd a0 a5
        have b0 : w4.cell? ⟨w2.heap.size, 0, none⟩ = some (.slice ao L.length cap) := by rw [cell_at HX4.out]; rfl
        have b5 : w4.cell? ⟨w2.heap.size, 5, none⟩ = some (.int .i64 part) := by rw [cell_at HX4.out]; rfl
        have fb : w4.frozen? ⟨w2.heap.size, 0, none⟩ = false := frozen_at HX4.out _
        refine ⟨⟨b0, b5⟩, ?_⟩
        refine anyZ_read (j := 17) (by kernel_rfl) rfl rfl ⟨b0, b5⟩ (by go_simp; with_reducible rfl) ?_
        refine anyZ_last (by kernel_rfl) rfl rfl (by kernel_rfl) ?_
        go_simp
        obtain ⟨w5, hw5⟩ : ∃ w5, w4.setCell ⟨w2.heap.size, 0, none⟩ (.slice aV (dn b.length true true).length cV) = w5 := ⟨_, rfl⟩
        rw [hw5]
        have HK5 := hid (show Keep (fun i => i = w2.heap.size) w4 w5 from hw5 ▸ (Keep.refl (fun i => i = w2.heap.size) w4).setCell (p := ⟨w2.heap.size, 0, none⟩) (fun _ => rfl) _)
        have HX5 := hid (show w5.heap[w2.heap.size]? = some (.cells #[.slice aV (dn b.length true true).length cV, .int .i64 xsize, .bool false, .bool xdue, .int .i64 xops, .int .i64 part, .int .i64 xkeep] 28 (0, 0)) by rw [← hw5, heap_setCell_self HX4.out]; rfl)
        have HE5 := hid (HK5.out.at HE1.out (by omega))
        have HF5 := hid (HF4.out.keep HK5.out (fun i h (e : i = w2.heap.size) => by rcases h with h | h; exact absurd (HGB.out i h) (by omega); omega))
        have HKw := hid (HK4.out.trans HK5.out (fun i hi h => by omega))
        have hs5 := HK5.out.size
        clear hw5 b0 b5 fb
        have HR := hid (show RR = (⟨xsize, false, xdue, xops, part, xkeep⟩, dn b.length true true, 0) by rw [← HRR.out]; simp [refDo, refL, refN, HDUE.out, HX.out])
        have p0 : w5.cell? ⟨w2.heap.size, 0, none⟩ = some (.slice aV (dn b.length true true).length cV) := by rw [cell_at HX5.out]; rfl
        have p1 : w5.cell? ⟨w2.heap.size, 1, none⟩ = some (.int .i64 xsize) := by rw [cell_at HX5.out]; rfl
        have p2 : w5.cell? ⟨w2.heap.size, 2, none⟩ = some (.bool false) := by rw [cell_at HX5.out]; rfl
        have p3 : w5.cell? ⟨w2.heap.size, 3, none⟩ = some (.bool xdue) := by rw [cell_at HX5.out]; rfl
        have p4 : w5.cell? ⟨w2.heap.size, 4, none⟩ = some (.int .i64 xops) := by rw [cell_at HX5.out]; rfl
        have p5 : w5.cell? ⟨w2.heap.size, 5, none⟩ = some (.int .i64 part) := by rw [cell_at HX5.out]; rfl
        have p6 : w5.cell? ⟨w2.heap.size, 6, none⟩ = some (.int .i64 xkeep) := by rw [cell_at HX5.out]; rfl
        have q0 : w5.cell? ⟨w.heap.size + 1, 0, none⟩ = some (.slice none 0 0) := by rw [cell_at HE5.out]; rfl
        have q1 : w5.cell? ⟨w.heap.size + 1, 1, none⟩ = some (.int .i64 0) := by rw [cell_at HE5.out]; rfl
        have q2 : w5.cell? ⟨w.heap.size + 1, 2, none⟩ = some (.bool false) := by rw [cell_at HE5.out]; rfl
        have q3 : w5.cell? ⟨w.heap.size + 1, 3, none⟩ = some (.bool false) := by rw [cell_at HE5.out]; rfl
        have q4 : w5.cell? ⟨w.heap.size + 1, 4, none⟩ = some (.int .i64 0) := by rw [cell_at HE5.out]; rfl
        have q5 : w5.cell? ⟨w.heap.size + 1, 5, none⟩ = some (.int .i64 0) := by rw [cell_at HE5.out]; rfl
        have q6 : w5.cell? ⟨w.heap.size + 1, 6, none⟩ = some (.int .i64 0) := by rw [cell_at HE5.out]; rfl
        have r0 : w5.frozen? ⟨w.heap.size + 1, 0, none⟩ = false := frozen_at HE5.out _
        have r1 : w5.frozen? ⟨w.heap.size + 1, 1, none⟩ = false := frozen_at HE5.out _
        have r2 : w5.frozen? ⟨w.heap.size + 1, 2, none⟩ = false := frozen_at HE5.out _
        have r3 : w5.frozen? ⟨w.heap.size + 1, 3, none⟩ = false := frozen_at HE5.out _
        have r4 : w5.frozen? ⟨w.heap.size + 1, 4, none⟩ = false := frozen_at HE5.out _
        have r5 : w5.frozen? ⟨w.heap.size + 1, 5, none⟩ = false := frozen_at HE5.out _
        have r6 : w5.frozen? ⟨w.heap.size + 1, 6, none⟩ = false := frozen_at HE5.out _
        go_wp2_with fail
        have hKF := hid ((((((((Keep.refl (fun i => i = w.heap.size + 1) w5).setCell (p := ⟨w.heap.size + 1, 0, none⟩) (fun _ => rfl) (.slice aV (dn b.length true true).length cV)).setCell (p := ⟨w.heap.size + 1, 1, none⟩) (fun _ => rfl) (.int .i64 xsize)).setCell (p := ⟨w.heap.size + 1, 2, none⟩) (fun _ => rfl) (.bool false)).setCell (p := ⟨w.heap.size + 1, 3, none⟩) (fun _ => rfl) (.bool xdue)).setCell (p := ⟨w.heap.size + 1, 4, none⟩) (fun _ => rfl) (.int .i64 xops)).setCell (p := ⟨w.heap.size + 1, 5, none⟩) (fun _ => rfl) (.int .i64 part)).setCell (p := ⟨w.heap.size + 1, 6, none⟩) (fun _ => rfl) (.int .i64 xkeep))
        refine bodyPost_ret (v := .tuple #[RefD.val ⟨xsize, false, xdue, xops, part, xkeep⟩ (.slice aV (dn b.length true true).length cV), .int .i64 0]) (by rw [results_cell2 rfl]; go_simp; rfl) rfl ⟨.slice aV (dn b.length true true).length cV, by rw [HR.out]; rfl, by rw [HR.out]; exact (HF5.out.keep hKF.out (fun i h (e : i = w.heap.size + 1) => by rcases h with h | h; exact absurd (HGB.out i h) (by omega); omega)).mono (fun i _ h => by rcases h with h | h; exact .inl h; exact .inr (by omega)), HKw.out.trans hKF.out (fun i hi h => by omega)⟩
      · have heb : (e == 0) = false := by rw [beq_eq_false_iff_ne]; exact he
        have HK23 := hid (show Keep (fun _ => False) w2 (w2.alloc (.cells #[.slice ao L.length cap, .int .i64 xsize, .bool false, .bool xdue, .int .i64 xops, .int .i64 part, .int .i64 xkeep] 28)) from (Keep.refl (fun _ => False) w2).alloc _)
        have HK3 := hid (HK2.out.trans HK23.out (fun _ _ h => h))
        have HD3 := hid (HK23.out.at HD1.out (fun h => h))
        have HF3 := hid (H0.out.keep HK3.out (fun _ _ h => h))
        have hs3 : (w2.alloc (.cells #[.slice ao L.length cap, .int .i64 xsize, .bool false, .bool xdue, .int .i64 xops, .int .i64 part, .int .i64 xkeep] 28)).heap.size = w2.heap.size + 1 := by simp
        have HR := hid (show RR = (⟨xsize, false, xdue, xops, part, xkeep⟩, L, e) by rw [← HRR.out]; simp [refDo, refL, HDUE.out, HX.out, he])
        have q0 : (w2.alloc (.cells #[.slice ao L.length cap, .int .i64 xsize, .bool false, .bool xdue, .int .i64 xops, .int .i64 part, .int .i64 xkeep] 28)).cell? ⟨w.heap.size + 1, 0, none⟩ = some (.slice none 0 0) := by rw [cell_at HD3.out]; rfl
        have q1 : (w2.alloc (.cells #[.slice ao L.length cap, .int .i64 xsize, .bool false, .bool xdue, .int .i64 xops, .int .i64 part, .int .i64 xkeep] 28)).cell? ⟨w.heap.size + 1, 1, none⟩ = some (.int .i64 0) := by rw [cell_at HD3.out]; rfl
        have q2 : (w2.alloc (.cells #[.slice ao L.length cap, .int .i64 xsize, .bool false, .bool xdue, .int .i64 xops, .int .i64 part, .int .i64 xkeep] 28)).cell? ⟨w.heap.size + 1, 2, none⟩ = some (.bool false) := by rw [cell_at HD3.out]; rfl
        have q3 : (w2.alloc (.cells #[.slice ao L.length cap, .int .i64 xsize, .bool false, .bool xdue, .int .i64 xops, .int .i64 part, .int .i64 xkeep] 28)).cell? ⟨w.heap.size + 1, 3, none⟩ = some (.bool false) := by rw [cell_at HD3.out]; rfl
        have q4 : (w2.alloc (.cells #[.slice ao L.length cap, .int .i64 xsize, .bool false, .bool xdue, .int .i64 xops, .int .i64 part, .int .i64 xkeep] 28)).cell? ⟨w.heap.size + 1, 4, none⟩ = some (.int .i64 0) := by rw [cell_at HD3.out]; rfl
        have q5 : (w2.alloc (.cells #[.slice ao L.length cap, .int .i64 xsize, .bool false, .bool xdue, .int .i64 xops, .int .i64 part, .int .i64 xkeep] 28)).cell? ⟨w.heap.size + 1, 5, none⟩ = some (.int .i64 0) := by rw [cell_at HD3.out]; rfl
        have q6 : (w2.alloc (.cells #[.slice ao L.length cap, .int .i64 xsize, .bool false, .bool xdue, .int .i64 xops, .int .i64 part, .int .i64 xkeep] 28)).cell? ⟨w.heap.size + 1, 6, none⟩ = some (.int .i64 0) := by rw [cell_at HD3.out]; rfl
        have r0 : (w2.alloc (.cells #[.slice ao L.length cap, .int .i64 xsize, .bool false, .bool xdue, .int .i64 xops, .int .i64 part, .int .i64 xkeep] 28)).frozen? ⟨w.heap.size + 1, 0, none⟩ = false := frozen_at HD3.out _
        have r1 : (w2.alloc (.cells #[.slice ao L.length cap, .int .i64 xsize, .bool false, .bool xdue, .int .i64 xops, .int .i64 part, .int .i64 xkeep] 28)).frozen? ⟨w.heap.size + 1, 1, none⟩ = false := frozen_at HD3.out _
        have r2 : (w2.alloc (.cells #[.slice ao L.length cap, .int .i64 xsize, .bool false, .bool xdue, .int .i64 xops, .int .i64 part, .int .i64 xkeep] 28)).frozen? ⟨w.heap.size + 1, 2, none⟩ = false := frozen_at HD3.out _
        have r3 : (w2.alloc (.cells #[.slice ao L.length cap, .int .i64 xsize, .bool false, .bool xdue, .int .i64 xops, .int .i64 part, .int .i64 xkeep] 28)).frozen? ⟨w.heap.size + 1, 3, none⟩ = false := frozen_at HD3.out _
        have r4 : (w2.alloc (.cells #[.slice ao L.length cap, .int .i64 xsize, .bool false, .bool xdue, .int .i64 xops, .int .i64 part, .int .i64 xkeep] 28)).frozen? ⟨w.heap.size + 1, 4, none⟩ = false := frozen_at HD3.out _
        have r5 : (w2.alloc (.cells #[.slice ao L.length cap, .int .i64 xsize, .bool false, .bool xdue, .int .i64 xops, .int .i64 part, .int .i64 xkeep] 28)).frozen? ⟨w.heap.size + 1, 5, none⟩ = false := frozen_at HD3.out _
        have r6 : (w2.alloc (.cells #[.slice ao L.length cap, .int .i64 xsize, .bool false, .bool xdue, .int .i64 xops, .int .i64 part, .int .i64 xkeep] 28)).frozen? ⟨w.heap.size + 1, 6, none⟩ = false := frozen_at HD3.out _
        go_wp2_with fail
        have hKF := hid ((((((((Keep.refl (fun i => i = w.heap.size + 1) (w2.alloc (.cells #[.slice ao L.length cap, .int .i64 xsize, .bool false, .bool xdue, .int .i64 xops, .int .i64 part, .int .i64 xkeep] 28))).setCell (p := ⟨w.heap.size + 1, 0, none⟩) (fun _ => rfl) (.slice ao L.length cap)).setCell (p := ⟨w.heap.size + 1, 1, none⟩) (fun _ => rfl) (.int .i64 xsize)).setCell (p := ⟨w.heap.size + 1, 2, none⟩) (fun _ => rfl) (.bool false)).setCell (p := ⟨w.heap.size + 1, 3, none⟩) (fun _ => rfl) (.bool xdue)).setCell (p := ⟨w.heap.size + 1, 4, none⟩) (fun _ => rfl) (.int .i64 xops)).setCell (p := ⟨w.heap.size + 1, 5, none⟩) (fun _ => rfl) (.int .i64 part)).setCell (p := ⟨w.heap.size + 1, 6, none⟩) (fun _ => rfl) (.int .i64 xkeep))
        refine bodyPost_ret (v := .tuple #[RefD.val ⟨xsize, false, xdue, xops, part, xkeep⟩ (.slice ao L.length cap), .int .i64 e]) (by rw [results_cell2 rfl]; go_simp; rfl) rfl ⟨.slice ao L.length cap, by rw [HR.out]; rfl, by rw [HR.out]; exact (HF3.out.keep hKF.out (fun i h (e : i = w.heap.size + 1) => absurd (HGB.out i h) (by omega))).mono (fun i _ h => .inl h), HK3.out.trans hKF.out (fun i hi h => by omega)⟩
    | true =>
      by_cases he : e = 0
      · subst he
        by_cases hlt : (part : Int) < (b.length : Int)
        · have hlt' : part < b.length := by omega
          have hpc : part ≤ bc := by omega
          by_cases hp0 : (0 : Int) < (part : Int)
          · have hp0' : 0 < part := by omega
            have HHB := hid (show BytesIn w (.slice bo part bc) (b.take part) G from HB.out.first part (Nat.le_of_lt hlt'))
            have hkb : part ≤ b.length := Nat.le_of_lt hlt'
            go_wp2_with fail
            obtain ⟨w3, hw3⟩ : ∃ w3, w2.alloc (.cells #[.slice ao L.length cap, .int .i64 xsize, .bool false, .bool xdue, .int .i64 xops, .int .i64 part, .int .i64 xkeep] 28) = w3 := ⟨_, rfl⟩
            rw [hw3]
            have HX3 := hid (show w3.heap[w2.heap.size]? = some (.cells #[.slice ao L.length cap, .int .i64 xsize, .bool false, .bool xdue, .int .i64 xops, .int .i64 part, .int .i64 xkeep] 28 (0, 0)) from hw3 ▸ heap_alloc_new w2 _)
            have HK23 := hid (show Keep (fun _ => False) w2 w3 from hw3 ▸ (Keep.refl (fun _ => False) w2).alloc _)
            have HK3 := hid (HK2.out.trans HK23.out (fun _ _ h => h))
            have HD3 := hid (HK23.out.at HD1.out (fun h => h))
            have hs3 : w3.heap.size = w2.heap.size + 1 := by rw [← hw3]; simp
            clear hw3
            have a0 : w3.cell? ⟨w2.heap.size, 0, none⟩ = some (.slice ao L.length cap) := by rw [cell_at HX3.out]; rfl
            have a5 : w3.cell? ⟨w2.heap.size, 5, none⟩ = some (.int .i64 part) := by rw [cell_at HX3.out]; rfl
            refine wp_region_heldi [0, 1, 2, 3, 4, 5, 6, 7, 8, 9, 10, 11, 12, 13, 14, 15] 18 3 (fun w' => w'.cell? ⟨w2.heap.size, 0, none⟩ = some (.slice ao L.length cap) ∧ w'.cell? ⟨w2.heap.size, 5, none⟩ = some (.int .i64 (part : Int))) (by kernel_rfl) (by kernel_rfl) (by kernel_rfl) ⟨a0, a5⟩ (fun d _ _ _ _ h => by cases d <;> exact h) ?_
            iterate 16 (first | (refine heldI_step rfl rfl (fun w' hS => by (obtain ⟨s1, s2⟩ := hS; go_simp; with_reducible rfl)) ?_; simp only [Act.put, List.setIfInBounds_toArray, List.set_cons_zero, List.set_cons_succ]) | (refine heldI_want rfl rfl (fun w' hS => by (obtain ⟨s1, s2⟩ := hS; go_simp; with_reducible rfl)) ?_; simp only [Act.put, List.setIfInBounds_toArray, List.set_cons_zero, List.set_cons_succ]) | (refine heldI_skip rfl rfl ?_; simp only [Act.put, List.setIfInBounds_toArray, List.set_cons_zero, List.set_cons_succ]))
            refine heldI_nil ?_
            refine anyZ_next' (j := 16) (by kernel_rfl) rfl rfl ?_
            go_simp
            have kd := keep_drawn' w3 (w3.drawn + 1)
            have HKd := hid (HK3.out.trans kd (fun _ _ h => h))
            refine (HD.out (by trivial) _ part false true hkb (H0.out.keep HKd.out (fun _ _ h => h)) (HHB.out.keep HKd.out (fun _ _ h => h))).mono ?_
            rintro x w4 ⟨v', rfl, hF, hK4⟩
            obtain ⟨aV, cV, hV⟩ := hF.slice
            subst hV
            have hs4 : w3.heap.size ≤ w4.heap.size := hK4.size
            have HK4' := hid (kd.trans hK4 (fun _ _ h => h))
            have HX4 := hid (HK4'.out.at HX3.out (fun h => h))
            have HF4 := hid (hF.mono (G' := fun i => G i ∨ w3.heap.size ≤ i) (fun i _ h => h))
            have HK4 := hid (HKd.out.trans hK4 (fun _ _ h => h))
            have HE1 := hid (HK4'.out.at HD3.out (fun h => h))
            clear hF hK4 kd a0 a5
            have b0 : w4.cell? ⟨w2.heap.size, 0, none⟩ = some (.slice ao L.length cap) := by rw [cell_at HX4.out]; rfl
            have b5 : w4.cell? ⟨w2.heap.size, 5, none⟩ = some (.int .i64 part) := by rw [cell_at HX4.out]; rfl
            have fb : w4.frozen? ⟨w2.heap.size, 0, none⟩ = false := frozen_at HX4.out _
            refine ⟨⟨b0, b5⟩, ?_⟩
            refine anyZ_read (j := 17) (by kernel_rfl) rfl rfl ⟨b0, b5⟩ (by go_simp; with_reducible rfl) ?_
            refine anyZ_last (by kernel_rfl) rfl rfl (by kernel_rfl) ?_
            go_simp
            obtain ⟨w5, hw5⟩ : ∃ w5, w4.setCell ⟨w2.heap.size, 0, none⟩ (.slice aV (dn part false true).length cV) = w5 := ⟨_, rfl⟩
            rw [hw5]
            have HK5 := hid (show Keep (fun i => i = w2.heap.size) w4 w5 from hw5 ▸ (Keep.refl (fun i => i = w2.heap.size) w4).setCell (p := ⟨w2.heap.size, 0, none⟩) (fun _ => rfl) _)
            have HX5 := hid (show w5.heap[w2.heap.size]? = some (.cells #[.slice aV (dn part false true).length cV, .int .i64 xsize, .bool false, .bool xdue, .int .i64 xops, .int .i64 part, .int .i64 xkeep] 28 (0, 0)) by rw [← hw5, heap_setCell_self HX4.out]; rfl)
            have HE5 := hid (HK5.out.at HE1.out (by omega))
            have HF5 := hid (HF4.out.keep HK5.out (fun i h (e : i = w2.heap.size) => by rcases h with h | h; exact absurd (HGB.out i h) (by omega); omega))
            have HKw := hid (HK4.out.trans HK5.out (fun i hi h => by omega))
            have hs5 := HK5.out.size
            clear hw5 b0 b5 fb
            have HR := hid (show RR = (refFall ⟨xsize, false, due, ops, part, xkeep⟩, fallF xkeep (dn part false true), 71) by rw [← HRR.out]; simp [refDo, refL, refN, HDUE.out, hlt', hp0'])
            have p0 : w5.cell? ⟨w2.heap.size, 0, none⟩ = some (.slice aV (dn part false true).length cV) := by rw [cell_at HX5.out]; rfl
            have p1 : w5.cell? ⟨w2.heap.size, 1, none⟩ = some (.int .i64 xsize) := by rw [cell_at HX5.out]; rfl
            have p2 : w5.cell? ⟨w2.heap.size, 2, none⟩ = some (.bool false) := by rw [cell_at HX5.out]; rfl
            have p3 : w5.cell? ⟨w2.heap.size, 3, none⟩ = some (.bool xdue) := by rw [cell_at HX5.out]; rfl
            have p4 : w5.cell? ⟨w2.heap.size, 4, none⟩ = some (.int .i64 xops) := by rw [cell_at HX5.out]; rfl
            have p5 : w5.cell? ⟨w2.heap.size, 5, none⟩ = some (.int .i64 part) := by rw [cell_at HX5.out]; rfl
            have p6 : w5.cell? ⟨w2.heap.size, 6, none⟩ = some (.int .i64 xkeep) := by rw [cell_at HX5.out]; rfl
            have HOK1 : FilesOk (dn part false true) := HDN.out (by trivial) _ _ _ hkb
            go_wp2_with fail
            refine (fall_any w5 ⟨xsize, false, xdue, xops, part, xkeep⟩ HF5.out HOK1.1 HOK1.2 hk).mono ?_
            rintro x w6 ⟨vF, rfl, hF6, hK6⟩
            obtain ⟨aF, cF, hVF⟩ := hF6.slice
            subst hVF
            have HF6 := hid hF6
            have HK6 := hid hK6
            have hs6 := hK6.size
            have HE6 := hid (hK6.at HE5.out (fun h => h))
            clear hF6 hK6 p0 p1 p2 p3 p4 p5 p6
            unfold RefD.val RefD.cells refFall
            have q0 : w6.cell? ⟨w.heap.size + 1, 0, none⟩ = some (.slice none 0 0) := by rw [cell_at HE6.out]; rfl
            have q1 : w6.cell? ⟨w.heap.size + 1, 1, none⟩ = some (.int .i64 0) := by rw [cell_at HE6.out]; rfl
            have q2 : w6.cell? ⟨w.heap.size + 1, 2, none⟩ = some (.bool false) := by rw [cell_at HE6.out]; rfl
            have q3 : w6.cell? ⟨w.heap.size + 1, 3, none⟩ = some (.bool false) := by rw [cell_at HE6.out]; rfl
            have q4 : w6.cell? ⟨w.heap.size + 1, 4, none⟩ = some (.int .i64 0) := by rw [cell_at HE6.out]; rfl
            have q5 : w6.cell? ⟨w.heap.size + 1, 5, none⟩ = some (.int .i64 0) := by rw [cell_at HE6.out]; rfl
            have q6 : w6.cell? ⟨w.heap.size + 1, 6, none⟩ = some (.int .i64 0) := by rw [cell_at HE6.out]; rfl
            have r0 : w6.frozen? ⟨w.heap.size + 1, 0, none⟩ = false := frozen_at HE6.out _
            have r1 : w6.frozen? ⟨w.heap.size + 1, 1, none⟩ = false := frozen_at HE6.out _
            have r2 : w6.frozen? ⟨w.heap.size + 1, 2, none⟩ = false := frozen_at HE6.out _
            have r3 : w6.frozen? ⟨w.heap.size + 1, 3, none⟩ = false := frozen_at HE6.out _
            have r4 : w6.frozen? ⟨w.heap.size + 1, 4, none⟩ = false := frozen_at HE6.out _
            have r5 : w6.frozen? ⟨w.heap.size + 1, 5, none⟩ = false := frozen_at HE6.out _
            have r6 : w6.frozen? ⟨w.heap.size + 1, 6, none⟩ = false := frozen_at HE6.out _
            go_wp2_with fail
            have hKF := hid ((((((((Keep.refl (fun i => i = w.heap.size + 1) w6).setCell (p := ⟨w.heap.size + 1, 0, none⟩) (fun _ => rfl) (.slice aF (fallF xkeep (dn part false true)).length cF)).setCell (p := ⟨w.heap.size + 1, 1, none⟩) (fun _ => rfl) (.int .i64 xsize)).setCell (p := ⟨w.heap.size + 1, 2, none⟩) (fun _ => rfl) (.bool true)).setCell (p := ⟨w.heap.size + 1, 3, none⟩) (fun _ => rfl) (.bool false)).setCell (p := ⟨w.heap.size + 1, 4, none⟩) (fun _ => rfl) (.int .i64 0)).setCell (p := ⟨w.heap.size + 1, 5, none⟩) (fun _ => rfl) (.int .i64 0)).setCell (p := ⟨w.heap.size + 1, 6, none⟩) (fun _ => rfl) (.int .i64 0))
            refine bodyPost_ret (v := .tuple #[RefD.val ⟨xsize, true, false, 0, 0, 0⟩ (.slice aF (fallF xkeep (dn part false true)).length cF), .int .i64 71]) (by rw [results_cell2 rfl]; go_simp; rfl) rfl ⟨.slice aF (fallF xkeep (dn part false true)).length cF, by rw [HR.out]; rfl, by rw [HR.out]; exact (HF6.out.keep hKF.out (fun i h (e : i = w.heap.size + 1) => by rcases h with (h | h) | h; exact absurd (HGB.out i h) (by omega); omega; omega)).mono (fun i _ h => by rcases h with (h | h) | h; exact .inl h; exact .inr (by omega); exact .inr (by omega)), (HKw.out.trans HK6.out (fun _ _ h => h)).trans hKF.out (fun i hi h => by omega)⟩
          · have hp0' : ¬ 0 < part := by omega
            have HHB := hid (show BytesIn w (.slice bo part bc) (b.take part) G from HB.out.first part (Nat.le_of_lt hlt'))
            have hkb : part ≤ b.length := Nat.le_of_lt hlt'
            go_wp2_with fail
            obtain ⟨w3, hw3⟩ : ∃ w3, w2.alloc (.cells #[.slice ao L.length cap, .int .i64 xsize, .bool false, .bool xdue, .int .i64 xops, .int .i64 part, .int .i64 xkeep] 28) = w3 := ⟨_, rfl⟩
            rw [hw3]
            have HX3 := hid (show w3.heap[w2.heap.size]? = some (.cells #[.slice ao L.length cap, .int .i64 xsize, .bool false, .bool xdue, .int .i64 xops, .int .i64 part, .int .i64 xkeep] 28 (0, 0)) from hw3 ▸ heap_alloc_new w2 _)
            have HK23 := hid (show Keep (fun _ => False) w2 w3 from hw3 ▸ (Keep.refl (fun _ => False) w2).alloc _)
            have HK3 := hid (HK2.out.trans HK23.out (fun _ _ h => h))
            have HD3 := hid (HK23.out.at HD1.out (fun h => h))
            have hs3 : w3.heap.size = w2.heap.size + 1 := by rw [← hw3]; simp
            clear hw3
            have a0 : w3.cell? ⟨w2.heap.size, 0, none⟩ = some (.slice ao L.length cap) := by rw [cell_at HX3.out]; rfl
            have a5 : w3.cell? ⟨w2.heap.size, 5, none⟩ = some (.int .i64 part) := by rw [cell_at HX3.out]; rfl
            refine wp_region_heldi [0, 1, 2, 3, 4, 5, 6, 7, 8, 9, 10, 11, 12, 13, 14, 15] 18 3 (fun w' => w'.cell? ⟨w2.heap.size, 0, none⟩ = some (.slice ao L.length cap) ∧ w'.cell? ⟨w2.heap.size, 5, none⟩ = some (.int .i64 (part : Int))) (by kernel_rfl) (by kernel_rfl) (by kernel_rfl) ⟨a0, a5⟩ (fun d _ _ _ _ h => by cases d <;> exact h) ?_
            iterate 16 (first | (refine heldI_step rfl rfl (fun w' hS => by (obtain ⟨s1, s2⟩ := hS; go_simp; with_reducible rfl)) ?_; simp only [Act.put, List.setIfInBounds_toArray, List.set_cons_zero, List.set_cons_succ]) | (refine heldI_want rfl rfl (fun w' hS => by (obtain ⟨s1, s2⟩ := hS; go_simp; with_reducible rfl)) ?_; simp only [Act.put, List.setIfInBounds_toArray, List.set_cons_zero, List.set_cons_succ]) | (refine heldI_skip rfl rfl ?_; simp only [Act.put, List.setIfInBounds_toArray, List.set_cons_zero, List.set_cons_succ]))
            refine heldI_nil ?_
            refine anyZ_next' (j := 16) (by kernel_rfl) rfl rfl ?_
            go_simp
            have kd := keep_drawn' w3 (w3.drawn + 1)
            have HKd := hid (HK3.out.trans kd (fun _ _ h => h))
            refine (HD.out (by trivial) _ part false false hkb (H0.out.keep HKd.out (fun _ _ h => h)) (HHB.out.keep HKd.out (fun _ _ h => h))).mono ?_
            rintro x w4 ⟨v', rfl, hF, hK4⟩
            obtain ⟨aV, cV, hV⟩ := hF.slice
            subst hV
            have hs4 : w3.heap.size ≤ w4.heap.size := hK4.size
            have HK4' := hid (kd.trans hK4 (fun _ _ h => h))
            have HX4 := hid (HK4'.out.at HX3.out (fun h => h))
            have HF4 := hid (hF.mono (G' := fun i => G i ∨ w3.heap.size ≤ i) (fun i _ h => h))
            have HK4 := hid (HKd.out.trans hK4 (fun _ _ h => h))
            have HE1 := hid (HK4'.out.at HD3.out (fun h => h))
            clear hF hK4 kd a0 a5
            have b0 : w4.cell? ⟨w2.heap.size, 0, none⟩ = some (.slice ao L.length cap) := by rw [cell_at HX4.out]; rfl
            have b5 : w4.cell? ⟨w2.heap.size, 5, none⟩ = some (.int .i64 part) := by rw [cell_at HX4.out]; rfl
            have fb : w4.frozen? ⟨w2.heap.size, 0, none⟩ = false := frozen_at HX4.out _
            refine ⟨⟨b0, b5⟩, ?_⟩
            refine anyZ_read (j := 17) (by kernel_rfl) rfl rfl ⟨b0, b5⟩ (by go_simp; with_reducible rfl) ?_
            refine anyZ_last (by kernel_rfl) rfl rfl (by kernel_rfl) ?_
            go_simp
            obtain ⟨w5, hw5⟩ : ∃ w5, w4.setCell ⟨w2.heap.size, 0, none⟩ (.slice aV (dn part false false).length cV) = w5 := ⟨_, rfl⟩
            rw [hw5]
            have HK5 := hid (show Keep (fun i => i = w2.heap.size) w4 w5 from hw5 ▸ (Keep.refl (fun i => i = w2.heap.size) w4).setCell (p := ⟨w2.heap.size, 0, none⟩) (fun _ => rfl) _)
            have HX5 := hid (show w5.heap[w2.heap.size]? = some (.cells #[.slice aV (dn part false false).length cV, .int .i64 xsize, .bool false, .bool xdue, .int .i64 xops, .int .i64 part, .int .i64 xkeep] 28 (0, 0)) by rw [← hw5, heap_setCell_self HX4.out]; rfl)
            have HE5 := hid (HK5.out.at HE1.out (by omega))
            have HF5 := hid (HF4.out.keep HK5.out (fun i h (e : i = w2.heap.size) => by rcases h with h | h; exact absurd (HGB.out i h) (by omega); omega))
            have HKw := hid (HK4.out.trans HK5.out (fun i hi h => by omega))
            have hs5 := HK5.out.size
            clear hw5 b0 b5 fb
            have HR := hid (show RR = (refFall ⟨xsize, false, due, ops, part, xkeep⟩, fallF xkeep (dn part false false), 71) by rw [← HRR.out]; simp [refDo, refL, refN, HDUE.out, hlt', hp0'])
            have p0 : w5.cell? ⟨w2.heap.size, 0, none⟩ = some (.slice aV (dn part false false).length cV) := by rw [cell_at HX5.out]; rfl
            have p1 : w5.cell? ⟨w2.heap.size, 1, none⟩ = some (.int .i64 xsize) := by rw [cell_at HX5.out]; rfl
            have p2 : w5.cell? ⟨w2.heap.size, 2, none⟩ = some (.bool false) := by rw [cell_at HX5.out]; rfl
            have p3 : w5.cell? ⟨w2.heap.size, 3, none⟩ = some (.bool xdue) := by rw [cell_at HX5.out]; rfl
            have p4 : w5.cell? ⟨w2.heap.size, 4, none⟩ = some (.int .i64 xops) := by rw [cell_at HX5.out]; rfl
            have p5 : w5.cell? ⟨w2.heap.size, 5, none⟩ = some (.int .i64 part) := by rw [cell_at HX5.out]; rfl
            have p6 : w5.cell? ⟨w2.heap.size, 6, none⟩ = some (.int .i64 xkeep) := by rw [cell_at HX5.out]; rfl
            have HOK1 : FilesOk (dn part false false) := HDN.out (by trivial) _ _ _ hkb
            go_wp2_with fail
            refine (fall_any w5 ⟨xsize, false, xdue, xops, part, xkeep⟩ HF5.out HOK1.1 HOK1.2 hk).mono ?_
            rintro x w6 ⟨vF, rfl, hF6, hK6⟩
            obtain ⟨aF, cF, hVF⟩ := hF6.slice
            subst hVF
            have HF6 := hid hF6
            have HK6 := hid hK6
            have hs6 := hK6.size
            have HE6 := hid (hK6.at HE5.out (fun h => h))
            clear hF6 hK6 p0 p1 p2 p3 p4 p5 p6
            unfold RefD.val RefD.cells refFall
            have q0 : w6.cell? ⟨w.heap.size + 1, 0, none⟩ = some (.slice none 0 0) := by rw [cell_at HE6.out]; rfl
            have q1 : w6.cell? ⟨w.heap.size + 1, 1, none⟩ = some (.int .i64 0) := by rw [cell_at HE6.out]; rfl
            have q2 : w6.cell? ⟨w.heap.size + 1, 2, none⟩ = some (.bool false) := by rw [cell_at HE6.out]; rfl
            have q3 : w6.cell? ⟨w.heap.size + 1, 3, none⟩ = some (.bool false) := by rw [cell_at HE6.out]; rfl
            have q4 : w6.cell? ⟨w.heap.size + 1, 4, none⟩ = some (.int .i64 0) := by rw [cell_at HE6.out]; rfl
            have q5 : w6.cell? ⟨w.heap.size + 1, 5, none⟩ = some (.int .i64 0) := by rw [cell_at HE6.out]; rfl
            have q6 : w6.cell? ⟨w.heap.size + 1, 6, none⟩ = some (.int .i64 0) := by rw [cell_at HE6.out]; rfl
            have r0 : w6.frozen? ⟨w.heap.size + 1, 0, none⟩ = false := frozen_at HE6.out _
            have r1 : w6.frozen? ⟨w.heap.size + 1, 1, none⟩ = false := frozen_at HE6.out _
            have r2 : w6.frozen? ⟨w.heap.size + 1, 2, none⟩ = false := frozen_at HE6.out _
            have r3 : w6.frozen? ⟨w.heap.size + 1, 3, none⟩ = false := frozen_at HE6.out _
            have r4 : w6.frozen? ⟨w.heap.size + 1, 4, none⟩ = false := frozen_at HE6.out _
            have r5 : w6.frozen? ⟨w.heap.size + 1, 5, none⟩ = false := frozen_at HE6.out _
            have r6 : w6.frozen? ⟨w.heap.size + 1, 6, none⟩ = false := frozen_at HE6.out _
            go_wp2_with fail
            have hKF := hid ((((((((Keep.refl (fun i => i = w.heap.size + 1) w6).setCell (p := ⟨w.heap.size + 1, 0, none⟩) (fun _ => rfl) (.slice aF (fallF xkeep (dn part false false)).length cF)).setCell (p := ⟨w.heap.size + 1, 1, none⟩) (fun _ => rfl) (.int .i64 xsize)).setCell (p := ⟨w.heap.size + 1, 2, none⟩) (fun _ => rfl) (.bool true)).setCell (p := ⟨w.heap.size + 1, 3, none⟩) (fun _ => rfl) (.bool false)).setCell (p := ⟨w.heap.size + 1, 4, none⟩) (fun _ => rfl) (.int .i64 0)).setCell (p := ⟨w.heap.size + 1, 5, none⟩) (fun _ => rfl) (.int .i64 0)).setCell (p := ⟨w.heap.size + 1, 6, none⟩) (fun _ => rfl) (.int .i64 0))
            refine bodyPost_ret (v := .tuple #[RefD.val ⟨xsize, true, false, 0, 0, 0⟩ (.slice aF (fallF xkeep (dn part false false)).length cF), .int .i64 71]) (by rw [results_cell2 rfl]; go_simp; rfl) rfl ⟨.slice aF (fallF xkeep (dn part false false)).length cF, by rw [HR.out]; rfl, by rw [HR.out]; exact (HF6.out.keep hKF.out (fun i h (e : i = w.heap.size + 1) => by rcases h with (h | h) | h; exact absurd (HGB.out i h) (by omega); omega; omega)).mono (fun i _ h => by rcases h with (h | h) | h; exact .inl h; exact .inr (by omega); exact .inr (by omega)), (HKw.out.trans HK6.out (fun _ _ h => h)).trans hKF.out (fun i hi h => by omega)⟩
        · have hlt' : ¬ part < b.length := by omega
          by_cases hp0 : (0 : Int) < (part : Int)
          · have hp0' : 0 < part := by omega
            have HHB := hid (show BytesIn w (.slice bo b.length bc) (b.take b.length) G from by rw [List.take_length]; exact HB.out)
            have hkb : b.length ≤ b.length := Nat.le_refl _
            go_wp2_with fail
            obtain ⟨w3, hw3⟩ : ∃ w3, w2.alloc (.cells #[.slice ao L.length cap, .int .i64 xsize, .bool false, .bool xdue, .int .i64 xops, .int .i64 part, .int .i64 xkeep] 28) = w3 := ⟨_, rfl⟩
            rw [hw3]
            have HX3 := hid (show w3.heap[w2.heap.size]? = some (.cells #[.slice ao L.length cap, .int .i64 xsize, .bool false, .bool xdue, .int .i64 xops, .int .i64 part, .int .i64 xkeep] 28 (0, 0)) from hw3 ▸ heap_alloc_new w2 _)
            have HK23 := hid (show Keep (fun _ => False) w2 w3 from hw3 ▸ (Keep.refl (fun _ => False) w2).alloc _)
            have HK3 := hid (HK2.out.trans HK23.out (fun _ _ h => h))
            have HD3 := hid (HK23.out.at HD1.out (fun h => h))
            have hs3 : w3.heap.size = w2.heap.size + 1 := by rw [← hw3]; simp
            clear hw3
            have a0 : w3.cell? ⟨w2.heap.size, 0, none⟩ = some (.slice ao L.length cap) := by rw [cell_at HX3.out]; rfl
            have a5 : w3.cell? ⟨w2.heap.size, 5, none⟩ = some (.int .i64 part) := by rw [cell_at HX3.out]; rfl
            refine wp_region_heldi [0, 1, 2, 3, 4, 5, 6, 7, 8, 9, 10, 11, 12, 13, 14, 15] 18 3 (fun w' => w'.cell? ⟨w2.heap.size, 0, none⟩ = some (.slice ao L.length cap) ∧ w'.cell? ⟨w2.heap.size, 5, none⟩ = some (.int .i64 (part : Int))) (by kernel_rfl) (by kernel_rfl) (by kernel_rfl) ⟨a0, a5⟩ (fun d _ _ _ _ h => by cases d <;> exact h) ?_
            iterate 16 (first | (refine heldI_step rfl rfl (fun w' hS => by (obtain ⟨s1, s2⟩ := hS; go_simp; with_reducible rfl)) ?_; simp only [Act.put, List.setIfInBounds_toArray, List.set_cons_zero, List.set_cons_succ]) | (refine heldI_want rfl rfl (fun w' hS => by (obtain ⟨s1, s2⟩ := hS; go_simp; with_reducible rfl)) ?_; simp only [Act.put, List.setIfInBounds_toArray, List.set_cons_zero, List.set_cons_succ]) | (refine heldI_skip rfl rfl ?_; simp only [Act.put, List.setIfInBounds_toArray, List.set_cons_zero, List.set_cons_succ]))
            refine heldI_nil ?_
            refine anyZ_next' (j := 16) (by kernel_rfl) rfl rfl ?_
            go_simp
            have kd := keep_drawn' w3 (w3.drawn + 1)
            have HKd := hid (HK3.out.trans kd (fun _ _ h => h))
            refine (HD.out (by trivial) _ b.length false true hkb (H0.out.keep HKd.out (fun _ _ h => h)) (HHB.out.keep HKd.out (fun _ _ h => h))).mono ?_
            rintro x w4 ⟨v', rfl, hF, hK4⟩
            obtain ⟨aV, cV, hV⟩ := hF.slice
            subst hV
            have hs4 : w3.heap.size ≤ w4.heap.size := hK4.size
            have HK4' := hid (kd.trans hK4 (fun _ _ h => h))
            have HX4 := hid (HK4'.out.at HX3.out (fun h => h))
            have HF4 := hid (hF.mono (G' := fun i => G i ∨ w3.heap.size ≤ i) (fun i _ h => h))
            have HK4 := hid (HKd.out.trans hK4 (fun _ _ h => h))
            have HE1 := hid (HK4'.out.at HD3.out (fun h => h))
            clear hF hK4 kd a0 a5
            have b0 : w4.cell? ⟨w2.heap.size, 0, none⟩ = some (.slice ao L.length cap) := by rw [cell_at HX4.out]; rfl
            have b5 : w4.cell? ⟨w2.heap.size, 5, none⟩ = some (.int .i64 part) := by rw [cell_at HX4.out]; rfl
            have fb : w4.frozen? ⟨w2.heap.size, 0, none⟩ = false := frozen_at HX4.out _
            refine ⟨⟨b0, b5⟩, ?_⟩
            refine anyZ_read (j := 17) (by kernel_rfl) rfl rfl ⟨b0, b5⟩ (by go_simp; with_reducible rfl) ?_
            refine anyZ_last (by kernel_rfl) rfl rfl (by kernel_rfl) ?_
            go_simp
            obtain ⟨w5, hw5⟩ : ∃ w5, w4.setCell ⟨w2.heap.size, 0, none⟩ (.slice aV (dn b.length false true).length cV) = w5 := ⟨_, rfl⟩
            rw [hw5]
            have HK5 := hid (show Keep (fun i => i = w2.heap.size) w4 w5 from hw5 ▸ (Keep.refl (fun i => i = w2.heap.size) w4).setCell (p := ⟨w2.heap.size, 0, none⟩) (fun _ => rfl) _)
            have HX5 := hid (show w5.heap[w2.heap.size]? = some (.cells #[.slice aV (dn b.length false true).length cV, .int .i64 xsize, .bool false, .bool xdue, .int .i64 xops, .int .i64 part, .int .i64 xkeep] 28 (0, 0)) by rw [← hw5, heap_setCell_self HX4.out]; rfl)
            have HE5 := hid (HK5.out.at HE1.out (by omega))
            have HF5 := hid (HF4.out.keep HK5.out (fun i h (e : i = w2.heap.size) => by rcases h with h | h; exact absurd (HGB.out i h) (by omega); omega))
            have HKw := hid (HK4.out.trans HK5.out (fun i hi h => by omega))
            have hs5 := HK5.out.size
            clear hw5 b0 b5 fb
            have HR := hid (show RR = (refFall ⟨xsize, false, due, ops, part, xkeep⟩, fallF xkeep (dn b.length false true), 71) by rw [← HRR.out]; simp [refDo, refL, refN, HDUE.out, hlt', hp0'])
            have p0 : w5.cell? ⟨w2.heap.size, 0, none⟩ = some (.slice aV (dn b.length false true).length cV) := by rw [cell_at HX5.out]; rfl
            have p1 : w5.cell? ⟨w2.heap.size, 1, none⟩ = some (.int .i64 xsize) := by rw [cell_at HX5.out]; rfl
            have p2 : w5.cell? ⟨w2.heap.size, 2, none⟩ = some (.bool false) := by rw [cell_at HX5.out]; rfl
            have p3 : w5.cell? ⟨w2.heap.size, 3, none⟩ = some (.bool xdue) := by rw [cell_at HX5.out]; rfl
            have p4 : w5.cell? ⟨w2.heap.size, 4, none⟩ = some (.int .i64 xops) := by rw [cell_at HX5.out]; rfl
            have p5 : w5.cell? ⟨w2.heap.size, 5, none⟩ = some (.int .i64 part) := by rw [cell_at HX5.out]; rfl
            have p6 : w5.cell? ⟨w2.heap.size, 6, none⟩ = some (.int .i64 xkeep) := by rw [cell_at HX5.out]; rfl
            have HOK1 : FilesOk (dn b.length false true) := HDN.out (by trivial) _ _ _ hkb
            go_wp2_with fail
            refine (fall_any w5 ⟨xsize, false, xdue, xops, part, xkeep⟩ HF5.out HOK1.1 HOK1.2 hk).mono ?_
            rintro x w6 ⟨vF, rfl, hF6, hK6⟩
            obtain ⟨aF, cF, hVF⟩ := hF6.slice
            subst hVF
            have HF6 := hid hF6
            have HK6 := hid hK6
            have hs6 := hK6.size
            have HE6 := hid (hK6.at HE5.out (fun h => h))
            clear hF6 hK6 p0 p1 p2 p3 p4 p5 p6
            unfold RefD.val RefD.cells refFall
            have q0 : w6.cell? ⟨w.heap.size + 1, 0, none⟩ = some (.slice none 0 0) := by rw [cell_at HE6.out]; rfl
            have q1 : w6.cell? ⟨w.heap.size + 1, 1, none⟩ = some (.int .i64 0) := by rw [cell_at HE6.out]; rfl
            have q2 : w6.cell? ⟨w.heap.size + 1, 2, none⟩ = some (.bool false) := by rw [cell_at HE6.out]; rfl
            have q3 : w6.cell? ⟨w.heap.size + 1, 3, none⟩ = some (.bool false) := by rw [cell_at HE6.out]; rfl
            have q4 : w6.cell? ⟨w.heap.size + 1, 4, none⟩ = some (.int .i64 0) := by rw [cell_at HE6.out]; rfl
            have q5 : w6.cell? ⟨w.heap.size + 1, 5, none⟩ = some (.int .i64 0) := by rw [cell_at HE6.out]; rfl
            have q6 : w6.cell? ⟨w.heap.size + 1, 6, none⟩ = some (.int .i64 0) := by rw [cell_at HE6.out]; rfl
            have r0 : w6.frozen? ⟨w.heap.size + 1, 0, none⟩ = false := frozen_at HE6.out _
            have r1 : w6.frozen? ⟨w.heap.size + 1, 1, none⟩ = false := frozen_at HE6.out _
            have r2 : w6.frozen? ⟨w.heap.size + 1, 2, none⟩ = false := frozen_at HE6.out _
            have r3 : w6.frozen? ⟨w.heap.size + 1, 3, none⟩ = false := frozen_at HE6.out _
            have r4 : w6.frozen? ⟨w.heap.size + 1, 4, none⟩ = false := frozen_at HE6.out _
            have r5 : w6.frozen? ⟨w.heap.size + 1, 5, none⟩ = false := frozen_at HE6.out _
            have r6 : w6.frozen? ⟨w.heap.size + 1, 6, none⟩ = false := frozen_at HE6.out _
            go_wp2_with fail
            have hKF := hid ((((((((Keep.refl (fun i => i = w.heap.size + 1) w6).setCell (p := ⟨w.heap.size + 1, 0, none⟩) (fun _ => rfl) (.slice aF (fallF xkeep (dn b.length false true)).length cF)).setCell (p := ⟨w.heap.size + 1, 1, none⟩) (fun _ => rfl) (.int .i64 xsize)).setCell (p := ⟨w.heap.size + 1, 2, none⟩) (fun _ => rfl) (.bool true)).setCell (p := ⟨w.heap.size + 1, 3, none⟩) (fun _ => rfl) (.bool false)).setCell (p := ⟨w.heap.size + 1, 4, none⟩) (fun _ => rfl) (.int .i64 0)).setCell (p := ⟨w.heap.size + 1, 5, none⟩) (fun _ => rfl) (.int .i64 0)).setCell (p := ⟨w.heap.size + 1, 6, none⟩) (fun _ => rfl) (.int .i64 0))
            refine bodyPost_ret (v := .tuple #[RefD.val ⟨xsize, true, false, 0, 0, 0⟩ (.slice aF (fallF xkeep (dn b.length false true)).length cF), .int .i64 71]) (by rw [results_cell2 rfl]; go_simp; rfl) rfl ⟨.slice aF (fallF xkeep (dn b.length false true)).length cF, by rw [HR.out]; rfl, by rw [HR.out]; exact (HF6.out.keep hKF.out (fun i h (e : i = w.heap.size + 1) => by rcases h with (h | h) | h; exact absurd (HGB.out i h) (by omega); omega; omega)).mono (fun i _ h => by rcases h with (h | h) | h; exact .inl h; exact .inr (by omega); exact .inr (by omega)), (HKw.out.trans HK6.out (fun _ _ h => h)).trans hKF.out (fun i hi h => by omega)⟩
          · have hp0' : ¬ 0 < part := by omega
            have HHB := hid (show BytesIn w (.slice bo b.length bc) (b.take b.length) G from by rw [List.take_length]; exact HB.out)
            have hkb : b.length ≤ b.length := Nat.le_refl _
            go_wp2_with fail
            obtain ⟨w3, hw3⟩ : ∃ w3, w2.alloc (.cells #[.slice ao L.length cap, .int .i64 xsize, .bool false, .bool xdue, .int .i64 xops, .int .i64 part, .int .i64 xkeep] 28) = w3 := ⟨_, rfl⟩
            rw [hw3]
            have HX3 := hid (show w3.heap[w2.heap.size]? = some (.cells #[.slice ao L.length cap, .int .i64 xsize, .bool false, .bool xdue, .int .i64 xops, .int .i64 part, .int .i64 xkeep] 28 (0, 0)) from hw3 ▸ heap_alloc_new w2 _)
            have HK23 := hid (show Keep (fun _ => False) w2 w3 from hw3 ▸ (Keep.refl (fun _ => False) w2).alloc _)
            have HK3 := hid (HK2.out.trans HK23.out (fun _ _ h => h))
            have HD3 := hid (HK23.out.at HD1.out (fun h => h))
            have hs3 : w3.heap.size = w2.heap.size + 1 := by rw [← hw3]; simp
            clear hw3
            have a0 : w3.cell? ⟨w2.heap.size, 0, none⟩ = some (.slice ao L.length cap) := by rw [cell_at HX3.out]; rfl
            have a5 : w3.cell? ⟨w2.heap.size, 5, none⟩ = some (.int .i64 part) := by rw [cell_at HX3.out]; rfl
            refine wp_region_heldi [0, 1, 2, 3, 4, 5, 6, 7, 8, 9, 10, 11, 12, 13, 14, 15] 18 3 (fun w' => w'.cell? ⟨w2.heap.size, 0, none⟩ = some (.slice ao L.length cap) ∧ w'.cell? ⟨w2.heap.size, 5, none⟩ = some (.int .i64 (part : Int))) (by kernel_rfl) (by kernel_rfl) (by kernel_rfl) ⟨a0, a5⟩ (fun d _ _ _ _ h => by cases d <;> exact h) ?_
            iterate 16 (first | (refine heldI_step rfl rfl (fun w' hS => by (obtain ⟨s1, s2⟩ := hS; go_simp; with_reducible rfl)) ?_; simp only [Act.put, List.setIfInBounds_toArray, List.set_cons_zero, List.set_cons_succ]) | (refine heldI_want rfl rfl (fun w' hS => by (obtain ⟨s1, s2⟩ := hS; go_simp; with_reducible rfl)) ?_; simp only [Act.put, List.setIfInBounds_toArray, List.set_cons_zero, List.set_cons_succ]) | (refine heldI_skip rfl rfl ?_; simp only [Act.put, List.setIfInBounds_toArray, List.set_cons_zero, List.set_cons_succ]))
            refine heldI_nil ?_
            refine anyZ_next' (j := 16) (by kernel_rfl) rfl rfl ?_
            go_simp
            have kd := keep_drawn' w3 (w3.drawn + 1)
            have HKd := hid (HK3.out.trans kd (fun _ _ h => h))
            refine (HD.out (by trivial) _ b.length false false hkb (H0.out.keep HKd.out (fun _ _ h => h)) (HHB.out.keep HKd.out (fun _ _ h => h))).mono ?_
            rintro x w4 ⟨v', rfl, hF, hK4⟩
            obtain ⟨aV, cV, hV⟩ := hF.slice
            subst hV
            have hs4 : w3.heap.size ≤ w4.heap.size := hK4.size
            have HK4' := hid (kd.trans hK4 (fun _ _ h => h))
            have HX4 := hid (HK4'.out.at HX3.out (fun h => h))
            have HF4 := hid (hF.mono (G' := fun i => G i ∨ w3.heap.size ≤ i) (fun i _ h => h))
            have HK4 := hid (HKd.out.trans hK4 (fun _ _ h => h))
            have HE1 := hid (HK4'.out.at HD3.out (fun h => h))
            clear hF hK4 kd a0 a5
            have b0 : w4.cell? ⟨w2.heap.size, 0, none⟩ = some (.slice ao L.length cap) := by rw [cell_at HX4.out]; rfl
            have b5 : w4.cell? ⟨w2.heap.size, 5, none⟩ = some (.int .i64 part) := by rw [cell_at HX4.out]; rfl
            have fb : w4.frozen? ⟨w2.heap.size, 0, none⟩ = false := frozen_at HX4.out _
            refine ⟨⟨b0, b5⟩, ?_⟩
            refine anyZ_read (j := 17) (by kernel_rfl) rfl rfl ⟨b0, b5⟩ (by go_simp; with_reducible rfl) ?_
            refine anyZ_last (by kernel_rfl) rfl rfl (by kernel_rfl) ?_
            go_simp
            obtain ⟨w5, hw5⟩ : ∃ w5, w4.setCell ⟨w2.heap.size, 0, none⟩ (.slice aV (dn b.length false false).length cV) = w5 := ⟨_, rfl⟩
            rw [hw5]
            have HK5 := hid (show Keep (fun i => i = w2.heap.size) w4 w5 from hw5 ▸ (Keep.refl (fun i => i = w2.heap.size) w4).setCell (p := ⟨w2.heap.size, 0, none⟩) (fun _ => rfl) _)
            have HX5 := hid (show w5.heap[w2.heap.size]? = some (.cells #[.slice aV (dn b.length false false).length cV, .int .i64 xsize, .bool false, .bool xdue, .int .i64 xops, .int .i64 part, .int .i64 xkeep] 28 (0, 0)) by rw [← hw5, heap_setCell_self HX4.out]; rfl)
            have HE5 := hid (HK5.out.at HE1.out (by omega))
            have HF5 := hid (HF4.out.keep HK5.out (fun i h (e : i = w2.heap.size) => by rcases h with h | h; exact absurd (HGB.out i h) (by omega); omega))
            have HKw := hid (HK4.out.trans HK5.out (fun i hi h => by omega))
            have hs5 := HK5.out.size
            clear hw5 b0 b5 fb
            have HR := hid (show RR = (refFall ⟨xsize, false, due, ops, part, xkeep⟩, fallF xkeep (dn b.length false false), 71) by rw [← HRR.out]; simp [refDo, refL, refN, HDUE.out, hlt', hp0'])
            have p0 : w5.cell? ⟨w2.heap.size, 0, none⟩ = some (.slice aV (dn b.length false false).length cV) := by rw [cell_at HX5.out]; rfl
            have p1 : w5.cell? ⟨w2.heap.size, 1, none⟩ = some (.int .i64 xsize) := by rw [cell_at HX5.out]; rfl
            have p2 : w5.cell? ⟨w2.heap.size, 2, none⟩ = some (.bool false) := by rw [cell_at HX5.out]; rfl
            have p3 : w5.cell? ⟨w2.heap.size, 3, none⟩ = some (.bool xdue) := by rw [cell_at HX5.out]; rfl
            have p4 : w5.cell? ⟨w2.heap.size, 4, none⟩ = some (.int .i64 xops) := by rw [cell_at HX5.out]; rfl
            have p5 : w5.cell? ⟨w2.heap.size, 5, none⟩ = some (.int .i64 part) := by rw [cell_at HX5.out]; rfl
            have p6 : w5.cell? ⟨w2.heap.size, 6, none⟩ = some (.int .i64 xkeep) := by rw [cell_at HX5.out]; rfl
            have HOK1 : FilesOk (dn b.length false false) := HDN.out (by trivial) _ _ _ hkb
            go_wp2_with fail
            refine (fall_any w5 ⟨xsize, false, xdue, xops, part, xkeep⟩ HF5.out HOK1.1 HOK1.2 hk).mono ?_
            rintro x w6 ⟨vF, rfl, hF6, hK6⟩
            obtain ⟨aF, cF, hVF⟩ := hF6.slice
            subst hVF
            have HF6 := hid hF6
            have HK6 := hid hK6
            have hs6 := hK6.size
            have HE6 := hid (hK6.at HE5.out (fun h => h))
            clear hF6 hK6 p0 p1 p2 p3 p4 p5 p6
            unfold RefD.val RefD.cells refFall
            have q0 : w6.cell? ⟨w.heap.size + 1, 0, none⟩ = some (.slice none 0 0) := by rw [cell_at HE6.out]; rfl
            have q1 : w6.cell? ⟨w.heap.size + 1, 1, none⟩ = some (.int .i64 0) := by rw [cell_at HE6.out]; rfl
            have q2 : w6.cell? ⟨w.heap.size + 1, 2, none⟩ = some (.bool false) := by rw [cell_at HE6.out]; rfl
            have q3 : w6.cell? ⟨w.heap.size + 1, 3, none⟩ = some (.bool false) := by rw [cell_at HE6.out]; rfl
            have q4 : w6.cell? ⟨w.heap.size + 1, 4, none⟩ = some (.int .i64 0) := by rw [cell_at HE6.out]; rfl
            have q5 : w6.cell? ⟨w.heap.size + 1, 5, none⟩ = some (.int .i64 0) := by rw [cell_at HE6.out]; rfl
            have q6 : w6.cell? ⟨w.heap.size + 1, 6, none⟩ = some (.int .i64 0) := by rw [cell_at HE6.out]; rfl
            have r0 : w6.frozen? ⟨w.heap.size + 1, 0, none⟩ = false := frozen_at HE6.out _
            have r1 : w6.frozen? ⟨w.heap.size + 1, 1, none⟩ = false := frozen_at HE6.out _
            have r2 : w6.frozen? ⟨w.heap.size + 1, 2, none⟩ = false := frozen_at HE6.out _
            have r3 : w6.frozen? ⟨w.heap.size + 1, 3, none⟩ = false := frozen_at HE6.out _
            have r4 : w6.frozen? ⟨w.heap.size + 1, 4, none⟩ = false := frozen_at HE6.out _
            have r5 : w6.frozen? ⟨w.heap.size + 1, 5, none⟩ = false := frozen_at HE6.out _
            have r6 : w6.frozen? ⟨w.heap.size + 1, 6, none⟩ = false := frozen_at HE6.out _
            go_wp2_with fail
            have hKF := hid ((((((((Keep.refl (fun i => i = w.heap.size + 1) w6).setCell (p := ⟨w.heap.size + 1, 0, none⟩) (fun _ => rfl) (.slice aF (fallF xkeep (dn b.length false false)).length cF)).setCell (p := ⟨w.heap.size + 1, 1, none⟩) (fun _ => rfl) (.int .i64 xsize)).setCell (p := ⟨w.heap.size + 1, 2, none⟩) (fun _ => rfl) (.bool true)).setCell (p := ⟨w.heap.size + 1, 3, none⟩) (fun _ => rfl) (.bool false)).setCell (p := ⟨w.heap.size + 1, 4, none⟩) (fun _ => rfl) (.int .i64 0)).setCell (p := ⟨w.heap.size + 1, 5, none⟩) (fun _ => rfl) (.int .i64 0)).setCell (p := ⟨w.heap.size + 1, 6, none⟩) (fun _ => rfl) (.int .i64 0))
            refine bodyPost_ret (v := .tuple #[RefD.val ⟨xsize, true, false, 0, 0, 0⟩ (.slice aF (fallF xkeep (dn b.length false false)).length cF), .int .i64 71]) (by rw [results_cell2 rfl]; go_simp; rfl) rfl ⟨.slice aF (fallF xkeep (dn b.length false false)).length cF, by rw [HR.out]; rfl, by rw [HR.out]; exact (HF6.out.keep hKF.out (fun i h (e : i = w.heap.size + 1) => by rcases h with (h | h) | h; exact absurd (HGB.out i h) (by omega); omega; omega)).mono (fun i _ h => by rcases h with (h | h) | h; exact .inl h; exact .inr (by omega); exact .inr (by omega)), (HKw.out.trans HK6.out (fun _ _ h => h)).trans hKF.out (fun i hi h => by omega)⟩
      · have heb : (e == 0) = false := by rw [beq_eq_false_iff_ne]; exact he
        by_cases hlt : (part : Int) < (b.length : Int)
        · have HK23 := hid (show Keep (fun _ => False) w2 (w2.alloc (.cells #[.slice ao L.length cap, .int .i64 xsize, .bool false, .bool xdue, .int .i64 xops, .int .i64 part, .int .i64 xkeep] 28)) from (Keep.refl (fun _ => False) w2).alloc _)
          have HK3 := hid (HK2.out.trans HK23.out (fun _ _ h => h))
          have HD3 := hid (HK23.out.at HD1.out (fun h => h))
          have HF3 := hid (H0.out.keep HK3.out (fun _ _ h => h))
          have hs3 : (w2.alloc (.cells #[.slice ao L.length cap, .int .i64 xsize, .bool false, .bool xdue, .int .i64 xops, .int .i64 part, .int .i64 xkeep] 28)).heap.size = w2.heap.size + 1 := by simp
          have HR := hid (show RR = (refFall ⟨xsize, false, due, ops, part, xkeep⟩, fallF xkeep (L), 71) by rw [← HRR.out]; simp [refDo, refL, HDUE.out, he])
          have q0 : (w2.alloc (.cells #[.slice ao L.length cap, .int .i64 xsize, .bool false, .bool xdue, .int .i64 xops, .int .i64 part, .int .i64 xkeep] 28)).cell? ⟨w.heap.size + 1, 0, none⟩ = some (.slice none 0 0) := by rw [cell_at HD3.out]; rfl
          have q1 : (w2.alloc (.cells #[.slice ao L.length cap, .int .i64 xsize, .bool false, .bool xdue, .int .i64 xops, .int .i64 part, .int .i64 xkeep] 28)).cell? ⟨w.heap.size + 1, 1, none⟩ = some (.int .i64 0) := by rw [cell_at HD3.out]; rfl
          have q2 : (w2.alloc (.cells #[.slice ao L.length cap, .int .i64 xsize, .bool false, .bool xdue, .int .i64 xops, .int .i64 part, .int .i64 xkeep] 28)).cell? ⟨w.heap.size + 1, 2, none⟩ = some (.bool false) := by rw [cell_at HD3.out]; rfl
          have q3 : (w2.alloc (.cells #[.slice ao L.length cap, .int .i64 xsize, .bool false, .bool xdue, .int .i64 xops, .int .i64 part, .int .i64 xkeep] 28)).cell? ⟨w.heap.size + 1, 3, none⟩ = some (.bool false) := by rw [cell_at HD3.out]; rfl
          have q4 : (w2.alloc (.cells #[.slice ao L.length cap, .int .i64 xsize, .bool false, .bool xdue, .int .i64 xops, .int .i64 part, .int .i64 xkeep] 28)).cell? ⟨w.heap.size + 1, 4, none⟩ = some (.int .i64 0) := by rw [cell_at HD3.out]; rfl
          have q5 : (w2.alloc (.cells #[.slice ao L.length cap, .int .i64 xsize, .bool false, .bool xdue, .int .i64 xops, .int .i64 part, .int .i64 xkeep] 28)).cell? ⟨w.heap.size + 1, 5, none⟩ = some (.int .i64 0) := by rw [cell_at HD3.out]; rfl
          have q6 : (w2.alloc (.cells #[.slice ao L.length cap, .int .i64 xsize, .bool false, .bool xdue, .int .i64 xops, .int .i64 part, .int .i64 xkeep] 28)).cell? ⟨w.heap.size + 1, 6, none⟩ = some (.int .i64 0) := by rw [cell_at HD3.out]; rfl
          have r0 : (w2.alloc (.cells #[.slice ao L.length cap, .int .i64 xsize, .bool false, .bool xdue, .int .i64 xops, .int .i64 part, .int .i64 xkeep] 28)).frozen? ⟨w.heap.size + 1, 0, none⟩ = false := frozen_at HD3.out _
          have r1 : (w2.alloc (.cells #[.slice ao L.length cap, .int .i64 xsize, .bool false, .bool xdue, .int .i64 xops, .int .i64 part, .int .i64 xkeep] 28)).frozen? ⟨w.heap.size + 1, 1, none⟩ = false := frozen_at HD3.out _
          have r2 : (w2.alloc (.cells #[.slice ao L.length cap, .int .i64 xsize, .bool false, .bool xdue, .int .i64 xops, .int .i64 part, .int .i64 xkeep] 28)).frozen? ⟨w.heap.size + 1, 2, none⟩ = false := frozen_at HD3.out _
          have r3 : (w2.alloc (.cells #[.slice ao L.length cap, .int .i64 xsize, .bool false, .bool xdue, .int .i64 xops, .int .i64 part, .int .i64 xkeep] 28)).frozen? ⟨w.heap.size + 1, 3, none⟩ = false := frozen_at HD3.out _
          have r4 : (w2.alloc (.cells #[.slice ao L.length cap, .int .i64 xsize, .bool false, .bool xdue, .int .i64 xops, .int .i64 part, .int .i64 xkeep] 28)).frozen? ⟨w.heap.size + 1, 4, none⟩ = false := frozen_at HD3.out _
          have r5 : (w2.alloc (.cells #[.slice ao L.length cap, .int .i64 xsize, .bool false, .bool xdue, .int .i64 xops, .int .i64 part, .int .i64 xkeep] 28)).frozen? ⟨w.heap.size + 1, 5, none⟩ = false := frozen_at HD3.out _
          have r6 : (w2.alloc (.cells #[.slice ao L.length cap, .int .i64 xsize, .bool false, .bool xdue, .int .i64 xops, .int .i64 part, .int .i64 xkeep] 28)).frozen? ⟨w.heap.size + 1, 6, none⟩ = false := frozen_at HD3.out _
          have HOK1 : FilesOk (L) := HOK.out
          go_wp2_with fail
          refine (fall_any (w2.alloc (.cells #[.slice ao L.length cap, .int .i64 xsize, .bool false, .bool xdue, .int .i64 xops, .int .i64 part, .int .i64 xkeep] 28)) ⟨xsize, false, xdue, xops, part, xkeep⟩ HF3.out HOK1.1 HOK1.2 hk).mono ?_
          rintro x w6 ⟨vF, rfl, hF6, hK6⟩
          obtain ⟨aF, cF, hVF⟩ := hF6.slice
          subst hVF
          have HF6 := hid hF6
          have HK6 := hid hK6
          have hs6 := hK6.size
          have HE6 := hid (hK6.at HD3.out (fun h => h))
          clear hF6 hK6 q0 q1 q2 q3 q4 q5 q6 r0 r1 r2 r3 r4 r5 r6
          unfold RefD.val RefD.cells refFall
          have q0 : w6.cell? ⟨w.heap.size + 1, 0, none⟩ = some (.slice none 0 0) := by rw [cell_at HE6.out]; rfl
          have q1 : w6.cell? ⟨w.heap.size + 1, 1, none⟩ = some (.int .i64 0) := by rw [cell_at HE6.out]; rfl
          have q2 : w6.cell? ⟨w.heap.size + 1, 2, none⟩ = some (.bool false) := by rw [cell_at HE6.out]; rfl
          have q3 : w6.cell? ⟨w.heap.size + 1, 3, none⟩ = some (.bool false) := by rw [cell_at HE6.out]; rfl
          have q4 : w6.cell? ⟨w.heap.size + 1, 4, none⟩ = some (.int .i64 0) := by rw [cell_at HE6.out]; rfl
          have q5 : w6.cell? ⟨w.heap.size + 1, 5, none⟩ = some (.int .i64 0) := by rw [cell_at HE6.out]; rfl
          have q6 : w6.cell? ⟨w.heap.size + 1, 6, none⟩ = some (.int .i64 0) := by rw [cell_at HE6.out]; rfl
          have r0 : w6.frozen? ⟨w.heap.size + 1, 0, none⟩ = false := frozen_at HE6.out _
          have r1 : w6.frozen? ⟨w.heap.size + 1, 1, none⟩ = false := frozen_at HE6.out _
          have r2 : w6.frozen? ⟨w.heap.size + 1, 2, none⟩ = false := frozen_at HE6.out _
          have r3 : w6.frozen? ⟨w.heap.size + 1, 3, none⟩ = false := frozen_at HE6.out _
          have r4 : w6.frozen? ⟨w.heap.size + 1, 4, none⟩ = false := frozen_at HE6.out _
          have r5 : w6.frozen? ⟨w.heap.size + 1, 5, none⟩ = false := frozen_at HE6.out _
          have r6 : w6.frozen? ⟨w.heap.size + 1, 6, none⟩ = false := frozen_at HE6.out _
          go_wp2_with fail
          have hKF := hid ((((((((Keep.refl (fun i => i = w.heap.size + 1) w6).setCell (p := ⟨w.heap.size + 1, 0, none⟩) (fun _ => rfl) (.slice aF (fallF xkeep (L)).length cF)).setCell (p := ⟨w.heap.size + 1, 1, none⟩) (fun _ => rfl) (.int .i64 xsize)).setCell (p := ⟨w.heap.size + 1, 2, none⟩) (fun _ => rfl) (.bool true)).setCell (p := ⟨w.heap.size + 1, 3, none⟩) (fun _ => rfl) (.bool false)).setCell (p := ⟨w.heap.size + 1, 4, none⟩) (fun _ => rfl) (.int .i64 0)).setCell (p := ⟨w.heap.size + 1, 5, none⟩) (fun _ => rfl) (.int .i64 0)).setCell (p := ⟨w.heap.size + 1, 6, none⟩) (fun _ => rfl) (.int .i64 0))
          refine bodyPost_ret (v := .tuple #[RefD.val ⟨xsize, true, false, 0, 0, 0⟩ (.slice aF (fallF xkeep (L)).length cF), .int .i64 71]) (by rw [results_cell2 rfl]; go_simp; rfl) rfl ⟨.slice aF (fallF xkeep (L)).length cF, by rw [HR.out]; rfl, by rw [HR.out]; exact (HF6.out.keep hKF.out (fun i h (e : i = w.heap.size + 1) => by rcases h with h | h; exact absurd (HGB.out i h) (by omega); omega)).mono (fun i _ h => by rcases h with h | h; exact .inl h; exact .inr (by omega)), (HK3.out.trans HK6.out (fun _ _ h => h)).trans hKF.out (fun i hi h => by omega)⟩
        · have HK23 := hid (show Keep (fun _ => False) w2 (w2.alloc (.cells #[.slice ao L.length cap, .int .i64 xsize, .bool false, .bool xdue, .int .i64 xops, .int .i64 part, .int .i64 xkeep] 28)) from (Keep.refl (fun _ => False) w2).alloc _)
          have HK3 := hid (HK2.out.trans HK23.out (fun _ _ h => h))
          have HD3 := hid (HK23.out.at HD1.out (fun h => h))
          have HF3 := hid (H0.out.keep HK3.out (fun _ _ h => h))
          have hs3 : (w2.alloc (.cells #[.slice ao L.length cap, .int .i64 xsize, .bool false, .bool xdue, .int .i64 xops, .int .i64 part, .int .i64 xkeep] 28)).heap.size = w2.heap.size + 1 := by simp
          have HR := hid (show RR = (refFall ⟨xsize, false, due, ops, part, xkeep⟩, fallF xkeep (L), 71) by rw [← HRR.out]; simp [refDo, refL, HDUE.out, he])
          have q0 : (w2.alloc (.cells #[.slice ao L.length cap, .int .i64 xsize, .bool false, .bool xdue, .int .i64 xops, .int .i64 part, .int .i64 xkeep] 28)).cell? ⟨w.heap.size + 1, 0, none⟩ = some (.slice none 0 0) := by rw [cell_at HD3.out]; rfl
          have q1 : (w2.alloc (.cells #[.slice ao L.length cap, .int .i64 xsize, .bool false, .bool xdue, .int .i64 xops, .int .i64 part, .int .i64 xkeep] 28)).cell? ⟨w.heap.size + 1, 1, none⟩ = some (.int .i64 0) := by rw [cell_at HD3.out]; rfl
          have q2 : (w2.alloc (.cells #[.slice ao L.length cap, .int .i64 xsize, .bool false, .bool xdue, .int .i64 xops, .int .i64 part, .int .i64 xkeep] 28)).cell? ⟨w.heap.size + 1, 2, none⟩ = some (.bool false) := by rw [cell_at HD3.out]; rfl
          have q3 : (w2.alloc (.cells #[.slice ao L.length cap, .int .i64 xsize, .bool false, .bool xdue, .int .i64 xops, .int .i64 part, .int .i64 xkeep] 28)).cell? ⟨w.heap.size + 1, 3, none⟩ = some (.bool false) := by rw [cell_at HD3.out]; rfl
          have q4 : (w2.alloc (.cells #[.slice ao L.length cap, .int .i64 xsize, .bool false, .bool xdue, .int .i64 xops, .int .i64 part, .int .i64 xkeep] 28)).cell? ⟨w.heap.size + 1, 4, none⟩ = some (.int .i64 0) := by rw [cell_at HD3.out]; rfl
          have q5 : (w2.alloc (.cells #[.slice ao L.length cap, .int .i64 xsize, .bool false, .bool xdue, .int .i64 xops, .int .i64 part, .int .i64 xkeep] 28)).cell? ⟨w.heap.size + 1, 5, none⟩ = some (.int .i64 0) := by rw [cell_at HD3.out]; rfl
          have q6 : (w2.alloc (.cells #[.slice ao L.length cap, .int .i64 xsize, .bool false, .bool xdue, .int .i64 xops, .int .i64 part, .int .i64 xkeep] 28)).cell? ⟨w.heap.size + 1, 6, none⟩ = some (.int .i64 0) := by rw [cell_at HD3.out]; rfl
          have r0 : (w2.alloc (.cells #[.slice ao L.length cap, .int .i64 xsize, .bool false, .bool xdue, .int .i64 xops, .int .i64 part, .int .i64 xkeep] 28)).frozen? ⟨w.heap.size + 1, 0, none⟩ = false := frozen_at HD3.out _
          have r1 : (w2.alloc (.cells #[.slice ao L.length cap, .int .i64 xsize, .bool false, .bool xdue, .int .i64 xops, .int .i64 part, .int .i64 xkeep] 28)).frozen? ⟨w.heap.size + 1, 1, none⟩ = false := frozen_at HD3.out _
          have r2 : (w2.alloc (.cells #[.slice ao L.length cap, .int .i64 xsize, .bool false, .bool xdue, .int .i64 xops, .int .i64 part, .int .i64 xkeep] 28)).frozen? ⟨w.heap.size + 1, 2, none⟩ = false := frozen_at HD3.out _
          have r3 : (w2.alloc (.cells #[.slice ao L.length cap, .int .i64 xsize, .bool false, .bool xdue, .int .i64 xops, .int .i64 part, .int .i64 xkeep] 28)).frozen? ⟨w.heap.size + 1, 3, none⟩ = false := frozen_at HD3.out _
          have r4 : (w2.alloc (.cells #[.slice ao L.length cap, .int .i64 xsize, .bool false, .bool xdue, .int .i64 xops, .int .i64 part, .int .i64 xkeep] 28)).frozen? ⟨w.heap.size + 1, 4, none⟩ = false := frozen_at HD3.out _
          have r5 : (w2.alloc (.cells #[.slice ao L.length cap, .int .i64 xsize, .bool false, .bool xdue, .int .i64 xops, .int .i64 part, .int .i64 xkeep] 28)).frozen? ⟨w.heap.size + 1, 5, none⟩ = false := frozen_at HD3.out _
          have r6 : (w2.alloc (.cells #[.slice ao L.length cap, .int .i64 xsize, .bool false, .bool xdue, .int .i64 xops, .int .i64 part, .int .i64 xkeep] 28)).frozen? ⟨w.heap.size + 1, 6, none⟩ = false := frozen_at HD3.out _
          have HOK1 : FilesOk (L) := HOK.out
          go_wp2_with fail
          refine (fall_any (w2.alloc (.cells #[.slice ao L.length cap, .int .i64 xsize, .bool false, .bool xdue, .int .i64 xops, .int .i64 part, .int .i64 xkeep] 28)) ⟨xsize, false, xdue, xops, part, xkeep⟩ HF3.out HOK1.1 HOK1.2 hk).mono ?_
          rintro x w6 ⟨vF, rfl, hF6, hK6⟩
          obtain ⟨aF, cF, hVF⟩ := hF6.slice
          subst hVF
          have HF6 := hid hF6
          have HK6 := hid hK6
          have hs6 := hK6.size
          have HE6 := hid (hK6.at HD3.out (fun h => h))
          clear hF6 hK6 q0 q1 q2 q3 q4 q5 q6 r0 r1 r2 r3 r4 r5 r6
          unfold RefD.val RefD.cells refFall
          have q0 : w6.cell? ⟨w.heap.size + 1, 0, none⟩ = some (.slice none 0 0) := by rw [cell_at HE6.out]; rfl
          have q1 : w6.cell? ⟨w.heap.size + 1, 1, none⟩ = some (.int .i64 0) := by rw [cell_at HE6.out]; rfl
          have q2 : w6.cell? ⟨w.heap.size + 1, 2, none⟩ = some (.bool false) := by rw [cell_at HE6.out]; rfl
          have q3 : w6.cell? ⟨w.heap.size + 1, 3, none⟩ = some (.bool false) := by rw [cell_at HE6.out]; rfl
          have q4 : w6.cell? ⟨w.heap.size + 1, 4, none⟩ = some (.int .i64 0) := by rw [cell_at HE6.out]; rfl
          have q5 : w6.cell? ⟨w.heap.size + 1, 5, none⟩ = some (.int .i64 0) := by rw [cell_at HE6.out]; rfl
          have q6 : w6.cell? ⟨w.heap.size + 1, 6, none⟩ = some (.int .i64 0) := by rw [cell_at HE6.out]; rfl
          have r0 : w6.frozen? ⟨w.heap.size + 1, 0, none⟩ = false := frozen_at HE6.out _
          have r1 : w6.frozen? ⟨w.heap.size + 1, 1, none⟩ = false := frozen_at HE6.out _
          have r2 : w6.frozen? ⟨w.heap.size + 1, 2, none⟩ = false := frozen_at HE6.out _
          have r3 : w6.frozen? ⟨w.heap.size + 1, 3, none⟩ = false := frozen_at HE6.out _
          have r4 : w6.frozen? ⟨w.heap.size + 1, 4, none⟩ = false := frozen_at HE6.out _
          have r5 : w6.frozen? ⟨w.heap.size + 1, 5, none⟩ = false := frozen_at HE6.out _
          have r6 : w6.frozen? ⟨w.heap.size + 1, 6, none⟩ = false := frozen_at HE6.out _
          go_wp2_with fail
          have hKF := hid ((((((((Keep.refl (fun i => i = w.heap.size + 1) w6).setCell (p := ⟨w.heap.size + 1, 0, none⟩) (fun _ => rfl) (.slice aF (fallF xkeep (L)).length cF)).setCell (p := ⟨w.heap.size + 1, 1, none⟩) (fun _ => rfl) (.int .i64 xsize)).setCell (p := ⟨w.heap.size + 1, 2, none⟩) (fun _ => rfl) (.bool true)).setCell (p := ⟨w.heap.size + 1, 3, none⟩) (fun _ => rfl) (.bool false)).setCell (p := ⟨w.heap.size + 1, 4, none⟩) (fun _ => rfl) (.int .i64 0)).setCell (p := ⟨w.heap.size + 1, 5, none⟩) (fun _ => rfl) (.int .i64 0)).setCell (p := ⟨w.heap.size + 1, 6, none⟩) (fun _ => rfl) (.int .i64 0))
          refine bodyPost_ret (v := .tuple #[RefD.val ⟨xsize, true, false, 0, 0, 0⟩ (.slice aF (fallF xkeep (L)).length cF), .int .i64 71]) (by rw [results_cell2 rfl]; go_simp; rfl) rfl ⟨.slice aF (fallF xkeep (L)).length cF, by rw [HR.out]; rfl, by rw [HR.out]; exact (HF6.out.keep hKF.out (fun i h (e : i = w.heap.size + 1) => by rcases h with h | h; exact absurd (HGB.out i h) (by omega); omega)).mono (fun i _ h => by rcases h with h | h; exact .inl h; exact .inr (by omega)), (HK3.out.trans HK6.out (fun _ _ h => h)).trans hKF.out (fun i hi h => by omega)⟩

end Go.Proofs.YtlabpmmcmejpmaaDoor.Ref
