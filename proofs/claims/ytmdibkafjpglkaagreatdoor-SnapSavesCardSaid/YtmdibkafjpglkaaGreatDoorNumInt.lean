/- num.size, head; a reader's small functions: walked. A reader's Uint, walked. A reader's Int, walked. -/
import Derived.Test.YtmdibkafjpglkaaGreatDoorNumPure
import Derived.Test.YtmdibkafjpglkaaGreatDoorLaysBits
import Derived.Test.YtmdibkafjpglkaaGreatDoorFrameFirst
import Derived.Shelf.Strconv.Itoa0
import Derived.Shelf.Small.Bits
namespace Go.Proofs.YtmdibkafjpglkaaGreatDoor.Num
open Go Go.RowKit Go.Lib Go.Proofs.YtmdibkafjpglkaaGreatDoor.Dsk

theorem len64_any (n : Nat) (h : n < 18446744073709551616) (w : World) : Calls Tryz.prog 99 #[.int .u64 (n : Int)] w fun e w' => e = .returned (.int .i64 (Lib.bitLen n : Int)) ∧ w' = w := by
  have := Go.Proofs.Any.bits_Len64 Tryz.lays129 (n : Int) w (by omega) (by omega)
  rwa [Int.toNat_natCast] at this
theorem size_any (n : Nat) (h : n < 18446744073709551616) (w : World) : Calls Tryz.prog 72 #[.int .u64 (n : Int)] w fun e w' => e = .returned (.int .i64 (sizeN n : Int)) ∧ w' = w := by
  have hb := Lib.bitLen_le n 64 (by omega) (by omega)
  have hs := size_len n h
  obtain ⟨b, hbl⟩ : ∃ b, Lib.bitLen n = b := ⟨_, rfl⟩
  rw [hbl] at hb hs
  have HBL := hid hbl
  have HS := hid hs
  clear hbl hs
  have hw1 : IntKind.i64.wrap ((b : Int) + 6) = (b : Int) + 6 := IntWalk.i64_in _ (by omega)
  go_enter Tryz.func72, Tryz.ntmps72
  go_wp2_with fail
  refine (len64_any n h w).mono ?_
  rw [HBL.out]
  rintro e w1 ⟨rfl, rfl⟩
  have hv : min (max (((b : Int) + 6) / 7) 1) 9 = (sizeN n : Int) := by rw [← HS.out]; omega
  go_wp2_with fail
  go_ret
  exact ⟨by rw [← hv]; rfl, rfl⟩
theorem head_any (k : Nat) (h1 : 1 ≤ k) (h2 : k ≤ 9) (w : World) : Calls Tryz.prog 73 #[.int .i64 (k : Int)] w fun e w' => e = .returned (.int .u8 (headN k : Int)) ∧ w' = w := by
  have hcases : k = 1 ∨ k = 2 ∨ k = 3 ∨ k = 4 ∨ k = 5 ∨ k = 6 ∨ k = 7 ∨ k = 8 ∨ k = 9 := by omega
  rcases hcases with rfl | rfl | rfl | rfl | rfl | rfl | rfl | rfl | rfl
  all_goals
    go_enter Tryz.func73, Tryz.ntmps73
    go_wp2_with fail
    all_goals go_ret
    all_goals exact ⟨rfl, rfl⟩

/-- A reader: what is left of its bytes, its error. -/
structure ReaderAt (w : World) (rb : Nat) (A : Option Addr) (C : Nat) (l : List UInt8) (e : Int) (G : Nat → Prop) : Prop where
  blk : w.heap[rb]? = some (.cells #[.slice A l.length C, .int .i64 e] 109 (0, 0))
  bytes : BytesIn w (.slice A l.length C) l G
  apart : ¬ G rb
section
variable {w w' : World} {rb C : Nat} {A : Option Addr} {l : List UInt8} {e : Int} {G F : Nat → Prop}
theorem ReaderAt.keep (h : ReaderAt w rb A C l e G) (k : Keep F w w') (hr : ¬ F rb) (hG : ∀ i, G i → ¬ F i) : ReaderAt w' rb A C l e G := ⟨k.at h.blk hr, h.bytes.keep k hG, h.apart⟩

theorem read_any (w : World) (h : BytesIn w (.slice A l.length C) l G) (hG : ∀ i, G i → i < w.heap.size) :
    Calls Tryz.prog 22 #[.slice A l.length C] w fun x w' => x = .returned (ptr w.heap.size) ∧ ReaderAt w' w.heap.size A C l 0 G ∧ Keep (fun _ => False) w w' := by
  have HB := hid h
  clear h
  go_enter Tryz.func22, Tryz.ntmps22
  go_wp2_with fail
  go_ret
  exact ⟨rfl, ⟨heap_alloc_new w _, HB.out.keep ((Keep.refl (fun _ => False) w).alloc _) (fun _ _ h => h), fun h => absurd (hG _ h) (Nat.lt_irrefl _)⟩, (Keep.refl _ w).alloc _⟩

theorem left_any (h : ReaderAt w rb A C l e G) : Calls Tryz.prog 25 #[ptr rb] w fun x w' => x = .returned (.int .i64 (l.length : Int)) ∧ w' = w := by
  have c0 : w.cell? ⟨rb, 0, none⟩ = some (.slice A l.length C) := by rw [cell_at h.blk]; rfl
  clear h
  unfold ptr
  go_enter Tryz.func25, Tryz.ntmps25
  go_wp2_with fail
  all_goals go_ret
  all_goals exact ⟨rfl, rfl⟩
theorem err_any (h : ReaderAt w rb A C l e G) : Calls Tryz.prog 24 #[ptr rb] w fun x w' => x = .returned (.int .i64 e) ∧ w' = w := by
  have c1 : w.cell? ⟨rb, 1, none⟩ = some (.int .i64 e) := by rw [cell_at h.blk]; rfl
  clear h
  unfold ptr
  go_enter Tryz.func24, Tryz.ntmps24
  go_wp2_with fail
  all_goals go_ret
  all_goals exact ⟨rfl, rfl⟩
theorem nil_reader (w : World) (G : Nat → Prop) : BytesIn w (.slice none ([] : List UInt8).length 0) [] G := ⟨none, 0, rfl, Nat.le_refl _, Nat.zero_le _, fun _ => rfl, fun b hb => by cases hb⟩
theorem slot_two {cs : Array Value} {t : TypeId} {fr : Nat × Nat} (h : w.heap[rb]? = some (.cells cs t fr)) (hs : cs.size = 2) (x y : Value) : ((w.setCell ⟨rb, 0, none⟩ x).setCell ⟨rb, 1, none⟩ y).heap[rb]? = some (.cells #[x, y] t fr) := by
  obtain ⟨l⟩ := cs
  match l, hs with
  | [a, b], _ =>
    rw [heap_setCell_self (heap_setCell_self h x) y]
    rfl
theorem fail_zero (h : ReaderAt w rb A C l 0 G) (c : Int) (hc : c ≠ 0) :
    Calls Tryz.prog 81 #[ptr rb, .int .i64 c] w fun x w' => x = .returned (.tuple #[]) ∧ ReaderAt w' rb none 0 [] c G ∧ Keep (fun i => i = rb) w w' := by
  have hcb : (c == 0) = false := by rw [beq_eq_false_iff_ne]; exact hc
  have hcn : (c != 0) = true := by rw [bne_iff_ne]; exact hc
  have c0 : w.cell? ⟨rb, 0, none⟩ = some (.slice A l.length C) := by rw [cell_at h.blk]; rfl
  have c1 : w.cell? ⟨rb, 1, none⟩ = some (.int .i64 0) := by rw [cell_at h.blk]; rfl
  have f0 : w.frozen? ⟨rb, 0, none⟩ = false := frozen_at h.blk _
  have f1 : w.frozen? ⟨rb, 1, none⟩ = false := frozen_at h.blk _
  have H := hid h
  clear h
  unfold ptr
  go_enter Tryz.func81, Tryz.ntmps81
  go_wp2_with fail
  refine bodyPost_end (results_none rfl _ _ _) rfl ?_
  exact ⟨rfl, ⟨slot_two H.out.blk rfl _ _, nil_reader _ _, H.out.apart⟩, ((Keep.refl (fun i => i = rb) w).setCell (p := ⟨rb, 0, none⟩) (fun _ => rfl) _).setCell (p := ⟨rb, 1, none⟩) (fun _ => rfl) _⟩
theorem fail_more (h : ReaderAt w rb A C l e G) (he : e ≠ 0) (c : Int) :
    Calls Tryz.prog 81 #[ptr rb, .int .i64 c] w fun x w' => x = .returned (.tuple #[]) ∧ w' = w := by
  have heb : (e == 0) = false := by rw [beq_eq_false_iff_ne]; exact he
  have c0 : w.cell? ⟨rb, 0, none⟩ = some (.slice A l.length C) := by rw [cell_at h.blk]; rfl
  have c1 : w.cell? ⟨rb, 1, none⟩ = some (.int .i64 e) := by rw [cell_at h.blk]; rfl
  clear h
  unfold ptr
  go_enter Tryz.func81, Tryz.ntmps81
  go_wp2_with fail
  refine bodyPost_end (results_none rfl _ _ _) rfl ?_
  exact ⟨rfl, rfl⟩

/-- What is left behind the first n bytes: where it lies. -/
def behind (A : Option Addr) (C n : Nat) : Option Addr := if C - n = 0 then A else A.map (·.add n)
theorem bytes_behind {n : Nat} (h : BytesIn w (.slice A l.length C) l G) (hn : n ≤ l.length) : BytesIn w (.slice (behind A C n) (l.drop n).length (C - n)) (l.drop n) G := by
  unfold behind
  rw [List.length_drop]
  have hr := h.read
  obtain ⟨ao, cap, e, h1, h2, h3, h4⟩ := hr
  injection e with e1 _ e3
  subst e1 e3
  split
  · rename_i hz
    have hl : l.drop n = [] := List.drop_eq_nil_of_le (by omega)
    rw [hl, show l.length - n = 0 by omega, hz]
    exact ⟨A, 0, rfl, Nat.le_refl _, Nat.zero_le _, fun _ => rfl, fun b _ j u hj => by simp at hj⟩
  · cases A with
    | none =>
      have hl := h3 rfl
      subst hl
      simp at hn
      subst hn
      simpa using h
    | some a => exact h.later a rfl n hn
theorem take_ok (h : ReaderAt w rb A C l 0 G) (n : Nat) (hn : n ≤ l.length) (hl : l.length < 9223372036854775808) :
    Calls Tryz.prog 82 #[ptr rb, .int .u64 (n : Int)] w fun x w' => x = .returned (.slice A n C) ∧ ReaderAt w' rb (behind A C n) (C - n) (l.drop n) 0 G ∧ Keep (fun i => i = rb) w w' := by
  have c0 : w.cell? ⟨rb, 0, none⟩ = some (.slice A l.length C) := by rw [cell_at h.blk]; rfl
  have c1 : w.cell? ⟨rb, 1, none⟩ = some (.int .i64 0) := by rw [cell_at h.blk]; rfl
  have f0 : w.frozen? ⟨rb, 0, none⟩ = false := frozen_at h.blk _
  have hCl : l.length ≤ C := by
    obtain ⟨ao', cap', e, z1, -⟩ := h.bytes.read
    injection e with _ _ e3
    rw [e3]; exact z1
  have hC : n ≤ C := by omega
  have hB := bytes_behind h.bytes hn
  have H := hid h
  have HB := hid hB
  clear h hB
  unfold ptr
  have fin : ∀ (V : Value), V = .slice (behind A C n) (l.drop n).length (C - n) → ReaderAt (w.setCell ⟨rb, 0, none⟩ V) rb (behind A C n) (C - n) (l.drop n) 0 G ∧ Keep (fun i => i = rb) w (w.setCell ⟨rb, 0, none⟩ V) := fun V hV => by
    subst hV
    have hk := (Keep.refl (fun i => i = rb) w).setCell (p := ⟨rb, 0, none⟩) (fun _ => rfl) (.slice (behind A C n) (l.drop n).length (C - n))
    exact ⟨⟨by rw [heap_setCell_self H.out.blk]; rfl, HB.out.keep hk (fun i h e => H.out.apart (e ▸ h)), H.out.apart⟩, hk⟩
  have FIN := hid fin
  clear fin
  by_cases hCn : C = n
  · have hz : n - C = 0 := by omega
    have HV := hid (show (Value.slice A (l.length - n) 0) = .slice (behind A C n) (l.drop n).length (C - n) by unfold behind; rw [if_pos (by omega), List.length_drop, hCn, Nat.sub_self])
    subst hCn
    go_enter Tryz.func82, Tryz.ntmps82
    go_wp2_with fail
    all_goals go_ret
    all_goals exact ⟨rfl, FIN.out _ (by rw [← HV.out, show l.length - C = 0 by omega])⟩
  · have HV := hid (show (Value.slice (A.map (·.add n)) (l.length - n) (C - n)) = .slice (behind A C n) (l.drop n).length (C - n) by unfold behind; rw [if_neg (by omega), List.length_drop])
    go_enter Tryz.func82, Tryz.ntmps82
    go_wp2_with fail
    all_goals go_ret
    all_goals exact ⟨rfl, FIN.out _ HV.out⟩
theorem take_short (h : ReaderAt w rb A C l 0 G) (n : Nat) (hn : l.length < n) (hl : l.length < 9223372036854775808) :
    Calls Tryz.prog 82 #[ptr rb, .int .u64 (n : Int)] w fun x w' => x = .returned (.slice none 0 0) ∧ ReaderAt w' rb none 0 [] 10 G ∧ Keep (fun i => i = rb) w w' := by
  have c0 : w.cell? ⟨rb, 0, none⟩ = some (.slice A l.length C) := by rw [cell_at h.blk]; rfl
  have c1 : w.cell? ⟨rb, 1, none⟩ = some (.int .i64 0) := by rw [cell_at h.blk]; rfl
  have H := hid h
  clear h
  unfold ptr
  go_enter Tryz.func82, Tryz.ntmps82
  go_wp2_with fail
  refine (fail_zero H.out 10 (by decide)).mono ?_
  rintro x w1 ⟨rfl, hR, hK⟩
  have HR := hid hR
  have HK := hid hK
  clear hR hK
  go_wp2_with fail
  all_goals go_ret
  all_goals exact ⟨rfl, HR.out, HK.out⟩
end
end Go.Proofs.YtmdibkafjpglkaaGreatDoor.Num

namespace Go.Proofs.YtmdibkafjpglkaaGreatDoor.Num
open Go Go.RowKit Go.Lib Go.Proofs.YtmdibkafjpglkaaGreatDoor.Dsk

theorem lead_bits : ∀ b : Fin 256, 8 - (Lib.bitLen (255 - b.val) : Int) + 1 = (lead b.val : Int) := by decide +kernel
theorem lz8_any (b : Nat) (h : b < 256) (w : World) : Calls Tryz.prog 88 #[.int .u8 (255 - (b : Int))] w fun e w' => e = .returned (.int .i64 ((lead b : Int) - 1)) ∧ w' = w := by
  have h1 := Go.Proofs.Any.bits_LeadingZeros8 Tryz.lays131 (255 - (b : Int)) w (by omega) (by omega)
  have h2 := lead_bits ⟨b, h⟩
  simp only at h2
  rw [show (255 - (b : Int)).toNat = 255 - b by omega, show (8 : Int) - (Lib.bitLen (255 - b) : Int) = (lead b : Int) - 1 by omega] at h1
  exact h1
theorem takeU_cons (b : UInt8) (t : List UInt8) : takeU (b :: t) = if t.length + 1 < lead b.toNat then (10, 0, []) else if sizeN (fold (b.toNat - headN (lead b.toNat)) (t.take (lead b.toNat - 1))) = lead b.toNat then (0, fold (b.toNat - headN (lead b.toNat)) (t.take (lead b.toNat - 1)), t.drop (lead b.toNat - 1)) else (11, 0, []) := rfl
theorem xor_tab : ∀ b : Fin 256, bits BinOp.xor IntKind.u8 IntKind.u8.max (b.val : Int) = 255 - (b.val : Int) := by decide +kernel
theorem xor_byte (b : Nat) (h : b < 256) : bits BinOp.xor IntKind.u8 IntKind.u8.max (b : Int) = 255 - (b : Int) := xor_tab ⟨b, h⟩
theorem andnot_tab : ∀ b : Fin 256, bits BinOp.andNot IntKind.u8 (b.val : Int) (headN (lead b.val) : Int) = ((b.val - headN (lead b.val) : Nat) : Int) := by decide +kernel
theorem andnot_byte (b : Nat) (h : b < 256) : bits BinOp.andNot IntKind.u8 (b : Int) (headN (lead b) : Int) = ((b - headN (lead b) : Nat) : Int) := andnot_tab ⟨b, h⟩
theorem lead_pos : ∀ b : Fin 256, 1 ≤ lead b.val ∧ lead b.val ≤ 9 ∧ b.val - headN (lead b.val) < 2 ^ (8 - lead b.val) := by decide +kernel
theorem bnd_tab : ∀ k : Fin 10, ∀ j : Fin 9, j.val ≤ k.val - 1 → 2 ^ (8 - k.val) * 256 ^ j.val ≤ 18446744073709551616 := by decide +kernel
theorem drop_one (b : UInt8) (t : List UInt8) : ∀ k, 0 < k → (b :: t).drop k = t.drop (k - 1)
  | _ + 1, _ => rfl
set_option maxRecDepth 100000 in
theorem or_byte (N c : Nat) (h : N * 256 + c < 18446744073709551616) (hc : c < 256) : bits BinOp.or IntKind.u64 ((N : Int) * 256) (c : Int) = ((N * 256 + c : Nat) : Int) := by
  have h1 := Frm.or_add 8 N c hc
  simp only [Nat.reducePow] at h1
  rw [show (N : Int) * 256 = ((N * 256 : Nat) : Int) by omega, u64_or_nat (N * 256) c (by omega) (by omega), Nat.or_comm, h1, Nat.add_comm]
theorem fold_take {q : Nat} {t : List UInt8} {j : Nat} (h : j < t.length) : fold q (t.take (j + 1)) = fold q (t.take j) * 256 + t[j].toNat := by
  unfold fold
  rw [List.take_succ_eq_append_getElem h, List.foldl_append]
  rfl
section
variable {w w' : World} {rb C : Nat} {A : Option Addr} {l : List UInt8} {e : Int} {G F : Nat → Prop}
/-- A reader with an error takes nothing. -/
theorem take_more (h : ReaderAt w rb A C l e G) (he : e ≠ 0) (n : Nat) :
    Calls Tryz.prog 82 #[ptr rb, .int .u64 (n : Int)] w fun x w' => x = .returned (.slice none 0 0) ∧ w' = w := by
  have heb : (e == 0) = false := by rw [beq_eq_false_iff_ne]; exact he
  have hen : (e != 0) = true := by rw [bne_iff_ne]; exact he
  have c0 : w.cell? ⟨rb, 0, none⟩ = some (.slice A l.length C) := by rw [cell_at h.blk]; rfl
  have c1 : w.cell? ⟨rb, 1, none⟩ = some (.int .i64 e) := by rw [cell_at h.blk]; rfl
  have H := hid h
  clear h
  unfold ptr
  go_enter Tryz.func82, Tryz.ntmps82
  go_wp2_with fail
  refine (fail_more H.out he 10).mono ?_
  rintro x w1 ⟨rfl, rfl⟩
  go_wp2_with fail
  all_goals go_ret
  all_goals exact ⟨rfl, rfl⟩
set_option maxRecDepth 100000 in
set_option maxHeartbeats 4000000 in
theorem uint_any (h : ReaderAt w rb A C l 0 G) (hl : l.length < 9223372036854775808) :
    Calls Tryz.prog 60 #[ptr rb] w fun x w' => x = .returned (.int .u64 ((takeU l).2.1 : Int)) ∧ (∃ A' C', ReaderAt w' rb A' C' (takeU l).2.2 (takeU l).1 G) ∧ Keep (fun i => i = rb) w w' := by
  have c0 : w.cell? ⟨rb, 0, none⟩ = some (.slice A l.length C) := by rw [cell_at h.blk]; rfl
  have H := hid h
  cases l with
  | nil =>
    clear h
    unfold ptr
    go_enter Tryz.func60, Tryz.ntmps60
    go_wp2_with fail
    refine (fail_zero H.out 10 (by decide)).mono ?_
    rintro x w1 ⟨rfl, hR, hK⟩
    have HR := hid hR
    have HK := hid hK
    clear hR hK
    go_wp2_with fail
    all_goals go_ret
    all_goals exact ⟨rfl, ⟨_, _, HR.out⟩, HK.out⟩
  | cons b t =>
    obtain ⟨ao', cap', e', z1, -, z3, z4⟩ := h.bytes.read
    injection e' with e1 _ e3
    subst e1 e3
    obtain ⟨a, rfl⟩ : ∃ a, A = some a := by
      cases A with
      | none => have := z3 rfl; cases this
      | some a => exact ⟨a, rfl⟩
    have HGa := hid (z4 a rfl 0 (byteV b) (by simp)).2
    have HZ4 := hid (fun j u h => (z4 a rfl j u h).1)
    have hb0 : w.cell? a = some (byteV b) := by
      have := (z4 a rfl 0 (byteV b) (by simp)).1
      rwa [Addr.add_zero'] at this
    have hbr : b.toNat < 256 := b.toNat_lt
    obtain ⟨k, hk⟩ : ∃ k, lead b.toNat = k := ⟨_, rfl⟩
    have hxor := xor_byte b.toNat hbr
    have hlz := fun w => lz8_any b.toNat hbr w
    have hp := lead_pos ⟨b.toNat, hbr⟩
    have han := andnot_byte b.toNat hbr
    simp only [hk] at hlz hp han
    obtain ⟨q, hq⟩ : ∃ q, b.toNat - headN k = q := ⟨_, rfl⟩
    rw [hq] at hp han
    have hq2 : q < 256 := by omega
    have HQ := hid hq
    have hbn : IntKind.u64.wrap (q : Int) = (q : Int) := IntWalk.u64_in _ (by omega)
    have HLZ := hid hlz
    have HAN := hid han
    have HK := hid hk
    have hk1 : IntKind.i64.wrap ((k : Int) - 1 + 1) = (k : Int) := by rw [show (k : Int) - 1 + 1 = k by omega]; exact IntWalk.i64_in _ (by omega)
    have hk2 : IntKind.u64.wrap (k : Int) = (k : Int) := IntWalk.u64_in _ (by omega)
    have hk0 : ((k : Int) == 0) = false := by rw [beq_eq_false_iff_ne]; omega
    have hk4 : (0 : Int) < (k : Int) := by omega
    have hk5 : 0 < k := by omega
    clear h z3 z4 hlz han hk hbr hq
    unfold byteV at hb0
    unfold ptr
    go_enter Tryz.func60, Tryz.ntmps60
    go_wp2_with fail
    refine (HLZ.out w).mono ?_
    rintro x w1 ⟨rfl, rfl⟩
    go_wp2_with fail
    by_cases hlk : t.length + 1 < k
    · refine (take_short H.out k (by simpa using hlk) hl).mono ?_
      rintro x w2 ⟨rfl, hR, hK⟩
      have HR := hid hR
      have HK2 := hid hK
      clear hR hK
      have HT := hid (show takeU (b :: t) = (10, 0, []) by rw [takeU_cons, HK.out, if_pos hlk])
      go_wp2_with fail
      all_goals go_ret
      all_goals exact ⟨by rw [HT.out]; rfl, ⟨none, 0, by rw [HT.out]; exact HR.out⟩, HK2.out⟩
    · refine (take_ok H.out k (by simp only [List.length_cons]; omega) hl).mono ?_
      rintro x w2 ⟨rfl, hR, hK⟩
      rw [drop_one b t k (by omega)] at hR
      have HR := hid hR
      have HK2 := hid hK
      have hb2 : w2.cell? a = some (.int .u8 (b.toNat : Int)) := by
        rw [hK.cell HGa.out.1 (fun e => H.out.apart (e ▸ HGa.out.2))]; exact hb0
      clear hR hK
      go_wp2_with fail
      refine wp_region_heldi [0, 1, 2, 3] 100 4 (fun w' => w'.cell? a = some (.int .u8 (b.toNat : Int))) (by kernel_rfl) (by kernel_rfl) (by kernel_rfl) hb2 (fun d _ _ _ _ h => by cases d <;> exact h) ?_
      iterate 4 (first | (refine heldI_step rfl rfl (fun w' hS => by (go_simp; with_reducible rfl)) ?_; simp only [Act.put, List.setIfInBounds_toArray, List.set_cons_zero, List.set_cons_succ]) | (refine heldI_want rfl rfl (fun w' hS => by (go_simp; with_reducible rfl)) ?_; simp only [Act.put, List.setIfInBounds_toArray, List.set_cons_zero, List.set_cons_succ]))
      refine heldI_nil ?_
      refine anyZ_next' (j := 4) (by kernel_rfl) rfl rfl ?_
      go_simp
      have kd := keep_drawn' w2 (w2.drawn + 1)
      refine (head_any k (by omega) (by omega) _).mono ?_
      rintro x w3 ⟨rfl, rfl⟩
      refine ⟨hb2, ?_⟩
      have han := HAN.out
      refine heldI_run (t := 0) (by kernel_rfl) (fun d _ _ _ _ h => by cases d <;> exact h) _ hb2 [5, 6, 7] _ _ (by kernel_rfl) ?_
      iterate 3 (first | (refine heldI_step rfl rfl (fun w' hS => by (go_simp; with_reducible rfl)) ?_; simp only [Act.put, List.setIfInBounds_toArray, List.set_cons_zero, List.set_cons_succ]) | (refine heldI_want rfl rfl (fun w' hS => by (go_simp; with_reducible rfl)) ?_; simp only [Act.put, List.setIfInBounds_toArray, List.set_cons_zero, List.set_cons_succ]))
      refine heldI_nil ?_
      refine anyZ_done (by kernel_rfl) ?_
      have hs2 := HK2.out.size
      have HKd := hid (HK2.out.trans kd (fun _ _ h => h.elim))
      have kd' := hid kd
      clear han hb2 hb0 c0 hxor kd
      by_cases hC1 : C = 1
      · have ht0 : t = [] := List.eq_nil_of_length_eq_zero (by simp only [List.length_cons] at z1; omega)
        subst ht0
        have hk10 : k = 1 := by simp only [List.length_nil] at hlk; omega
        subst hk10
        subst hC1
        have hqs : q < 18446744073709551616 := by omega
        go_wp2_with fail
        go_loopw [5, 46] (fun nv jv wr => jv = .int .i64 0 ∧ nv = .int .u64 (q : Int) ∧ Hid (Keep (fun _ => False) w2.drew wr)) (fun _ _ _ => 0)
        case atStart => exact ⟨rfl, rfl, hid (Keep.refl _ _)⟩
        case round =>
          obtain ⟨rfl, rfl, HKr⟩ := hrel
          go_wp2_with fail
          refine (size_any q hqs _).mono ?_
          rintro x w4 ⟨rfl, rfl⟩
          have HRr := hid (HR.out.keep (kd'.out.trans HKr.out (fun _ _ h => h)) (fun h => h) (fun _ _ h => h))
          have HKe := hid (HKd.out.trans HKr.out (fun _ _ h => h.elim))
          by_cases hsz : sizeN q = 1
          · have HT := hid (show takeU [b] = (0, q, []) by rw [takeU_cons, HK.out, HQ.out, if_neg (by simp)]; simp only [Nat.sub_self, List.take_zero, List.drop_zero]; rw [show fold q [] = q from rfl, if_pos hsz])
            have hsi : ((sizeN q : Int) != 1) = false := by rw [bne_eq_false_iff_eq]; omega
            go_wp2_with fail
            all_goals go_ret
            all_goals exact ⟨by rw [HT.out]; rfl, ⟨_, _, by rw [HT.out]; exact HRr.out⟩, HKe.out⟩
          · have HT := hid (show takeU [b] = (11, 0, []) by rw [takeU_cons, HK.out, HQ.out, if_neg (by simp)]; simp only [Nat.sub_self, List.take_zero, List.drop_zero]; rw [show fold q [] = q from rfl, if_neg hsz])
            have hsi : ((sizeN q : Int) != 1) = true := by rw [bne_iff_ne]; omega
            go_wp2_with fail
            refine (fail_zero HRr.out 11 (by decide)).mono ?_
            rintro x w5 ⟨rfl, hR5, hK5⟩
            have HR5 := hid hR5
            have HK5 := hid (HKe.out.trans hK5 (fun _ _ h => h))
            clear hR5 hK5
            go_wp2_with fail
            all_goals go_ret
            all_goals exact ⟨by rw [HT.out]; rfl, ⟨none, 0, by rw [HT.out]; exact HR5.out⟩, HK5.out⟩
      · go_wp2_with fail
        go_loopw [5, 46] (fun nv jv wr => ∃ j N : Nat, jv = .int .i64 (j : Int) ∧ nv = .int .u64 (N : Int) ∧ j ≤ k - 1 ∧ Hid (N = fold q (t.take j)) ∧ N < 2 ^ (8 - k) * 256 ^ j ∧ Hid (Keep (fun _ => False) w2.drew wr)) (fun _ jv _ => (k - 1) - (RowKit.intOf jv).toNat)
        case atStart => exact ⟨0, q, rfl, rfl, by omega, hid rfl, by simpa using hp.2.2, hid (Keep.refl _ _)⟩
        case round =>
          obtain ⟨j, N, rfl, rfl, hj, HN, hNb, HKr⟩ := hrel
          by_cases hjk : j < k - 1
          · have hjt : j < t.length := by omega
            have hcell : wr.cell? ⟨a.block, a.off + 1 + j, none⟩ = some (.int .u8 (t[j].toNat : Int)) := by
              have h1 := HZ4.out (j + 1) (byteV t[j]) (by simp [hjt])
              rw [HKr.out.cell (p := ⟨a.block, a.off + 1 + j, none⟩) (Nat.lt_of_lt_of_le HGa.out.1 HKd.out.size) (fun h => h)]
              refine (HKd.out.cell (p := ⟨a.block, a.off + 1 + j, none⟩) HGa.out.1 (fun e => H.out.apart (e ▸ HGa.out.2))).trans ?_
              rw [show (⟨a.block, a.off + 1 + j, none⟩ : Addr) = a.add (j + 1) by unfold Addr.add; rw [if_neg (by omega)]; congr 1; omega]
              exact h1
            have hc := t[j].toNat_lt
            have hst := fold_take (q := q) hjt
            rw [← HN.out] at hst
            have hB := bnd_tab ⟨k, by omega⟩ ⟨j + 1, by omega⟩ (by simp only; omega)
            simp only [Nat.pow_succ] at hB
            generalize hcc : t[j].toNat = c at *
            have hNB : N * 256 + c < 2 ^ (8 - k) * (256 ^ j * 256) := by rw [← Nat.mul_assoc]; omega
            have hN2 : N * 256 + c < 18446744073709551616 := by omega
            have HST := hid hst
            have hsh : IntKind.u64.wrap ((N : Int) * 256) = (N : Int) * 256 := IntWalk.u64_in _ (by omega)
            have hcw : IntKind.u64.wrap (c : Int) = (c : Int) := IntWalk.u64_in _ (by omega)
            have hor := or_byte N c hN2 hc
            clear hst hB hcc
            go_wp2_with fail
            exact ⟨⟨j + 1, N * 256 + c, by simp, by first | rfl | rw [hor] | simp, by omega, hid HST.out.symm, by rw [Nat.pow_succ]; exact hNB, HKr⟩, by simp [RowKit.intOf]; omega⟩
          · obtain rfl : j = k - 1 := by omega
            have hNs : N < 18446744073709551616 := Nat.lt_of_lt_of_le hNb (bnd_tab ⟨k, by omega⟩ ⟨k - 1, by omega⟩ (Nat.le_refl _))
            go_wp2_with fail
            refine (size_any N hNs _).mono ?_
            rintro x w4 ⟨rfl, rfl⟩
            have HRr := hid (HR.out.keep (kd'.out.trans HKr.out (fun _ _ h => h)) (fun h => h) (fun _ _ h => h))
            have HKe := hid (HKd.out.trans HKr.out (fun _ _ h => h.elim))
            by_cases hsz : sizeN N = k
            · have HT := hid (show takeU (b :: t) = (0, N, t.drop (k - 1)) by rw [takeU_cons, HK.out, HQ.out, ← HN.out, if_neg hlk, if_pos hsz])
              go_wp2_with fail
              all_goals go_ret
              all_goals exact ⟨by rw [HT.out]; rfl, ⟨_, _, by rw [HT.out]; exact HRr.out⟩, HKe.out⟩
            · have HT := hid (show takeU (b :: t) = (11, 0, []) by rw [takeU_cons, HK.out, HQ.out, ← HN.out, if_neg hlk, if_neg hsz])
              have hsi : ((sizeN N : Int) != (k : Int)) = true := by rw [bne_iff_ne]; omega
              go_wp2_with fail
              refine (fail_zero HRr.out 11 (by decide)).mono ?_
              rintro x w5 ⟨rfl, hR5, hK5⟩
              have HR5 := hid hR5
              have HK5 := hid (HKe.out.trans hK5 (fun _ _ h => h))
              clear hR5 hK5
              go_wp2_with fail
              all_goals go_ret
              all_goals exact ⟨by rw [HT.out]; rfl, ⟨none, 0, by rw [HT.out]; exact HR5.out⟩, HK5.out⟩
end
end Go.Proofs.YtmdibkafjpglkaaGreatDoor.Num

namespace Go.Proofs.YtmdibkafjpglkaaGreatDoor.Num
open Go Go.RowKit Go.Lib Go.Proofs.YtmdibkafjpglkaaGreatDoor.Dsk

theorem ofInt_nat (m : Nat) (h : m < 18446744073709551616) : (BitVec.ofInt 64 (m : Int)).toNat = m := by
  rw [BitVec.ofInt_natCast, BitVec.toNat_ofNat]; exact Nat.mod_eq_of_lt (by omega)
theorem xor_ones (m : Nat) (h : m < 9223372036854775808) : bits .xor .i64 (m : Int) (-1) = -(m : Int) - 1 := by
  show IntKind.i64.wrap ((BitVec.ofInt 64 (m : Int) ^^^ BitVec.ofInt 64 (-1)).toNat : Int) = _
  rw [show BitVec.ofInt 64 (-1) = BitVec.allOnes 64 by decide, BitVec.xor_allOnes, BitVec.toNat_not, ofInt_nat m (by omega), IntKind.wrap_i64]
  omega
theorem xor_none (m : Nat) (h : m < 9223372036854775808) : bits .xor .i64 (m : Int) 0 = (m : Int) := by
  show IntKind.i64.wrap ((BitVec.ofInt 64 (m : Int) ^^^ BitVec.ofInt 64 0).toNat : Int) = _
  rw [show BitVec.ofInt 64 0 = 0#64 by decide, BitVec.xor_zero, ofInt_nat m (by omega), IntKind.wrap_i64]
  omega
theorem zag_bits (n : Nat) (h : n < 18446744073709551616) : bits BinOp.xor IntKind.i64 ((n : Int) / 2) (wrap64 (-wrap64 (bits BinOp.and IntKind.u64 (n : Int) 1))) = zag n := by
  have h1 : bits BinOp.and IntKind.u64 (n : Int) 1 = ((n % 2 : Nat) : Int) := by
    have := u64_and_nat n 1 h (by omega)
    rw [Nat.and_one_is_mod] at this
    exact this
  rw [h1]
  unfold zag
  by_cases h2 : n % 2 = 0
  · rw [if_pos h2, h2, show wrap64 (-wrap64 ((0 : Nat) : Int)) = 0 by unfold wrap64; omega]
    exact xor_none (n / 2) (by omega)
  · rw [if_neg h2, show n % 2 = 1 by omega, show wrap64 (-wrap64 ((1 : Nat) : Int)) = -1 by unfold wrap64; omega]
    exact xor_ones (n / 2) (by omega)
theorem fold_lt (t : List UInt8) : ∀ a, fold a t < (a + 1) * 256 ^ t.length := by
  induction t with
  | nil => intro a; simp [fold]
  | cons b t ih =>
    intro a
    have h1 : fold a (b :: t) = fold (a * 256 + b.toNat) t := rfl
    have h2 := ih (a * 256 + b.toNat)
    have h3 := b.toNat_lt
    have h4 : (a * 256 + b.toNat + 1) * 256 ^ t.length ≤ ((a + 1) * 256) * 256 ^ t.length := Nat.mul_le_mul_right _ (by omega)
    rw [h1, List.length_cons, Nat.pow_succ, Nat.mul_comm (256 ^ t.length) 256, ← Nat.mul_assoc]
    omega
theorem bnd_fold : ∀ b : Fin 256, (b.val - headN (lead b.val) + 1) * 256 ^ (lead b.val - 1) ≤ 18446744073709551616 := by decide +kernel
section
variable {w w' : World} {rb C : Nat} {A : Option Addr} {l : List UInt8} {e : Int} {G F : Nat → Prop}
theorem takeU_lt (l : List UInt8) : (takeU l).2.1 < 18446744073709551616 := by
  cases l with
  | nil => exact (by decide : (0 : Nat) < 18446744073709551616)
  | cons b t =>
    rw [takeU_cons]
    split
    · exact (by decide : (0 : Nat) < 18446744073709551616)
    · rename_i hlen
      split
      · have h1 := fold_lt (t.take (lead b.toNat - 1)) (b.toNat - headN (lead b.toNat))
        rw [List.length_take, Nat.min_eq_left (by omega)] at h1
        exact Nat.lt_of_lt_of_le h1 (bnd_fold ⟨b.toNat, b.toNat_lt⟩)
      · exact (by decide : (0 : Nat) < 18446744073709551616)
set_option maxRecDepth 100000 in
theorem int_any (h : ReaderAt w rb A C l 0 G) (hl : l.length < 9223372036854775808) :
    Calls Tryz.prog 23 #[ptr rb] w fun x w' => x = .returned (.int .i64 (zag (takeU l).2.1)) ∧ (∃ A' C', ReaderAt w' rb A' C' (takeU l).2.2 (takeU l).1 G) ∧ Keep (fun i => i = rb) w w' := by
  have H := hid h
  clear h
  unfold ptr
  go_enter Tryz.func23, Tryz.ntmps23
  go_wp2_with fail
  refine (uint_any H.out hl).mono ?_
  rintro x w1 ⟨rfl, hR, hK⟩
  have HR := hid hR
  have HK := hid hK
  have hn := takeU_lt l
  obtain ⟨n, hnn⟩ : ∃ n, (takeU l).2.1 = n := ⟨_, rfl⟩
  rw [hnn] at hn ⊢
  have hz := zag_bits n hn
  have HN := hid hnn
  clear hR hK hnn
  go_wp2_with fail
  go_ret
  exact ⟨by rw [HN.out, ← hz]; rfl, HR.out, HK.out⟩
end
end Go.Proofs.YtmdibkafjpglkaaGreatDoor.Num
