/- The reference's numbers: Size, Fail: walked. -/
import Derived.Test.YtmdibkafjpglkaaGreatDoorNumInt
namespace Go.Proofs.YtmdibkafjpglkaaGreatDoor.Num
open Go Go.RowKit Go.Lib Go.Proofs.YtmdibkafjpglkaaGreatDoor.Dsk

theorem size_of (n k : Nat) (h1 : 2 ≤ k) (h2 : k ≤ 8) (h3 : 128 ^ (k - 1) ≤ n) (h4 : n < 128 ^ k) : sizeN n = k := by
  have hc : k = 2 ∨ k = 3 ∨ k = 4 ∨ k = 5 ∨ k = 6 ∨ k = 7 ∨ k = 8 := by omega
  rcases hc with rfl | rfl | rfl | rfl | rfl | rfl | rfl
  all_goals
    simp only [Nat.reduceSub, Nat.reducePow] at h3 h4
    unfold sizeN
    repeat' split
    all_goals omega
theorem pow_tab : ∀ k : Fin 10, 2 ≤ k.val → k.val ≤ 8 → 128 ^ (k.val - 1) * 128 = 128 ^ k.val ∧ 128 ^ k.val ≤ 72057594037927936 := by decide +kernel
set_option maxRecDepth 100000 in
theorem rsize_any (n : Nat) (h : n < 18446744073709551616) (w : World) : Calls Tryz.prog 63 #[.int .u64 (n : Int)] w fun e w' => e = .returned (.int .i64 (sizeN n : Int)) ∧ Keep (fun _ => False) w w' := by
  by_cases h0 : n < 128
  · have HN := hid (show sizeN n = 1 by unfold sizeN; rw [if_pos h0])
    go_enter Tryz.func63, Tryz.ntmps63
    go_wp2_with fail
    all_goals go_ret
    all_goals exact ⟨by rw [HN.out]; rfl, Keep.refl _ _⟩
  · go_enter Tryz.func63, Tryz.ntmps63
    go_wp2_with fail
    go_loopw [3, 4] (fun mv kv wr => ∃ k M : Nat, kv = .int .i64 (k : Int) ∧ mv = .int .u64 (M : Int) ∧ 2 ≤ k ∧ k ≤ 9 ∧ Hid (M = 128 ^ (k - 1)) ∧ M ≤ n ∧ Hid (Keep (fun _ => False) w wr)) (fun _ kv _ => 9 - (RowKit.intOf kv).toNat)
    case atStart => exact ⟨2, 128, rfl, rfl, by omega, by omega, hid rfl, by omega, hid (Keep.refl _ _)⟩
    case round =>
      obtain ⟨k, M, rfl, rfl, hk2, hk9, HM, hMn, HK⟩ := hrel
      by_cases hk8 : k ≤ 8
      · have hp := pow_tab ⟨k, by omega⟩ hk2 hk8
        simp only at hp
        rw [← HM.out] at hp
        obtain ⟨P, hP⟩ : ∃ P, 128 ^ k = P := ⟨_, rfl⟩
        rw [hP] at hp
        obtain ⟨hp1, hp2⟩ := hp
        have hw : IntKind.u64.wrap ((M : Int) * 128) = (P : Int) := by rw [show (M : Int) * 128 = (P : Int) by omega]; exact IntWalk.u64_in _ (by omega)
        by_cases hnP : n < P
        · have HN := hid (show sizeN n = k from size_of n k hk2 hk8 (by rw [← HM.out]; exact hMn) (by rw [hP]; exact hnP))
          go_wp2_with fail
          all_goals go_ret
          all_goals exact ⟨by rw [HN.out]; rfl, HK.out⟩
        · have HPk := hid hP
          clear hP
          go_wp2_with fail
          exact ⟨⟨k + 1, P, by simp, by first | rfl | simp, by omega, by omega, hid (by rw [Nat.add_sub_cancel]; exact HPk.out.symm), by omega, HK⟩, by simp [RowKit.intOf]; omega⟩
      · obtain rfl : k = 9 := by omega
        have HN := hid (show sizeN n = 9 by
          have h1 := HM.out
          simp only [Nat.reduceSub, Nat.reducePow] at h1
          unfold sizeN
          repeat' split
          all_goals omega)
        go_wp2_with fail
        all_goals go_ret
        all_goals exact ⟨by rw [HN.out]; rfl, HK.out⟩

/-- The reference's reader. -/
structure RefRAt (w : World) (rb : Nat) (A : Option Addr) (C : Nat) (l : List UInt8) (e : Int) (G : Nat → Prop) : Prop where
  blk : w.heap[rb]? = some (.cells #[.slice A l.length C, .int .i64 e] 34 (0, 0))
  bytes : BytesIn w (.slice A l.length C) l G
  apart : ¬ G rb
section
variable {w w' : World} {rb C : Nat} {A : Option Addr} {l : List UInt8} {e : Int} {G F : Nat → Prop}
theorem RefRAt.keep (h : RefRAt w rb A C l e G) (k : Keep F w w') (hr : ¬ F rb) (hG : ∀ i, G i → ¬ F i) : RefRAt w' rb A C l e G := ⟨k.at h.blk hr, h.bytes.keep k hG, h.apart⟩
theorem slot_two' {cs : Array Value} {t : TypeId} {fr : Nat × Nat} (h : w.heap[rb]? = some (.cells cs t fr)) (hs : cs.size = 2) (x y : Value) : ((w.setCell ⟨rb, 1, none⟩ y).setCell ⟨rb, 0, none⟩ x).heap[rb]? = some (.cells #[x, y] t fr) := by
  obtain ⟨l⟩ := cs
  match l, hs with
  | [a, b], _ =>
    rw [heap_setCell_self (heap_setCell_self h y) x]
    rfl
theorem rfail_zero (h : RefRAt w rb A C l 0 G) (c : Int) (hc : c ≠ 0) :
    Calls Tryz.prog 62 #[ptr rb, .int .i64 c] w fun x w' => x = .returned (.tuple #[]) ∧ RefRAt w' rb none 0 [] c G ∧ Keep (fun i => i = rb) w w' := by
  have hcb : (c == 0) = false := by rw [beq_eq_false_iff_ne]; exact hc
  have hcn : (c != 0) = true := by rw [bne_iff_ne]; exact hc
  have c0 : w.cell? ⟨rb, 0, none⟩ = some (.slice A l.length C) := by rw [cell_at h.blk]; rfl
  have c1 : w.cell? ⟨rb, 1, none⟩ = some (.int .i64 0) := by rw [cell_at h.blk]; rfl
  have f0 : w.frozen? ⟨rb, 0, none⟩ = false := frozen_at h.blk _
  have f1 : w.frozen? ⟨rb, 1, none⟩ = false := frozen_at h.blk _
  have H := hid h
  clear h
  unfold ptr
  go_enter Tryz.func62, Tryz.ntmps62
  go_wp2_with fail
  refine bodyPost_end (results_none rfl _ _ _) rfl ?_
  exact ⟨rfl, ⟨slot_two' H.out.blk rfl _ _, nil_reader _ _, H.out.apart⟩, ((Keep.refl (fun i => i = rb) w).setCell (p := ⟨rb, 1, none⟩) (fun _ => rfl) _).setCell (p := ⟨rb, 0, none⟩) (fun _ => rfl) _⟩
def bitN (j : Nat) : Nat := 128 / 2 ^ (j - 1)
theorem bit_tab : ∀ b : Fin 256, ∀ j : Fin 10, 1 ≤ j.val → j.val < lead b.val → 0 < bitN j.val ∧ bitN j.val ≤ b.val - headN j.val ∧ b.val - headN j.val - bitN j.val = b.val - headN (j.val + 1) ∧ bitN j.val / 2 = bitN (j.val + 1) := by decide +kernel
theorem bit_end : ∀ b : Fin 256, bitN (lead b.val) = 0 ∨ b.val - headN (lead b.val) < bitN (lead b.val) := by decide +kernel
theorem bit_small : ∀ j : Fin 10, bitN j.val ≤ 128 := by decide +kernel
set_option maxRecDepth 100000 in
set_option maxHeartbeats 4000000 in
theorem ruint_any (h : RefRAt w rb A C l 0 G) (hl : l.length < 9223372036854775808) :
    Calls Tryz.prog 33 #[ptr rb] w fun x w' => x = .returned (.int .u64 ((takeU l).2.1 : Int)) ∧ (∃ A' C', RefRAt w' rb A' C' (takeU l).2.2 (takeU l).1 G) ∧ Keep (fun i => i = rb) w w' := by
  have c0 : w.cell? ⟨rb, 0, none⟩ = some (.slice A l.length C) := by rw [cell_at h.blk]; rfl
  have c1 : w.cell? ⟨rb, 1, none⟩ = some (.int .i64 0) := by rw [cell_at h.blk]; rfl
  have f0 : w.frozen? ⟨rb, 0, none⟩ = false := frozen_at h.blk _
  have H := hid h
  cases l with
  | nil =>
    clear h
    unfold ptr
    go_enter Tryz.func33, Tryz.ntmps33
    go_wp2_with fail
    refine (rfail_zero H.out 10 (by decide)).mono ?_
    rintro x w1 ⟨rfl, hR, hK⟩
    have HR := hid hR
    have HK := hid hK
    clear hR hK
    go_wp2_with fail
    all_goals go_ret
    all_goals exact ⟨rfl, ⟨_, _, HR.out⟩, HK.out⟩
  | cons b t =>
    obtain ⟨ao', cap', e', z1, -, z3, z4⟩ := h.bytes.read
    injection e' with e1 _ e3
    subst e1 e3
    obtain ⟨a, rfl⟩ : ∃ a, A = some a := by
      cases A with
      | none => have := z3 rfl; cases this
      | some a => exact ⟨a, rfl⟩
    have HZ4 := hid (fun j u h => (z4 a rfl j u h).1)
    have hb0 : w.cell? a = some (byteV b) := by
      have := (z4 a rfl 0 (byteV b) (by simp)).1
      rwa [Addr.add_zero'] at this
    have hbr : b.toNat < 256 := b.toNat_lt
    obtain ⟨k, hk⟩ : ∃ k, lead b.toNat = k := ⟨_, rfl⟩
    have hp := lead_pos ⟨b.toNat, hbr⟩
    have hbt := bit_tab ⟨b.toNat, hbr⟩
    have hbe := bit_end ⟨b.toNat, hbr⟩
    simp only [hk] at hp hbt hbe
    have HBT := hid hbt
    have HBE := hid hbe
    have HK := hid hk
    have hb3 : IntKind.i64.wrap (b.toNat : Int) = (b.toNat : Int) := IntWalk.i64_in _ (by omega)
    have HB2 := hid (show BytesIn w (.slice (some a) (b :: t).length C) (b :: t) G from H.out.bytes)
    clear h z3 z4 hbt hbe hk
    unfold byteV at hb0
    unfold ptr
    go_enter Tryz.func33, Tryz.ntmps33
    go_wp2_with fail
    go_loopw [3, 4, 5] (fun kv fv bv wr => ∃ j : Nat, kv = .int .i64 (j : Int) ∧ fv = .int .i64 ((b.toNat - headN j : Nat) : Int) ∧ bv = .int .i64 (bitN j : Int) ∧ 1 ≤ j ∧ j ≤ k ∧ wr = w) (fun kv _ _ _ => 10 - (RowKit.intOf kv).toNat)
    case atStart => exact ⟨1, rfl, by simp [headN], by simp [bitN], by omega, by omega, rfl⟩
    case round =>
      obtain ⟨j, rfl, rfl, rfl, hj1, hjk, rfl⟩ := hrel
      have hbs := bit_small ⟨j, by omega⟩
      simp only at hbs
      by_cases hjl : j < k
      · have hx := HBT.out ⟨j, by omega⟩ hj1 hjl
        simp only at hx
        obtain ⟨x1, x2, x3, x4⟩ := hx
        generalize bitN j = B at *
        generalize b.toNat - headN j = F at *
        have hw1 : IntKind.i64.wrap ((F : Int) - (B : Int)) = ((F - B : Nat) : Int) := by rw [show (F : Int) - (B : Int) = ((F - B : Nat) : Int) by omega]; exact IntWalk.i64_in _ (by omega)
        have hw2 : ((B : Int) / 2) = ((B / 2 : Nat) : Int) := by omega
        go_wp2_with fail
        exact ⟨⟨j + 1, by simp, by rw [← x3], by rw [← x4], by omega, by omega, by first | trivial | rfl⟩, by simp [RowKit.intOf]; omega⟩
      · obtain rfl : j = k := by omega
        obtain ⟨q, hq⟩ : ∃ q, b.toNat - headN j = q := ⟨_, rfl⟩
        have hbe := HBE.out
        rw [hq] at hbe hp ⊢
        have hq2 : q < 256 := by omega
        have HQ := hid hq
        generalize bitN j = B at *
        have hgo : ¬ (0 < B ∧ B ≤ q) := by omega
        clear hbe hq
        by_cases hlk : t.length + 1 < j
        · by_cases hB0 : B = 0
          · subst hB0
            go_wp2_with fail
            refine (rfail_zero H.out 10 (by decide)).mono ?_
            rintro x w2 ⟨rfl, hR, hK⟩
            have HR := hid hR
            have HK2 := hid hK
            clear hR hK
            have HT := hid (show takeU (b :: t) = (10, 0, []) by rw [takeU_cons, HK.out, if_pos hlk])
            go_wp2_with fail
            all_goals go_ret
            all_goals exact ⟨by rw [HT.out]; rfl, ⟨none, 0, by rw [HT.out]; exact HR.out⟩, HK2.out⟩
          · have hB1 : 0 < B := by omega
            have hB2 : q < B := by omega
            go_wp2_with fail
            refine (rfail_zero H.out 10 (by decide)).mono ?_
            rintro x w2 ⟨rfl, hR, hK⟩
            have HR := hid hR
            have HK2 := hid hK
            clear hR hK
            have HT := hid (show takeU (b :: t) = (10, 0, []) by rw [takeU_cons, HK.out, if_pos hlk])
            go_wp2_with fail
            all_goals go_ret
            all_goals exact ⟨by rw [HT.out]; rfl, ⟨none, 0, by rw [HT.out]; exact HR.out⟩, HK2.out⟩
        · have hqw : IntKind.u64.wrap (q : Int) = (q : Int) := IntWalk.u64_in _ (by omega)
          by_cases hB0 : B = 0
          · subst hB0
            go_wp2_with fail
            go_loopw [6, 7] (fun nv iv wz => ∃ i N : Nat, iv = .int .i64 (i : Int) ∧ nv = .int .u64 (N : Int) ∧ 1 ≤ i ∧ i ≤ j ∧ Hid (N = fold q (t.take (i - 1))) ∧ N < 2 ^ (8 - j) * 256 ^ (i - 1) ∧ wz = wr) (fun _ iv _ => j - (RowKit.intOf iv).toNat)
            case atStart => exact ⟨1, q, rfl, rfl, by omega, by omega, hid rfl, by simpa using hp.2.2, by first | trivial | rfl⟩
            case round =>
              obtain ⟨i, N, rfl, rfl, hi1, hij, HN, hNb, rfl⟩ := hrel
              by_cases hil : i < j
              · have hjt : i - 1 < t.length := by omega
                have hcell : wr.cell? (a.add i) = some (.int .u8 (t[i - 1].toNat : Int)) := by
                  have h1 := HZ4.out i (byteV t[i - 1]) (by rw [List.getElem?_map, List.getElem?_cons, if_neg (by omega), List.getElem?_eq_getElem hjt]; rfl)
                  exact h1
                have hc := t[i - 1].toNat_lt
                have hst := fold_take (q := q) hjt
                rw [← HN.out, Nat.sub_add_cancel hi1] at hst
                have hB := bnd_tab ⟨j, by omega⟩ ⟨i, by omega⟩ (by simp only; omega)
                simp only at hB
                have hpw : 256 ^ i = 256 ^ (i - 1) * 256 := by
                  obtain ⟨m, rfl⟩ : ∃ m, i = m + 1 := ⟨i - 1, by omega⟩
                  rw [Nat.add_sub_cancel, Nat.pow_succ]
                rw [hpw] at hB
                generalize hcc : t[i - 1].toNat = c at *
                have hNB : N * 256 + c < 2 ^ (8 - j) * (256 ^ (i - 1) * 256) := by rw [← Nat.mul_assoc]; omega
                have hN2 : N * 256 + c < 18446744073709551616 := by omega
                have HST := hid hst
                have HPW := hid hpw
                have hsh : IntKind.u64.wrap ((N : Int) * 256) = (N : Int) * 256 := IntWalk.u64_in _ (by omega)
                have hcw : IntKind.u64.wrap (c : Int) = (c : Int) := IntWalk.u64_in _ (by omega)
                have hsm : IntKind.u64.wrap ((N : Int) * 256 + (c : Int)) = (N : Int) * 256 + (c : Int) := IntWalk.u64_in _ (by omega)
                have hik : (i : Int) < (t.length : Int) + 1 := by omega
                clear hst hB hcc hpw
                go_wp2_with fail
                exact ⟨⟨i + 1, N * 256 + c, by simp, by simp, by omega, by omega, hid (by rw [Nat.add_sub_cancel]; exact HST.out.symm), by rw [Nat.add_sub_cancel, HPW.out]; exact hNB, by first | trivial | rfl⟩, by simp [RowKit.intOf]; omega⟩
              · obtain rfl : i = j := by omega
                have hNs : N < 18446744073709551616 := Nat.lt_of_lt_of_le hNb (bnd_tab ⟨i, by omega⟩ ⟨i - 1, by omega⟩ (Nat.le_refl _))
                go_wp2_with fail
                refine (rsize_any N hNs _).mono ?_
                rintro x w6 ⟨rfl, hK6⟩
                have HK6 := hid hK6
                have HR6 := hid (H.out.keep hK6 (fun h => h) (fun _ _ h => h))
                clear hK6 c0 c1 f0 hb0
                have c0 : w6.cell? ⟨rb, 0, none⟩ = some (.slice (some a) (b :: t).length C) := by rw [cell_at HR6.out.blk]; rfl
                have f0 : w6.frozen? ⟨rb, 0, none⟩ = false := frozen_at HR6.out.blk _
                by_cases hsz : sizeN N = i
                · have HT := hid (show takeU (b :: t) = (0, N, t.drop (i - 1)) by rw [takeU_cons, HK.out, HQ.out, ← HN.out, if_neg hlk, if_pos hsz])
                  have hlen : i ≤ (b :: t).length := by simp only [List.length_cons]; omega
                  have hB := bytes_behind HR6.out.bytes hlen
                  rw [drop_one b t i (by omega)] at hB
                  have HBB := hid hB
                  have fin : ∀ (V : Value), V = .slice (behind (some a) C i) (t.drop (i - 1)).length (C - i) → RefRAt (w6.setCell ⟨rb, 0, none⟩ V) rb (behind (some a) C i) (C - i) (t.drop (i - 1)) 0 G ∧ Keep (fun i => i = rb) w6 (w6.setCell ⟨rb, 0, none⟩ V) := fun V hV => by
                    subst hV
                    have hk := (Keep.refl (fun i => i = rb) w6).setCell (p := ⟨rb, 0, none⟩) (fun _ => rfl) (.slice (behind (some a) C i) (t.drop (i - 1)).length (C - i))
                    exact ⟨⟨by rw [heap_setCell_self HR6.out.blk]; rfl, HBB.out.keep hk (fun i h e => H.out.apart (e ▸ h)), H.out.apart⟩, hk⟩
                  have FIN := hid fin
                  clear fin hB
                  by_cases hCn : C = i
                  · have HV := hid (show (Value.slice (some a) (t.length + 1 - i) 0) = .slice (behind (some a) C i) (t.drop (i - 1)).length (C - i) by unfold behind; rw [if_pos (by omega), List.length_drop, show t.length + 1 - i = t.length - (i - 1) by omega, show C - i = 0 by omega])
                    go_wp2_with fail
                    all_goals go_ret
                    all_goals exact ⟨by rw [HT.out]; rfl, ⟨_, _, by rw [HT.out]; exact (FIN.out _ HV.out).1⟩, (HK6.out.mono (G := fun i => i = rb) (fun _ _ h => h.elim)).trans (FIN.out _ HV.out).2 (fun _ _ h => h)⟩
                  · have HV := hid (show (Value.slice (some (a.add i)) (t.length + 1 - i) (C - i)) = .slice (behind (some a) C i) (t.drop (i - 1)).length (C - i) by unfold behind; rw [if_neg (by omega), List.length_drop, show t.length + 1 - i = t.length - (i - 1) by omega]; rfl)
                    go_wp2_with fail
                    all_goals go_ret
                    all_goals exact ⟨by rw [HT.out]; rfl, ⟨_, _, by rw [HT.out]; exact (FIN.out _ HV.out).1⟩, (HK6.out.mono (G := fun i => i = rb) (fun _ _ h => h.elim)).trans (FIN.out _ HV.out).2 (fun _ _ h => h)⟩
                · have HT := hid (show takeU (b :: t) = (11, 0, []) by rw [takeU_cons, HK.out, HQ.out, ← HN.out, if_neg hlk, if_neg hsz])
                  have hsi : ((sizeN N : Int) != (i : Int)) = true := by rw [bne_iff_ne]; omega
                  go_wp2_with fail
                  refine (rfail_zero HR6.out 11 (by decide)).mono ?_
                  rintro x w7 ⟨rfl, hR7, hK7⟩
                  have HR7 := hid hR7
                  have HK7 := hid ((HK6.out.mono (G := fun i => i = rb) (fun _ _ h => h.elim)).trans hK7 (fun _ _ h => h))
                  clear hR7 hK7
                  go_wp2_with fail
                  all_goals go_ret
                  all_goals exact ⟨by rw [HT.out]; rfl, ⟨none, 0, by rw [HT.out]; exact HR7.out⟩, HK7.out⟩
          · have hB1 : 0 < B := by omega
            have hB2 : q < B := by omega
            go_wp2_with fail
            go_loopw [6, 7] (fun nv iv wz => ∃ i N : Nat, iv = .int .i64 (i : Int) ∧ nv = .int .u64 (N : Int) ∧ 1 ≤ i ∧ i ≤ j ∧ Hid (N = fold q (t.take (i - 1))) ∧ N < 2 ^ (8 - j) * 256 ^ (i - 1) ∧ wz = wr) (fun _ iv _ => j - (RowKit.intOf iv).toNat)
            case atStart => exact ⟨1, q, rfl, rfl, by omega, by omega, hid rfl, by simpa using hp.2.2, by first | trivial | rfl⟩
            case round =>
              obtain ⟨i, N, rfl, rfl, hi1, hij, HN, hNb, rfl⟩ := hrel
              by_cases hil : i < j
              · have hjt : i - 1 < t.length := by omega
                have hcell : wr.cell? (a.add i) = some (.int .u8 (t[i - 1].toNat : Int)) := by
                  have h1 := HZ4.out i (byteV t[i - 1]) (by rw [List.getElem?_map, List.getElem?_cons, if_neg (by omega), List.getElem?_eq_getElem hjt]; rfl)
                  exact h1
                have hc := t[i - 1].toNat_lt
                have hst := fold_take (q := q) hjt
                rw [← HN.out, Nat.sub_add_cancel hi1] at hst
                have hB := bnd_tab ⟨j, by omega⟩ ⟨i, by omega⟩ (by simp only; omega)
                simp only at hB
                have hpw : 256 ^ i = 256 ^ (i - 1) * 256 := by
                  obtain ⟨m, rfl⟩ : ∃ m, i = m + 1 := ⟨i - 1, by omega⟩
                  rw [Nat.add_sub_cancel, Nat.pow_succ]
                rw [hpw] at hB
                generalize hcc : t[i - 1].toNat = c at *
                have hNB : N * 256 + c < 2 ^ (8 - j) * (256 ^ (i - 1) * 256) := by rw [← Nat.mul_assoc]; omega
                have hN2 : N * 256 + c < 18446744073709551616 := by omega
                have HST := hid hst
                have HPW := hid hpw
                have hsh : IntKind.u64.wrap ((N : Int) * 256) = (N : Int) * 256 := IntWalk.u64_in _ (by omega)
                have hcw : IntKind.u64.wrap (c : Int) = (c : Int) := IntWalk.u64_in _ (by omega)
                have hsm : IntKind.u64.wrap ((N : Int) * 256 + (c : Int)) = (N : Int) * 256 + (c : Int) := IntWalk.u64_in _ (by omega)
                have hik : (i : Int) < (t.length : Int) + 1 := by omega
                clear hst hB hcc hpw
                go_wp2_with fail
                exact ⟨⟨i + 1, N * 256 + c, by simp, by simp, by omega, by omega, hid (by rw [Nat.add_sub_cancel]; exact HST.out.symm), by rw [Nat.add_sub_cancel, HPW.out]; exact hNB, by first | trivial | rfl⟩, by simp [RowKit.intOf]; omega⟩
              · obtain rfl : i = j := by omega
                have hNs : N < 18446744073709551616 := Nat.lt_of_lt_of_le hNb (bnd_tab ⟨i, by omega⟩ ⟨i - 1, by omega⟩ (Nat.le_refl _))
                go_wp2_with fail
                refine (rsize_any N hNs _).mono ?_
                rintro x w6 ⟨rfl, hK6⟩
                have HK6 := hid hK6
                have HR6 := hid (H.out.keep hK6 (fun h => h) (fun _ _ h => h))
                clear hK6 c0 c1 f0 hb0
                have c0 : w6.cell? ⟨rb, 0, none⟩ = some (.slice (some a) (b :: t).length C) := by rw [cell_at HR6.out.blk]; rfl
                have f0 : w6.frozen? ⟨rb, 0, none⟩ = false := frozen_at HR6.out.blk _
                by_cases hsz : sizeN N = i
                · have HT := hid (show takeU (b :: t) = (0, N, t.drop (i - 1)) by rw [takeU_cons, HK.out, HQ.out, ← HN.out, if_neg hlk, if_pos hsz])
                  have hlen : i ≤ (b :: t).length := by simp only [List.length_cons]; omega
                  have hB := bytes_behind HR6.out.bytes hlen
                  rw [drop_one b t i (by omega)] at hB
                  have HBB := hid hB
                  have fin : ∀ (V : Value), V = .slice (behind (some a) C i) (t.drop (i - 1)).length (C - i) → RefRAt (w6.setCell ⟨rb, 0, none⟩ V) rb (behind (some a) C i) (C - i) (t.drop (i - 1)) 0 G ∧ Keep (fun i => i = rb) w6 (w6.setCell ⟨rb, 0, none⟩ V) := fun V hV => by
                    subst hV
                    have hk := (Keep.refl (fun i => i = rb) w6).setCell (p := ⟨rb, 0, none⟩) (fun _ => rfl) (.slice (behind (some a) C i) (t.drop (i - 1)).length (C - i))
                    exact ⟨⟨by rw [heap_setCell_self HR6.out.blk]; rfl, HBB.out.keep hk (fun i h e => H.out.apart (e ▸ h)), H.out.apart⟩, hk⟩
                  have FIN := hid fin
                  clear fin hB
                  by_cases hCn : C = i
                  · have HV := hid (show (Value.slice (some a) (t.length + 1 - i) 0) = .slice (behind (some a) C i) (t.drop (i - 1)).length (C - i) by unfold behind; rw [if_pos (by omega), List.length_drop, show t.length + 1 - i = t.length - (i - 1) by omega, show C - i = 0 by omega])
                    go_wp2_with fail
                    all_goals go_ret
                    all_goals exact ⟨by rw [HT.out]; rfl, ⟨_, _, by rw [HT.out]; exact (FIN.out _ HV.out).1⟩, (HK6.out.mono (G := fun i => i = rb) (fun _ _ h => h.elim)).trans (FIN.out _ HV.out).2 (fun _ _ h => h)⟩
                  · have HV := hid (show (Value.slice (some (a.add i)) (t.length + 1 - i) (C - i)) = .slice (behind (some a) C i) (t.drop (i - 1)).length (C - i) by unfold behind; rw [if_neg (by omega), List.length_drop, show t.length + 1 - i = t.length - (i - 1) by omega]; rfl)
                    go_wp2_with fail
                    all_goals go_ret
                    all_goals exact ⟨by rw [HT.out]; rfl, ⟨_, _, by rw [HT.out]; exact (FIN.out _ HV.out).1⟩, (HK6.out.mono (G := fun i => i = rb) (fun _ _ h => h.elim)).trans (FIN.out _ HV.out).2 (fun _ _ h => h)⟩
                · have HT := hid (show takeU (b :: t) = (11, 0, []) by rw [takeU_cons, HK.out, HQ.out, ← HN.out, if_neg hlk, if_neg hsz])
                  have hsi : ((sizeN N : Int) != (i : Int)) = true := by rw [bne_iff_ne]; omega
                  go_wp2_with fail
                  refine (rfail_zero HR6.out 11 (by decide)).mono ?_
                  rintro x w7 ⟨rfl, hR7, hK7⟩
                  have HR7 := hid hR7
                  have HK7 := hid ((HK6.out.mono (G := fun i => i = rb) (fun _ _ h => h.elim)).trans hK7 (fun _ _ h => h))
                  clear hR7 hK7
                  go_wp2_with fail
                  all_goals go_ret
                  all_goals exact ⟨by rw [HT.out]; rfl, ⟨none, 0, by rw [HT.out]; exact HR7.out⟩, HK7.out⟩
set_option maxRecDepth 100000 in
theorem rint_any (h : RefRAt w rb A C l 0 G) (hl : l.length < 9223372036854775808) :
    Calls Tryz.prog 11 #[ptr rb] w fun x w' => x = .returned (.int .i64 (zag (takeU l).2.1)) ∧ (∃ A' C', RefRAt w' rb A' C' (takeU l).2.2 (takeU l).1 G) ∧ Keep (fun i => i = rb) w w' := by
  have H := hid h
  clear h
  unfold ptr
  go_enter Tryz.func11, Tryz.ntmps11
  go_wp2_with fail
  refine (ruint_any H.out hl).mono ?_
  rintro x w1 ⟨rfl, hR, hK⟩
  have HR := hid hR
  have HK := hid hK
  have hn := takeU_lt l
  obtain ⟨n, hnn⟩ : ∃ n, (takeU l).2.1 = n := ⟨_, rfl⟩
  rw [hnn] at hn ⊢
  have HN := hid hnn
  clear hR hK hnn
  have hh : (n : Int) / 2 = ((n / 2 : Nat) : Int) := by omega
  have hw : IntKind.i64.wrap ((n : Int) / 2) = (n : Int) / 2 := IntWalk.i64_in _ (by omega)
  have HH := hid hh
  clear hh
  by_cases h2 : n % 2 = 0
  · have hz : zag n = ((n / 2 : Nat) : Int) := by unfold zag; rw [if_pos h2]
    have hm : (n : Int) % 2 = 0 := by omega
    have HZ := hid hz
    clear hz
    go_wp2_with fail
    all_goals go_ret
    all_goals exact ⟨by rw [HN.out, HZ.out]; rfl, HR.out, HK.out⟩
  · have hz : zag n = -((n / 2 : Nat) : Int) - 1 := by unfold zag; rw [if_neg h2]
    have hm : (n : Int) % 2 = 1 := by omega
    have HZ := hid hz
    clear hz
    have hw2 : IntKind.i64.wrap (-((n : Int) / 2)) = -((n : Int) / 2) := IntWalk.i64_in _ (by omega)
    have hw3 : IntKind.i64.wrap (-((n : Int) / 2) - 1) = -((n : Int) / 2) - 1 := IntWalk.i64_in _ (by omega)
    go_wp2_with fail
    all_goals go_ret
    all_goals exact ⟨by rw [HN.out, HZ.out, ← HH.out]; rfl, HR.out, HK.out⟩
end
end Go.Proofs.YtmdibkafjpglkaaGreatDoor.Num
