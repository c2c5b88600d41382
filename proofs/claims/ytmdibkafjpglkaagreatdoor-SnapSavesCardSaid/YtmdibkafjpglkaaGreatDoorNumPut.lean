/- A number's bytes, as they are put one behind the other. No program in sight. num.Uint, the writer: walked. num.Uint, the writer: walked. num.Int (of a number that is not negative) and num.Text, the writers: walked. -/
import Derived.Test.YtmdibkafjpglkaaGreatDoorNumPure
import Derived.Test.YtmdibkafjpglkaaGreatDoorNumInt
import Derived.Test.YtmdibkafjpglkaaGreatDoorFrameFrame
import Derived.Laws.CopyRow
import Derived.Laws.IdiomCopy
import Derived.Laws.MakeOwn
import Derived.Lib.AppendStr
namespace Go.Proofs.YtmdibkafjpglkaaGreatDoor.Num
open Go

theorem low_get (j n : Nat) : ∀ i, i < j → (low j n)[i]? = some (UInt8.ofNat (n / 256 ^ (j - 1 - i) % 256)) := by
  induction j with
  | zero => intro i h; omega
  | succ j ih =>
    intro i h
    cases i with
    | zero => simp [low]
    | succ i =>
      simp only [low, List.getElem?_cons_succ]
      rw [ih i (by omega), show j - 1 - i = j + 1 - 1 - (i + 1) by omega]
theorem low_snoc (j n i : Nat) (h : i < j) : (low j n).take (i + 1) = (low j n).take i ++ [UInt8.ofNat (n / 256 ^ (j - 1 - i) % 256)] := by
  rw [List.take_add_one, low_get j n i h]
  rfl
theorem low_all (j n : Nat) : (low j n).take j = low j n := List.take_of_length_le (by rw [low_len]; exact Nat.le_refl _)
theorem or_tab : ∀ k : Fin 10, ∀ x : Fin 128, 1 ≤ k.val → (x.val < 2 ^ (8 - k.val) ∧ k.val ≤ 8 ∨ x.val = 0) → x.val ||| headN k.val = headN k.val + x.val := by decide +kernel
theorem or_head (k x : Nat) (h1 : 1 ≤ k) (h2 : k ≤ 9) (h3 : x < 2 ^ (8 - k) ∧ k ≤ 8 ∨ x = 0) : x ||| headN k = headN k + x := by
  have hx : x < 128 := by
    rcases h3 with ⟨h, -⟩ | h
    · have : 2 ^ (8 - k) ≤ 2 ^ 7 := Nat.pow_le_pow_right (by decide) (by omega)
      omega
    · omega
  exact or_tab ⟨k, by omega⟩ ⟨x, hx⟩ h1 h3
/-- The highest byte is small. -/
theorem top_small (n : Nat) (h : n < 18446744073709551616) : n / 256 ^ (sizeN n - 1) < 2 ^ (8 - sizeN n) ∧ sizeN n ≤ 8 ∨ n / 256 ^ (sizeN n - 1) = 0 := by
  unfold sizeN
  repeat' split
  all_goals simp only [Nat.reduceSub, Nat.reducePow, Nat.div_one, Nat.pow_zero]
  all_goals omega
theorem uintB_or (n : Nat) (h : n < 18446744073709551616) : uintB n = UInt8.ofNat (n / 256 ^ (sizeN n - 1) ||| headN (sizeN n)) :: low (sizeN n - 1) n := by
  have hs := size_pos n
  rw [or_head _ _ hs.1 hs.2 (top_small n h)]
  rfl
theorem low_cons (j n : Nat) (h : 1 ≤ j) : low j n = UInt8.ofNat (n / 256 ^ (j - 1) % 256) :: low (j - 1) n := by
  cases j with
  | zero => omega
  | succ j => rfl
theorem shift_eq (n j : Nat) : n / 2 ^ (8 * j) = n / 256 ^ j := by rw [Nat.pow_mul]
theorem uintB_len (n : Nat) : (uintB n).length = sizeN n := by
  have hs := size_pos n
  unfold uintB
  rw [List.length_cons, low_len]
  omega
end Go.Proofs.YtmdibkafjpglkaaGreatDoor.Num

namespace Go.Proofs.YtmdibkafjpglkaaGreatDoor.Num
open Go Go.RowKit Go.Lib Go.Proofs.YtmdibkafjpglkaaGreatDoor.Dsk Go.Proofs.YtmdibkafjpglkaaGreatDoor.Frm

theorem keep_setRow (w : World) (g : Nat) (cs : Array Value) : Keep (fun i => i = g) w (w.setRow g cs) :=
  ⟨rfl, rfl, rfl, by simp [World.setRow], fun k _ hk => setRow_other w g k cs hk⟩
/-- make, and copy. -/
theorem copy_new (w : World) {ao : Option Addr} {cap : Nat} {l : List UInt8} {G : Nat → Prop} (h : BytesIn w (.slice ao l.length cap) l G) (hl : l.length ≤ 4294967296) :
    ∃ w2, (Builtin.copy_ #[22, 22] 3 #[.slice (some ⟨w.heap.size, 0, none⟩) l.length (l.length + 9), .slice ao l.length cap]).run Tryz.prog (w.alloc (.cells (madeCells #[.int .u8 0] (l.length + 9)) 5)) = .ok (.int .i64 (l.length : Int)) w2 ∧ ByteRow w2 w.heap.size (.slice (some ⟨w.heap.size, 0, none⟩) l.length (l.length + 9)) l ∧ Keep (fun _ => False) w w2 := by
  obtain ⟨i, hi, hz, hsz, hby⟩ := info_parts info_u8
  have hi1 : (Tryz.prog.info? 5).map (·.size) = some 1 := by rw [hi]; exact congrArg some hsz
  have hnew := heap_alloc_new w (.cells (madeCells #[.int .u8 0] (l.length + 9)) 5)
  have hM : maxLen = 9223372036854775807 := rfl
  have ka := (Keep.refl (fun _ => False) w).alloc (.cells (madeCells #[.int .u8 0] (l.length + 9)) 5)
  obtain ⟨ao', cap', e', z1, z2, z3, z4⟩ := h.read
  injection e' with e1 _ e3
  subst e1 e3
  by_cases h0 : l.length = 0
  · obtain rfl : l = [] := List.eq_nil_of_length_eq_zero h0
    refine ⟨_, run_copy_none _ _ _ _ 5 _ _ _ _ _ _ under_bytes hi1 (by simp), ⟨by simp, .inr ⟨w.heap.size, 9, _, rfl, Nat.le_refl _, hnew, by simp, by omega, by rw [size_madeCells]; rfl, by simp⟩⟩, ka⟩
  · obtain ⟨a, rfl⟩ : ∃ a, ao = some a := by
      cases ao with
      | none => exact absurd (by rw [z3 rfl]; rfl) h0
      | some a => exact ⟨a, rfl⟩
    have hr := run_copy_row (P := Tryz.prog) (w.alloc (.cells (madeCells #[.int .u8 0] (l.length + 9)) 5)) 22 22 3 5 w.heap.size 0 l.length (l.length + 9) a l.length cap _ _ (l.map byteV) under_bytes hi1 hnew (by simp) (fun j v hj => by
      obtain ⟨q1, q2, -⟩ := z4 a rfl j v hj
      have e1 : (a.add j).block = a.block := by unfold Addr.add; split <;> rfl
      rw [ka.cell (by rw [e1]; exact q2) (fun h => h)]
      exact q1) (by rw [size_madeCells, List.length_map]; omega) (by
      intro v hv
      obtain ⟨x, -, rfl⟩ := List.mem_map.1 hv
      rfl)
    rw [List.length_map] at hr
    refine ⟨_, hr, ⟨by simp, .inr ⟨w.heap.size, l.length + 9, _, rfl, Nat.le_refl _, setRow_heap _ _ _ _ _ _ hnew, by omega, by omega, ?_, ?_⟩⟩, ka.trans (keep_setRow _ _ _) (fun k hk e => by omega)⟩
    · simp [size_madeCells]
    · simp
/-- A byte of a row of one's own is another. -/
theorem row_set {w : World} {base : Nat} {g n cap : Nat} {l : List UInt8} (h : ByteRow w base (.slice (some ⟨g, 0, none⟩) n cap) l) (j : Nat) (b : UInt8) : ByteRow (w.setCell ⟨g, j, none⟩ (byteV b)) base (.slice (some ⟨g, 0, none⟩) n cap) (l.set j b) := by
  obtain ⟨h1, h2⟩ := h
  rcases h2 with ⟨h2, -⟩ | ⟨g', cap', cur, hv, hg, hh, q1, q2, q3, q4⟩
  · cases h2
  · injection hv with e1 e2 e3
    obtain rfl : g = g' := by injection e1 with e1; injection e1
    subst e2 e3
    refine ⟨by simp, .inr ⟨g, cap, cur.setIfInBounds j (byteV b), by simp, hg, ?_, by simpa using q1, q2, by simpa using q3, ?_⟩⟩
    · rw [setCell_eq_setRow w g j cur _ _ _ hh]
      exact setRow_heap _ _ _ _ _ _ hh
    · rw [List.length_set, Array.toList_setIfInBounds, List.map_set, ← q4, List.take_set]
/-- Where a byte of such a row lies. -/
theorem row_at {w : World} {base : Nat} {v : Value} {l : List UInt8} (h : ByteRow w base v l) (h0 : l ≠ []) : ∃ g cap, v = .slice (some ⟨g, 0, none⟩) l.length cap ∧ base ≤ g ∧ l.length ≤ cap ∧ cap ≤ maxLen ∧ g < w.heap.size ∧ (∀ j, w.frozen? ⟨g, j, none⟩ = false) ∧ ∀ j (hj : j < l.length), w.cell? ⟨g, j, none⟩ = some (byteV l[j]) := by
  rcases own_cell h with ⟨-, h2, -⟩ | ⟨g, cap, e, h2, h3, h4, h5, h6, h7⟩
  · exact absurd (List.eq_nil_of_length_eq_zero h2) h0
  · refine ⟨g, cap, e, h2, h3, h4, h5, ?_, fun j hj => ?_⟩
    · rcases h.2 with ⟨h8, -⟩ | ⟨g', cap', cur, hv, hg, hh, -⟩
      · rw [h8] at e; cases e
      · rw [e] at hv
        injection hv with e1
        obtain rfl : g = g' := by injection e1 with e1; injection e1
        intro j; exact frozen_at hh j
    · have := h7 j (by simpa using hj)
      simpa using this
end Go.Proofs.YtmdibkafjpglkaaGreatDoor.Num

namespace Go.Proofs.YtmdibkafjpglkaaGreatDoor.Num
open Go Go.RowKit Go.Lib Go.Proofs.YtmdibkafjpglkaaGreatDoor.Dsk Go.Proofs.YtmdibkafjpglkaaGreatDoor.Frm

theorem put_byte (n k j : Nat) (h : j < k) : (low k n).take (j + 1) = (low k n).take j ++ [UInt8.ofNat (n / 256 ^ (k - 1 - j) % 256)] ∧ byteV (UInt8.ofNat (n / 256 ^ (k - 1 - j) % 256)) = .int .u8 ((n : Int) / 2 ^ (8 * (k - 1 - j)) % 256) := by
  refine ⟨low_snoc k n j h, ?_⟩
  rw [byteV_ofNat]
  obtain ⟨q, hq⟩ : ∃ q, k - 1 - j = q := ⟨_, rfl⟩
  rw [hq]
  have e1 : ((2 : Int) ^ (8 * q)) = ((256 ^ q : Nat) : Int) := by rw [show (256 : Nat) ^ q = 2 ^ (8 * q) by rw [Nat.pow_mul]]; exact (Int.natCast_pow 2 (8 * q)).symm
  rw [e1, ← Int.natCast_ediv]
  congr 1
  omega
theorem row_more {w : World} {base : Nat} {v : Value} {l t t' : List UInt8} {b : UInt8} {x : Value} (h : w.ownsRow base 5 1 v ((l ++ t).length + 1) ((l ++ t).map byteV ++ #[x].toList)) (hb : t' = t ++ [b] ∧ byteV b = x) : ByteRow w base v (l ++ t') := by
  obtain ⟨rfl, rfl⟩ := hb
  unfold ByteRow
  have e1 : (l ++ (t ++ [b])).length = (l ++ t).length + 1 := by simp only [List.length_append, List.length_cons, List.length_nil]; omega
  have e2 : (l ++ (t ++ [b])).map byteV = (l ++ t).map byteV ++ #[byteV b].toList := by simp
  rw [e1, e2]
  exact h
set_option maxRecDepth 100000 in
set_option maxHeartbeats 4000000 in
theorem put_uint (w : World) {ao : Option Addr} {cap : Nat} {l : List UInt8} {G : Nat → Prop} (h : BytesIn w (.slice ao l.length cap) l G) (hl : l.length ≤ 2147483648) (n : Nat) (hn : n < 18446744073709551616) :
    Calls Tryz.prog 45 #[.slice ao l.length cap, .int .u64 (n : Int)] w fun e w' => ∃ v, e = .returned v ∧ ByteRow w' w.heap.size v (l ++ uintB n) ∧ Keep (fun _ => False) w w' := by
  obtain ⟨w2, hcp, hR, hK⟩ := copy_new w h (by omega)
  have HR2 := hid hR
  have HK2 := hid hK
  obtain ⟨i, hi, hz, hsz, hby⟩ := info_parts info_u8
  have hmk := run_make (P := Tryz.prog) w 22 5 i (.int .u8 0) under_bytes hi hz .i64 .i64 (l.length : Int) ((l.length : Int) + 9) (by omega) (by omega) (by rw [hby]; omega) (by omega)
  rw [hsz, show ((l.length : Int) + 9).toNat * 1 = l.length + 9 by omega, show ((l.length : Int) + 9).toNat = l.length + 9 by omega, show ((l.length : Int)).toNat = l.length by omega] at hmk
  have hcs : ((Value.int IntKind.u8 0).cells) = #[.int .u8 0] := rfl
  rw [hcs] at hmk
  have hw9 : IntKind.i64.wrap ((l.length : Int) + 9) = (l.length : Int) + 9 := IntWalk.i64_in _ (by omega)
  have hsp := size_pos n
  have HL := hid (uintB_or n hn)
  have HT := hid (top_small n hn)
  obtain ⟨k, hk⟩ : ∃ k, sizeN n = k := ⟨_, rfl⟩
  have HSZ := hid (fun w => size_any n hn w)
  rw [hk] at hsp HL HT HSZ
  clear h hR hK hi hz hsz hby hcs hk
  obtain ⟨L, hL⟩ : ∃ L, l.length = L := ⟨_, rfl⟩
  rw [hL] at hmk hw9 hcp HR2 ⊢
  go_enter Tryz.func45, Tryz.ntmps45
  go_wp2_with fail
  refine (HSZ.out w).mono ?_
  rintro x w1 ⟨rfl, rfl⟩
  go_wp2_with fail
  go_loopw [6, 20] (fun v iv wr => ∃ j : Nat, iv = .int .i64 (j : Int) ∧ j ≤ k ∧ Hid (ByteRow wr w1.heap.size v (l ++ (low k n).take j)) ∧ Hid (Keep (fun _ => False) w1 wr)) (fun _ iv _ => k - (RowKit.intOf iv).toNat)
  case atStart => exact ⟨0, rfl, by omega, hid (by simpa using HR2.out), HK2⟩
  case round =>
    obtain ⟨j, rfl, hj, HRr, HKr⟩ := hrel
    by_cases hjk : j < k
    · have hji : (j : Int) < (k : Int) := by omega
      have hs1 : IntKind.i64.wrap ((k : Int) - 1) = ((k - 1 : Nat) : Int) := by rw [show (k : Int) - 1 = ((k - 1 : Nat) : Int) by omega]; exact IntWalk.i64_in _ (by omega)
      have hs2 : IntKind.i64.wrap (((k - 1 : Nat) : Int) - (j : Int)) = ((k - 1 - j : Nat) : Int) := by rw [show ((k - 1 : Nat) : Int) - (j : Int) = ((k - 1 - j : Nat) : Int) by omega]; exact IntWalk.i64_in _ (by omega)
      have hlt : (l ++ (low k n).take j).length ≤ 2147483657 := by rw [List.length_append, List.length_take, low_len]; omega
      have hsz := HKr.out.size
      go_wp2_with (at_builtin; go_must (refine wpList_append_one rfl (.tmp 23) (.tmp 33) 22 5 rfl (.int .u8 0) 1 1 under_bytes info_u8 rfl (by decide) rfl HRr.out rfl rfl ?_ ?_ ?_ ?_ ?_; simp [Value.oneCell']; unfold maxLen; omega; omega; omega; (intro v1 w4 hown1 hB1 hg1)))
      have hRow := row_more hown1 (put_byte n k j hjk)
      have HR4 := hid hRow
      have HK4 := hid (keep_old HKr.out (Keep.of_below (F := fun i => w1.heap.size ≤ i) hB1 (fun _ _ h => h)) (fun _ _ h => h) (fun i hi h => by omega))
      clear hown1 hB1 hg1 hRow
      go_wp2_with fail
      refine ⟨⟨j + 1, rfl, by omega, HR4, HK4⟩, ?_⟩
      show k - ((j : Int) + 1).toNat < k - (j : Int).toNat
      omega
    · obtain rfl : j = k := by omega
      have hR := HRr.out
      rw [low_all] at hR
      have hlc := low_cons j n hsp.1
      have hll := low_len j n
      have hlt : l.length < (l ++ low j n).length := by rw [List.length_append, hll]; omega
      obtain ⟨g, C, rfl, hg, hC, hCm, hgl, hfz, hcl⟩ := row_at hR (by intro h; rw [h] at hlt; simp at hlt)
      have htop : n / 256 ^ (j - 1) < 256 := by
        rcases HT.out with ⟨h, -⟩ | h
        · have : 2 ^ (8 - j) ≤ 2 ^ 8 := Nat.pow_le_pow_right (by decide) (by omega)
          omega
        · omega
      obtain ⟨x, hx⟩ : ∃ x, n / 256 ^ (j - 1) = x := ⟨_, rfl⟩
      have hb := hcl l.length hlt
      have hbv : (l ++ low j n)[l.length] = UInt8.ofNat (x % 256) := by
        rw [List.getElem_append_right (Nat.le_refl _)]
        simp only [hlc, Nat.sub_self, List.getElem_cons_zero, hx]
      rw [hbv, byteV_ofNat, show ((x % 256 : Nat) : Int) % 256 = (x : Int) by omega] at hb
      have hf := hfz l.length
      have hLl : l.length ≤ C := by omega
      have hor : bits BinOp.or IntKind.u8 (x : Int) (headN j : Int) = ((x ||| headN j : Nat) : Int) := u8_or_nat x (headN j) (by omega) (head_tab ⟨j, by omega⟩ hsp.1).1
      have HR := hid hR
      have HFZ := hid hfz
      rw [hL] at hb hf hlt
      have hgn : (l ++ low j n).length = L + j := by rw [List.length_append, hll, hL]
      rw [hgn] at HR hC hlt ⊢
      have hli : (L : Int) < (L : Int) + (j : Int) := by omega
      clear hR hcl hfz hbv hlc hll HRr
      go_wp2_with fail
      refine wp_region_heldi [0, 1, 2, 3, 4, 5] 9 4 (fun w' => w'.cell? ⟨g, L, none⟩ = some (.int .u8 (x : Int))) (by kernel_rfl) (by kernel_rfl) (by kernel_rfl) hb (fun d _ _ _ _ h => by cases d <;> exact h) ?_
      iterate 6 (refine heldI_step rfl rfl (fun w' hS => by (go_simp; with_reducible rfl)) ?_; simp only [Act.put, List.setIfInBounds_toArray, List.set_cons_zero, List.set_cons_succ])
      refine heldI_nil ?_
      refine anyZ_next' (j := 6) (by kernel_rfl) rfl rfl ?_
      go_simp
      have kd := keep_drawn' wr (wr.drawn + 1)
      refine (head_any j hsp.1 hsp.2 _).mono ?_
      rintro y w3 ⟨rfl, rfl⟩
      refine ⟨hb, ?_⟩
      refine heldI_run (t := 1) (by kernel_rfl) (fun d _ _ _ _ h => by cases d <;> exact h) _ hb [7, 8] _ _ (by kernel_rfl) ?_
      iterate 2 (refine heldI_step rfl rfl (fun w' hS => by (go_simp; with_reducible rfl)) ?_; simp only [Act.put, List.setIfInBounds_toArray, List.set_cons_zero, List.set_cons_succ])
      refine heldI_nil ?_
      refine anyZ_last (by kernel_rfl) rfl rfl (by kernel_rfl) ?_
      go_simp
      go_wp2_with fail
      go_ret
      have hE := HL.out
      have hR2 := row_set ((HR.out.keep kd (fun _ _ h => h))) L (UInt8.ofNat (x ||| headN j))
      have hxo : x ||| headN j < 256 := Nat.or_lt_two_pow (n := 8) (by omega) (head_tab ⟨j, by omega⟩ hsp.1).1
      rw [byteV_ofNat, show ((x ||| headN j : Nat) : Int) % 256 = ((x ||| headN j : Nat) : Int) by omega] at hR2
      refine ⟨_, rfl, ?_, keep_old (HKr.out.trans kd (fun _ _ h => h)) ((Keep.refl (fun i => i = g) _).setCell (p := ⟨g, L, none⟩) (fun _ => rfl) _) (fun _ _ h => h) (fun i hi (h : i = g) => by omega)⟩
      rw [hE, hx]
      have hset : (l ++ low j n).set L (UInt8.ofNat (x ||| headN j)) = l ++ UInt8.ofNat (x ||| headN j) :: low (j - 1) n := by
        rw [low_cons j n hsp.1, List.set_append_right _ _ (by omega), hL, Nat.sub_self]
        rfl
      rw [← hset]
      exact hR2
end Go.Proofs.YtmdibkafjpglkaaGreatDoor.Num

namespace Go.Proofs.YtmdibkafjpglkaaGreatDoor.Num
open Go Go.RowKit Go.Lib Go.Proofs.YtmdibkafjpglkaaGreatDoor.Dsk Go.Proofs.YtmdibkafjpglkaaGreatDoor.Frm

theorem bytes_of_row {w : World} {base : Nat} {v : Value} {l : List UInt8} (h : ByteRow w base v l) : BytesIn w v l (fun i => base ≤ i) := h.fb.bytesIn
theorem row_text {w : World} {base n : Nat} {v : Value} {l : List UInt8} {s : ByteArray} (h : w.ownsRow base 5 1 v (n + s.size) (l.map byteV ++ strCells s)) (hn : n = l.length := by rfl) : ByteRow w base v (l ++ s.data.toList) := by
  subst hn
  unfold ByteRow
  have e1 : (l ++ s.data.toList).length = l.length + s.size := by rw [List.length_append]; rfl
  have e2 : (l ++ s.data.toList).map byteV = l.map byteV ++ strCells s := by rw [List.map_append]; rfl
  rw [e1, e2]
  exact h
set_option maxRecDepth 100000 in
theorem put_int (w : World) {ao : Option Addr} {cap : Nat} {l : List UInt8} {G : Nat → Prop} (h : BytesIn w (.slice ao l.length cap) l G) (hl : l.length ≤ 2147483648) (z : Int) (h0 : 0 ≤ z) (h1 : z < 9223372036854775808) :
    Calls Tryz.prog 38 #[.slice ao l.length cap, .int .i64 z] w fun e w' => ∃ v, e = .returned v ∧ ByteRow w' w.heap.size v (l ++ intB z) ∧ Keep (fun _ => False) w w' := by
  obtain ⟨m, rfl⟩ : ∃ m : Nat, z = (m : Int) := ⟨z.toNat, by omega⟩
  have hz : zig (m : Int) = 2 * m := by unfold zig; rw [if_pos h0]; omega
  have hP := put_uint w h hl (2 * m) (by omega)
  have e1 : intB (m : Int) = uintB (2 * m) := by unfold intB; rw [hz]
  rw [e1]
  rw [show ((2 * m : Nat) : Int) = 2 * (m : Int) by omega] at hP
  have HP := hid hP
  clear hP h
  obtain ⟨L, hL⟩ : ∃ L, l.length = L := ⟨_, rfl⟩
  rw [hL] at HP ⊢
  have hx : bits BinOp.xor IntKind.u64 ((m : Int) * 2) ((m : Int) / 9223372036854775808) = ((2 * m : Nat) : Int) := by
    rw [show (m : Int) * 2 = ((2 * m : Nat) : Int) by omega, show (m : Int) / 9223372036854775808 = ((0 : Nat) : Int) by omega]
    have := u64_xor_nat (2 * m) 0 (by omega) (by omega)
    rw [Nat.xor_zero] at this
    exact this
  go_enter Tryz.func38, Tryz.ntmps38
  go_wp2_with fail
  refine HP.out.mono ?_
  rintro x w1 ⟨v, rfl, hR, hK⟩
  have HR := hid hR
  have HK := hid hK
  clear hR hK
  go_wp2_with fail
  all_goals go_ret
  all_goals exact ⟨_, rfl, HR.out, HK.out⟩
set_option maxRecDepth 100000 in
theorem put_text (w : World) {ao : Option Addr} {cap : Nat} {l : List UInt8} {G : Nat → Prop} (h : BytesIn w (.slice ao l.length cap) l G) (hl : l.length ≤ 2147483648) (s : ByteArray) (hs : s.size ≤ 1073741824) :
    Calls Tryz.prog 48 #[.slice ao l.length cap, .string s] w fun e w' => ∃ v, e = .returned v ∧ ByteRow w' w.heap.size v (l ++ uintB s.size ++ s.data.toList) ∧ Keep (fun _ => False) w w' := by
  have HP := hid (put_uint w h hl s.size (by omega))
  obtain ⟨i, hi, hz, hsz, hby⟩ := info_parts info_u8
  have hzl := uintB_len s.size
  have hzp := size_pos s.size
  have hM : maxLen = 9223372036854775807 := rfl
  clear h
  obtain ⟨L, hL⟩ : ∃ L, l.length = L := ⟨_, rfl⟩
  rw [hL] at HP ⊢
  have hc2 : IntKind.u64.wrap (s.size : Int) = (s.size : Int) := IntWalk.u64_in _ (by omega)
  go_enter Tryz.func48, Tryz.ntmps48
  go_wp2_with fail
  refine HP.out.mono ?_
  rintro x w1 ⟨v, rfl, hR, hK⟩
  have HR := hid hR
  have HK := hid hK
  have hs1 := hK.size
  have hlen : (l ++ uintB s.size).length = L + sizeN s.size := by rw [List.length_append, hL, hzl]
  clear hR hK
  go_wp2_with (at_builtin; go_must (refine wpList_append_own_string w1 rfl (.tmp 9) (.tmp 10) 22 9 rfl w.heap.size 5 i under_bytes Tryz.underlying9 hi hz hsz hby v _ _ rfl HR.out s rfl (by omega) (by omega) hs1 ?_; intro v2 w2 hO hG _))
  have HR2 := hid (row_text hO)
  have HK2 := hid (keep_old HK.out (keep_grown (F := fun i => w.heap.size ≤ i) hG (fun g hg => HR.out.own g hg)) (fun _ _ h => h) (fun i hi h => by omega))
  clear hO hG
  all_goals go_ret
  all_goals exact ⟨_, rfl, HR2.out, HK2.out⟩
end Go.Proofs.YtmdibkafjpglkaaGreatDoor.Num
