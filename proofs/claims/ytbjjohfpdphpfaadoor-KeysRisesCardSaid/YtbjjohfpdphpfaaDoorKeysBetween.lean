/- keys.Between, walked: what it computes is 'Keys.between'. -/
import Derived.Test.YtbjjohfpdphpfaaDoorKeysMay
import Derived.Test.YtbjjohfpdphpfaaDoorKeysDigits
import Derived.Laws.IdiomStrings
import Derived.OwnWalk
import Derived.Laws.AppendOwn
import Derived.Test.YtbjjohfpdphpfaaDoorSlices
namespace Go.Proofs.YtbjjohfpdphpfaaDoor
open Go.RowKit Go.Lib

def BetweenPost (a b : ByteArray) (w : World) (e : Ending) (w' : World) : Prop :=
  e = .returned (.tuple #[.string ⟨(Keys.between a.toList b.toList).1.toArray⟩, .int .i64 (Keys.between a.toList b.toList).2]) ∧ Below w.heap.size w w'

theorem byteV_of (d : Nat) (h : d ≤ 158) (e : Int) (he : e = 97 + (d : Int)) : Value.int .u8 e = byteV (Keys.letter d) := by
  unfold byteV Keys.letter
  rw [UInt8.toNat_ofNat_of_lt' (by rw [show UInt8.size = 256 from rfl]; omega), he]
  rfl

theorem between_of {a b : List UInt8} (h : Keys.rightL a b = true) {k : List UInt8} (hg : Keys.go a b 200 0 b.isEmpty [] = some k) : Keys.between a b = (k, 0) := by
  unfold Keys.between; rw [if_pos h, hg]
theorem between_no {a b : List UInt8} (h : Keys.rightL a b = true) (hg : Keys.go a b 200 0 b.isEmpty [] = none) : Keys.between a b = ([], 43) := by
  unfold Keys.between; rw [if_pos h, hg]

set_option maxRecDepth 100000 in
set_option maxHeartbeats 1000000 in
theorem between_any (a b : ByteArray) (w : World) (ha : a.size ≤ 9223372036854775807) (hb : b.size ≤ 9223372036854775807) :
    Calls Tryd.prog 16 #[.string a, .string b] w (BetweenPost a b w) := by
  by_cases hr : Keys.right a b = true
  · go_enter Tryd.func16, Tryd.ntmps16
    obtain ⟨haz, hbz, hal, hbl⟩ := Keys.rightL_az hr
    have hr' : Hid (Keys.rightL a.toList b.toList = true) := hr
    have hbig : ∀ l : ByteArray, l.toList.length = l.size := fun l => by rw [toList_data]; simp
    rw [hbig] at hal hbl
    have Haz := Lib.hid haz
    have Hbz := Lib.hid hbz
    clear haz hbz hbig
    go_wp2_with fail
    refine (right_any _ _ _ ha hb).mono ?_
    rintro e w1 ⟨rfl, hB1⟩
    go_wp2_with fail
    refine (digits_any a _ hal Haz.out).mono ?_
    rintro e w2 ⟨rfl, hB2⟩
    go_wp2_with fail
    refine (digits_any b _ hbl Hbz.out).mono ?_
    rintro e w3 ⟨rfl, hB3⟩
    dsimp only
    iterate 7 go_step
    refine wpList_store_row rfl 62 (.tmp 6) (.tmp 18) rfl w3.heap.size (digitArr a.toList a.size) rfl rfl 62 Tryd.zeroCells62 (heap_alloc2_old _ _ _) (by rw [digitArr_size]; kernel_rfl) (by rw [digitArr_size]; kernel_rfl) (digitArr_one _ _) ?_
    refine wpList_store_row rfl 62 (.tmp 7) (.tmp 20) rfl (w3.heap.size + 1) (digitArr b.toList b.size) rfl rfl 62 Tryd.zeroCells62 (by rw [setRow_other _ _ _ _ (by omega)]; exact heap_alloc2_new _ _ _) (by rw [digitArr_size]; kernel_rfl) (by rw [digitArr_size]; kernel_rfl) (digitArr_one _ _) ?_
    have hx : ((((w3.alloc (Obj.cells Tryd.zeroCells62 62)).alloc (Obj.cells Tryd.zeroCells62 62)).setRow w3.heap.size (digitArr a.toList a.size)).setRow (w3.heap.size + 1) (digitArr b.toList b.size)).heap[w3.heap.size]? = some (.cells (digitArr a.toList a.size) 62 (0, 0)) := by
      rw [setRow_other _ _ _ _ (by omega)]; exact setRow_heap _ _ Tryd.zeroCells62 _ _ _ (heap_alloc2_old _ _ _)
    have hy : ((((w3.alloc (Obj.cells Tryd.zeroCells62 62)).alloc (Obj.cells Tryd.zeroCells62 62)).setRow w3.heap.size (digitArr a.toList a.size)).setRow (w3.heap.size + 1) (digitArr b.toList b.size)).heap[w3.heap.size + 1]? = some (.cells (digitArr b.toList b.size) 62 (0, 0)) :=
      setRow_heap _ _ Tryd.zeroCells62 _ _ _ (by rw [setRow_other _ _ _ _ (by omega)]; exact heap_alloc2_new _ _ _)
    have hB4 : Below w.heap.size w ((((w3.alloc (Obj.cells Tryd.zeroCells62 62)).alloc (Obj.cells Tryd.zeroCells62 62)).setRow w3.heap.size (digitArr a.toList a.size)).setRow (w3.heap.size + 1) (digitArr b.toList b.size)) := by
      have s1 := hB1.size; have s2 := hB2.size; have s3 := hB3.size
      have h3 : Below w.heap.size w w3 := (hB1.trans (hB2.mono s1)).trans (hB3.mono (by omega))
      exact below_setRow (below_setRow ((h3.alloc (by omega) _).alloc (by simp; omega) _) (by omega) _) (by omega) _
    have hsz : ((((w3.alloc (Obj.cells Tryd.zeroCells62 62)).alloc (Obj.cells Tryd.zeroCells62 62)).setRow w3.heap.size (digitArr a.toList a.size)).setRow (w3.heap.size + 1) (digitArr b.toList b.size)).heap.size = w3.heap.size + 2 := by simp
    generalize ((((w3.alloc (Obj.cells Tryd.zeroCells62 62)).alloc (Obj.cells Tryd.zeroCells62 62)).setRow w3.heap.size (digitArr a.toList a.size)).setRow (w3.heap.size + 1) (digitArr b.toList b.size)) = W at hx hy hB4 hsz ⊢
    have hwB : w.heap.size ≤ w3.heap.size := by have s1 := hB1.size; have s2 := hB2.size; have s3 := hB3.size; omega
    clear hB1 hB2 hB3 hr
    generalize w3.heap.size = B at hx hy hsz hwB ⊢
    have Hx := Lib.hid hx
    have Hy := Lib.hid hy
    have Hsz := Lib.hid hsz
    clear hx hy hsz
    dsimp only [Act.put]
    obtain ⟨i0, hi, hz0, hz1, hz2⟩ := info_parts info_u8
    go_wp2_with fail
    go_loopw [8, 9, 23] (fun op v i wr => ∃ (k : Nat) (ob : Bool) (out : List UInt8), k ≤ 200 ∧ i = .int .i64 k ∧ op = .bool ob ∧ out.length = k ∧ wr.ownsRow (B + 2) 5 1 v k (out.map byteV) ∧ Below (B + 2) W wr ∧ Hid (Keys.go a.toList b.toList (200 - k) k ob out = Keys.go a.toList b.toList 200 0 b.toList.isEmpty [])) (fun _ _ i _ => 200 - (RowKit.intOf i).toNat)
    case atStart => exact ⟨0, _, [], by omega, rfl, rfl, rfl, ⟨rfl, .inl ⟨rfl, rfl⟩⟩, Below.refl _ _, rfl⟩
    case round =>
      rename_i wr
      obtain ⟨k, ob, out, hk, rfl, rfl, hlen, hown, hbel, hgo⟩ := hrel
      have Hlen := Lib.hid hlen
      clear hlen
      by_cases hlt : k < 200
      · have hcx : wr.cell? ⟨B, k, none⟩ = some (.int .u8 (Keys.digit a.toList k : Int)) := by
          rw [hbel.cell (by simp), cell_of_row _ _ _ _ _ _ Hx.out, digitArr_all _ _ (by omega)]
        have hcy : wr.cell? ⟨B + 1, k, none⟩ = some (.int .u8 (Keys.digit b.toList k : Int)) := by
          rw [hbel.cell (by simp), cell_of_row _ _ _ _ _ _ Hy.out, digitArr_all _ _ (by omega)]
        have hda := Keys.digit_le a.toList k
        have hdb := Keys.digit_le b.toList k
        have hA : Below w.heap.size w wr := hB4.trans (hbel.mono (by omega))
        have hsW : B + 2 ≤ wr.heap.size := by have := hbel.size; have := Hsz.out; omega
        obtain ⟨da, hda'⟩ : ∃ d, d = Keys.digit a.toList k := ⟨_, rfl⟩
        obtain ⟨db, hdb'⟩ : ∃ d, d = Keys.digit b.toList k := ⟨_, rfl⟩
        rw [← hda'] at hcx hda
        rw [← hdb'] at hcy hdb
        have Hda := Lib.hid hda'
        have Hdb := Lib.hid hdb'
        clear hda' hdb'
        have hgo' := hgo.out
        rw [show 200 - k = (200 - (k + 1)) + 1 from by omega] at hgo'
        cases ob with
        | true =>
          by_cases hd : da + 1 < 26
          · have Hgo := Lib.hid hgo'
            clear hgo hgo'
            have hres : Keys.go a.toList b.toList 200 0 b.toList.isEmpty [] = some (out ++ [Keys.letter ((da + 26) / 2)]) := by
              have hu : Keys.upper b.toList k true = 26 := rfl
              rw [← Hgo.out, Keys.go_stop (by rw [hu, ← Hda.out]; exact hd), hu, ← Hda.out]
            have Hres := Lib.hid (between_of hr'.out hres)
            clear hres
            go_wp2_with (first | (at_builtin; go_must (refine wpList_append_one rfl (.tmp 39) (.tmp 46) 33 5 rfl (.int .u8 0) 1 1 Tryd.underlying33 info_u8 rfl (by decide) rfl hown rfl rfl ?_ ?_ ?_ ?_ ?_; simp [Value.oneCell']; unfold maxLen; omega; omega; omega; (intro v1 w1 hown1 hB1 hg1; rw [byteV_of ((da + 26) / 2) (by omega) _ (by omega)] at hown1))) | ((with_reducible refine wpl_here ?_); refine wpList_string_own rfl 33 9 5 (.tmp 47) rfl Tryd.underlying33 Tryd.underlying5 Tryd.underlying9 (l := out ++ [Keys.letter ((da + 26) / 2)]) rfl (by rw [List.map_append]; exact hown1) ?_))
            go_ret2
            exact ⟨ret_val (by rw [Hres.out]; rfl), hA.trans (hB1.mono (by omega))⟩
          · clear hgo
            have hu : Keys.upper b.toList k true = 26 := rfl
            rw [Keys.go_step (by rw [hu, ← Hda.out]; exact hd), hu, ← Hda.out] at hgo'
            have Hgo := Lib.hid hgo'
            clear hgo' hu
            go_wp2_with (first | (at_builtin; go_must (refine wpList_append_one rfl (.tmp 56) (.tmp 60) 33 5 rfl (.int .u8 0) 1 1 Tryd.underlying33 info_u8 rfl (by decide) rfl hown rfl rfl ?_ ?_ ?_ ?_ ?_; simp [Value.oneCell']; unfold maxLen; omega; omega; omega; (intro v1 w1 hown1 hB1 hg1; rw [byteV_of da (by omega) _ (by omega)] at hown1)))) 
            go_roundw
            case rel => exact ⟨k + 1, _, out ++ [Keys.letter da], by omega, by go_num, rfl, by simp [Hlen.out], by rw [List.map_append]; exact hown1, hbel.trans hB1, Hgo.out⟩
            case measure => simp [RowKit.intOf]; omega
        | false =>
          by_cases hd : da + 1 < db
          · have Hgo := Lib.hid hgo'
            clear hgo hgo'
            have hres : Keys.go a.toList b.toList 200 0 b.toList.isEmpty [] = some (out ++ [Keys.letter ((da + db) / 2)]) := by
              have hu : Keys.upper b.toList k false = db := Hdb.out.symm
              rw [← Hgo.out, Keys.go_stop (by rw [hu, ← Hda.out]; exact hd), hu, ← Hda.out]
            have Hres := Lib.hid (between_of hr'.out hres)
            clear hres
            go_wp2_with (first | (at_builtin; go_must (refine wpList_append_one rfl (.tmp 39) (.tmp 46) 33 5 rfl (.int .u8 0) 1 1 Tryd.underlying33 info_u8 rfl (by decide) rfl hown rfl rfl ?_ ?_ ?_ ?_ ?_; simp [Value.oneCell']; unfold maxLen; omega; omega; omega; (intro v1 w1 hown1 hB1 hg1; rw [byteV_of ((da + db) / 2) (by omega) _ (by omega)] at hown1))) | ((with_reducible refine wpl_here ?_); refine wpList_string_own rfl 33 9 5 (.tmp 47) rfl Tryd.underlying33 Tryd.underlying5 Tryd.underlying9 (l := out ++ [Keys.letter ((da + db) / 2)]) rfl (by rw [List.map_append]; exact hown1) ?_))
            go_ret2
            exact ⟨ret_val (by rw [Hres.out]; rfl), hA.trans (hB1.mono (by omega))⟩
          · clear hgo
            have hu : Keys.upper b.toList k false = db := Hdb.out.symm
            rw [Keys.go_step (by rw [hu, ← Hda.out]; exact hd), hu, ← Hda.out] at hgo'
            have Hgo := Lib.hid hgo'
            clear hgo' hu
            by_cases heq : db = da + 1
            · have hq : ((db : Int) - (da : Int) == 1) = true := by rw [beq_iff_eq]; omega
              have Heq := Lib.hid heq
              clear heq
              go_wp2_with (first | (at_builtin; go_must (refine wpList_append_one rfl (.tmp 56) (.tmp 60) 33 5 rfl (.int .u8 0) 1 1 Tryd.underlying33 info_u8 rfl (by decide) rfl hown rfl rfl ?_ ?_ ?_ ?_ ?_; simp [Value.oneCell']; unfold maxLen; omega; omega; omega; (intro v1 w1 hown1 hB1 hg1; rw [byteV_of da (by omega) _ (by omega)] at hown1)))) 
              go_roundw
              case rel => exact ⟨k + 1, _, out ++ [Keys.letter da], by omega, by go_num, rfl, by simp [Hlen.out], by rw [List.map_append]; exact hown1, hbel.trans hB1, by have := Hgo.out; rw [show (false || db == da + 1) = true from by simp [Heq.out]] at this; exact this⟩
              case measure => simp [RowKit.intOf]; omega
            · have hq : ((db : Int) - (da : Int) == 1) = false := by rw [beq_eq_false_iff_ne]; omega
              have Heq := Lib.hid heq
              clear heq
              go_wp2_with (first | (at_builtin; go_must (refine wpList_append_one rfl (.tmp 56) (.tmp 60) 33 5 rfl (.int .u8 0) 1 1 Tryd.underlying33 info_u8 rfl (by decide) rfl hown rfl rfl ?_ ?_ ?_ ?_ ?_; simp [Value.oneCell']; unfold maxLen; omega; omega; omega; (intro v1 w1 hown1 hB1 hg1; rw [byteV_of da (by omega) _ (by omega)] at hown1)))) 
              go_roundw
              case rel => exact ⟨k + 1, _, out ++ [Keys.letter da], by omega, by go_num, rfl, by simp [Hlen.out], by rw [List.map_append]; exact hown1, hbel.trans hB1, by have := Hgo.out; rw [show (false || db == da + 1) = false from by simp [Heq.out]] at this; exact this⟩
              case measure => simp [RowKit.intOf]; omega
      · have hk2 : k = 200 := by omega
        have hres : Keys.go a.toList b.toList 200 0 b.toList.isEmpty [] = none := by rw [← hgo.out, hk2]; rfl
        have Hres := Lib.hid (between_no hr'.out hres)
        clear hres hk2 hgo
        have hA : Below w.heap.size w wr := hB4.trans (hbel.mono (by omega))
        go_wp2_with fail
        go_ret2
        exact ⟨ret_val (by rw [Hres.out]; rfl), hA⟩
  · go_enter Tryd.func16, Tryd.ntmps16
    have hf : Keys.right a b = false := by simpa using hr
    go_wp2_with (first | (go_at_call 40; refine (right_any _ _ _ (by assumption) (by assumption)).mono ?_; rintro e w1 ⟨rfl, hB1⟩))
    go_ret2
    refine ⟨ret_val ?_, by assumption⟩
    have : Keys.between a.toList b.toList = ([], 43) := by unfold Keys.between; rw [if_neg (by unfold Keys.right at hr; exact hr)]
    rw [this]; rfl

end Go.Proofs.YtbjjohfpdphpfaaDoor
