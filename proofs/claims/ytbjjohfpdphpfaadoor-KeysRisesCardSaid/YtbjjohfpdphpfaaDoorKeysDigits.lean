/- keys.digitsOf, walked: an array of 201 digits. -/
import Derived.Test.YtbjjohfpdphpfaaDoorProg
import Derived.Test.YtbjjohfpdphpfaaDoorKeysPure
import Derived.Test.YtbjjohfpdphpfaaDoorBase
import Derived.WalkKit
import Derived.WalkSpells
import Derived.WalkLawsBesides
import Derived.Below
import Derived.Lib.Hide
import Derived.Laws.Rows
import Derived.Laws.CopyOwn
namespace Go.Proofs.YtbjjohfpdphpfaaDoor
open Go.RowKit Go.Lib

/-- The digits of a text's first k bytes, in an array's cells. -/
def digitArr (l : List UInt8) (k : Nat) : Array Value := Array.ofFn (n := 201) fun i => .int .u8 (if i.val < k then (Keys.digit l i.val : Int) else 0)

theorem digitArr_size (l : List UInt8) (k : Nat) : (digitArr l k).size = 201 := by simp [digitArr]
theorem digitArr_zero (l : List UInt8) : digitArr l 0 = Array.replicate 201 (.int .u8 0) := by
  apply Array.ext
  · simp [digitArr]
  · intro i h1 h2; simp [digitArr]
theorem digitArr_get (l : List UInt8) (k i : Nat) (h : i < 201) : (digitArr l k)[i]? = some (.int .u8 (if i < k then (Keys.digit l i : Int) else 0)) := by
  rw [Array.getElem?_eq_getElem (by rw [digitArr_size]; exact h)]
  simp [digitArr]
theorem digitArr_one (l : List UInt8) (k : Nat) : (digitArr l k).all (·.oneCell') = true := by
  rw [Array.all_eq_true]
  intro i h
  simp [digitArr, Value.oneCell']
theorem digitArr_succ (l : List UInt8) (k : Nat) : (digitArr l k).setIfInBounds k (.int .u8 (Keys.digit l k)) = digitArr l (k + 1) := by
  apply Array.ext
  · simp [digitArr]
  · intro i h1 h2
    rw [Array.getElem_setIfInBounds (by simpa using h1)]
    simp only [digitArr, Array.getElem_ofFn]
    split
    · rename_i h; subst h; simp
    · rename_i h; congr 1
      by_cases hk : i < k
      · rw [if_pos hk, if_pos (by omega)]
      · rw [if_neg hk, if_neg (by omega)]

theorem digitArr_all (s : ByteArray) (i : Nat) (h : i < 201) : (digitArr s.toList s.size)[i]? = some (.int .u8 (Keys.digit s.toList i : Int)) := by
  rw [digitArr_get _ _ _ h]
  by_cases hi : i < s.size
  · rw [if_pos hi]
  · rw [if_neg hi]
    have : s.toList.getD i 97 = 97 := by
      rw [toList_data, List.getD_eq_getElem?_getD, List.getElem?_eq_none (by simpa using hi)]; rfl
    unfold Keys.digit
    rw [this]; rfl

set_option maxRecDepth 100000 in
set_option maxHeartbeats 1000000 in
theorem digits_any (s : ByteArray) (w : World) (hs : s.size ≤ 200) (haz : s.toList.all Keys.az = true) :
    Calls Tryd.prog 41 #[.string s] w fun e w' => e = .returned (.agg (digitArr s.toList s.size)) ∧ Below w.heap.size w w' := by
  go_enter Tryd.func41, Tryd.ntmps41
  go_wp2
  go_loopw [4, 7] (fun u v wr => ∃ (k : Nat) (c : Array Value), k ≤ s.size ∧ v = .int .i64 k ∧ wr = (w.alloc (.cells Tryd.zeroCells62 62)).alloc (.cells c 62) ∧ Hid (c = digitArr s.toList k)) (fun _ v _ => s.size - (intOf v).toNat)
  case atStart => exact ⟨0, _, Nat.zero_le _, rfl, rfl, (digitArr_zero _).symm⟩
  case round =>
    obtain ⟨k, c, hk, rfl, rfl, hc⟩ := hrel
    by_cases hlt : k < s.size
    · have hck : c[k]? = some (.int .u8 0) := by rw [hc.out, digitArr_get _ _ _ (by omega), if_neg (by omega)]
      have hmem : Keys.az s[k] = true := by
        rw [toList_data] at haz
        exact List.all_eq_true.1 haz _ (List.getElem_mem (by simpa using hlt))
      have hb1 : 97 ≤ s[k].toNat := by simp [Keys.az] at hmem; omega
      have hb2 : s[k].toNat ≤ 122 := by simp [Keys.az] at hmem; omega
      have HD : Hid ((s[k].toNat : Int) - 97 = (Keys.digit s.toList k : Int)) := by
        show _ = _
        have : s.toList.getD k 97 = s[k] := by
          rw [toList_data, List.getD_eq_getElem?_getD, List.getElem?_eq_getElem (by simpa using hlt)]; rfl
        unfold Keys.digit
        rw [this]; omega
      clear hmem haz
      go_wp2
      go_roundw
      case rel => exact ⟨k + 1, _, by omega, by go_num, rfl, (by
        show _ = _
        rw [HD.out, hc.out]; exact digitArr_succ _ _)⟩
      case measure => simp [intOf]; omega
    · have hks : k = s.size := by omega
      have hcs : c.size = 201 := by rw [hc.out]; exact digitArr_size _ _
      have hone : c.all (·.oneCell') = true := by rw [hc.out]; exact digitArr_one _ _
      have hres : c = digitArr s.toList s.size := by rw [hc.out, hks]
      clear hks haz hc hk
      have Hcs := Lib.hid hcs
      have Hone := Lib.hid hone
      have Hres := Lib.hid hres
      clear hcs hone hres
      go_wp2_with (first | (refine wpList_load_row rfl 62 _ rfl (w.heap.size + 1) rfl 62 c (0, 0) (.array 201 5) (heap_alloc2_new _ _ _) (by kernel_rfl) rfl (by rw [Hcs.out]; kernel_rfl) ?_) | (refine wpList_store_row rfl 62 _ _ rfl w.heap.size c rfl rfl 62 Tryd.zeroCells62 (heap_alloc2_old _ _ _) (by rw [Hcs.out]; kernel_rfl) (by rw [Hcs.out]; kernel_rfl) Hone.out ?_))
      refine bodyPost_ret (results_cell_row rfl _ _ w.heap.size 62 c (0, 0) (.array 201 5) rfl (setRow_heap _ _ Tryd.zeroCells62 c 62 (0, 0) (heap_alloc2_old _ _ _)) (by kernel_rfl) rfl (by rw [Hcs.out]; kernel_rfl)) rfl ⟨?_, ?_⟩
      · rw [Hres.out]
      · exact below_setRow (((Below.refl _ _).alloc (Nat.le_refl _) _).alloc (by simp) _) (Nat.le_refl _) _

end Go.Proofs.YtbjjohfpdphpfaaDoor
