/- keys.May and keys.right, walked. -/
import Derived.Test.YtbjjohfpdphpfaaDoorProg
import Derived.Test.YtbjjohfpdphpfaaDoorKeysPure
import Derived.Test.YtbjjohfpdphpfaaDoorBase
import Derived.WalkKit
import Derived.WalkSpells
import Derived.WalkLawsBesides
import Derived.Below
import Derived.Lib.Hide
import Derived.Test.YtbjjohfpdphpfaaDoorLaysTrim
namespace Go.Proofs.YtbjjohfpdphpfaaDoor
open Go.RowKit Go.Shelf Go.Lib

theorem trim_any (s : ByteArray) (w : World) (hs : s.size ≤ 9223372036854775807) :
    Calls Tryd.prog 44 #[.string s, .string ⟨#[97, 98, 99, 100, 101, 102, 103, 104, 105, 106, 107, 108, 109, 110, 111, 112, 113, 114, 115, 116, 117, 118, 119, 120, 121, 122]⟩] w
      fun e w' => ∃ r : ByteArray, e = .returned (.string r) ∧ r.toList.isEmpty = s.data.toList.all Keys.az ∧ Below w.heap.size w w' := by
  have hcon := Any.strings_Trim_laid Tryd.lays160 (by kernel_rfl) s ⟨#[97, 98, 99, 100, 101, 102, 103, 104, 105, 106, 107, 108, 109, 110, 111, 112, 113, 114, 115, 116, 117, 118, 119, 120, 121, 122]⟩ w hs (by decide) (ascii_of_all (by decide))
  refine hcon.mono fun e w' ⟨h1, h2⟩ => ⟨_, h1, ?_, h2⟩
  rw [← Keys.trim_nil]
  simp [Keys.letters]



def MayPost (s : ByteArray) (w : World) (e : Ending) (w' : World) : Prop := e = .returned (.bool (Keys.isKey s.toList)) ∧ Below w.heap.size w w'

theorem key_short (s : ByteArray) (h : ¬ 0 < s.size) : Keys.isKey s.data.toList = false := by
  have : s.data.toList.length = s.size := by simp
  unfold Keys.isKey
  rw [this]; simp [h]
theorem key_long (s : ByteArray) (h : 200 < (s.size : Int)) : Keys.isKey s.data.toList = false := by
  have : s.data.toList.length = s.size := by simp
  unfold Keys.isKey
  rw [this]; have : ¬ s.size ≤ 200 := by omega
  simp [this]
theorem key_rest (s : ByteArray) (h0 : 0 < s.size) (h1 : (s.size : Int) ≤ 200) (h2 : s.size - 1 < s.size) : Keys.isKey s.data.toList = ((s[s.size - 1].toNat : Int) != 97 && s.data.all Keys.az 0 s.size) := by
  have hl : s.data.toList.length = s.size := by simp
  unfold Keys.isKey
  rw [hl]
  have h1' : s.size ≤ 200 := by omega
  simp only [h0, h1', decide_true, Bool.true_and]
  have e : s.data.toList.getD (s.size - 1) 0 = s[s.size - 1] := by
    rw [List.getD_eq_getElem?_getD, List.getElem?_eq_getElem (by omega)]; rfl
  rw [e]
  congr 1
  · rw [Bool.eq_iff_iff, bne_iff_ne, bne_iff_ne]
    constructor
    · intro h hh; exact h (UInt8.toNat_inj.1 (by simpa using (by exact_mod_cast hh : s[s.size - 1].toNat = 97)))
    · intro h hh; exact h (by rw [hh]; rfl)
  · simp

set_option maxHeartbeats 1000000 in
theorem may_any (s : ByteArray) (w : World) (hs : s.size ≤ 9223372036854775807) :
    Calls Tryd.prog 18 #[.string s] w (MayPost s w) := by
  go_enter Tryd.func18, Tryd.ntmps18
  go_wp2_with (go_at_call 44; refine (trim_any s _ (by assumption)).mono ?_; rintro e w' ⟨r, rfl, hr, hB⟩)
  all_goals go_ret
  · exact ⟨ret_bool (by rw [toList_data, key_rest s (by assumption) (by assumption) (by omega)]; simp [*]), Below.refl _ _⟩
  · exact ⟨ret_bool (by rw [toList_data, key_rest s (by assumption) (by assumption) (by omega)]), by assumption⟩
  · exact ⟨ret_bool (by rw [toList_data, key_long s (by assumption)]), Below.refl _ _⟩
  · exact ⟨ret_bool (by rw [toList_data, key_short s (by assumption)]), Below.refl _ _⟩

def RightPost (a b : ByteArray) (w : World) (e : Ending) (w' : World) : Prop := e = .returned (.bool (Keys.right a b)) ∧ Below w.heap.size w w'

set_option maxHeartbeats 1000000 in
theorem right_any (a b : ByteArray) (w : World) (ha : a.size ≤ 9223372036854775807) (hb : b.size ≤ 9223372036854775807) :
    Calls Tryd.prog 40 #[.string a, .string b] w (RightPost a b w) := by
  go_enter Tryd.func40, Tryd.ntmps40
  go_wp2_with (go_at_call 18; refine (may_any _ _ (by assumption)).mono ?_; rintro e w1 ⟨rfl, hB⟩)
  all_goals go_ret
  all_goals refine ⟨ret_bool ?_, ?_⟩
  any_goals (first | exact Below.refl _ _ | assumption | exact Below.trans (by assumption) (Below.mono (by assumption) (Below.size (by assumption))))
  all_goals
    unfold Keys.right Keys.rightL
    generalize a.toList = x at *
    generalize b.toList = y at *
    clear ha hb
    simp [*, Bool.or_assoc]

end Go.Proofs.YtbjjohfpdphpfaaDoor
