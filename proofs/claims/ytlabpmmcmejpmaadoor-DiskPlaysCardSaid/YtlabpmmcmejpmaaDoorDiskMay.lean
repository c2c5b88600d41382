/- disk.may, walked: what may be a file's name. -/
import Derived.Test.YtlabpmmcmejpmaaDoorDiskSmall2
namespace Go.Proofs.YtlabpmmcmejpmaaDoor.Dsk
open Go Go.RowKit Go.Lib Go.Shelf

def letters : List UInt8 := [45, 46, 48, 49, 50, 51, 52, 53, 54, 55, 56, 57, 65, 66, 67, 68, 69, 70, 71, 72, 73, 74, 75, 76, 77, 78, 79, 80, 81, 82, 83, 84, 85, 86, 87, 88, 89, 90, 97, 98, 99, 100, 101, 102, 103, 104, 105, 106, 107, 108, 109, 110, 111, 112, 113, 114, 115, 116, 117, 118, 119, 120, 121, 122]

theorem letters_name (b : UInt8) : letters.contains b = nameByte b := by
  have h : ∀ n : Fin 256, letters.contains (UInt8.ofNat n.val) = nameByte (UInt8.ofNat n.val) := by decide +kernel
  have := h ⟨b.toNat, b.toNat_lt⟩
  simpa using this

theorem trim_all (L : List UInt8) (p : UInt8 → Bool) (hp : ∀ b, L.contains b = p b) (l : List UInt8) : (Lib.trimS l L).isEmpty = l.all p := by
  unfold Lib.trimS Lib.trimLeftS Lib.trimRightS
  have e : (fun b => L.contains b) = p := funext hp
  rw [Bool.eq_iff_iff, List.isEmpty_iff]
  simp only [e]
  rw [Keys.dropWhile_nil]
  constructor
  · intro h
    rw [List.all_reverse] at h
    have h2 : (l.reverse.dropWhile p) = [] := by
      cases hc : l.reverse.dropWhile p with
      | nil => rfl
      | cons x t =>
        have := List.head?_dropWhile_not p l.reverse
        rw [hc] at this h
        simp at this h
        rw [h.1] at this
        cases this
    rw [Keys.dropWhile_nil, List.all_reverse] at h2
    exact h2
  · intro h
    have h2 : l.reverse.dropWhile p = [] := by rw [Keys.dropWhile_nil, List.all_reverse]; exact h
    rw [h2]; rfl

theorem trim_name (s : ByteArray) (w : World) (hs : s.size ≤ 9223372036854775807) :
    Calls Tryd.prog 43 #[.string s, .string ⟨#[45, 46, 48, 49, 50, 51, 52, 53, 54, 55, 56, 57, 65, 66, 67, 68, 69, 70, 71, 72, 73, 74, 75, 76, 77, 78, 79, 80, 81, 82, 83, 84, 85, 86, 87, 88, 89, 90, 97, 98, 99, 100, 101, 102, 103, 104, 105, 106, 107, 108, 109, 110, 111, 112, 113, 114, 115, 116, 117, 118, 119, 120, 121, 122]⟩] w
      fun e w' => ∃ r : ByteArray, e = .returned (.string r) ∧ r.toList.isEmpty = s.data.toList.all nameByte ∧ Below w.heap.size w w' := by
  have hcon := Any.strings_Trim_laid Tryd.lays160 (by kernel_rfl) s ⟨letters.toArray⟩ w hs (by decide) (ascii_of_all (by decide))
  refine hcon.mono fun e w' ⟨h1, h2⟩ => ⟨_, h1, ?_, h2⟩
  rw [← trim_all letters nameByte letters_name]
  simp

theorem name_no (s : ByteArray) (h : s.size = 0 ∨ 32 < s.size) : isName s.data.toList = false := by
  unfold isName
  have hl : s.data.toList.length = s.size := by simp
  rcases h with h | h
  · have : s.data.toList = [] := List.eq_nil_of_length_eq_zero (by omega)
    rw [this]; rfl
  · have : ¬ s.data.toList.length ≤ 32 := by omega
    simp only [this, decide_false, Bool.false_and, Bool.and_false]
theorem name_yes (s : ByteArray) (h : 0 < s.size) (h2 : s.size ≤ 32) : isName s.data.toList = s.data.toList.all nameByte := by
  unfold isName
  have hl : s.data.toList.length = s.size := by simp
  have h3 : s.data.toList.isEmpty = false := by rw [List.isEmpty_eq_false_iff]; intro e; rw [e] at hl; simp at hl; omega
  have h4 : s.data.toList.length ≤ 32 := by omega
  simp only [h3, h4, decide_true, Bool.not_false, Bool.true_and]
theorem emp_true {s : ByteArray} (h : s.toList.isEmpty = true) : s = ⟨#[]⟩ := by
  rw [toList_data, List.isEmpty_iff, Array.toList_eq_nil_iff] at h
  cases s; simp only at h; rw [h]

set_option maxRecDepth 100000 in
set_option maxHeartbeats 1000000 in
theorem dmay_any (s : ByteArray) (w : World) :
    Calls Tryd.prog 30 #[.string s] w fun e w' => e = .returned (.bool (isName s.toList)) ∧ Below w.heap.size w w' := by
  rw [toList_data]
  by_cases h0 : s = ⟨#[]⟩
  · subst h0
    go_enter Tryd.func30, Tryd.ntmps30
    go_wp2_with fail
    go_ret
    exact ⟨rfl, Below.refl _ _⟩
  · have hs0 : 0 < s.size := by
      rcases Nat.eq_zero_or_pos s.size with h | h
      · exact absurd (show s = ⟨#[]⟩ by cases s with | mk d => exact congrArg ByteArray.mk (Array.eq_empty_of_size_eq_zero h)) h0
      · exact h
    have he : ¬ s.toList = [] := by
      rw [toList_data]; intro h
      have hl : s.data.toList.length = s.size := by simp
      rw [h] at hl; simp at hl; omega
    have he2 : s.toList.isEmpty = false := by rw [List.isEmpty_eq_false_iff]; exact he
    by_cases h32 : (s.size : Int) ≤ 32
    · go_enter Tryd.func30, Tryd.ntmps30
      go_wp2_with (go_at_call 43; refine (trim_name s _ (by omega)).mono ?_; rintro e w' ⟨r, rfl, hr, hB⟩)
      all_goals go_ret
      all_goals (refine ⟨ret_bool ?_, by assumption⟩)
      all_goals rw [name_yes s hs0 (by omega), ← hr]
      all_goals simp [*]
    · go_enter Tryd.func30, Tryd.ntmps30
      go_wp2_with fail
      go_ret
      exact ⟨ret_bool (by rw [name_no s (.inr (by omega))]), Below.refl _ _⟩

end Go.Proofs.YtlabpmmcmejpmaaDoor.Dsk
