/- snap.may, slices.Contains of names: walked. -/
import Derived.Test.YtmdibkafjpglkaaGreatDoorSnapNil
import Derived.Test.YtmdibkafjpglkaaGreatDoorDiskNames
import Derived.Test.YtmdibkafjpglkaaGreatDoorLaysHas
namespace Go.Proofs.YtmdibkafjpglkaaGreatDoor.Snp
open Go Go.RowKit Go.Lib Go.Proofs.YtmdibkafjpglkaaGreatDoor.Dsk Go.Proofs.YtmdibkafjpglkaaGreatDoor.Wal Go.Proofs.YtmdibkafjpglkaaGreatDoor.Num Go.Proofs.YtmdibkafjpglkaaGreatDoor.Frm

theorem append_zero (name : ByteArray) : (append (new 0) name []).2 = if isName name.toList then 0 else 61 := by
  have hE : appendE (new 0) name [] = if isName name.toList then 0 else 61 := by
    unfold appendE
    split
    · refine if_neg ?_
      rintro (h | ⟨-, h⟩)
      · have h1 : (new 0).room = 0 := rfl
        have h2 : total (new 0).files = 0 := rfl
        rw [h1, h2] at h
        simp at h
      · have h1 : (new 0).files.length = 0 := rfl
        omega
    · rfl
  unfold append
  rw [if_neg (by simp [new]), hE]
  rfl
set_option maxRecDepth 100000 in
theorem may_snap (w : World) (name : ByteArray) : Calls Tryz.prog 36 #[.string name] w fun e w' => e = .returned (.bool (isName name.toList)) ∧ Keep (fun _ => False) w w' := by
  go_enter Tryz.func36, Tryz.ntmps36
  go_wp2_with fail
  refine (st_new w (Keep.refl _ w) 0 (by decide)).mono ?_
  rintro e w1 ⟨db, rfl, hS⟩
  have S1 := hid hS
  clear hS
  unfold ptr
  go_wp2_with fail
  refine (st_dappend S1.out name (none_in w1 (fun _ => False)) (fun _ h => h.elim)).mono ?_
  rw [append_zero]
  rintro e w2 ⟨rfl, hS, -⟩
  have S2 := hid hS
  clear hS S1
  by_cases hn : isName name.toList = true
  · rw [if_pos hn]
    have HN := hid hn
    clear hn
    go_wp2_with fail
    go_ret
    exact ⟨by rw [HN.out]; rfl, S2.out.done⟩
  · rw [if_neg hn]
    have HN := hid hn
    clear hn
    go_wp2_with fail
    go_ret
    exact ⟨by rw [Bool.eq_false_iff.2 HN.out]; rfl, S2.out.done⟩
/-- slices.Contains. -/
theorem has_any (w : World) {base : Nat} {v : Value} (l : List ByteArray) (h : w.ownsRow base 9 1 v l.length (l.map Value.string)) (name : ByteArray) :
    Calls Tryz.prog 39 #[v, .string name] w fun e w' => e = .returned (.bool (Lib.containsS l name)) ∧ w' = w := by
  rcases own_cell h with ⟨rfl, h2, -⟩ | ⟨g, cap, rfl, -, h3, h4, -, h6, h7⟩
  · obtain rfl : l = [] := List.eq_nil_of_length_eq_zero h2
    refine (Go.Proofs.Any.slices_Contains_string_empty Tryz.lays110 none 0 name w).mono ?_
    rintro e w' ⟨rfl, rfl⟩
    exact ⟨rfl, rfl⟩
  · have hM : maxLen = 9223372036854775807 := rfl
    refine (Go.Proofs.Any.slices_Contains_string Tryz.lays110 g 0 l.length cap l name w (Nat.le_refl _) (by omega) (fun j hj => by
      have := h7 j (by simpa using hj)
      rw [Nat.zero_add, this]
      simp [List.getD_eq_getElem?_getD, hj])).mono ?_
    rintro e w' ⟨rfl, rfl⟩
    refine ⟨?_, rfl⟩
    rw [List.take_length]
end Go.Proofs.YtmdibkafjpglkaaGreatDoor.Snp
