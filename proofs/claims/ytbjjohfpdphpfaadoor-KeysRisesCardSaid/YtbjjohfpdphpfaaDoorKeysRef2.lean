/- osierref06.Between, walked; osierlaw06.KeysBetween. -/
import Derived.Test.YtbjjohfpdphpfaaDoorKeysRef
namespace Go.Proofs.YtbjjohfpdphpfaaDoor
open Go.RowKit Go.Lib

theorem between_from (a b : ByteArray) (h : Keys.right a b = true) :
    Keys.between a.toList b.toList = if (fromB 200 0 a b b.toList.isEmpty).toList.isEmpty then ([], 43) else ((fromB 200 0 a b b.toList.isEmpty).data.toList, 0) := by
  unfold Keys.between
  rw [if_pos (show Keys.rightL a.toList b.toList = true from h), Keys.go_mid]
  unfold fromB fromL
  have hl : ∀ r, Keys.mid 200 (a.toList.drop 0) (b.toList.drop 0) b.toList.isEmpty = some r → r ≠ [] := fun r hr => (mid_len _ _ _ _ _ hr).2
  generalize Keys.mid 200 (a.toList.drop 0) (b.toList.drop 0) b.toList.isEmpty = m at hl ⊢
  rw [toList_data]
  cases m with
  | none => rfl
  | some r =>
    cases r with
    | nil => exact absurd rfl (hl [] rfl)
    | cons x l => simp

set_option maxRecDepth 100000 in
set_option maxHeartbeats 2000000 in
theorem refbetween_any (a b k : ByteArray) (n : Int) (w : World) (ha : a.size ≤ 9223372036854775807) (hb : b.size ≤ 9223372036854775807) (hk : Keys.between a.toList b.toList = (k.data.toList, n)) :
    Calls Tryd.prog 17 #[.string a, .string b] w fun e w' => e = .returned (.tuple #[.string k, .int .i64 n]) ∧ Below w.heap.size w w' := by
  have Hk := Lib.hid hk
  clear hk
  cases hr : Keys.right a b with
  | false =>
    have hx : Keys.between a.toList b.toList = ([], 43) := by unfold Keys.between; rw [if_neg (by unfold Keys.right at hr; rw [hr]; simp)]
    rw [Hk.out] at hx
    obtain ⟨h1, rfl⟩ := Prod.mk.inj hx
    obtain rfl : k = ⟨#[]⟩ := by cases k with | mk d => cases d with | mk l => simp at h1; rw [h1]
    clear h1 hx Hk
    go_enter Tryd.func17, Tryd.ntmps17
    go_wp2_with (go_at_call 42; refine (refright_any _ _ _ (by assumption) (by assumption)).mono ?_; rintro e w1 ⟨rfl, rfl⟩)
    go_ret2
    exact ⟨rfl, Below.refl _ _⟩
  | true =>
    obtain ⟨haz, hbz, hal, hbl⟩ := Keys.rightL_az (show Keys.rightL a.toList b.toList = true from hr)
    have hlen : ∀ l : ByteArray, l.toList.length = l.size := fun l => by rw [toList_data]; simp
    rw [hlen] at hal hbl
    have hx := between_from a b hr
    rw [Hk.out] at hx
    have Hx := Lib.hid hx
    have Haz := Lib.hid haz
    have Hbz := Lib.hid hbz
    clear haz hbz hx hlen Hk
    go_enter Tryd.func17, Tryd.ntmps17
    go_wp2_with fail
    refine (refright_any _ _ _ (by assumption) (by assumption)).mono ?_
    rintro e w1 ⟨rfl, rfl⟩
    go_wp2_with fail
    refine (from_any a b hal hbl Haz.out Hbz.out 200 0 _ _ (by omega)).mono ?_
    rintro e w1 ⟨rfl, hB⟩
    generalize fromB 200 0 a b b.toList.isEmpty = r at Hx ⊢
    by_cases hn : r.toList = []
    · have hne : r.toList.isEmpty = true := by rw [hn]; rfl
      have hx := Hx.out
      rw [if_pos hne] at hx
      obtain ⟨h1, rfl⟩ := Prod.mk.inj hx
      obtain rfl : k = ⟨#[]⟩ := by cases k with | mk d => cases d with | mk l => simp at h1; rw [h1]
      clear h1 hx Hx
      go_wp2_with fail
      go_ret2
      exact ⟨rfl, hB⟩
    · have hne := emp_false hn
      have hx := Hx.out
      rw [hne] at hx
      obtain ⟨h1, rfl⟩ := Prod.mk.inj hx
      obtain rfl : k = r := by cases k with | mk d => cases d with | mk l => cases r with | mk d2 => cases d2 with | mk l2 => simp at h1; rw [h1]
      clear h1 hx Hx
      go_wp2_with fail
      go_ret2
      exact ⟨rfl, hB⟩

set_option maxRecDepth 100000 in
set_option maxHeartbeats 2000000 in
theorem keysbetween_any (a b : ByteArray) (w : World) (ha : a.size ≤ 140737488351232) (hb : b.size ≤ 140737488351232) :
    Calls Tryd.prog 3 #[.string a, .string b] w (TrueEnd w) := by
  obtain ⟨k, n, hk⟩ : ∃ (k : ByteArray) (n : Int), Keys.between a.toList b.toList = (k.data.toList, n) := by
    rcases between_split a b with ⟨k, h, -⟩ | ⟨h, -⟩
    · exact ⟨k, 0, h⟩
    · exact ⟨⟨#[]⟩, 43, h⟩
  have Hk := Lib.hid hk
  clear hk
  go_enter Tryd.func3, Tryd.ntmps3
  go_wp2_with fail
  refine (awake06 _).mono ?_
  rintro e w1 ⟨rfl, hB1⟩
  go_wp2_with fail
  refine (between_is a b k n _ (by omega) (by omega) Hk.out).mono ?_
  rintro e w2 ⟨rfl, hB⟩
  replace hB1 := bel2 hB1 hB1.size hB
  clear hB
  go_wp2_with fail
  refine (refbetween_any a b k n _ (by omega) (by omega) Hk.out).mono ?_
  rintro e w2 ⟨rfl, hB⟩
  replace hB1 := bel2 hB1 hB1.size hB
  clear hB
  obtain ⟨r, hr⟩ : ∃ r, Keys.isKey a.toList = r := ⟨_, rfl⟩
  have Hr := Lib.hid hr
  clear hr
  go_wp2_with fail
  refine (may_is a r _ (by omega) Hr.out).mono ?_
  rintro e w2 ⟨rfl, hB⟩
  replace hB1 := bel2 hB1 hB1.size hB
  clear hB
  go_wp2_with fail
  refine ((refmay_any a _ (by omega)).mono (fun e w' h => (⟨h.1.trans (by rw [Hr.out]), h.2⟩ : e = .returned (.bool r) ∧ _ = w'))).mono ?_
  rintro e w3 ⟨rfl, rfl⟩
  have hrr : (r == r) = true := by cases r <;> rfl
  go_wp2_with fail
  go_ret
  exact .mk rfl hB1

end Go.Proofs.YtbjjohfpdphpfaaDoor
