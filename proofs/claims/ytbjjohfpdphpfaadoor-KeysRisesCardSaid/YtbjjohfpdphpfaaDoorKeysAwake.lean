/- The contracts of keys.Between by its two outcomes; osierlaw06.awake. -/
import Derived.Test.YtbjjohfpdphpfaaDoorKeysBetween
import Derived.Test.YtbjjohfpdphpfaaDoorKeysLaw
namespace Go.Proofs.YtbjjohfpdphpfaaDoor
open Go.RowKit Go.Lib

theorem bel2 {B : Nat} {w w1 w2 : World} (h : Below B w w1) (hs : B ≤ w1.heap.size) (k : Below w1.heap.size w1 w2) : Below B w w2 := h.trans (k.mono hs)

/-- How a law ends: true, and nothing that was there has turned. -/
def TrueEnd (w : World) (e : Ending) (w' : World) : Prop := e = .returned (.bool true) ∧ Below w.heap.size w w'
theorem TrueEnd.mk {w : World} {v : Value} {w' : World} (h : v = .bool true) (hB : Below w.heap.size w w') : TrueEnd w (.returned v) w' := ⟨by rw [h], hB⟩
theorem emp_false {l : List UInt8} (h : ¬ l = []) : l.isEmpty = false := by cases l with
  | nil => exact absurd rfl h
  | cons _ _ => rfl

/-- keys.Between: a key between, or the error. -/
theorem between_cases (a b : ByteArray) (w : World) (ha : a.size ≤ 9223372036854775807) (hb : b.size ≤ 9223372036854775807) :
    Calls Tryd.prog 16 #[.string a, .string b] w fun e w' =>
      (∃ k : ByteArray, Keys.between a.toList b.toList = (k.toList, 0) ∧ e = .returned (.tuple #[.string k, .int .i64 0]) ∧ Below w.heap.size w w')
      ∨ (Keys.between a.toList b.toList = ([], 43) ∧ e = .returned (.tuple #[.string ⟨#[]⟩, .int .i64 43]) ∧ Below w.heap.size w w') := by
  refine (between_any a b w ha hb).mono fun e w' h => ?_
  rcases Keys.between_says a.toList b.toList with ⟨k, h1, -⟩ | ⟨h1, -⟩
  · refine .inl ⟨⟨k.toArray⟩, ?_, ?_, h.2⟩
    · rw [h1, toList_data]
    · rw [h.1, h1]
  · refine .inr ⟨h1, ?_, h.2⟩
    rw [h.1, h1]

/-- keys.Between, and what is known of its answer. -/
def Lies (a b k : ByteArray) : Prop := Keys.isKey k.toList = true ∧ Op.bytesLess a.toList k.toList = true ∧ (b.toList = [] ∨ Op.bytesLess k.toList b.toList = true) ∧ k.size ≤ 200 ∧ k.size ≤ max a.size b.size + 1
def NoRoom (a b : ByteArray) : Prop := Keys.right a b = false ∨ a.size = 200 ∨ b.size = 200
theorem between_lies (a b : ByteArray) (w : World) (ha : a.size ≤ 9223372036854775807) (hb : b.size ≤ 9223372036854775807) :
    Calls Tryd.prog 16 #[.string a, .string b] w fun e w' =>
      (∃ k : ByteArray, Lies a b k ∧ e = .returned (.tuple #[.string k, .int .i64 0]) ∧ Below w.heap.size w w')
      ∨ (NoRoom a b ∧ e = .returned (.tuple #[.string ⟨#[]⟩, .int .i64 43]) ∧ Below w.heap.size w w') := by
  refine (between_any a b w ha hb).mono fun e w' h => ?_
  have hl : ∀ s : ByteArray, s.toList.length = s.size := fun s => by rw [toList_data]; simp
  rcases Keys.between_says a.toList b.toList with ⟨k, h1, -, h3, h4, h5, h6⟩ | ⟨h1, h2⟩
  · have hk := ((Keys.key_iff k).1 h3).2.1
    rw [hl, hl] at h4
    refine .inl ⟨⟨k.toArray⟩, ⟨?_, ?_, ?_, by rw [← hl ⟨k.toArray⟩, toList_data]; exact hk, by rw [← hl ⟨k.toArray⟩, toList_data]; exact h4⟩, ?_, h.2⟩
    · rw [toList_data]; exact h3
    · rw [toList_data ⟨k.toArray⟩]; exact h5
    · rw [toList_data ⟨k.toArray⟩]; exact h6
    · rw [h.1, h1]
  · refine .inr ⟨?_, ?_, h.2⟩
    · unfold NoRoom Keys.right; rw [hl, hl] at h2; exact h2
    · rw [h.1, h1]

theorem between_split (a b : ByteArray) : (∃ k : ByteArray, Keys.between a.toList b.toList = (k.data.toList, 0) ∧ Lies a b k) ∨ (Keys.between a.toList b.toList = ([], 43) ∧ NoRoom a b) := by
  have hl : ∀ s : ByteArray, s.toList.length = s.size := fun s => by rw [toList_data]; simp
  rcases Keys.between_says a.toList b.toList with ⟨k, h1, -, h3, h4, h5, h6⟩ | ⟨h1, h2⟩
  · have hk := ((Keys.key_iff k).1 h3).2.1
    rw [hl, hl] at h4
    refine .inl ⟨⟨k.toArray⟩, h1, ⟨?_, ?_, ?_, by rw [← hl ⟨k.toArray⟩, toList_data]; exact hk, by rw [← hl ⟨k.toArray⟩, toList_data]; exact h4⟩⟩
    · rw [toList_data]; exact h3
    · rw [toList_data ⟨k.toArray⟩]; exact h5
    · rw [toList_data ⟨k.toArray⟩]; exact h6
  · exact .inr ⟨h1, by unfold NoRoom Keys.right; rw [hl, hl] at h2; exact h2⟩

/-- keys.Between where what it comes to is known. -/
theorem between_is (a b k : ByteArray) (n : Int) (w : World) (ha : a.size ≤ 9223372036854775807) (hb : b.size ≤ 9223372036854775807) (hk : Keys.between a.toList b.toList = (k.data.toList, n)) :
    Calls Tryd.prog 16 #[.string a, .string b] w fun e w' => e = .returned (.tuple #[.string k, .int .i64 n]) ∧ Below w.heap.size w w' :=
  (between_any a b w ha hb).mono fun e w' h => ⟨by rw [h.1, hk], h.2⟩

theorem may_is (a : ByteArray) (r : Bool) (w : World) (ha : a.size ≤ 9223372036854775807) (hk : Keys.isKey a.toList = r) :
    Calls Tryd.prog 18 #[.string a] w fun e w' => e = .returned (.bool r) ∧ Below w.heap.size w w' :=
  (may_any a w ha).mono fun e w' h => ⟨by rw [h.1, hk], h.2⟩

set_option maxRecDepth 100000 in
set_option maxHeartbeats 1000000 in
theorem awake06 (w : World) : Calls Tryd.prog 15 #[] w fun e w' => e = .returned (.bool true) ∧ Below w.heap.size w w' := by
  go_enter Tryd.func15, Tryd.ntmps15
  go_wp2_with fail
  refine (between_is _ _ ⟨#[110]⟩ 0 _ (by decide) (by decide) (by simp only [toList_data]; decide +kernel)).mono ?_
  rintro e w1 ⟨rfl, hB1⟩
  go_wp2_with fail
  refine (between_is _ _ ⟨#[98, 97, 110]⟩ 0 _ (by decide) (by decide) (by simp only [toList_data]; decide +kernel)).mono ?_
  rintro e w2 ⟨rfl, hB2⟩
  go_wp2_with fail
  refine (between_is _ _ ⟨#[]⟩ 43 _ (by decide) (by decide) (by simp only [toList_data]; decide +kernel)).mono ?_
  rintro e w3 ⟨rfl, hB3⟩
  go_wp2_with fail
  refine (may_is _ true _ (by decide) (by simp only [toList_data]; decide +kernel)).mono ?_
  rintro e w4 ⟨rfl, hB4⟩
  go_wp2_with fail
  refine (may_is _ false _ (by decide) (by simp only [toList_data]; decide +kernel)).mono ?_
  rintro e w5 ⟨rfl, hB5⟩
  go_wp2_with fail
  go_ret
  have s1 := hB1.size; have s2 := hB2.size; have s3 := hB3.size; have s4 := hB4.size
  exact ⟨rfl, (((hB1.trans (hB2.mono s1)).trans (hB3.mono (by omega))).trans (hB4.mono (by omega))).trans (hB5.mono (by omega))⟩

end Go.Proofs.YtbjjohfpdphpfaaDoor
