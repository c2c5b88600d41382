/- osierlaw06.KeysDense, walked. -/
import Derived.Test.YtbjjohfpdphpfaaDoorKeysAwake
namespace Go.Proofs.YtbjjohfpdphpfaaDoor
open Go.RowKit Go.Lib

theorem right_less (a b : ByteArray) (h2 : Keys.isKey a.toList = true) (h4 : Keys.isKey b.toList = true) (h5 : Op.bytesLess a.toList b.toList = true) : Keys.right a b = true := by
  unfold Keys.right Keys.rightL; rw [h2, h4, h5]; simp
theorem right_left (a b : ByteArray) (h2 : a.toList = []) (h4 : Keys.isKey b.toList = true) : Keys.right a b = true := by
  unfold Keys.right Keys.rightL; rw [h2, h4]; simp
theorem right_right (a b : ByteArray) (h2 : Keys.isKey a.toList = true) (h4 : b.toList = []) : Keys.right a b = true := by
  unfold Keys.right Keys.rightL; rw [h2, h4]; simp
theorem right_none (a b : ByteArray) (h2 : a.toList = []) (h4 : b.toList = []) : Keys.right a b = true := by
  unfold Keys.right Keys.rightL; rw [h2, h4]; simp
set_option maxRecDepth 100000 in
set_option maxHeartbeats 4000000 in
theorem dense_1 (a b : ByteArray) (w : World) (ha : a.size ≤ 9223372036854775807) (_hb : b.size ≤ 9223372036854775807) (h1 : ¬ a.toList = []) (h2 : Keys.isKey a.toList = false) :
    Calls Tryd.prog 4 #[.string a, .string b] w (TrueEnd w) := by
  go_enter Tryd.func4, Tryd.ntmps4
  go_wp2_with fail
  refine (awake06 _).mono ?_
  rintro e w1 ⟨rfl, hB1⟩
  have h1e := emp_false h1
  go_wp2_with fail
  refine (may_is a false _ ha h2).mono ?_
  rintro e w2 ⟨rfl, hB⟩
  replace hB1 := bel2 hB1 hB1.size hB
  clear hB
  go_wp2_with fail
  go_ret
  exact .mk rfl hB1

set_option maxRecDepth 100000 in
set_option maxHeartbeats 4000000 in
theorem dense_2a (a b : ByteArray) (w : World) (_ha : a.size ≤ 9223372036854775807) (hb : b.size ≤ 9223372036854775807) (h1 : a.toList = []) (h3 : ¬ b.toList = []) (h4 : Keys.isKey b.toList = false) :
    Calls Tryd.prog 4 #[.string a, .string b] w (TrueEnd w) := by
  go_enter Tryd.func4, Tryd.ntmps4
  go_wp2_with fail
  refine (awake06 _).mono ?_
  rintro e w1 ⟨rfl, hB1⟩
  have h3e := emp_false h3
  go_wp2_with fail
  refine (may_is b false _ hb h4).mono ?_
  rintro e w2 ⟨rfl, hB⟩
  replace hB1 := bel2 hB1 hB1.size hB
  clear hB
  go_wp2_with fail
  go_ret
  exact .mk rfl hB1

set_option maxRecDepth 100000 in
set_option maxHeartbeats 4000000 in
theorem dense_2b (a b : ByteArray) (w : World) (ha : a.size ≤ 9223372036854775807) (hb : b.size ≤ 9223372036854775807) (h1 : ¬ a.toList = []) (h2 : Keys.isKey a.toList = true) (h3 : ¬ b.toList = []) (h4 : Keys.isKey b.toList = false) :
    Calls Tryd.prog 4 #[.string a, .string b] w (TrueEnd w) := by
  go_enter Tryd.func4, Tryd.ntmps4
  go_wp2_with fail
  refine (awake06 _).mono ?_
  rintro e w1 ⟨rfl, hB1⟩
  have h1e := emp_false h1
  have h3e := emp_false h3
  go_wp2_with fail
  refine (may_is a true _ ha h2).mono ?_
  rintro e w2 ⟨rfl, hB⟩
  replace hB1 := bel2 hB1 hB1.size hB
  clear hB
  go_wp2_with fail
  refine (may_is b false _ hb h4).mono ?_
  rintro e w2 ⟨rfl, hB⟩
  replace hB1 := bel2 hB1 hB1.size hB
  clear hB
  go_wp2_with fail
  go_ret
  exact .mk rfl hB1

set_option maxRecDepth 100000 in
set_option maxHeartbeats 4000000 in
theorem dense_3 (a b : ByteArray) (w : World) (ha : a.size ≤ 9223372036854775807) (hb : b.size ≤ 9223372036854775807) (h1 : ¬ a.toList = []) (h2 : Keys.isKey a.toList = true) (h3 : ¬ b.toList = []) (h4 : Keys.isKey b.toList = true) (h5 : Op.bytesLess a.toList b.toList = false) (h6 : (a.toList == b.toList) = false) (h6' : (b.toList == a.toList) = false) (h7 : Op.bytesLess b.toList a.toList = true) :
    Calls Tryd.prog 4 #[.string a, .string b] w (TrueEnd w) := by
  go_enter Tryd.func4, Tryd.ntmps4
  go_wp2_with fail
  refine (awake06 _).mono ?_
  rintro e w1 ⟨rfl, hB1⟩
  have h1e := emp_false h1
  have h3e := emp_false h3
  go_wp2_with fail
  refine (may_is a true _ ha h2).mono ?_
  rintro e w2 ⟨rfl, hB⟩
  replace hB1 := bel2 hB1 hB1.size hB
  clear hB
  go_wp2_with fail
  refine (may_is b true _ hb h4).mono ?_
  rintro e w2 ⟨rfl, hB⟩
  replace hB1 := bel2 hB1 hB1.size hB
  clear hB
  go_wp2_with fail
  refine (between_lies b a _ hb ha).mono ?_
  rintro e w2 (⟨k, ⟨l1, l2, l3, l4, l5⟩, rfl, hB⟩ | ⟨hno, rfl, hB⟩)
  all_goals replace hB1 := bel2 hB1 hB1.size hB
  all_goals clear hB
  · replace l3 := l3.resolve_left h1
    go_wp2_with fail
    refine (may_is k true _ (by omega) l1).mono ?_
    rintro e w3 ⟨rfl, hB⟩
    replace hB1 := bel2 hB1 hB1.size hB
    clear hB
    go_wp2_with fail
    go_ret
    exact .mk rfl hB1
  · rcases hno with hno | hno | hno
    · exact absurd hno (by rw [right_less b a h4 h2 h7]; simp)
    · have hz : ((b.size : Int) == 200) = true := by rw [beq_iff_eq]; omega
      clear hno
      go_wp2_with fail
      go_ret
      exact .mk rfl hB1
    · by_cases hz : ((b.size : Int) == 200) = true
      · clear hno
        go_wp2_with fail
        go_ret
        exact .mk rfl hB1
      · have hz' : ((b.size : Int) == 200) = false := by simpa using hz
        have hy : ((a.size : Int) == 200) = true := by rw [beq_iff_eq]; omega
        clear hno hz
        go_wp2_with fail
        go_ret
        exact .mk rfl hB1

set_option maxRecDepth 100000 in
set_option maxHeartbeats 4000000 in
theorem dense_4 (a b : ByteArray) (w : World) (ha : a.size ≤ 9223372036854775807) (hb : b.size ≤ 9223372036854775807) (h1 : ¬ a.toList = []) (h2 : Keys.isKey a.toList = true) (h3 : ¬ b.toList = []) (h4 : Keys.isKey b.toList = true) (h5 : Op.bytesLess a.toList b.toList = false) (h6 : (a.toList == b.toList) = true) :
    Calls Tryd.prog 4 #[.string a, .string b] w (TrueEnd w) := by
  go_enter Tryd.func4, Tryd.ntmps4
  go_wp2_with fail
  refine (awake06 _).mono ?_
  rintro e w1 ⟨rfl, hB1⟩
  have h1e := emp_false h1
  have h3e := emp_false h3
  go_wp2_with fail
  refine (may_is a true _ ha h2).mono ?_
  rintro e w2 ⟨rfl, hB⟩
  replace hB1 := bel2 hB1 hB1.size hB
  clear hB
  go_wp2_with fail
  refine (may_is b true _ hb h4).mono ?_
  rintro e w2 ⟨rfl, hB⟩
  replace hB1 := bel2 hB1 hB1.size hB
  clear hB
  go_wp2_with fail
  refine (between_lies a b _ ha hb).mono ?_
  rintro e w2 (⟨k, ⟨l1, l2, l3, l4, l5⟩, rfl, hB⟩ | ⟨hno, rfl, hB⟩)
  all_goals replace hB1 := bel2 hB1 hB1.size hB
  all_goals clear hB
  · replace l3 := l3.resolve_left h3
    rw [Keys.less_trans l2 l3] at h5
    cases h5
  · clear hno
    go_wp2_with fail
    go_ret
    exact .mk rfl hB1

set_option maxRecDepth 100000 in
set_option maxHeartbeats 4000000 in
theorem dense_5d (a b : ByteArray) (w : World) (ha : a.size ≤ 9223372036854775807) (hb : b.size ≤ 9223372036854775807) (h1 : ¬ a.toList = []) (h2 : Keys.isKey a.toList = true) (h3 : ¬ b.toList = []) (h4 : Keys.isKey b.toList = true) (h5 : Op.bytesLess a.toList b.toList = true) (h6 : (a.toList == b.toList) = false) :
    Calls Tryd.prog 4 #[.string a, .string b] w (TrueEnd w) := by
  go_enter Tryd.func4, Tryd.ntmps4
  go_wp2_with fail
  refine (awake06 _).mono ?_
  rintro e w1 ⟨rfl, hB1⟩
  have h1e := emp_false h1
  have h3e := emp_false h3
  go_wp2_with fail
  refine (may_is a true _ ha h2).mono ?_
  rintro e w2 ⟨rfl, hB⟩
  replace hB1 := bel2 hB1 hB1.size hB
  clear hB
  go_wp2_with fail
  refine (may_is b true _ hb h4).mono ?_
  rintro e w2 ⟨rfl, hB⟩
  replace hB1 := bel2 hB1 hB1.size hB
  clear hB
  go_wp2_with fail
  refine (between_lies a b _ ha hb).mono ?_
  rintro e w2 (⟨k, ⟨l1, l2, l3, l4, l5⟩, rfl, hB⟩ | ⟨hno, rfl, hB⟩)
  all_goals replace hB1 := bel2 hB1 hB1.size hB
  all_goals clear hB
  · replace l3 := l3.resolve_left h3
    go_wp2_with fail
    refine (may_is k true _ (by omega) l1).mono ?_
    rintro e w3 ⟨rfl, hB⟩
    replace hB1 := bel2 hB1 hB1.size hB
    clear hB
    go_wp2_with fail
    go_ret
    exact .mk rfl hB1
  · rcases hno with hno | hno | hno
    · exact absurd hno (by rw [right_less a b h2 h4 h5]; simp)
    · have hz : ((a.size : Int) == 200) = true := by rw [beq_iff_eq]; omega
      clear hno
      go_wp2_with fail
      go_ret
      exact .mk rfl hB1
    · by_cases hz : ((a.size : Int) == 200) = true
      · clear hno
        go_wp2_with fail
        go_ret
        exact .mk rfl hB1
      · have hz' : ((a.size : Int) == 200) = false := by simpa using hz
        have hy : ((b.size : Int) == 200) = true := by rw [beq_iff_eq]; omega
        clear hno hz
        go_wp2_with fail
        go_ret
        exact .mk rfl hB1

set_option maxRecDepth 100000 in
set_option maxHeartbeats 4000000 in
theorem dense_5c (a b : ByteArray) (w : World) (ha : a.size ≤ 9223372036854775807) (hb : b.size ≤ 9223372036854775807) (h1 : ¬ a.toList = []) (h2 : Keys.isKey a.toList = true) (h3 : b.toList = []) (h6 : (a.toList == []) = false) :
    Calls Tryd.prog 4 #[.string a, .string b] w (TrueEnd w) := by
  go_enter Tryd.func4, Tryd.ntmps4
  go_wp2_with fail
  refine (awake06 _).mono ?_
  rintro e w1 ⟨rfl, hB1⟩
  have h1e := emp_false h1
  go_wp2_with fail
  refine (may_is a true _ ha h2).mono ?_
  rintro e w2 ⟨rfl, hB⟩
  replace hB1 := bel2 hB1 hB1.size hB
  clear hB
  go_wp2_with fail
  refine (between_lies a b _ ha hb).mono ?_
  rintro e w2 (⟨k, ⟨l1, l2, l3, l4, l5⟩, rfl, hB⟩ | ⟨hno, rfl, hB⟩)
  all_goals replace hB1 := bel2 hB1 hB1.size hB
  all_goals clear hB
  · clear l3
    go_wp2_with fail
    refine (may_is k true _ (by omega) l1).mono ?_
    rintro e w3 ⟨rfl, hB⟩
    replace hB1 := bel2 hB1 hB1.size hB
    clear hB
    go_wp2_with fail
    go_ret
    exact .mk rfl hB1
  · rcases hno with hno | hno | hno
    · exact absurd hno (by rw [right_right a b h2 h3]; simp)
    · have hz : ((a.size : Int) == 200) = true := by rw [beq_iff_eq]; omega
      clear hno
      go_wp2_with fail
      go_ret
      exact .mk rfl hB1
    · by_cases hz : ((a.size : Int) == 200) = true
      · clear hno
        go_wp2_with fail
        go_ret
        exact .mk rfl hB1
      · have hz' : ((a.size : Int) == 200) = false := by simpa using hz
        have hy : ((b.size : Int) == 200) = true := by rw [beq_iff_eq]; omega
        clear hno hz
        go_wp2_with fail
        go_ret
        exact .mk rfl hB1

set_option maxRecDepth 100000 in
set_option maxHeartbeats 4000000 in
theorem dense_5b (a b : ByteArray) (w : World) (ha : a.size ≤ 9223372036854775807) (hb : b.size ≤ 9223372036854775807) (h1 : a.toList = []) (h3 : ¬ b.toList = []) (h4 : Keys.isKey b.toList = true) (h6 : (([] : List UInt8) == b.toList) = false) :
    Calls Tryd.prog 4 #[.string a, .string b] w (TrueEnd w) := by
  go_enter Tryd.func4, Tryd.ntmps4
  go_wp2_with fail
  refine (awake06 _).mono ?_
  rintro e w1 ⟨rfl, hB1⟩
  have h3e := emp_false h3
  go_wp2_with fail
  refine (may_is b true _ hb h4).mono ?_
  rintro e w2 ⟨rfl, hB⟩
  replace hB1 := bel2 hB1 hB1.size hB
  clear hB
  go_wp2_with fail
  refine (between_lies a b _ ha hb).mono ?_
  rintro e w2 (⟨k, ⟨l1, l2, l3, l4, l5⟩, rfl, hB⟩ | ⟨hno, rfl, hB⟩)
  all_goals replace hB1 := bel2 hB1 hB1.size hB
  all_goals clear hB
  · replace l3 := l3.resolve_left h3
    rw [h1] at l2
    go_wp2_with fail
    refine (may_is k true _ (by omega) l1).mono ?_
    rintro e w3 ⟨rfl, hB⟩
    replace hB1 := bel2 hB1 hB1.size hB
    clear hB
    go_wp2_with fail
    go_ret
    exact .mk rfl hB1
  · rcases hno with hno | hno | hno
    · exact absurd hno (by rw [right_left a b h1 h4]; simp)
    · have hz : ((a.size : Int) == 200) = true := by rw [beq_iff_eq]; omega
      clear hno
      go_wp2_with fail
      go_ret
      exact .mk rfl hB1
    · by_cases hz : ((a.size : Int) == 200) = true
      · clear hno
        go_wp2_with fail
        go_ret
        exact .mk rfl hB1
      · have hz' : ((a.size : Int) == 200) = false := by simpa using hz
        have hy : ((b.size : Int) == 200) = true := by rw [beq_iff_eq]; omega
        clear hno hz
        go_wp2_with fail
        go_ret
        exact .mk rfl hB1

set_option maxRecDepth 100000 in
set_option maxHeartbeats 4000000 in
theorem dense_5a (a b : ByteArray) (w : World) (ha : a.size ≤ 9223372036854775807) (hb : b.size ≤ 9223372036854775807) (h1 : a.toList = []) (h3 : b.toList = []) :
    Calls Tryd.prog 4 #[.string a, .string b] w (TrueEnd w) := by
  go_enter Tryd.func4, Tryd.ntmps4
  go_wp2_with fail
  refine (awake06 _).mono ?_
  rintro e w1 ⟨rfl, hB1⟩
  go_wp2_with fail
  refine (between_lies a b _ ha hb).mono ?_
  rintro e w2 (⟨k, ⟨l1, l2, l3, l4, l5⟩, rfl, hB⟩ | ⟨hno, rfl, hB⟩)
  all_goals replace hB1 := bel2 hB1 hB1.size hB
  all_goals clear hB
  · clear l3
    rw [h1] at l2
    go_wp2_with fail
    refine (may_is k true _ (by omega) l1).mono ?_
    rintro e w3 ⟨rfl, hB⟩
    replace hB1 := bel2 hB1 hB1.size hB
    clear hB
    go_wp2_with fail
    go_ret
    exact .mk rfl hB1
  · rcases hno with hno | hno | hno
    · exact absurd hno (by rw [right_none a b h1 h3]; simp)
    · have hz : ((a.size : Int) == 200) = true := by rw [beq_iff_eq]; omega
      clear hno
      go_wp2_with fail
      go_ret
      exact .mk rfl hB1
    · by_cases hz : ((a.size : Int) == 200) = true
      · clear hno
        go_wp2_with fail
        go_ret
        exact .mk rfl hB1
      · have hz' : ((a.size : Int) == 200) = false := by simpa using hz
        have hy : ((b.size : Int) == 200) = true := by rw [beq_iff_eq]; omega
        clear hno hz
        go_wp2_with fail
        go_ret
        exact .mk rfl hB1

theorem dense_any (a b : ByteArray) (w : World) (ha : a.size ≤ 9223372036854775807) (hb : b.size ≤ 9223372036854775807) :
    Calls Tryd.prog 4 #[.string a, .string b] w (TrueEnd w) := by
  by_cases h1 : a.toList = []
  · by_cases h3 : b.toList = []
    · exact dense_5a a b w ha hb h1 h3
    · cases h4 : Keys.isKey b.toList with
      | false => exact dense_2a a b w ha hb h1 h3 h4
      | true => exact dense_5b a b w ha hb h1 h3 h4 (by rw [beq_eq_false_iff_ne]; exact fun e => h3 e.symm)
  · cases h2 : Keys.isKey a.toList with
    | false => exact dense_1 a b w ha hb h1 h2
    | true =>
      by_cases h3 : b.toList = []
      · exact dense_5c a b w ha hb h1 h2 h3 (by rw [beq_eq_false_iff_ne]; exact h1)
      · cases h4 : Keys.isKey b.toList with
        | false => exact dense_2b a b w ha hb h1 h2 h3 h4
        | true =>
          cases h5 : Op.bytesLess a.toList b.toList with
          | true => exact dense_5d a b w ha hb h1 h2 h3 h4 h5 (by rw [beq_eq_false_iff_ne]; intro e; rw [e, Keys.less_irrefl] at h5; cases h5)
          | false =>
            by_cases h6 : a.toList = b.toList
            · exact dense_4 a b w ha hb h1 h2 h3 h4 h5 (by rw [beq_iff_eq]; exact h6)
            · exact dense_3 a b w ha hb h1 h2 h3 h4 h5 (by rw [beq_eq_false_iff_ne]; exact h6) (by rw [beq_eq_false_iff_ne]; exact fun e => h6 e.symm) (Keys.less_total h5 h6)

theorem dense_row (a b : ByteArray) (w : World) (ha : a.size ≤ 140737488351232) (hb : b.size ≤ 140737488351232) :
    Calls Tryd.prog 4 #[.string a, .string b] w fun e w' => e = .returned (.bool true) ∧ Below w.heap.size w w' :=
  dense_any a b w (by omega) (by omega)

end Go.Proofs.YtbjjohfpdphpfaaDoor
