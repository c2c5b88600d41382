/- osierlaw06.KeysOne, walked. -/
import Derived.Test.YtbjjohfpdphpfaaDoorKeysAwake
namespace Go.Proofs.YtbjjohfpdphpfaaDoor
open Go.RowKit Go.Lib

set_option maxRecDepth 100000 in
set_option maxHeartbeats 4000000 in
theorem one_any (a b : ByteArray) (w : World) (ha : a.size ≤ 140737488351232) (hb : b.size ≤ 140737488351232) :
    Calls Tryd.prog 6 #[.string a, .string b] w (TrueEnd w) := by
  rcases between_split a b with ⟨k, hk, l1, l2, l3, l4, l5⟩ | ⟨hk, hno⟩
  · have Hk := Lib.hid hk
    clear hk
    go_enter Tryd.func6, Tryd.ntmps6
    go_wp2_with fail
    refine (awake06 _).mono ?_
    rintro e w1 ⟨rfl, hB1⟩
    go_wp2_with fail
    refine (between_is a b k 0 _ (by omega) (by omega) Hk.out).mono ?_
    rintro e w2 ⟨rfl, hB⟩
    replace hB1 := bel2 hB1 hB1.size hB
    clear hB
    go_wp2_with fail
    refine (between_is a b k 0 _ (by omega) (by omega) Hk.out).mono ?_
    rintro e w2 ⟨rfl, hB⟩
    replace hB1 := bel2 hB1 hB1.size hB
    clear hB Hk
    go_wp2_with fail
    refine (between_lies a k _ (by omega) (by omega)).mono ?_
    rintro e w2 (⟨x, ⟨x1, x2, x3, x4, x5⟩, rfl, hB⟩ | ⟨hno, rfl, hB⟩)
    all_goals replace hB1 := bel2 hB1 hB1.size hB
    all_goals clear hB
    all_goals
      go_wp2_with fail
      refine (between_lies k b _ (by omega) (by omega)).mono ?_
      rintro e w2 (⟨y, ⟨y1, y2, y3, y4, y5⟩, rfl, hB⟩ | ⟨hno, rfl, hB⟩)
    all_goals replace hB1 := bel2 hB1 hB1.size hB
    all_goals clear hB
    all_goals
      have kn : ¬ k.toList = [] := by intro e; rw [e] at l2; rw [Keys.less_nil] at l2; cases l2
      try (replace x3 := x3.resolve_left kn)
      clear kn
      rcases l3 with l3 | l3
      rotate_left
      have bn : ¬ b.toList = [] := fun e => by rw [e, Keys.less_nil] at l3; cases l3
      have bne := emp_false bn
      all_goals try (replace y3 := y3.resolve_left bn)
      all_goals try (clear hno)
      all_goals try (clear hno)
      all_goals
        go_wp2_with fail
        refine (may_is k true _ (by omega) l1).mono ?_
        rintro e w3 ⟨rfl, hB⟩
        replace hB1 := bel2 hB1 hB1.size hB
        clear hB
        go_wp2_with fail
        go_ret
        exact .mk rfl hB1
  · have Hk := Lib.hid (show Keys.between a.toList b.toList = ((⟨#[]⟩ : ByteArray).data.toList, 43) from hk)
    clear hk hno
    go_enter Tryd.func6, Tryd.ntmps6
    go_wp2_with fail
    refine (awake06 _).mono ?_
    rintro e w1 ⟨rfl, hB1⟩
    go_wp2_with fail
    refine (between_is a b ⟨#[]⟩ 43 _ (by omega) (by omega) Hk.out).mono ?_
    rintro e w2 ⟨rfl, hB⟩
    replace hB1 := bel2 hB1 hB1.size hB
    clear hB
    go_wp2_with fail
    refine (between_is a b ⟨#[]⟩ 43 _ (by omega) (by omega) Hk.out).mono ?_
    rintro e w2 ⟨rfl, hB⟩
    replace hB1 := bel2 hB1 hB1.size hB
    clear hB Hk
    go_wp2_with fail
    go_ret
    exact .mk rfl hB1

end Go.Proofs.YtbjjohfpdphpfaaDoor
