/- osierlaw06.KeysRow, walked. -/
import Derived.Test.YtbjjohfpdphpfaaDoorKeysRefRow
import Derived.Deep.QuietTactic
import Derived.BigQuiet
namespace Go.Proofs.YtbjjohfpdphpfaaDoor
open Go.RowKit Go.Lib

theorem cells_of {w : World} {base n : Nat} {v : Value} {ks : List ByteArray} (h : w.ownsRow base 9 1 v n (ks.map Value.string)) (hn : 0 < n) :
    ∃ g cap, v = .slice (some ⟨g, 0, none⟩) n cap ∧ n ≤ cap ∧ cap ≤ maxLen ∧ ks.length = n ∧ ∀ j, j < n → w.cell? ⟨g, j, none⟩ = some (.string (ks.getD j ⟨#[]⟩)) := by
  rcases own_cell h with ⟨-, h0, -⟩ | ⟨g, cap, hv, -, h1, h2, -, hl, hc⟩
  · omega
  · have hl' : ks.length = n := by simpa using hl
    refine ⟨g, cap, hv, h1, h2, hl', fun j hj => ?_⟩
    rw [hc j (by simp; omega)]
    simp [List.getD_eq_getElem?_getD, List.getElem?_eq_getElem (show j < ks.length by omega)]

theorem below_drewN (B : Nat) (w : World) (n : Nat) : Below B w (w.drewN n) := ⟨rfl, rfl, rfl, Nat.le_refl _, fun _ _ => rfl⟩

set_option maxRecDepth 100000 in
set_option maxHeartbeats 2000000 in
theorem keysrow_bad (a b : ByteArray) (n : Int) (w : World) (hn : n < 0 ∨ 1000 < n) :
    Calls Tryd.prog 7 #[.string a, .string b, .int .i64 n] w (TrueEnd w) := by
  go_enter Tryd.func7, Tryd.ntmps7
  go_wp2_with fail
  refine (awake06 _).mono ?_
  rintro e w1 ⟨rfl, hB1⟩
  go_wp2_with fail
  refine (row_bad a b n _ hn).mono ?_
  rintro e w2 ⟨rfl, hB⟩
  replace hB1 := bel2 hB1 hB1.size hB
  clear hB
  go_wp2_with fail
  refine (refrow_bad a b n _ hn).mono ?_
  rintro e w2 ⟨rfl, hB⟩
  replace hB1 := bel2 hB1 hB1.size hB
  clear hB
  go_wp2_with fail
  refine wp_loop_rounds 1 ?_
  rw [rounds_succ]
  go_wp2_with fail
  go_ret
  exact .mk rfl hB1

set_option maxRecDepth 100000 in
set_option maxHeartbeats 2000000 in
theorem keysrow_good (a b : ByteArray) (n : Nat) (w : World) (hn : n ≤ 1000) (ha : a.size ≤ 140737488351232) (hb : b.size ≤ 140737488351232) :
    Calls Tryd.prog 7 #[.string a, .string b, .int .i64 (n : Int)] w (TrueEnd w) := by
  go_enter Tryd.func7, Tryd.ntmps7
  go_wp2_with fail
  refine (awake06 _).mono ?_
  rintro e w1 ⟨rfl, hB1⟩
  go_wp2_with fail
  refine (row_any a b n _ hn ha hb).mono ?_
  rintro e w2 (⟨ks, v, hr, hrow, rfl, hown, hB⟩ | ⟨hno, rfl, hB⟩)
  all_goals replace hB1 := bel2 hB1 hB1.size hB
  all_goals clear hB
  · have Hr := Lib.hid hr
    have Hrow := Lib.hid hrow
    obtain ⟨ao, cap, rfl⟩ := own_slice hown
    have hlen := rowB_len _ hrow
    clear hr hrow
    go_wp2_with fail
    refine (refrow_any a b n _ hn ha hb).mono ?_
    rintro e w3 (⟨ks', v', hr', hrow', rfl, hown', hB⟩ | ⟨hno, -⟩)
    · obtain rfl : ks = ks' := by have := Hrow.out; rw [hrow'] at this; exact (Option.some.inj this).symm
      have hownA := owns_below hown hB
      replace hB1 := bel2 hB1 hB1.size hB
      clear hB hr' hrow' Hr Hrow hown
      obtain ⟨ao', cap', rfl⟩ := own_slice hown'
      by_cases hz : n = 0
      · subst hz
        rw [hlen] at hownA hown' ⊢
        clear hownA hown'
        go_wp2_with fail
        refine wp_loop_rounds 1 ?_
        rw [rounds_succ]
        go_wp2_with fail
        go_ret
        exact .mk rfl hB1
      · rw [hlen] at hownA hown' ⊢
        obtain ⟨g1, c1, e1, -, hm1, -, hc1⟩ := cells_of hownA (by omega)
        obtain ⟨g2, c2, e2, -, hm2, -, hc2⟩ := cells_of hown' (by omega)
        injection e1 with e1 _ e3
        injection e2 with e2 _ e4
        subst e1 e2 e3 e4
        have HC1 : Hid (∀ j, j < n → w3.cell? ⟨g1, j, none⟩ = some (.string (ks.getD j ⟨#[]⟩))) := hc1
        have HC2 : Hid (∀ j, j < n → w3.cell? ⟨g2, j, none⟩ = some (.string (ks.getD j ⟨#[]⟩))) := hc2
        clear hc1 hc2 hownA hown' hlen
        go_wp2_with fail
        go_loopw [12] (fun i wr => ∃ k : Nat, k ≤ n ∧ i = .int .i64 k ∧ Below w.heap.size w wr ∧ Hid (∀ j, j < n → wr.cell? ⟨g1, j, none⟩ = some (.string (ks.getD j ⟨#[]⟩))) ∧ Hid (∀ j, j < n → wr.cell? ⟨g2, j, none⟩ = some (.string (ks.getD j ⟨#[]⟩)))) (fun i _ => n - (RowKit.intOf i).toNat)
        case atStart => exact ⟨0, Nat.zero_le _, rfl, hB1, HC1, HC2⟩
        case round =>
          rename_i wr
          obtain ⟨k, hk, rfl, hB2, H1, H2⟩ := hrel
          clear HC1 HC2 hB1
          by_cases hlt : k < n
          · have q1 := H1.out k hlt
            have q2 := H2.out k hlt
            have hlt' : (k : Int) < (n : Int) := by omega
            have h0 : (0 : Int) ≤ (k : Int) := by omega
            have hnn : (!((ks.getD k ⟨#[]⟩).toList == (ks.getD k ⟨#[]⟩).toList)) = false := by simp
            generalize ks.getD k ⟨#[]⟩ = s at q1 q2 hnn
            go_wp2_with fail
            go_quiet (fail)
            go_wp2_with fail
            go_roundw
            case rel => exact ⟨k + 1, by omega, by go_num, hB2.trans (below_drewN _ _ _), H1, H2⟩
            case measure => simp [RowKit.intOf]; omega
          · go_wp2_with fail
            go_ret
            exact .mk rfl hB2
    · exfalso
      rcases hno with h | h
      · rw [Hr.out] at h; cases h
      · rw [Hrow.out] at h; cases h
  · have Hno := Lib.hid hno
    clear hno
    go_wp2_with fail
    refine (refrow_any a b n _ hn ha hb).mono ?_
    rintro e w3 (⟨ks', v', hr', hrow', -⟩ | ⟨-, rfl, hB⟩)
    · exfalso
      rcases Hno.out with h | h
      · rw [hr'] at h; cases h
      · rw [hrow'] at h; cases h
    · replace hB1 := bel2 hB1 hB1.size hB
      clear hB
      go_wp2_with fail
      refine wp_loop_rounds 1 ?_
      rw [rounds_succ]
      go_wp2_with fail
      go_ret
      exact .mk rfl hB1

theorem keysrow_any (a b : ByteArray) (n : Int) (w : World) (ha : a.size ≤ 140737488351232) (hb : b.size ≤ 140737488351232) (_hn : (Lit.int .i64 n).wf = true) :
    Calls Tryd.prog 7 #[.string a, .string b, .int .i64 n] w (TrueEnd w) := by
  by_cases h : n < 0 ∨ 1000 < n
  · exact keysrow_bad a b n w h
  · obtain ⟨m, rfl⟩ := Int.eq_ofNat_of_zero_le (show 0 ≤ n by omega)
    exact keysrow_good a b m w (by omega) ha hb

end Go.Proofs.YtbjjohfpdphpfaaDoor
