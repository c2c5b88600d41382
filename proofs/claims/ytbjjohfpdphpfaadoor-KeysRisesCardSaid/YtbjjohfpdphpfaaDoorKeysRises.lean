/- osierlaw06.KeysRises, walked. -/
import Derived.Test.YtbjjohfpdphpfaaDoorKeysRowLaw
import Derived.IntWalk
namespace Go.Proofs.YtbjjohfpdphpfaaDoor
open Go.RowKit Go.Lib

set_option maxRecDepth 100000 in
set_option maxHeartbeats 2000000 in
theorem rises_bad (a b : ByteArray) (n : Int) (w : World) (hn : n < 0 ∨ 1000 < n) :
    Calls Tryd.prog 8 #[.string a, .string b, .int .i64 n] w (TrueEnd w) := by
  rcases hn with hn | hn
  all_goals
    go_enter Tryd.func8, Tryd.ntmps8
    go_wp2_with fail
    refine (awake06 _).mono ?_
    rintro e w1 ⟨rfl, hB1⟩
    go_wp2_with fail
    go_ret
    exact .mk rfl hB1

theorem rises_not {a b : List UInt8} (h : Op.bytesLess a b = true) : Op.bytesLess b a = false ∧ (b == a) = false := by
  constructor
  · cases h2 : Op.bytesLess b a with
    | false => rfl
    | true => have := Keys.less_trans h h2; rw [Keys.less_irrefl] at this; cases this
  · rw [beq_eq_false_iff_ne]; intro e; rw [e, Keys.less_irrefl] at h; cases h

/-- What stood ahead of a row's i-th key. -/
def prev (a : ByteArray) (ks : List ByteArray) (i : Nat) : ByteArray := if i = 0 then a else ks.getD (i - 1) ⟨#[]⟩

set_option maxRecDepth 100000 in
set_option maxHeartbeats 4000000 in
theorem rises_good (a b : ByteArray) (n : Nat) (w : World) (hn : n ≤ 1000) (ha : a.size ≤ 140737488351232) (hb : b.size ≤ 140737488351232) :
    Calls Tryd.prog 8 #[.string a, .string b, .int .i64 (n : Int)] w (TrueEnd w) := by
  go_enter Tryd.func8, Tryd.ntmps8
  go_wp2_with fail
  refine (awake06 _).mono ?_
  rintro e w1 ⟨rfl, hB1⟩
  go_wp2_with fail
  refine (row_any a b n _ hn ha hb).mono ?_
  rintro e w2 (⟨ks, v, hr, hrow, rfl, hown, hB⟩ | ⟨hno, rfl, hB⟩)
  all_goals replace hB1 := bel2 hB1 hB1.size hB
  all_goals clear hB
  · have Hr := Lib.hid hr
    have Hrow := Lib.hid hrow
    have hlen := rowB_len _ hrow
    have hat : Hid (∀ i, i < n → Lies (prev a ks i) b (ks.getD i ⟨#[]⟩)) := rowB_at n hrow
    clear hr hrow
    rw [hlen] at hown
    obtain ⟨ao, cap, rfl⟩ := own_slice hown
    by_cases hz : n = 0
    · subst hz
      have hown2 := hown
      clear hown hown2 hat
      go_wp2_with fail
      refine wp_loop_rounds 1 ?_
      rw [rounds_succ]
      go_wp2_with fail
      go_ret
      exact .mk rfl hB1
    · obtain ⟨g, c, e1, -, hm1, -, hc⟩ := cells_of hown (by omega)
      injection e1 with e1 _ e3
      subst e1 e3
      have HC : Hid (∀ j, j < n → w2.cell? ⟨g, j, none⟩ = some (.string (ks.getD j ⟨#[]⟩))) := hc
      have hgs : g < w2.heap.size := by
        rcases own_cell hown with ⟨h, -⟩ | ⟨g', c', h, -, -, -, hlt, -⟩
        · cases h
        · injection h with h; injection h with h; injection h with h; omega
      have hne : ((n : Int) != (n : Int)) = false := by simp
      have hn0 : ((n : Int) == 0) = false := by rw [beq_eq_false_iff_ne]; omega
      clear hc hown hlen
      go_wp2_with fail
      go_loopw [10, 11] (fun p i wr => ∃ k : Nat, k ≤ n ∧ i = .int .i64 k ∧ p = .string (prev a ks k) ∧ Below w.heap.size w wr ∧ w2.heap.size ≤ wr.heap.size ∧ Hid (∀ j, j < n → wr.cell? ⟨g, j, none⟩ = some (.string (ks.getD j ⟨#[]⟩)))) (fun _ i _ => n - (RowKit.intOf i).toNat)
      case atStart => exact ⟨0, Nat.zero_le _, rfl, rfl, hB1, Nat.le_refl _, HC⟩
      case round =>
        rename_i wr
        obtain ⟨k, hk, rfl, rfl, hB2, hgr, H1⟩ := hrel
        clear HC hB1
        by_cases hlt : k < n
        · have q1 := H1.out k hlt
          obtain ⟨l1, l2, l3, l4, l5⟩ := hat.out k hlt
          obtain ⟨m1, m2⟩ := rises_not l2
          have hnext : prev a ks (k + 1) = ks.getD k ⟨#[]⟩ := by unfold prev; rw [if_neg (by omega)]; rfl
          have hlt' : (k : Int) < (n : Int) := by omega
          have h0 : (0 : Int) ≤ (k : Int) := by omega
          obtain ⟨s, hs⟩ : ∃ s, s = ks.getD k ⟨#[]⟩ := ⟨_, rfl⟩
          rw [← hs] at q1 l1 l2 l3 l4 m1 m2 hnext
          generalize prev a ks k = p at l2 m1 m2 ⊢
          have Hn := Lib.hid hnext
          clear hnext hs l5
          go_wp2_with fail
          refine (may_is s true _ (by omega) l1).mono ?_
          rintro e w3 ⟨rfl, hB⟩
          have q2 : w3.cell? ⟨g, k, none⟩ = some (.string s) := (hB.cell (show g < wr.heap.size by omega)).trans q1
          have H2 : Hid (∀ j, j < n → w3.cell? ⟨g, j, none⟩ = some (.string (ks.getD j ⟨#[]⟩))) := fun j hj => (hB.cell (show g < wr.heap.size by omega)).trans (H1.out j hj)
          have hs3 := hB.size
          have hB3 := bel2 hB2 hB2.size hB
          clear hB hB2 H1 q1
          by_cases hbn : b.toList = []
          · have hbe : b.toList.isEmpty = true := by rw [hbn]; rfl
            clear l3
            go_wp2_with fail
            go_roundw
            case rel => exact ⟨k + 1, by omega, by go_num, by rw [Hn.out], hB3, by omega, H2⟩
            case measure => simp [RowKit.intOf]; omega
          · have hbe := emp_false hbn
            replace l3 := l3.resolve_left hbn
            go_wp2_with fail
            go_roundw
            case rel => exact ⟨k + 1, by omega, by go_num, by rw [Hn.out], hB3, by omega, H2⟩
            case measure => simp [RowKit.intOf]; omega
        · clear hat
          obtain ⟨m, hm⟩ : ∃ m, n = m + 1 := ⟨n - 1, by omega⟩
          have Hm := Lib.hid hm
          clear hm
          go_wp2_with fail
          have hm := Hm.out
          rw [show (n : Int) - 1 = (m : Int) from by omega]
          refine (row_any a b m _ (by omega) ha hb).mono ?_
          rintro e w3 (⟨ms, v2, -, hrow2, rfl, hown2, hB⟩ | ⟨hno, -⟩)
          · obtain rfl : ms = ks.take m := by
              have := rowB_take n m Hrow.out (by omega)
              rw [hrow2] at this
              exact Option.some.inj this
            have hlen2 := rowB_len _ hrow2
            rw [hlen2] at hown2
            obtain ⟨ao2, cap2, rfl⟩ := own_slice hown2
            have hB3 := bel2 hB2 hB2.size hB
            by_cases h1 : n = 1
            · have hb1 : ((n : Int) == 1) = true := by rw [beq_iff_eq]; omega
              have hmm : ((m : Int) == (m : Int)) = true := by simp
              have hw : IntKind.i64.wrap ((n : Int) - 1) = (m : Int) := by rw [IntWalk.i64_in _ (by omega)]; omega
              have hw' : (n : Int) - 1 = (m : Int) := by omega
              clear hown2 hrow2 hlen2 h1 hn0 hne hm
              go_wp2_with fail
              go_quiet (fail)
              go_wp2_with fail
              go_ret
              exact .mk rfl (hB3.trans (below_drewN _ _ _))
            · obtain ⟨g2, c2, e2, -, hm2, -, hc2⟩ := cells_of hown2 (by omega)
              injection e2 with e2 _ e4
              subst e2 e4
              obtain ⟨j, hj⟩ : ∃ j, m = j + 1 := ⟨m - 1, by omega⟩
              have p2 := hc2 j (by omega)
              have p1 : w3.cell? ⟨g, j, none⟩ = some (.string (ks.getD j ⟨#[]⟩)) := (hB.cell (show g < wr.heap.size by omega)).trans (H1.out j (by omega))
              rw [show (ks.take m).getD j ⟨#[]⟩ = ks.getD j ⟨#[]⟩ from by
                simp only [List.getD_eq_getElem?_getD]
                rw [List.getElem?_take_of_lt (by omega)]] at p2
              generalize ks.getD j ⟨#[]⟩ = s at p1 p2
              have hb1 : ((n : Int) == 1) = false := by rw [beq_eq_false_iff_ne]; omega
              have hmm : ((m : Int) == (m : Int)) = true := by simp
              have hj0 : (0 : Int) ≤ (j : Int) := by omega
              have hj1 : (j : Int) < (m : Int) := by omega
              have hj2 : (j : Int) < (n : Int) := by omega
              have hss : (s.toList == s.toList) = true := by simp
              have hw : IntKind.i64.wrap ((n : Int) - 1) = (m : Int) := by rw [IntWalk.i64_in _ (by omega)]; omega
              have hv : IntKind.i64.wrap ((n : Int) - 2) = (j : Int) := by rw [IntWalk.i64_in _ (by omega)]; omega
              have hw' : (n : Int) - 1 = (m : Int) := by omega
              have hv' : (n : Int) - 2 = (j : Int) := by omega
              clear hc2 hown2 hrow2 hlen2 hB hB2 H1 hm hj h1 hn0 hne hz hgr hgs
              go_wp2_with fail
              go_quiet (fail)
              go_wp2_with fail
              go_ret
              exact .mk rfl (hB3.trans (below_drewN _ _ _))
          · exfalso
            rcases hno with h | h
            · rw [Hr.out] at h; cases h
            · rw [rowB_take n m Hrow.out (by omega)] at h; cases h
  · clear hno
    go_wp2_with fail
    go_ret
    exact .mk rfl hB1

theorem rises_any (a b : ByteArray) (n : Int) (w : World) (ha : a.size ≤ 140737488351232) (hb : b.size ≤ 140737488351232) (_hn : (Lit.int .i64 n).wf = true) :
    Calls Tryd.prog 8 #[.string a, .string b, .int .i64 n] w (TrueEnd w) := by
  by_cases h : n < 0 ∨ 1000 < n
  · exact rises_bad a b n w h
  · obtain ⟨m, rfl⟩ := Int.eq_ofNat_of_zero_le (show 0 ≤ n by omega)
    exact rises_good a b m w (by omega) ha hb

end Go.Proofs.YtbjjohfpdphpfaaDoor
