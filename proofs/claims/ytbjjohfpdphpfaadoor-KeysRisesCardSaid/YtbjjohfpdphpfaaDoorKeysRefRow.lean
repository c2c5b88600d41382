/- osierref06.Row, walked. -/
import Derived.Test.YtbjjohfpdphpfaaDoorKeysRow
import Derived.Test.YtbjjohfpdphpfaaDoorKeysRef2
namespace Go.Proofs.YtbjjohfpdphpfaaDoor
open Go.RowKit Go.Lib

set_option maxRecDepth 100000 in
set_option maxHeartbeats 2000000 in
theorem refrow_bad (a b : ByteArray) (n : Int) (w : World) (hn : n < 0 ∨ 1000 < n) :
    Calls Tryd.prog 21 #[.string a, .string b, .int .i64 n] w fun e w' => e = .returned (.tuple #[.slice none 0 0, .int .i64 1]) ∧ Below w.heap.size w w' := by
  rcases hn with hn | hn
  all_goals
    go_enter Tryd.func21, Tryd.ntmps21
    go_wp2_with fail
    go_ret2
    exact ⟨rfl, Below.refl _ _⟩

set_option maxRecDepth 100000 in
set_option maxHeartbeats 2000000 in
theorem refrow_any (a b : ByteArray) (n : Nat) (w : World) (hn : n ≤ 1000) (ha : a.size ≤ 140737488351232) (hb : b.size ≤ 140737488351232) :
    Calls Tryd.prog 21 #[.string a, .string b, .int .i64 (n : Int)] w (RowEnd a b n w) := by
  go_enter Tryd.func21, Tryd.ntmps21
  go_wp2_with fail
  refine (refright_any a b _ (by omega) (by omega)).mono ?_
  rintro e w1 ⟨rfl, rfl⟩
  cases hr : Keys.right a b with
  | false =>
    go_wp2_with fail
    go_ret2
    exact .inr ⟨.inl hr, rfl, Below.refl _ _⟩
  | true =>
    have HR := Lib.hid hr
    clear hr
    go_wp2_with fail
    go_loopw [0, 9, 10] (fun va vo i wr => ∃ (k : Nat) (ak : ByteArray) (ks : List ByteArray), i = .int .i64 k ∧ va = .string ak ∧ k ≤ n ∧ ak.size ≤ 140737488351232 ∧ Hid (ks.length = k) ∧ wr.ownsRow w.heap.size 9 1 vo k (ks.map Value.string) ∧ Below w.heap.size w wr ∧ Hid (rowB a b n = (rowB ak b (n - k)).map (ks ++ ·))) (fun _ _ i _ => n - (RowKit.intOf i).toNat)
    case atStart => exact ⟨0, a, [], rfl, rfl, Nat.zero_le _, ha, rfl, ⟨rfl, .inl ⟨rfl, rfl⟩⟩, Below.refl _ _, by show _ = _; simp⟩
    case round =>
      rename_i wr
      obtain ⟨k, ak, ks, rfl, rfl, hk, hak, hks, hown, hB2, hrow⟩ := hrel
      by_cases hlt : k < n
      · have hrow' := hrow.out
        rw [show n - k = (n - (k + 1)) + 1 from by omega] at hrow'
        clear hrow
        rcases between_split ak b with ⟨q, hq, l1, l2, l3, l4, l5⟩ | ⟨hq, -⟩
        · rw [rowB_step hq] at hrow'
          have HQ := Lib.hid hq
          have Hrow := Lib.hid hrow'
          clear hq hrow' l1 l2 l3 l5
          go_wp2_with fail
          refine (refbetween_any ak b q 0 _ (by omega) (by omega) HQ.out).mono ?_
          rintro e w2 ⟨rfl, hB⟩
          have hown2 : w2.ownsRow w.heap.size 9 1 _ k (ks.map Value.string) := owns_below hown hB
          have hB3 := bel2 hB2 hB2.size hB
          have hs3 := hB3.size
          clear hown hB hB2
          go_wp2_with (at_builtin; refine wpList_append_one rfl (.tmp 38) (.tmp 40) 29 9 rfl (.string ⟨#[]⟩) 1 16 Tryd.underlying29 info_string rfl (by decide) rfl hown2 rfl rfl ?_ ?_ ?_ ?_ ?_; simp [Value.oneCell']; unfold maxLen; omega; omega; omega; intro v1 w3 hown3 hB4 hg2)
          go_roundw
          case rel => exact ⟨k + 1, q, ks ++ [q], by go_num, rfl, by omega, by omega, by show _ = _; simp [hks.out], by rw [List.map_append]; exact hown3, hB3.trans hB4, by
            show _ = _
            rw [Hrow.out, Option.map_map]
            congr 1
            funext r
            simp⟩
          case measure => simp [RowKit.intOf]; omega
        · rw [rowB_stop (k := ⟨#[]⟩) hq] at hrow'
          have HQ := Lib.hid (show Keys.between ak.toList b.toList = ((⟨#[]⟩ : ByteArray).data.toList, 43) from hq)
          have Hrow := Lib.hid hrow'
          clear hq hrow'
          go_wp2_with fail
          refine (refbetween_any ak b ⟨#[]⟩ 43 _ (by omega) (by omega) HQ.out).mono ?_
          rintro e w2 ⟨rfl, hB⟩
          have hB3 := bel2 hB2 hB2.size hB
          clear hB hB2
          go_wp2_with fail
          go_ret2
          exact .inr ⟨.inr (by rw [Hrow.out]; rfl), rfl, hB3⟩
      · have hkn : k = n := by omega
        have hfin : rowB a b n = some ks := by rw [hrow.out, hkn, Nat.sub_self]; simp [rowB]
        have HF := Lib.hid hfin
        have hown' := hown
        rw [← hks.out] at hown'
        clear hfin hkn hrow
        go_wp2_with fail
        go_ret2
        exact .inl ⟨ks, _, HR.out, HF.out, rfl, hown', hB2⟩

end Go.Proofs.YtbjjohfpdphpfaaDoor
