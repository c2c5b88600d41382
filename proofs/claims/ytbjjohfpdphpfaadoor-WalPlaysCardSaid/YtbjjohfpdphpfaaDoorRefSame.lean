/- osierref19.Begins and Same, walked where both rows read alike. -/
import Derived.Test.YtbjjohfpdphpfaaDoorWalOpen
import Derived.Test.YtbjjohfpdphpfaaDoorDiskSurePure
namespace Go.Proofs.YtbjjohfpdphpfaaDoor.Wal
open Go Go.RowKit Go.Lib Go.Proofs.YtbjjohfpdphpfaaDoor.Dsk Go.Proofs.YtbjjohfpdphpfaaDoor.Frm

set_option maxRecDepth 100000 in
set_option maxHeartbeats 4000000 in
theorem begins_true (w : World) {ao bo : Option Addr} {ca cb : Nat} {ls : List (List UInt8)} {G G' : Nat → Prop} (hA : RowsG w (.slice ao ls.length ca) ls G) (hB : RowsG w (.slice bo ls.length cb) ls G') (hl : ls.length ≤ 4294967296) :
    Calls Tryd.prog 58 #[.slice ao ls.length ca, .slice bo ls.length cb, .int .i64 0] w fun e w' => e = .returned (.bool true) ∧ Keep (fun _ => False) w w' := by
  have HA := hid hA
  have HB := hid hB
  clear hA hB
  go_enter Tryd.func58, Tryd.ntmps58
  go_wp2_with fail
  go_loopw [7] (fun iv wr => ∃ i : Nat, iv = .int .i64 (i : Int) ∧ i ≤ ls.length ∧ Hid (Keep (fun _ => False) w wr)) (fun iv _ => ls.length - (RowKit.intOf iv).toNat)
  case atStart => exact ⟨0, rfl, Nat.zero_le _, hid (Keep.refl _ _)⟩
  case round =>
    obtain ⟨i, rfl, hi, hK⟩ := hrel
    by_cases hlt : i < ls.length
    · obtain ⟨l, hll⟩ : ∃ l, ls[i]? = some l := ⟨ls[i], List.getElem?_eq_getElem hlt⟩
      obtain ⟨ao', ca', e1, hn1, hr1⟩ := (HA.out.keep hK.out (fun _ _ h => h)).rows
      obtain ⟨bo', cb', e2, hn2, hr2⟩ := (HB.out.keep hK.out (fun _ _ h => h)).rows
      injection e1 with e1 _ e3
      injection e2 with e2 _ e4
      subst e1; subst e2
      cases ao with
      | none => rw [hn1 rfl] at hlt; simp at hlt
      | some a =>
        cases bo with
        | none => rw [hn2 rfl] at hlt; simp at hlt
        | some b =>
          obtain ⟨-, -, A, C, hc1, hb1⟩ := hr1 a rfl i l hll
          obtain ⟨-, -, A2, C2, hc2, hb2⟩ := hr2 b rfl i l hll
          have hs1 : (convert 33 9 (.slice A l.length C)).run Tryd.prog wr.drew = .ok (.string ⟨l.toArray⟩) wr.drew := bytes_string (hb1.keep (keep_drawn' wr _) (fun _ _ h => h))
          have hs2 : (convert 33 9 (.slice A2 l.length C2)).run Tryd.prog wr.drew = .ok (.string ⟨l.toArray⟩) wr.drew := bytes_string (hb2.keep (keep_drawn' wr _) (fun _ _ h => h))
          have HK := hid (hK.out.trans (keep_drawn' wr (wr.drawn + 1)) (fun _ _ h => h))
          clear hr1 hr2 hn1 hn2 hb1 hb2 e3 e4 hll
          go_wp2_with fail
          refine wp_region_still_lit (by kernel_rfl) (by kernel_rfl) ?_
          repeat still_step
          refine wpStill_nil ?_
          go_wp2_with fail
          exact ⟨⟨i + 1, by simp, by omega, HK⟩, by simp [RowKit.intOf]; omega⟩
    · go_wp2_with fail
      all_goals go_ret
      all_goals exact ⟨rfl, hK.out⟩

set_option maxRecDepth 100000 in
theorem same_true (w : World) {va vb : Value} {ls : List (List UInt8)} {G G' : Nat → Prop} (hA : RowsG w va ls G) (hB : RowsG w vb ls G') (hl : ls.length ≤ 4294967296) :
    Calls Tryd.prog 34 #[va, vb] w fun e w' => e = .returned (.bool true) ∧ Keep (fun _ => False) w w' := by
  obtain ⟨ao, ca, rfl⟩ := rows_slice hA
  obtain ⟨bo, cb, rfl⟩ := rows_slice hB
  have HC := hid (begins_true w hA hB hl)
  clear hA hB
  go_enter Tryd.func34, Tryd.ntmps34
  go_wp2_with fail
  refine HC.out.mono ?_
  rintro e w1 ⟨rfl, hK⟩
  have HK := hid hK
  clear hK
  go_wp2_with fail
  all_goals go_ret
  all_goals exact ⟨rfl, HK.out⟩

end Go.Proofs.YtbjjohfpdphpfaaDoor.Wal
