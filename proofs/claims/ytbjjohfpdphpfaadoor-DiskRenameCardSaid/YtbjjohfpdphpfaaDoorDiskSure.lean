/- osierlaw18.DiskSure, walked. -/
import Derived.Test.YtbjjohfpdphpfaaDoorDiskSurePure
import Derived.Test.YtbjjohfpdphpfaaDoorOpenArgs
namespace Go.Proofs.YtbjjohfpdphpfaaDoor.Dsk
open Go Go.RowKit Go.Lib

theorem keep_new {w w' : World} (h : Keep (fun i => w.heap.size ≤ i) w w') : Keep (fun _ => False) w w' :=
  ⟨h.os, h.tape, h.output, h.size, fun k hk _ => h.block k hk (by omega)⟩

set_option maxRecDepth 100000 in
set_option maxHeartbeats 8000000 in
theorem sure_row (W : World) {A0 : Option Addr} {C0 : Nat} {l0 : List UInt8} {sure : Bool} {ao : Option Addr} {cap : Nat} {ls : List (List UInt8)} {n p k : Int}
    (hB : BytesIn W (.slice A0 l0.length C0) l0 (fun i => i < W.heap.size)) (hR : RowsIn W (.slice ao ls.length cap) ls W.heap.size) (hn : n < 9223372036854775808) (hp : p < 9223372036854775808) (hk : k < 9223372036854775808) :
    Calls Tryd.prog 9 #[.slice A0 l0.length C0, .bool sure, .slice ao ls.length cap, .int .i64 n, .int .i64 p, .int .i64 k] W fun e w' => e = .returned (.bool true) ∧ Keep (fun _ => False) W w' := by
  have HB := hid hB
  have HR := hid hR
  clear hB hR
  go_enter Tryd.func9, Tryd.ntmps9
  go_wp2_with fail
  refine (awake18 W).mono ?_
  rintro e w1 ⟨rfl, hK⟩
  have HK1 := hid hK
  clear hK
  by_cases h1 : 1000 < (l0.length : Int)
  · go_wp2_with fail
    all_goals go_ret
    all_goals exact ⟨rfl, HK1.out⟩
  by_cases h2 : 20 < (ls.length : Int)
  · go_wp2_with fail
    all_goals go_ret
    all_goals exact ⟨rfl, HK1.out⟩
  by_cases h3 : n < 0
  · go_wp2_with fail
    all_goals go_ret
    all_goals exact ⟨rfl, HK1.out⟩
  by_cases h4 : p < 0
  · go_wp2_with fail
    all_goals go_ret
    all_goals exact ⟨rfl, HK1.out⟩
  by_cases h5 : k < 0
  · go_wp2_with fail
    all_goals go_ret
    all_goals exact ⟨rfl, HK1.out⟩
  obtain ⟨nn, hnn⟩ : ∃ nn : Nat, n = (nn : Int) := ⟨n.toNat, by omega⟩
  have HNN := hid hnn
  clear hnn
  go_wp2_with fail
  refine (new_any 1000000 w1 (by decide)).mono ?_
  rintro e w2 ⟨db, rfl, hdb, hI, hK⟩
  have hs1 := HK1.out.size
  have HI2 := hid (hI.own (n := W.heap.size) fun i hi => by omega)
  have HK2 := hid ((HK1.out.trans hK (fun _ _ h => h)).mono (G := fun i => W.heap.size ≤ i) fun _ _ h => h.elim)
  have hs2 := HK2.out.size
  clear hI hK HK1
  unfold ptr
  go_wp2_with fail
  refine (own_append HI2.out hs2 (Keep.refl _ _) nmA (HB.out.keep HK2.out (fun i hi h => by omega)) (fun i hi => ⟨by omega, .inl hi⟩)).mono ?_
  have e1 : append (new 1000000) nmA l0 = (one 1000000 false none l0 0, 0) := one_new (R := 1000000) (by omega) (by unfold whole; omega)
  rw [e1]
  rintro e w3 ⟨rfl, hI, hK⟩
  have HI3 := hid hI
  have HK3 := hid (HK2.out.trans hK (fun _ _ h => h))
  have hs3 := HK3.out.size
  clear hI hK HI2 HK2
  cases sure with
  | false =>
    go_wp2_with fail
    refine (own_cut HI3.out hs3 n p k hn hp hk).mono ?_
    rw [one_cutTo (by omega) (by omega) (by omega)]
    rintro e w4 ⟨rfl, hI, hK⟩
    have HI4 := hid hI
    have HK4 := hid (HK3.out.trans hK (fun _ _ h => h))
    have hs4 := HK4.out.size
    clear hI hK HI3 HK3
    have hst := bytes_string (HB.out.keep HK4.out (fun i hi h => by omega))
    go_wp2_with fail
    have hl0 : l0.length ≤ 1000 := by omega
    have HS0 := hid (show SureAt nn p.toNat k.toNat 0 l0 ls 0 (one 1000000 false (some (n.toNat, p.toNat, k.toNat)) l0 0) from .inl ⟨Nat.zero_le _, by rw [firsts_zero, HNN.out]; rfl⟩)
    go_loopw [19, 20] (fun av iv wr => ∃ (i : Nat) (D : DiskM), iv = .int .i64 (i : Int) ∧ i ≤ ls.length ∧ (firsts l0 ls i).length ≤ 1000 + 1000 * i ∧ av = .string ⟨(firsts l0 ls (min i (nn + 1))).toArray⟩ ∧ Hid (OwnDisk W.heap.size wr db D) ∧ Hid (SureAt nn p.toNat k.toNat 0 l0 ls i D) ∧ Hid (Keep (fun i => W.heap.size ≤ i) W wr)) (fun _ iv _ => ls.length - (RowKit.intOf iv).toNat)
    case atStart => exact ⟨0, _, rfl, Nat.zero_le _, by rw [firsts_zero]; omega, by rw [Nat.zero_min, firsts_zero], HI4, HS0, HK4⟩
    case round =>
      rename_i wr
      obtain ⟨i, D, rfl, hi, hlen, rfl, hO, hS, hK⟩ := hrel
      by_cases hlt : i < ls.length
      · obtain ⟨l, hl⟩ : ∃ l, ls[i]? = some l := ⟨ls[i], List.getElem?_eq_getElem hlt⟩
        have HRw := HR.out.keep (Nat.le_refl _) hK.out
        obtain ⟨ao', cap', e, hn0, hrow⟩ := HRw.read
        injection e with e1 e2 e3
        subst e1
        subst e3
        cases ao with
        | none => rw [hn0 rfl] at hlt; simp at hlt
        | some a =>
          obtain ⟨hb, A, C, hc, hBl⟩ := hrow a rfl i l hl
          have HBl := hid hBl
          clear HRw hrow hn0 hBl
          by_cases hl1 : 1000 < (l.length : Int)
          · go_wp2_with fail
            all_goals go_ret
            all_goals exact ⟨rfl, keep_new hK.out⟩
          · go_wp2_with fail
            refine (own_off hO.out).mono ?_
            intro e w' hh
            obtain ⟨he, hw⟩ := hh
            rw [he, hw]
            clear he hw w' e
            have hsr := hK.out.size
            go_wp2_with fail
            refine (own_append hO.out hsr (Keep.refl _ _) nmA HBl.out (fun i hi => ⟨by omega, .inl hi⟩)).mono ?_
            rintro e w9 ⟨rfl, hI, hK9⟩
            have HO9 := hid hI
            have HK9 := hid (hK.out.trans hK9 (fun _ _ h => h))
            have hst2 := bytes_string (HBl.out.keep hK9 (fun i hi h => by omega))
            have hc9 := (hK9.cell (p := a.add i) (by omega) (by omega)).trans hc
            clear hI hK9
            have hfs := firsts_succ l0 ls i l hl
            have hstep := sure_step hS.out hl (by omega) (by omega)
            have HS' := hid hstep.1
            have hiff := hstep.2
            have hlen' : (firsts l0 ls (i + 1)).length ≤ 1000 + 1000 * (i + 1) := by rw [hfs, List.length_append]; omega
            clear hstep
            have hcase := hS.out
            generalize append D nmA l = q at *
            obtain ⟨D', c⟩ := q
            simp only at hiff HS' HO9
            have hoff : (D.off = false ∧ i ≤ nn) ∨ (D.off = true ∧ nn < i) := by
              rcases hcase with ⟨hin, hD⟩ | ⟨hin, m, hD, -⟩
              · exact .inl ⟨by rw [hD]; rfl, hin⟩
              · exact .inr ⟨by rw [hD]; rfl, hin⟩
            clear hcase
            have hdec : (!(c == 0) == !D'.off) = false := by
              cases hq : D'.off with
              | false => simp [hiff.2 hq]
              | true =>
                have : ¬ c = 0 := fun e => by rw [hiff.1 e] at hq; cases hq
                simp [this]
            clear hiff
            rcases hoff with ⟨hoff, hin⟩ | ⟨hoff, hin⟩
            · have hadd : (Op.stringOp .add ⟨(firsts l0 ls (min i (nn + 1))).toArray⟩ ⟨l.toArray⟩).run Tryd.prog w9 = .ok (.string ⟨(firsts l0 ls (min (i + 1) (nn + 1))).toArray⟩) w9 := by
                rw [run_string_add_sum w9 _ _ (by rw [Nat.min_eq_left (by omega)]; simp only [ByteArray.size, List.size_toArray]; omega), Nat.min_eq_left (by omega), Nat.min_eq_left (by omega), hfs, bytes_append]
              rw [hoff]
              go_wp2_with fail
              refine (own_off HO9.out).mono ?_
              intro e w' hh
              obtain ⟨he, hw⟩ := hh
              rw [he, hw]
              clear he hw w' e
              go_wp2_with fail
              exact ⟨⟨i + 1, D', by simp, by omega, hlen', by rw [Nat.min_eq_left (by omega), hfs], HO9, HS', HK9⟩, by simp [RowKit.intOf]; omega⟩
            · have hsame : min (i + 1) (nn + 1) = min i (nn + 1) := by omega
              rw [hoff]
              go_wp2_with fail
              refine (own_off HO9.out).mono ?_
              intro e w' hh
              obtain ⟨he, hw⟩ := hh
              rw [he, hw]
              clear he hw w' e
              go_wp2_with fail
              exact ⟨⟨i + 1, D', by simp, by omega, hlen', by simp only [hsame], HO9, HS', HK9⟩, by simp [RowKit.intOf]; omega⟩
      · obtain rfl : i = ls.length := by omega
        obtain ⟨x, hrd, hx1, hx2, hx3, hx4, hx5⟩ := sure_end hS.out (by omega)
        have HX5 := hid hx5
        have HX4 := hid (show D.off = decide (n < (ls.length : Int)) by rw [hx4, HNN.out]; simp)
        clear hx4 hx5
        by_cases hlast : n < (ls.length : Int)
        · have hoffv : D.off = true := by rw [HX4.out]; exact decide_eq_true hlast
          go_wp2_with fail
          refine (own_off hO.out).mono ?_
          intro e w' hh
          obtain ⟨he, hw⟩ := hh
          rw [he, hw]
          clear he hw w' e
          rw [hoffv]
          go_wp2_with fail
          refine (own_on hO.out).mono ?_
          rintro e w6 ⟨rfl, hI, hK6⟩
          have HI6 := hid hI
          have HK6 := hid (hK.out.trans hK6 (fun _ _ h => h))
          have hs6 := HK6.out.size
          clear hI hK6
          go_wp2_with fail
          refine (read_any w6 HI6.out nmA).mono ?_
          rintro e w7 ⟨v', rfl, hF, hK7⟩
          rw [hrd] at hF
          have HF := hid hF
          have HK7 := hid (HK6.out.trans hK7 (fun _ _ h => h.elim))
          have hstr : (convert 33 9 v').run Tryd.prog w7.drew = .ok (.string ⟨x.toArray⟩) w7.drew := bytes_string (hF.bytesIn.keep (keep_drawn w7 _) (fun _ _ h => h))
          obtain ⟨av, cv, hv, -, -⟩ := hF.slice
          subst hv
          clear hF hK7
          rw [hrd]
          generalize hal : firsts l0 ls (min ls.length (nn + 1)) = al at *
          have hsl : ∀ w, (Instr.slice 9 (.string ⟨al.toArray⟩) none (some (.int .i64 (x.length : Int))) none).run Tryd.prog w = .ok (.string ⟨x.toArray⟩) w := fun w => by
            rw [run_slice_string_to_if w _ _ _ _ Tryd.underlying9, if_pos ⟨by omega, by simp [ByteArray.size]; omega⟩]
            conv => rhs; rw [hx3]
            congr 2
            apply ByteArray.ext
            simp
          clear hx3 hrd hal
          go_wp2_with fail
          refine wp_region_still_lit (by kernel_rfl) (by kernel_rfl) ?_
          repeat (first | still_step | (refine wpStill_step (fun K hK => ?_); go_simp; rw [if_pos (by omega)]; refine hK _ ?_; clear hK K))
          refine wpStill_nil ?_
          go_wp2_with fail
          all_goals go_ret
          all_goals exact ⟨by first | rfl | (show Ending.returned (Value.bool !decide (n < (ls.length : Int))) = _; rw [decide_eq_false (by omega)]; rfl), keep_new HK7.out.drew⟩
        · have hoffv : D.off = false := by rw [HX4.out]; exact decide_eq_false hlast
          go_wp2_with fail
          refine (own_off hO.out).mono ?_
          intro e w' hh
          obtain ⟨he, hw⟩ := hh
          rw [he, hw]
          clear he hw w' e
          rw [hoffv]
          go_wp2_with fail
          refine (own_on hO.out).mono ?_
          rintro e w6 ⟨rfl, hI, hK6⟩
          have HI6 := hid hI
          have HK6 := hid (hK.out.trans hK6 (fun _ _ h => h))
          have hs6 := HK6.out.size
          clear hI hK6
          go_wp2_with fail
          refine (read_any w6 HI6.out nmA).mono ?_
          rintro e w7 ⟨v', rfl, hF, hK7⟩
          rw [hrd] at hF
          have HF := hid hF
          have HK7 := hid (HK6.out.trans hK7 (fun _ _ h => h.elim))
          have hstr : (convert 33 9 v').run Tryd.prog w7.drew = .ok (.string ⟨x.toArray⟩) w7.drew := bytes_string (hF.bytesIn.keep (keep_drawn w7 _) (fun _ _ h => h))
          obtain ⟨av, cv, hv, -, -⟩ := hF.slice
          subst hv
          clear hF hK7
          rw [hrd]
          generalize hal : firsts l0 ls (min ls.length (nn + 1)) = al at *
          have hsl : ∀ w, (Instr.slice 9 (.string ⟨al.toArray⟩) none (some (.int .i64 (x.length : Int))) none).run Tryd.prog w = .ok (.string ⟨x.toArray⟩) w := fun w => by
            rw [run_slice_string_to_if w _ _ _ _ Tryd.underlying9, if_pos ⟨by omega, by simp [ByteArray.size]; omega⟩]
            conv => rhs; rw [hx3]
            congr 2
            apply ByteArray.ext
            simp
          have hbe : ((x.length : Int) == (al.length : Int)) = true := by have := HX5.out hoffv; rw [this]; simp
          clear hx3 hrd hal
          go_wp2_with fail
          refine wp_region_still_lit (by kernel_rfl) (by kernel_rfl) ?_
          repeat (first | still_step | (refine wpStill_step (fun K hK => ?_); go_simp; rw [if_pos (by omega)]; refine hK _ ?_; clear hK K))
          refine wpStill_nil ?_
          go_wp2_with fail
          all_goals go_ret
          all_goals exact ⟨by first | rfl | (show Ending.returned (Value.bool !decide (n < (ls.length : Int))) = _; rw [decide_eq_false (by omega)]; rfl), keep_new HK7.out.drew⟩
  | true =>
    go_wp2_with fail
    refine (own_sync HI3.out hs3 nmA).mono ?_
    rw [one_sync]
    rintro e w4 ⟨rfl, hI, hK⟩
    have HI4 := hid hI
    have HK4 := hid (HK3.out.trans hK (fun _ _ h => h))
    have hs4 := HK4.out.size
    clear hI hK HI3 HK3
    go_wp2_with fail
    refine (own_cut HI4.out hs4 n p k hn hp hk).mono ?_
    rw [one_cutTo (by omega) (by omega) (by omega)]
    rintro e w5 ⟨rfl, hI, hK⟩
    have HI5 := hid hI
    have HK5 := hid (HK4.out.trans hK (fun _ _ h => h))
    have hs5 := HK5.out.size
    clear hI hK HI4 HK4
    have hst := bytes_string (HB.out.keep HK5.out (fun i hi h => by omega))
    go_wp2_with fail
    have hl0 : l0.length ≤ 1000 := by omega
    have HS0 := hid (show SureAt nn p.toNat k.toNat l0.length l0 ls 0 (one 1000000 false (some (n.toNat, p.toNat, k.toNat)) l0 l0.length) from .inl ⟨Nat.zero_le _, by rw [firsts_zero, HNN.out]; rfl⟩)
    go_loopw [19, 20] (fun av iv wr => ∃ (i : Nat) (D : DiskM), iv = .int .i64 (i : Int) ∧ i ≤ ls.length ∧ (firsts l0 ls i).length ≤ 1000 + 1000 * i ∧ av = .string ⟨(firsts l0 ls (min i (nn + 1))).toArray⟩ ∧ Hid (OwnDisk W.heap.size wr db D) ∧ Hid (SureAt nn p.toNat k.toNat l0.length l0 ls i D) ∧ Hid (Keep (fun i => W.heap.size ≤ i) W wr)) (fun _ iv _ => ls.length - (RowKit.intOf iv).toNat)
    case atStart => exact ⟨0, _, rfl, Nat.zero_le _, by rw [firsts_zero]; omega, by rw [Nat.zero_min, firsts_zero], HI5, HS0, HK5⟩
    case round =>
      rename_i wr
      obtain ⟨i, D, rfl, hi, hlen, rfl, hO, hS, hK⟩ := hrel
      by_cases hlt : i < ls.length
      · obtain ⟨l, hl⟩ : ∃ l, ls[i]? = some l := ⟨ls[i], List.getElem?_eq_getElem hlt⟩
        have HRw := HR.out.keep (Nat.le_refl _) hK.out
        obtain ⟨ao', cap', e, hn0, hrow⟩ := HRw.read
        injection e with e1 e2 e3
        subst e1
        subst e3
        cases ao with
        | none => rw [hn0 rfl] at hlt; simp at hlt
        | some a =>
          obtain ⟨hb, A, C, hc, hBl⟩ := hrow a rfl i l hl
          have HBl := hid hBl
          clear HRw hrow hn0 hBl
          by_cases hl1 : 1000 < (l.length : Int)
          · go_wp2_with fail
            all_goals go_ret
            all_goals exact ⟨rfl, keep_new hK.out⟩
          · go_wp2_with fail
            refine (own_off hO.out).mono ?_
            intro e w' hh
            obtain ⟨he, hw⟩ := hh
            rw [he, hw]
            clear he hw w' e
            have hsr := hK.out.size
            go_wp2_with fail
            refine (own_append hO.out hsr (Keep.refl _ _) nmA HBl.out (fun i hi => ⟨by omega, .inl hi⟩)).mono ?_
            rintro e w9 ⟨rfl, hI, hK9⟩
            have HO9 := hid hI
            have HK9 := hid (hK.out.trans hK9 (fun _ _ h => h))
            have hst2 := bytes_string (HBl.out.keep hK9 (fun i hi h => by omega))
            have hc9 := (hK9.cell (p := a.add i) (by omega) (by omega)).trans hc
            clear hI hK9
            have hfs := firsts_succ l0 ls i l hl
            have hstep := sure_step hS.out hl (by omega) (by omega)
            have HS' := hid hstep.1
            have hiff := hstep.2
            have hlen' : (firsts l0 ls (i + 1)).length ≤ 1000 + 1000 * (i + 1) := by rw [hfs, List.length_append]; omega
            clear hstep
            have hcase := hS.out
            generalize append D nmA l = q at *
            obtain ⟨D', c⟩ := q
            simp only at hiff HS' HO9
            have hoff : (D.off = false ∧ i ≤ nn) ∨ (D.off = true ∧ nn < i) := by
              rcases hcase with ⟨hin, hD⟩ | ⟨hin, m, hD, -⟩
              · exact .inl ⟨by rw [hD]; rfl, hin⟩
              · exact .inr ⟨by rw [hD]; rfl, hin⟩
            clear hcase
            have hdec : (!(c == 0) == !D'.off) = false := by
              cases hq : D'.off with
              | false => simp [hiff.2 hq]
              | true =>
                have : ¬ c = 0 := fun e => by rw [hiff.1 e] at hq; cases hq
                simp [this]
            clear hiff
            rcases hoff with ⟨hoff, hin⟩ | ⟨hoff, hin⟩
            · have hadd : (Op.stringOp .add ⟨(firsts l0 ls (min i (nn + 1))).toArray⟩ ⟨l.toArray⟩).run Tryd.prog w9 = .ok (.string ⟨(firsts l0 ls (min (i + 1) (nn + 1))).toArray⟩) w9 := by
                rw [run_string_add_sum w9 _ _ (by rw [Nat.min_eq_left (by omega)]; simp only [ByteArray.size, List.size_toArray]; omega), Nat.min_eq_left (by omega), Nat.min_eq_left (by omega), hfs, bytes_append]
              rw [hoff]
              go_wp2_with fail
              refine (own_off HO9.out).mono ?_
              intro e w' hh
              obtain ⟨he, hw⟩ := hh
              rw [he, hw]
              clear he hw w' e
              go_wp2_with fail
              exact ⟨⟨i + 1, D', by simp, by omega, hlen', by rw [Nat.min_eq_left (by omega), hfs], HO9, HS', HK9⟩, by simp [RowKit.intOf]; omega⟩
            · have hsame : min (i + 1) (nn + 1) = min i (nn + 1) := by omega
              rw [hoff]
              go_wp2_with fail
              refine (own_off HO9.out).mono ?_
              intro e w' hh
              obtain ⟨he, hw⟩ := hh
              rw [he, hw]
              clear he hw w' e
              go_wp2_with fail
              exact ⟨⟨i + 1, D', by simp, by omega, hlen', by simp only [hsame], HO9, HS', HK9⟩, by simp [RowKit.intOf]; omega⟩
      · obtain rfl : i = ls.length := by omega
        obtain ⟨x, hrd, hx1, hx2, hx3, hx4, hx5⟩ := sure_end hS.out (by omega)
        have HX5 := hid hx5
        have HX4 := hid (show D.off = decide (n < (ls.length : Int)) by rw [hx4, HNN.out]; simp)
        clear hx4 hx5
        by_cases hlast : n < (ls.length : Int)
        · have hoffv : D.off = true := by rw [HX4.out]; exact decide_eq_true hlast
          go_wp2_with fail
          refine (own_off hO.out).mono ?_
          intro e w' hh
          obtain ⟨he, hw⟩ := hh
          rw [he, hw]
          clear he hw w' e
          rw [hoffv]
          go_wp2_with fail
          refine (own_on hO.out).mono ?_
          rintro e w6 ⟨rfl, hI, hK6⟩
          have HI6 := hid hI
          have HK6 := hid (hK.out.trans hK6 (fun _ _ h => h))
          have hs6 := HK6.out.size
          clear hI hK6
          go_wp2_with fail
          refine (read_any w6 HI6.out nmA).mono ?_
          rintro e w7 ⟨v', rfl, hF, hK7⟩
          rw [hrd] at hF
          have HF := hid hF
          have HK7 := hid (HK6.out.trans hK7 (fun _ _ h => h.elim))
          have hstr : (convert 33 9 v').run Tryd.prog w7.drew = .ok (.string ⟨x.toArray⟩) w7.drew := bytes_string (hF.bytesIn.keep (keep_drawn w7 _) (fun _ _ h => h))
          obtain ⟨av, cv, hv, -, -⟩ := hF.slice
          subst hv
          clear hF hK7
          rw [hrd]
          generalize hal : firsts l0 ls (min ls.length (nn + 1)) = al at *
          have hsl : ∀ w, (Instr.slice 9 (.string ⟨al.toArray⟩) none (some (.int .i64 (x.length : Int))) none).run Tryd.prog w = .ok (.string ⟨x.toArray⟩) w := fun w => by
            rw [run_slice_string_to_if w _ _ _ _ Tryd.underlying9, if_pos ⟨by omega, by simp [ByteArray.size]; omega⟩]
            conv => rhs; rw [hx3]
            congr 2
            apply ByteArray.ext
            simp
          clear hx3 hrd hal
          go_wp2_with fail
          refine wp_region_still_lit (by kernel_rfl) (by kernel_rfl) ?_
          repeat (first | still_step | (refine wpStill_step (fun K hK => ?_); go_simp; rw [if_pos (by omega)]; refine hK _ ?_; clear hK K))
          refine wpStill_nil ?_
          go_wp2_with fail
          all_goals go_ret
          all_goals exact ⟨by first | rfl | (show Ending.returned (Value.bool !decide (n < (ls.length : Int))) = _; rw [decide_eq_false (by omega)]; rfl), keep_new HK7.out.drew⟩
        · have hoffv : D.off = false := by rw [HX4.out]; exact decide_eq_false hlast
          go_wp2_with fail
          refine (own_off hO.out).mono ?_
          intro e w' hh
          obtain ⟨he, hw⟩ := hh
          rw [he, hw]
          clear he hw w' e
          rw [hoffv]
          go_wp2_with fail
          refine (own_on hO.out).mono ?_
          rintro e w6 ⟨rfl, hI, hK6⟩
          have HI6 := hid hI
          have HK6 := hid (hK.out.trans hK6 (fun _ _ h => h))
          have hs6 := HK6.out.size
          clear hI hK6
          go_wp2_with fail
          refine (read_any w6 HI6.out nmA).mono ?_
          rintro e w7 ⟨v', rfl, hF, hK7⟩
          rw [hrd] at hF
          have HF := hid hF
          have HK7 := hid (HK6.out.trans hK7 (fun _ _ h => h.elim))
          have hstr : (convert 33 9 v').run Tryd.prog w7.drew = .ok (.string ⟨x.toArray⟩) w7.drew := bytes_string (hF.bytesIn.keep (keep_drawn w7 _) (fun _ _ h => h))
          obtain ⟨av, cv, hv, -, -⟩ := hF.slice
          subst hv
          clear hF hK7
          rw [hrd]
          generalize hal : firsts l0 ls (min ls.length (nn + 1)) = al at *
          have hsl : ∀ w, (Instr.slice 9 (.string ⟨al.toArray⟩) none (some (.int .i64 (x.length : Int))) none).run Tryd.prog w = .ok (.string ⟨x.toArray⟩) w := fun w => by
            rw [run_slice_string_to_if w _ _ _ _ Tryd.underlying9, if_pos ⟨by omega, by simp [ByteArray.size]; omega⟩]
            conv => rhs; rw [hx3]
            congr 2
            apply ByteArray.ext
            simp
          have hbe : ((x.length : Int) == (al.length : Int)) = true := by have := HX5.out hoffv; rw [this]; simp
          clear hx3 hrd hal
          go_wp2_with fail
          refine wp_region_still_lit (by kernel_rfl) (by kernel_rfl) ?_
          repeat (first | still_step | (refine wpStill_step (fun K hK => ?_); go_simp; rw [if_pos (by omega)]; refine hK _ ?_; clear hK K))
          refine wpStill_nil ?_
          go_wp2_with fail
          all_goals go_ret
          all_goals exact ⟨by first | rfl | (show Ending.returned (Value.bool !decide (n < (ls.length : Int))) = _; rw [decide_eq_false (by omega)]; rfl), keep_new HK7.out.drew⟩

/-- A law ends: true, and nothing that was there has turned. -/
theorem true_below {f : FuncId} {args : Array Value} {W : World} (h : Calls Tryd.prog f args W fun e w' => e = .returned (.bool true) ∧ Keep (fun _ => False) W w') : Calls Tryd.prog f args W fun e w' => e = .returned (.bool true) ∧ Below W.heap.size W w' :=
  h.mono fun _ _ hh => ⟨hh.1, hh.2.below (fun _ _ h => h.elim) (Nat.le_refl _)⟩

theorem sure_any (v0 : Value) (b1 : Bool) (v2 : Value) (n p k : Int) (W : World) (h0 : ∃ A C l, v0 = .slice A (l : List UInt8).length C ∧ BytesIn W v0 l (fun i => i < W.heap.size)) (h2 : ∃ A C ls, v2 = .slice A (ls : List (List UInt8)).length C ∧ RowsIn W v2 ls W.heap.size)
    (hn : (Lit.int .i64 n).wf = true) (hp : (Lit.int .i64 p).wf = true) (hk : (Lit.int .i64 k).wf = true) :
    Calls Tryd.prog 9 #[v0, .bool b1, v2, .int .i64 n, .int .i64 p, .int .i64 k] W fun e w' => e = .returned (.bool true) ∧ Below W.heap.size W w' := by
  obtain ⟨A, C, l, rfl, hB⟩ := h0
  obtain ⟨A2, C2, ls, rfl, hR⟩ := h2
  exact true_below (sure_row W hB hR (wf_lt hn) (wf_lt hp) (wf_lt hk))

end Go.Proofs.YtbjjohfpdphpfaaDoor.Dsk
