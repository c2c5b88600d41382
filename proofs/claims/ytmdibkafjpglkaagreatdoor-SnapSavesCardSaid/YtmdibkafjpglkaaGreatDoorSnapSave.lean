/- snap.Save, walked: what it does to a disk is saveP. -/
import Derived.Test.YtmdibkafjpglkaaGreatDoorSnapMay
import Derived.Test.YtmdibkafjpglkaaGreatDoorSavesPure
import Derived.Test.YtmdibkafjpglkaaGreatDoorNumPut
import Derived.Laws.Concat
namespace Go.Proofs.YtmdibkafjpglkaaGreatDoor.Snp
open Go Go.RowKit Go.Lib Go.Proofs.YtmdibkafjpglkaaGreatDoor.Dsk Go.Proofs.YtmdibkafjpglkaaGreatDoor.Wal Go.Proofs.YtmdibkafjpglkaaGreatDoor.Num Go.Proofs.YtmdibkafjpglkaaGreatDoor.Frm

theorem bytes_len {w : World} {v : Value} {l : List UInt8} {G : Nat → Prop} (h : BytesIn w v l G) : ∃ ao cap, v = .slice ao l.length cap := by
  obtain ⟨ao, cap, e, -⟩ := h.read
  exact ⟨ao, cap, e⟩
theorem has_perm {l : List ByteArray} {fs : Files} (h : l.Perm (fs.map (·.1))) (n : ByteArray) : Lib.containsS l n = mhas fs n := by
  rw [Bool.eq_iff_iff, mhas_iff, Lib.containsS_iff]
  exact h.mem_iff
section
variable {W w : World} {db : Nat} {D : DiskM} {X : Nat → Prop}
theorem saveP_len {D : DiskM} {name : ByteArray} {gen : Int} {b : List UInt8} (h0 : ¬ gen < 0) (hn : isName (name ++ dotNew).toList = true) (hl : maxBody < (intB gen ++ b).length) : saveP D name gen b = (D, 81) := by
  unfold saveP
  rw [if_neg h0, if_neg (by rw [hn]; decide), if_pos hl]
theorem saveP_off {D : DiskM} {name : ByteArray} {gen : Int} {b : List UInt8} (h0 : ¬ gen < 0) (hn : isName (name ++ dotNew).toList = true) (hl : ¬ maxBody < (intB gen ++ b).length) (ho : D.off = true) : saveP D name gen b = (D, 71) := by
  unfold saveP
  rw [if_neg h0, if_neg (by rw [hn]; decide), if_neg hl, if_pos ho]
theorem saveP_on {D : DiskM} {name : ByteArray} {gen : Int} {b : List UInt8} (h0 : ¬ gen < 0) (hn : isName (name ++ dotNew).toList = true) (hl : ¬ maxBody < (intB gen ++ b).length) (ho : D.off = false) : saveP D name gen b = saveQ D (name ++ dotNew) name (frame (intB gen ++ b)) := by
  unfold saveP
  rw [if_neg h0, if_neg (by rw [hn]; decide), if_neg hl, if_neg (by rw [ho]; decide)]
theorem onward_not {r : DiskM × Int} {f : DiskM → DiskM × Int} (h : ¬ r.2 = 0) : onward r f = r := by unfold onward; rw [if_neg h]
set_option maxRecDepth 100000 in
set_option maxHeartbeats 1000000 in
theorem save_any (S : St W w db D X) (ht : Tidy D.files) (name : ByteArray) (gen : Int) (hg : gen < 9223372036854775808) {ao : Option Addr} {cap : Nat} {b : List UInt8} {G : Nat → Prop} (hB : BytesIn w (.slice ao b.length cap) b G) (hb : b.length ≤ 1073741824) (hnm : name.size ≤ 1000000) :
    Calls Tryz.prog 14 #[ptr db, .string name, .int .i64 gen, .slice ao b.length cap] w fun e w' => e = .returned (.int .i64 (saveP D name gen b).2) ∧ St W w' db (saveP D name gen b).1 X ∧ Keep (fun i => ¬ X i) w w' := by
  have HS := hid S
  have HB := hid hB
  have HT := hid ht
  clear S hB ht
  unfold ptr
  have hcat : ∀ w : World, (binOp BinOp.add 9 (.string name) (.string ⟨#[46, 110, 101, 119]⟩)).run Tryz.prog w = .ok (.string (name ++ dotNew)) w := fun w => run_string_add_sum w name dotNew (by have : dotNew.size = 4 := rfl; omega)
  by_cases h0 : gen < 0
  · have HP := hid (show saveP D name gen b = (D, 1) by unfold saveP; rw [if_pos h0])
    go_enter Tryz.func14, Tryz.ntmps14
    go_wp2_with fail
    all_goals go_ret
    all_goals exact ⟨by rw [HP.out]; rfl, by rw [HP.out]; exact HS.out, Keep.refl _ _⟩
  go_enter Tryz.func14, Tryz.ntmps14
  go_wp2_with fail
  refine (may_snap w (name ++ dotNew)).mono ?_
  rintro e w1 ⟨rfl, hK⟩
  have HK1 := hid hK
  clear hK
  by_cases hnf : isName (name ++ dotNew).toList = false
  · have HP := hid (show saveP D name gen b = (D, 61) by unfold saveP; rw [if_neg (by omega), if_pos hnf])
    rw [hnf]
    go_wp2_with fail
    all_goals go_ret
    all_goals exact ⟨by rw [HP.out]; rfl, by rw [HP.out]; exact HS.out.keep HK1.out, HK1.out.mono (fun _ _ h => h.elim)⟩
  have hn : isName (name ++ dotNew).toList = true := by simpa using hnf
  have h00 : 0 ≤ gen := by omega
  rw [hn]
  clear hnf
  have S1 := hid (HS.out.keep HK1.out)
  have HB1 := hid (HB.out.keep HK1.out (fun _ _ h => h))
  have hil := intB_len gen
  have hP := put_int w1 (l := []) (none_in w1 (fun _ => False)) (Nat.zero_le _) gen (by omega) hg
  obtain ⟨ib, hib⟩ : ∃ ib, intB gen = ib := ⟨_, rfl⟩
  rw [hib] at hil hP
  rw [List.nil_append] at hP
  have HP2 := hid hP
  have HIB := hid hib
  clear hP hib
  have hsz1 := HK1.out.size
  clear HB
  go_wp2_with fail
  refine HP2.out.mono ?_
  rintro e w2 ⟨v2, rfl, hR, hK⟩
  have HR2 := hid hR
  have HK2 := hid (HK1.out.trans hK (fun _ _ h => h))
  have HB2 := hid (HB1.out.keep hK (fun _ _ h => h))
  have hs2 := hK.size
  have S2 := hid (S1.out.keep hK)
  clear hR hK HB1 S1
  go_wp2_with (at_builtin; go_must (refine wpList_append_row rfl _ _ rfl HR2.out HB2.out rfl rfl hs2 (by omega) ?_; intro v3 w3 hR hK))
  obtain ⟨a3, c3, rfl⟩ := hR.slice
  have HR3 := hid hR
  have k23 : Keep (fun _ => False) w w3 := keep_old HK2.out hK (fun _ _ h => h) (fun i hi h => by omega)
  have HK3 := hid k23
  have S3 := hid (HS.out.keep k23)
  clear hR hK HR2 HB2 S2 k23
  refine (frame_any w3 (bytes_of_row HR3.out)).mono ?_
  rintro e w4 ⟨v4, rfl, hR, hK⟩
  have HR4 := hid hR
  have HK4 := hid (HK3.out.trans hK (fun _ _ h => h))
  have S4 := hid (S3.out.more hK)
  clear hR hK
  by_cases hl : maxBody < (ib ++ b).length
  · have HP := hid (saveP_len (D := D) (gen := gen) (b := b) (by omega) hn (by rw [HIB.out]; exact hl))
    rw [if_pos hl]
    go_wp2_with fail
    all_goals go_ret
    all_goals exact ⟨by rw [HP.out]; rfl, by rw [HP.out]; exact S4.out.fewer (fun i h => .inl h), HK4.out.mono (fun _ _ h => h.elim)⟩
  rw [if_neg hl] at HR4
  rw [if_neg hl]
  obtain ⟨x, hx⟩ : ∃ x, frame (ib ++ b) = x := ⟨_, rfl⟩
  rw [hx] at HR4
  have HB4 := hid (bytes_more' (bytes_of_row HR4.out))
  obtain ⟨a4, c4, hv4⟩ := HR4.out.slice
  subst hv4
  have HQ0 := hid (show D.off = true → saveP D name gen b = (D, 71) from fun ho => saveP_off (by omega) hn (by rw [HIB.out]; exact hl) ho)
  have HQ := hid (show D.off = false → saveP D name gen b = saveQ D (name ++ dotNew) name x from fun ho => by rw [saveP_on (by omega) hn (by rw [HIB.out]; exact hl) ho, HIB.out, hx])
  clear hx HR4
  go_wp2_with fail
  refine (held_off S4.out.held).mono ?_
  intro e w' hh
  obtain ⟨he, hw⟩ := hh
  rw [he, hw]
  clear he hw w' e
  by_cases ho : D.off = true
  · have HP := hid (HQ0.out ho)
    rw [ho]
    go_wp2_with fail
    all_goals go_ret
    all_goals exact ⟨by rw [HP.out]; rfl, by rw [HP.out]; exact S4.out.fewer (fun i h => .inl h), HK4.out.mono (fun _ _ h => h.elim)⟩
  have hof : D.off = false := by simpa using ho
  have HQ := hid (HQ.out hof)
  rw [hof]
  clear ho hof HQ0
  go_wp2_with fail
  refine (names_any w4 S4.out.held HT.out).mono ?_
  rintro e w5 ⟨v5, ns, rfl, hperm, -, hown, hbel⟩
  have hK : Keep (fun _ => False) w4 w5 := Keep.of_below hbel (fun i h h2 => by omega)
  have hhas := has_perm hperm (name ++ dotNew)
  have HO5 := hid hown
  have S5 := hid (S4.out.keep hK)
  have HK5 := hid ((HK4.out.trans hK (fun _ _ h => h)).mono (G := fun i => ¬ X i) (fun _ _ h => h.elim))
  have HB5 := hid (HB4.out.keep hK (fun _ _ h => h))
  clear hperm hown hbel hK S4 HB4
  go_wp2_with fail
  refine (has_any w5 ns HO5.out (name ++ dotNew)).mono ?_
  intro e w' hh
  obtain ⟨he, hw⟩ := hh
  rw [he, hw, hhas]
  clear he hw w' e hhas
  by_cases hm : mhas D.files (name ++ dotNew) = true
  · rw [hm]
    have HM := hid hm
    clear hm
    go_wp2_with fail
    refine (st_remove S5.out (name ++ dotNew)).mono ?_
    rintro e w6 ⟨rfl, hS, hK⟩
    have S6 := hid hS
    have HB6 := hid (HB5.out.keep hK (fun i hi h => h.2 (.inr hi)))
    have HK6 := hid (HK5.out.trans hK (fun i _ h hx => h.2 (.inl hx)))
    clear hS hK S5 HB5 HK5
    have HQ6 := hid (show saveP D name gen b = onward (onward (onward (remove D (name ++ dotNew)) (fun E => append E (name ++ dotNew) x)) (fun E => sync E (name ++ dotNew))) (fun E => rename E (name ++ dotNew) name) by rw [HQ.out]; unfold saveQ saveR; rw [if_pos HM.out])
    obtain ⟨r6, hr6⟩ : ∃ r, remove D (name ++ dotNew) = r := ⟨_, rfl⟩
    rw [hr6] at S6 HQ6 ⊢
    clear hr6
    by_cases e6 : ¬ r6.2 = 0
    · have HP := hid (show saveP D name gen b = r6 by rw [HQ6.out, onward_not e6, onward_not e6, onward_not e6])
      obtain ⟨c, hc⟩ : ∃ c, r6.2 = c := ⟨_, rfl⟩
      rw [hc] at e6 ⊢
      have hen : (c != 0) = true := by rw [bne_iff_ne]; exact e6
      have HC := hid hc
      clear hc
      go_wp2_with fail
      all_goals go_ret
      all_goals exact ⟨by rw [HP.out, HC.out]; rfl, by rw [HP.out]; exact S6.out.fewer (fun i h => .inl h), HK6.out⟩
    have z6 : r6.2 = 0 := Classical.byContradiction fun h => e6 h
    rw [onward_ok z6] at HQ6
    rw [z6]
    clear e6 z6
    go_wp2_with fail
    refine (st_dappend S6.out (name ++ dotNew) HB6.out (fun i h => .inr (.inr h))).mono ?_
    rintro e w7 ⟨rfl, hS, hK⟩
    have S7 := hid hS
    have HK7 := hid (HK6.out.trans hK (fun i _ h hx => h (.inl hx)))
    clear hS hK
    have HQ7 := hid (show saveP D name gen b = onward (onward (append r6.1 (name ++ dotNew) x) (fun E => sync E (name ++ dotNew))) (fun E => rename E (name ++ dotNew) name) by exact HQ6.out)
    obtain ⟨r7, hr7⟩ : ∃ r, append r6.1 (name ++ dotNew) x = r := ⟨_, rfl⟩
    rw [hr7] at S7 HQ7 ⊢
    clear hr7
    by_cases e7 : ¬ r7.2 = 0
    · have HP := hid (show saveP D name gen b = r7 by rw [HQ7.out, onward_not e7, onward_not e7])
      obtain ⟨c, hc⟩ : ∃ c, r7.2 = c := ⟨_, rfl⟩
      rw [hc] at e7 ⊢
      have hen : (c != 0) = true := by rw [bne_iff_ne]; exact e7
      have HC := hid hc
      clear hc
      go_wp2_with fail
      all_goals go_ret
      all_goals exact ⟨by rw [HP.out, HC.out]; rfl, by rw [HP.out]; exact S7.out.fewer (fun i h => .inl h), HK7.out⟩
    have z7 : r7.2 = 0 := Classical.byContradiction fun h => e7 h
    rw [onward_ok z7] at HQ7
    rw [z7]
    clear e7 z7
    go_wp2_with fail
    refine (st_dsync S7.out (name ++ dotNew)).mono ?_
    rintro e w8 ⟨rfl, hS, hK⟩
    have S8 := hid hS
    have HK8 := hid (HK7.out.trans hK (fun i _ h hx => h.2 (.inl hx)))
    clear hS hK S7 HK7
    obtain ⟨r8, hr8⟩ : ∃ r, sync r7.1 (name ++ dotNew) = r := ⟨_, rfl⟩
    rw [hr8] at S8 HQ7 ⊢
    clear hr8
    by_cases e8 : ¬ r8.2 = 0
    · have HP := hid (show saveP D name gen b = r8 by rw [HQ7.out, onward_not e8])
      obtain ⟨c, hc⟩ : ∃ c, r8.2 = c := ⟨_, rfl⟩
      rw [hc] at e8 ⊢
      have hen : (c != 0) = true := by rw [bne_iff_ne]; exact e8
      have HC := hid hc
      clear hc
      go_wp2_with fail
      all_goals go_ret
      all_goals exact ⟨by rw [HP.out, HC.out]; rfl, by rw [HP.out]; exact S8.out.fewer (fun i h => .inl h), HK8.out⟩
    have z8 : r8.2 = 0 := Classical.byContradiction fun h => e8 h
    rw [onward_ok z8] at HQ7
    rw [z8]
    clear e8 z8
    go_wp2_with fail
    refine (st_rename S8.out (name ++ dotNew) name).mono ?_
    rintro e w9 ⟨rfl, hS, hK⟩
    have S9 := hid hS
    have HK9 := hid (HK8.out.trans hK (fun i _ h hx => h.2 (.inl hx)))
    clear hS hK S8 HK8
    go_wp2_with fail
    all_goals go_ret
    all_goals exact ⟨by rw [HQ7.out]; rfl, by rw [HQ7.out]; exact S9.out.fewer (fun i h => .inl h), HK9.out⟩
  · have hmf : mhas D.files (name ++ dotNew) = false := by simpa using hm
    rw [hmf]
    have HM := hid hm
    clear hm hmf
    go_wp2_with fail
    refine (st_dappend S5.out (name ++ dotNew) HB5.out (fun i h => .inr (.inr h))).mono ?_
    rintro e w7 ⟨rfl, hS, hK⟩
    have S7 := hid hS
    have HK7 := hid (HK5.out.trans hK (fun i _ h hx => h (.inl hx)))
    clear hS hK
    have HQ7 := hid (show saveP D name gen b = onward (onward (append D (name ++ dotNew) x) (fun E => sync E (name ++ dotNew))) (fun E => rename E (name ++ dotNew) name) by rw [HQ.out]; unfold saveQ saveR; rw [if_neg HM.out, onward_ok (r := (D, 0)) rfl])
    obtain ⟨r7, hr7⟩ : ∃ r, append D (name ++ dotNew) x = r := ⟨_, rfl⟩
    rw [hr7] at S7 HQ7 ⊢
    clear hr7
    by_cases e7 : ¬ r7.2 = 0
    · have HP := hid (show saveP D name gen b = r7 by rw [HQ7.out, onward_not e7, onward_not e7])
      obtain ⟨c, hc⟩ : ∃ c, r7.2 = c := ⟨_, rfl⟩
      rw [hc] at e7 ⊢
      have hen : (c != 0) = true := by rw [bne_iff_ne]; exact e7
      have HC := hid hc
      clear hc
      go_wp2_with fail
      all_goals go_ret
      all_goals exact ⟨by rw [HP.out, HC.out]; rfl, by rw [HP.out]; exact S7.out.fewer (fun i h => .inl h), HK7.out⟩
    have z7 : r7.2 = 0 := Classical.byContradiction fun h => e7 h
    rw [onward_ok z7] at HQ7
    rw [z7]
    clear e7 z7
    go_wp2_with fail
    refine (st_dsync S7.out (name ++ dotNew)).mono ?_
    rintro e w8 ⟨rfl, hS, hK⟩
    have S8 := hid hS
    have HK8 := hid (HK7.out.trans hK (fun i _ h hx => h.2 (.inl hx)))
    clear hS hK S7 HK7
    obtain ⟨r8, hr8⟩ : ∃ r, sync r7.1 (name ++ dotNew) = r := ⟨_, rfl⟩
    rw [hr8] at S8 HQ7 ⊢
    clear hr8
    by_cases e8 : ¬ r8.2 = 0
    · have HP := hid (show saveP D name gen b = r8 by rw [HQ7.out, onward_not e8])
      obtain ⟨c, hc⟩ : ∃ c, r8.2 = c := ⟨_, rfl⟩
      rw [hc] at e8 ⊢
      have hen : (c != 0) = true := by rw [bne_iff_ne]; exact e8
      have HC := hid hc
      clear hc
      go_wp2_with fail
      all_goals go_ret
      all_goals exact ⟨by rw [HP.out, HC.out]; rfl, by rw [HP.out]; exact S8.out.fewer (fun i h => .inl h), HK8.out⟩
    have z8 : r8.2 = 0 := Classical.byContradiction fun h => e8 h
    rw [onward_ok z8] at HQ7
    rw [z8]
    clear e8 z8
    go_wp2_with fail
    refine (st_rename S8.out (name ++ dotNew) name).mono ?_
    rintro e w9 ⟨rfl, hS, hK⟩
    have S9 := hid hS
    have HK9 := hid (HK8.out.trans hK (fun i _ h hx => h.2 (.inl hx)))
    clear hS hK S8 HK8
    go_wp2_with fail
    all_goals go_ret
    all_goals exact ⟨by rw [HQ7.out]; rfl, by rw [HQ7.out]; exact S9.out.fewer (fun i h => .inl h), HK9.out⟩
end
end Go.Proofs.YtmdibkafjpglkaaGreatDoor.Snp
