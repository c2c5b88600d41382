/- osierlaw19.WalReads: a log on a file of any bytes has the records that the document says; walked. -/
import Derived.Test.YtbjjohfpdphpfaaDoorWalPure
import Derived.Test.YtbjjohfpdphpfaaDoorRefSplit
import Derived.Test.YtbjjohfpdphpfaaDoorRefSame
import Derived.Test.YtbjjohfpdphpfaaDoorOpenArgs2
namespace Go.Proofs.YtbjjohfpdphpfaaDoor.Wal
open Go Go.RowKit Go.Lib Go.Proofs.YtbjjohfpdphpfaaDoor.Dsk Go.Proofs.YtbjjohfpdphpfaaDoor.Frm

/-! A disk of two files. -/
def nmOther : ByteArray := ⟨#[111, 116, 104, 101, 114]⟩
theorem same_name {a b : ByteArray} (h : a.toList = b.toList) : a = b := by
  rw [toList_data, toList_data] at h
  exact ByteArray.ext (Array.toList_inj.mp h)
theorem nmOther_name : isName nmOther.toList = true := by decide +kernel
def twoF (R : Nat) (N : ByteArray) (b : List UInt8) (s : Nat) (M : ByteArray) (c : List UInt8) (t : Nat) : DiskM := ⟨R, [(N, ⟨b, s⟩), (M, ⟨c, t⟩)], false, none⟩
section
variable {R s t : Nat} {N M : ByteArray} {b c x : List UInt8}
theorem twoF_new (hM : isName M.toList = true) (hNM : N ≠ M) (h : b.length + x.length ≤ R) (hw : x.length ≤ whole) : append (oneF R N b s) M x = (twoF R N b s M x 0, 0) := by
  have hE : appendE (oneF R N b s) M x = 0 := by
    unfold appendE
    rw [hM, if_pos rfl, if_neg]
    unfold oneF
    simp [total, mhas, mget_cons]
    omega
  unfold append
  rw [hE]
  unfold oneF operate twoF
  simp [appendP, List.take_of_length_le hw, fileOf, mget_cons, mget_nil, mput, mhas, hNM]
theorem twoF_read1 : Dsk.read (twoF R N b s M c t) N = (b, 0) := by
  unfold Dsk.read twoF
  simp [fileOf, mget_cons, mhas]
theorem twoF_read2 (hNM : N ≠ M) : Dsk.read (twoF R N b s M c t) M = (c, 0) := by
  unfold Dsk.read twoF
  simp [fileOf, mget_cons, mhas, hNM]
theorem twoF_shorten (hNM : N ≠ M) (k : Nat) : shorten (twoF R N b s M c t) N (k : Int) = (twoF R N (b.take k) (min s (min k b.length)) M c t, 0) := by
  have h : shortenE (twoF R N b s M c t) N (k : Int) = 0 := by
    unfold shortenE noneE twoF
    simp [mhas, mget_cons]
  unfold shorten
  rw [h]
  unfold twoF operate
  simp [shortenP, fileOf, mget_cons, mput, mhas, whole, Ne.symm hNM]
theorem twoF_open (hN : isName N.toList = true) (hNM : N ≠ M) : ∃ s', walOpen (twoF R N b s M c t) N = ⟨twoF R N (b.take (Frm.split b).2) s' M c t, some ⟨0, N, (Frm.split b).1.length, 0⟩, (Frm.split b).1, 0⟩ := by
  have hle := (split_le b).1
  unfold walOpen
  rw [hN, if_pos rfl, twoF_read1, if_neg (by simp)]
  simp only
  split
  · rw [twoF_shorten hNM, if_pos rfl]
    exact ⟨_, rfl⟩
  · refine ⟨s, ?_⟩
    rw [List.take_of_length_le (by omega)]
theorem new_bad (hN : isName N.toList = false) : append (new (R : Int)) N x = (new (R : Int), 61) := by
  have hE : appendE (new (R : Int)) N x = 61 := by
    unfold appendE
    rw [hN]
    rfl
  unfold append
  rw [hE]
  unfold new operate
  simp
theorem open_bad {D : DiskM} (hN : isName N.toList = false) : walOpen D N = ⟨D, none, [], 61⟩ := by
  unfold walOpen
  rw [hN]
  rfl
theorem split_take : Frm.split (b.take (Frm.split b).2) = Frm.split b := by
  have h := split_app [] _ b (Nat.le_refl _)
  rw [List.append_nil, split_empty, List.append_nil] at h
  exact h
end

theorem st_open' {W w : World} {db : Nat} {D : DiskM} {X : Nat → Prop} (S : St W w db D X) (name : ByteArray) :
    Calls Tryd.prog 32 #[ptr db, .string name] w fun e w' => ∃ lv o Y, e = .returned (.tuple #[lv, o, .int .i64 (walOpen D name).e]) ∧ St W w' db (walOpen D name).D Y ∧ (∀ i, X i → Y i) ∧ LogV w' db Y w.heap.size lv (walOpen D name).log ∧ RowsG w' o (walOpen D name).bodies Y ∧ Keep (fun i => W.heap.size ≤ i ∧ ¬ X i) w w' := by
  refine (wal_open S.held S.size S.sub name).mono ?_
  rintro e w' ⟨lv, o, Y, rfl, h1, h2, h3, h4, h5, h6, h7⟩
  exact ⟨lv, o, Y, rfl, ⟨h4, h2, S.kept.trans h7 (fun i _ h => h.1)⟩, h1, h5, h6, h7.mono fun i _ h => ⟨h.1, h.2.2⟩⟩

set_option maxRecDepth 100000 in
set_option maxHeartbeats 8000000 in
theorem reads_row (W : World) {v0 : Value} {la : List UInt8} (name : ByteArray) (hA : BytesArg W v0 la) (hsz : name.size ≤ 140737488351232) :
    Calls Tryd.prog 11 #[v0, .string name] W fun e w' => e = .returned (.bool true) ∧ Keep (fun _ => False) W w' := by
  have hcv : ∀ (w : World) (n c : Nat) (cs : Array Value), (convert 33 33 (.slice (some ⟨w.heap.size, 0, none⟩) n c)).run Tryd.prog (w.alloc (.cells cs 5)) = .ok (.slice (some ⟨w.heap.size, 0, none⟩) n c) (w.alloc (.cells cs 5 (cs.size, cs.size + 1))) := fun w n c cs => conv_bytes w n c cs
  have HA := hid hA
  obtain ⟨ao0, c0, hv0, hlc0, -, hnil0, -⟩ := hA.bytes.read
  subst hv0
  clear hA
  go_enter Tryd.func11, Tryd.ntmps11
  go_wp2_with fail
  refine (awake19 W).mono ?_
  rintro e w0 ⟨rfl, hK⟩
  have HK0 := hid hK
  clear hK
  by_cases h1 : 3000 < (la.length : Int)
  · go_wp2_with fail
    all_goals go_ret
    all_goals exact ⟨rfl, HK0.out⟩
  by_cases h2 : 100 < (name.size : Int)
  · go_wp2_with fail
    all_goals go_ret
    all_goals exact ⟨rfl, HK0.out⟩
  go_wp2_with fail
  refine (st_new W HK0.out 100000 (by decide)).mono ?_
  rintro e w2 ⟨db, rfl, hS⟩
  have S2 := hid hS
  clear hS
  unfold ptr
  go_wp2_with fail
  refine (st_dappend S2.out name (HA.out.bytes.keep S2.out.kept (fun i hi h => by omega)) (fun i hi => .inl hi)).mono ?_
  cases hm : isName name.toList with
  | false =>
    rw [show append (new 100000) name la = (new 100000, 61) from new_bad (R := 100000) hm]
    rintro e w3 ⟨rfl, hS, -⟩
    have S3 := hid hS
    clear hS
    go_wp2_with fail
    have ka := (Keep.refl (fun _ => False) w3).alloc (.cells #[byteV 120] 5 (1, 2))
    refine (st_dappend (S3.out.more ka) nmOther (one_byte (x := 120) (heap_alloc_new w3 (.cells #[byteV 120] 5 (1, 2)))) (fun i hi => .inr (.inr (by subst hi; simp)))).mono ?_
    rw [show append (new 100000) nmOther [120] = (oneF 100000 nmOther [120] 0, 0) from oneF_new (R := 100000) nmOther_name (by decide) (by decide)]
    rintro e w4 ⟨rfl, hS, -⟩
    have S4 := hid hS
    clear hS ka
    go_wp2_with fail
    refine (st_open S4.out name).mono ?_
    rw [open_bad hm]
    rintro e w5 ⟨lv, o, Y, rfl, hS, -, rfl, hR, -⟩
    have S5 := hid hS
    obtain ⟨aoo, capo, hvo⟩ := rows_slice hR
    subst hvo
    clear hS hR
    go_wp2_with fail
    all_goals go_ret
    all_goals exact ⟨rfl, S5.out.done⟩
  | true =>
    rw [show append (new 100000) name la = (oneF 100000 name la 0, 0) from oneF_new (R := 100000) hm (by omega) (by unfold whole; omega)]
    rintro e w3 ⟨rfl, hS, -⟩
    have S3 := hid hS
    clear hS
    go_wp2_with fail
    have ka := (Keep.refl (fun _ => False) w3).alloc (.cells #[byteV 120] 5 (1, 2))
    refine (st_dappend (S3.out.more ka) nmOther (one_byte (x := 120) (heap_alloc_new w3 (.cells #[byteV 120] 5 (1, 2)))) (fun i hi => .inr (.inr (by subst hi; simp)))).mono ?_
    by_cases hno : name = nmOther
    · subst hno
      rw [oneF_append nmOther_name (by simp; omega) (by decide)]
      rintro e w4 ⟨rfl, hS, -⟩
      have S4 := hid hS
      clear hS ka
      go_wp2_with fail
      refine (st_open S4.out nmOther).mono ?_
      rintro e w5 ⟨lv, o, Y, rfl, hS, -, -, hR, -⟩
      have S5 := hid hS
      obtain ⟨aoo, capo, hvo⟩ := rows_slice hR
      subst hvo
      clear hS hR
      have hyes : (nmOther.toList == [111, 116, 104, 101, 114]) = true := by decide +kernel
      go_wp2_with fail
      all_goals go_ret
      all_goals exact ⟨rfl, S5.out.done⟩
    rw [twoF_new nmOther_name hno (by simp; omega) (by decide)]
    rintro e w4 ⟨rfl, hS, -⟩
    have S4 := hid hS
    clear hS ka
    go_wp2_with fail
    obtain ⟨bs, p, hsp⟩ : ∃ bs p, Frm.split la = (bs, p) := ⟨_, _, rfl⟩
    have hle := split_le la
    have HST := hid (split_take (b := la))
    obtain ⟨s1, ho1⟩ := twoF_open (R := 100000) (N := name) (b := la) (s := 0) (M := nmOther) (c := [120]) (t := 0) hm hno
    rw [hsp] at ho1 hle
    simp only at ho1 hle
    refine (st_open S4.out name).mono ?_
    rw [ho1]
    rintro e w5 ⟨lv, o, Y, rfl, hS, -, ⟨lb, rfl, hL, hYl, hlow⟩, hR, -⟩
    have S5 := hid hS
    have HL5 := hid hL
    have HR5 := hid hR
    have HY := hid hYl
    obtain ⟨ao1, cap1, hv1⟩ := rows_slice hR
    subst hv1
    clear hS hL hR hYl hlow ho1
    unfold ptr
    have hno2 : (name.toList == [111, 116, 104, 101, 114]) = false := by
      rw [beq_eq_false_iff_ne]
      exact fun e => hno (same_name (e.trans (by decide +kernel)))
    go_wp2_with fail
    refine (refsplit_any w5 (HA.out.bytes.keep S5.out.kept (fun i hi h => by omega)) HA.out.nil (by omega)).mono ?_
    rw [hsp]
    rintro e w6 ⟨o2, rfl, hR, hK⟩
    simp only at hR
    have HSP := hid hsp
    clear hsp
    have S6 := hid (S5.out.more hK)
    have HX5 := hid (fun i => (S5.out.sub i : Y i → i < w5.heap.size))
    have HR6 := hid (HR5.out.keep hK (fun _ _ h => h))
    have HL6 := hid (HL5.out.keep hK (fun h => h))
    have HW6 := hid (show RowsG w6 o2 bs (fun i => i < W.heap.size ∨ (Y i ∨ (w5.heap.size ≤ i ∧ i < w6.heap.size))) from hR.mono (fun i hi h => h.imp id (fun h => .inr ⟨h, hi⟩)))
    obtain ⟨ao2, cap2, hv2⟩ := rows_slice hR
    subst hv2
    clear hR hK
    go_wp2_with fail
    have hpl : (la.take p).length = p := by rw [List.length_take]; omega
    refine (st_read S6.out name).mono ?_
    rw [twoF_read1]
    rintro e w7 ⟨va, rfl, hF, hK⟩
    obtain ⟨aoa, capa, hva, -, -⟩ := hF.slice
    subst hva
    have S7 := hid (S6.out.keep hK)
    have HR7 := hid (HR6.out.keep hK (fun _ _ h => h))
    have HL7 := hid (HL6.out.keep hK (fun h => h))
    have HW7 := hid (HW6.out.keep hK (fun _ _ h => h))
    have HB7 := hid (show BytesIn w7 (.slice aoa p capa) (la.take p) (fun _ => True) from by have h := bytes_mono hF.bytesIn (G' := fun _ => True) (fun _ _ _ => trivial); rwa [hpl] at h)
    clear hF hK
    go_wp2_with fail
    refine (st_read S7.out nmOther).mono ?_
    rw [twoF_read2 hno]
    rintro e w8 ⟨vo, rfl, hF, hK⟩
    obtain ⟨aob, capb, hvb, -, -⟩ := hF.slice
    subst hvb
    have S8 := hid (S7.out.keep hK)
    have HR8 := hid (HR7.out.keep hK (fun _ _ h => h))
    have HL8 := hid (HL7.out.keep hK (fun h => h))
    have HW8 := hid (HW7.out.keep hK (fun _ _ h => h))
    have HB8 := hid (HB7.out.keep hK (fun _ _ h => h))
    have HC8 := hid (bytes_mono hF.bytesIn (G' := fun _ => True) (fun _ _ _ => trivial))
    have HA8 := hid (bytes_mono ((HA.out.bytes.keep S8.out.kept (fun i hi h => by omega)).first p (by omega)) (G' := fun _ => True) (fun _ _ _ => trivial))
    clear hF hK
    go_wp2_with fail
    refine wp_region_heldi [0, 1, 2, 3, 4, 5, 6, 7, 8] 100 25 (fun w' => BytesIn w' (.slice aoa p capa) (la.take p) (fun _ => True) ∧ BytesIn w' (.slice aob [(120 : UInt8)].length capb) [120] (fun _ => True) ∧ BytesIn w' (.slice ao0 p c0) (la.take p) (fun _ => True)) (by kernel_rfl) (by kernel_rfl) (by kernel_rfl) ?_ (fun d _ _ _ _ h => by cases d <;> exact h) ?_
    · have kd := keep_drawn' w8 (w8.drawn + 1)
      exact ⟨HB8.out.keep kd (fun _ _ h => h), HC8.out.keep kd (fun _ _ h => h), HA8.out.keep kd (fun _ _ h => h)⟩
    iterate 9 (first | (refine heldI_step rfl rfl (fun w' hS => by (go_simp; with_reducible rfl)) ?_; simp only [Act.put, List.setIfInBounds_toArray, List.set_cons_zero, List.set_cons_succ]) | (refine heldI_want rfl rfl (fun w' hS => by (go_simp; with_reducible rfl)) ?_; simp only [Act.put, List.setIfInBounds_toArray, List.set_cons_zero, List.set_cons_succ]))
    refine heldI_nil ?_
    refine anyZ_next' (j := 9) (by kernel_rfl) rfl rfl ?_
    go_simp
    have kd := keep_drawn' w8 (w8.drawn + 1)
    refine (same_true w8.drew (HR8.out.keep kd (fun _ _ h => h)) (HW8.out.keep kd (fun _ _ h => h)) (by omega)).mono ?_
    rintro e w9 ⟨rfl, hK⟩
    have hK2 := kd.trans hK (fun _ _ h => h)
    have S9 := hid (S8.out.keep hK2)
    have HL9 := hid (HL8.out.keep hK2 (fun h => h))
    have HW9 := hid (HW8.out.keep hK2 (fun _ _ h => h))
    have HB9 := HB8.out.keep hK2 (fun _ _ h => h)
    have HC9 := HC8.out.keep hK2 (fun _ _ h => h)
    have HA9 := HA8.out.keep hK2 (fun _ _ h => h)
    clear hK hK2 kd
    refine ⟨⟨HB9, HC9, HA9⟩, ?_⟩
    refine heldI_run (t := 0) (by kernel_rfl) (fun d _ _ _ _ h => by cases d <;> exact h) w9 ⟨HB9, HC9, HA9⟩ [10, 11, 12, 13, 14, 15, 16, 17, 18, 19, 20, 21, 22, 23, 24, 25, 26, 27, 28, 29, 30, 31, 32, 33] _ _ (by kernel_rfl) ?_
    iterate 8 (first | (refine heldI_step rfl rfl (fun w' hS => by (go_simp; with_reducible rfl)) ?_; simp only [Act.put, List.setIfInBounds_toArray, List.set_cons_zero, List.set_cons_succ]) | (refine heldI_want rfl rfl (fun w' hS => by (go_simp; with_reducible rfl)) ?_; simp only [Act.put, List.setIfInBounds_toArray, List.set_cons_zero, List.set_cons_succ]))
    (first | (refine heldI_step rfl rfl (fun w' hS => by (have hx := bytes_string hS.1; go_simp; with_reducible rfl)) ?_; simp only [Act.put, List.setIfInBounds_toArray, List.set_cons_zero, List.set_cons_succ]) | (refine heldI_want rfl rfl (fun w' hS => by (have hx := bytes_string hS.1; go_simp; with_reducible rfl)) ?_; simp only [Act.put, List.setIfInBounds_toArray, List.set_cons_zero, List.set_cons_succ]))
    have hpc : (p : Int) ≤ (c0 : Int) := by omega
    iterate 3 (first | (refine heldI_step rfl rfl (fun w' hS => by (go_simp; with_reducible rfl)) ?_; simp only [Act.put, List.setIfInBounds_toArray, List.set_cons_zero, List.set_cons_succ]) | (refine heldI_want rfl rfl (fun w' hS => by (go_simp; with_reducible rfl)) ?_; simp only [Act.put, List.setIfInBounds_toArray, List.set_cons_zero, List.set_cons_succ]))
    (first | (refine heldI_step rfl rfl (fun w' hS => by (have hx := bytes_string hS.2.2; go_simp; with_reducible rfl)) ?_; simp only [Act.put, List.setIfInBounds_toArray, List.set_cons_zero, List.set_cons_succ]) | (refine heldI_want rfl rfl (fun w' hS => by (have hx := bytes_string hS.2.2; go_simp; with_reducible rfl)) ?_; simp only [Act.put, List.setIfInBounds_toArray, List.set_cons_zero, List.set_cons_succ]))
    iterate 8 (first | (refine heldI_step rfl rfl (fun w' hS => by (go_simp; with_reducible rfl)) ?_; simp only [Act.put, List.setIfInBounds_toArray, List.set_cons_zero, List.set_cons_succ]) | (refine heldI_want rfl rfl (fun w' hS => by (go_simp; with_reducible rfl)) ?_; simp only [Act.put, List.setIfInBounds_toArray, List.set_cons_zero, List.set_cons_succ]))
    (first | (refine heldI_step rfl rfl (fun w' hS => by (have hx := bytes_string hS.2.1; go_simp; with_reducible rfl)) ?_; simp only [Act.put, List.setIfInBounds_toArray, List.set_cons_zero, List.set_cons_succ]) | (refine heldI_want rfl rfl (fun w' hS => by (have hx := bytes_string hS.2.1; go_simp; with_reducible rfl)) ?_; simp only [Act.put, List.setIfInBounds_toArray, List.set_cons_zero, List.set_cons_succ]))
    iterate 2 (first | (refine heldI_step rfl rfl (fun w' hS => by (go_simp; with_reducible rfl)) ?_; simp only [Act.put, List.setIfInBounds_toArray, List.set_cons_zero, List.set_cons_succ]) | (refine heldI_want rfl rfl (fun w' hS => by (go_simp; with_reducible rfl)) ?_; simp only [Act.put, List.setIfInBounds_toArray, List.set_cons_zero, List.set_cons_succ]))
    refine heldI_nil ?_
    refine anyZ_done (by kernel_rfl) ?_
    clear HB9 HC9 HA9
    obtain ⟨s2, ho2⟩ := twoF_open (R := 100000) (N := name) (b := la.take p) (s := s1) (M := nmOther) (c := [120]) (t := 0) hm hno
    have hst : Frm.split (la.take p) = (bs, p) := by have h := HST.out; rw [HSP.out] at h; exact h
    rw [hst] at ho2
    simp only at ho2
    have HSP2 := hid hst
    clear hst
    go_wp2_with fail
    refine (st_open' S9.out name).mono ?_
    rw [ho2]
    rintro e w10 ⟨lv2, o3, Z, rfl, hS, hYZ, ⟨mb, rfl, hM, hZm, hlow⟩, hR, hK⟩
    have S10 := hid hS
    have HM10 := hid hM
    have HL10 := hid (HL9.out.keep hK (fun h => h.2 (.inl HY.out)))
    have HW10 := hid (HW9.out.keep hK (fun i hi h => hi.elim (fun hlt => by omega) (fun hx => h.2 hx)))
    have HR10 := hid hR
    obtain ⟨ao3, cap3, hv3⟩ := rows_slice hR
    subst hv3
    clear hS hYZ hM hZm hlow hR hK ho2
    unfold ptr
    go_wp2_with fail
    refine (count_any w10 HM10.out).mono ?_
    intro e w' hh
    obtain ⟨he, hw⟩ := hh
    rw [he, hw]
    clear he hw w' e
    go_wp2_with fail
    refine (same_true w10 HR10.out HW10.out (by omega)).mono ?_
    rintro e w11 ⟨rfl, hK⟩
    have S11 := hid (S10.out.keep hK)
    have HL11 := hid (HL10.out.keep hK (fun h => h))
    clear hK
    go_wp2_with fail
    refine (count_any w11 HL11.out).mono ?_
    intro e w' hh
    obtain ⟨he, hw⟩ := hh
    rw [he, hw]
    clear he hw w' e
    go_wp2_with fail
    refine (sure_any w11 HL11.out).mono ?_
    intro e w' hh
    obtain ⟨he, hw⟩ := hh
    rw [he, hw]
    clear he hw w' e
    go_wp2_with fail
    all_goals go_ret
    all_goals exact ⟨rfl, S11.out.done⟩

theorem reads_any (v0 : Value) (name : ByteArray) (W : World) (h0 : ∃ l, BytesArg W v0 l) (h1 : name.size ≤ 140737488351232) :
    Calls Tryd.prog 11 #[v0, .string name] W fun e w' => e = .returned (.bool true) ∧ Below W.heap.size W w' := by
  obtain ⟨l0, h0⟩ := h0
  exact (reads_row W name h0 h1).mono fun _ _ hh => ⟨hh.1, hh.2.below (fun _ _ h => h.elim) (Nat.le_refl _)⟩

end Go.Proofs.YtbjjohfpdphpfaaDoor.Wal
