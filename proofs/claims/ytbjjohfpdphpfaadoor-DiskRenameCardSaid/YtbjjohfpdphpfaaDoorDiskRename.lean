/- osierlaw18.DiskRename: a file that is renamed is what it was; walked. -/
import Derived.Test.YtbjjohfpdphpfaaDoorDiskMove
import Derived.Test.YtbjjohfpdphpfaaDoorDiskSure
namespace Go.Proofs.YtbjjohfpdphpfaaDoor.Dsk
open Go Go.RowKit Go.Lib

theorem own_rename {w : World} {db n : Nat} {D : DiskM} (h : OwnDisk n w db D) (hn : n ≤ w.heap.size) (frm to : ByteArray) :
    Calls Tryd.prog 30 #[ptr db, .string frm, .string to] w fun e w' => e = .returned (.int .i64 (rename D frm to).2) ∧ OwnDisk n w' db (rename D frm to).1 ∧ Keep (fun i => n ≤ i) w w' := by
  refine (rename_any w h frm to).mono ?_
  rintro e w' ⟨he, hI, hK⟩
  exact ⟨he, hI.own fun i hi => hi.elim (fun h => h.1) (fun h => by omega), hK.mono fun i hi hf => hf.elim (fun h => h.1) (fun h => h.elim)⟩

def nmB : ByteArray := ⟨#[98]⟩
/-- A disk of two files. -/
def twoD (R : Nat) (c : Option (Nat × Nat × Nat)) (fa fb : FileM) : DiskM := ⟨R, [(nmA, fa), (nmB, fb)], false, c⟩
def onlyB (R : Nat) (off : Bool) (fa : FileM) : DiskM := ⟨R, [(nmB, fa)], off, none⟩

theorem ab_ne : ¬ nmA = nmB := by decide
theorem ba_ne : ¬ nmB = nmA := by decide
theorem nmB_name : isName nmB.toList = true := by decide +kernel

theorem two_new {R : Nat} {a b : List UInt8} (h : a.length + b.length ≤ R) (hw : b.length ≤ whole) : append (one R false none a 0) nmB b = (twoD R none ⟨a, 0⟩ ⟨b, 0⟩, 0) := by
  have hE : appendE (one R false none a 0) nmB b = 0 := by
    unfold appendE
    rw [nmB_name, if_pos rfl, if_neg]
    unfold one
    simp [total]
    omega
  unfold append
  rw [hE]
  unfold one operate twoD
  simp [appendP, fileOf, mput, mhas, mget_cons, ab_ne, mget_nil, List.take_of_length_le hw]
theorem two_syncB {R : Nat} {fa fb : FileM} : sync (twoD R none fa fb) nmB = (twoD R none fa ⟨fb.b, fb.b.length⟩, 0) := by
  unfold sync noneE twoD operate
  simp [syncP, fileOf, mput, mhas, mget_cons, ab_ne]
theorem two_syncA {R : Nat} {fa fb : FileM} : sync (twoD R none fa fb) nmA = (twoD R none ⟨fa.b, fa.b.length⟩ fb, 0) := by
  unfold sync noneE twoD operate
  simp [syncP, fileOf, mput, mhas, mget_cons, ba_ne]
theorem two_cut {R : Nat} {fa fb : FileM} {p : Int} (hp : 0 ≤ p) : cutTo (twoD R none fa fb) 0 p 0 = (twoD R (some (0, p.toNat, 0)) fa fb, 0) := by
  unfold cutTo
  rw [if_neg (by omega)]
  rfl
theorem two_cut_not {R : Nat} {fa fb : FileM} {p : Int} (hp : p < 0) : cutTo (twoD R none fa fb) 0 p 0 = (twoD R none fa fb, 1) := by
  unfold cutTo
  rw [if_pos (by omega)]
theorem two_ren {R : Nat} {fa fb : FileM} : rename (twoD R none fa fb) nmA nmB = (onlyB R false fa, 0) := by
  unfold rename renameE noneE twoD operate onlyB
  simp [nmB_name, renameP, fileOf, mput, mhas, mget_cons, mdel, ba_ne, whole]
theorem two_ren_cut {R p : Nat} {fa fb : FileM} (hp : 0 < p) : rename (twoD R (some (0, p, 0)) fa fb) nmA nmB = (onlyB R true (fallF 0 fa), 71) := by
  have h0 : 0 < min p (whole - 1) := by unfold whole; omega
  unfold rename renameE noneE twoD operate onlyB
  simp only [nmB_name, renameP, mhas, mget_cons, if_true, Option.isSome_some, Bool.false_eq_true, if_false, h0]
  simp [fileOf, mput, mhas, mget_cons, mdel, ba_ne, fallP]
theorem two_ren_none {R : Nat} {fa fb : FileM} : rename (twoD R (some (0, 0, 0)) fa fb) nmA nmB = (⟨R, [(nmA, fallF 0 fa), (nmB, fallF 0 fb)], true, none⟩, 71) := by
  unfold rename renameE noneE twoD operate
  simp [nmB_name, renameP, mhas, mget_cons, fallP]
theorem onlyB_readB {R : Nat} {off : Bool} {fa : FileM} : read (on (onlyB R off fa)) nmB = (fa.b, 0) := by
  unfold read on onlyB
  simp [fileOf, mhas, mget_cons]
theorem onlyB_readA {R : Nat} {off : Bool} {fa : FileM} : read (on (onlyB R off fa)) nmA = ([], 70) := by
  unfold read on onlyB
  simp [mhas, mget_cons, ba_ne, mget_nil]
theorem fall_sure (a : List UInt8) : (fallF 0 ⟨a, a.length⟩).b = a := by simp [fallF, leftOf]
theorem fall_not (a : List UInt8) : (fallF 0 ⟨a, 0⟩).b = [] := by simp [fallF, leftOf]

theorem two_none_readB {R : Nat} {fa : FileM} {b : List UInt8} : read (on ⟨R, [(nmA, fallF 0 fa), (nmB, fallF 0 ⟨b, b.length⟩)], true, none⟩) nmB = (b, 0) := by
  unfold read on
  simp [fileOf, mhas, mget_cons, ab_ne, fall_sure]
theorem two_none_readA {R : Nat} {fa fb : FileM} : read (on ⟨R, [(nmA, fallF 0 fa), (nmB, fb)], true, none⟩) nmA = ((fallF 0 fa).b, 0) := by
  unfold read on
  simp [fileOf, mhas, mget_cons]
theorem FB.keepF {w w' : World} {v : Value} {l : List UInt8} {F : Nat → Prop} (h : FB w v l F) (k : Keep (fun _ => False) w w') : FB w' v l F := h.keep k (fun _ _ h => h)

set_option maxRecDepth 100000 in
set_option maxHeartbeats 16000000 in
theorem rename_row (W : World) {A0 : Option Addr} {C0 : Nat} {la : List UInt8} {A1 : Option Addr} {C1 : Nat} {lb : List UInt8} {sure : Bool} {cut part : Int}
    (hA : BytesIn W (.slice A0 la.length C0) la (fun i => i < W.heap.size)) (hB : BytesIn W (.slice A1 lb.length C1) lb (fun i => i < W.heap.size)) (hp : part < 9223372036854775808) :
    Calls Tryd.prog 10 #[.slice A0 la.length C0, .slice A1 lb.length C1, .bool sure, .int .i64 cut, .int .i64 part] W fun e w' => e = .returned (.bool true) ∧ Keep (fun _ => False) W w' := by
  have HA := hid hA
  have HB := hid hB
  clear hA hB
  go_enter Tryd.func10, Tryd.ntmps10
  go_wp2_with fail
  refine (awake18 W).mono ?_
  rintro e w1 ⟨rfl, hK⟩
  have HK1 := hid hK
  clear hK
  by_cases h1 : 1000 < (la.length : Int)
  · go_wp2_with fail
    all_goals go_ret
    all_goals exact ⟨rfl, HK1.out⟩
  by_cases h2 : 1000 < (lb.length : Int)
  · go_wp2_with fail
    all_goals go_ret
    all_goals exact ⟨rfl, HK1.out⟩
  go_wp2_with fail
  refine (new_any 100000 w1 (by decide)).mono ?_
  rintro e w2 ⟨db, rfl, hdb, hI, hK⟩
  have hs1 := HK1.out.size
  have HI2 := hid (hI.own (n := W.heap.size) fun i hi => by omega)
  have HK2 := hid ((HK1.out.trans hK (fun _ _ h => h)).mono (G := fun i => W.heap.size ≤ i) fun _ _ h => h.elim)
  have hs2 := HK2.out.size
  clear hI hK HK1
  unfold ptr
  go_wp2_with fail
  refine (own_append HI2.out hs2 (Keep.refl _ _) nmA (HA.out.keep HK2.out (fun i hi h => by omega)) (fun i hi => ⟨by omega, .inl hi⟩)).mono ?_
  have e1 : append (new 100000) nmA la = (one 100000 false none la 0, 0) := one_new (R := 100000) (by omega) (by unfold whole; omega)
  rw [e1]
  rintro e w3 ⟨rfl, hI, hK⟩
  have HI3 := hid hI
  have HK3 := hid (HK2.out.trans hK (fun _ _ h => h))
  have hs3 := HK3.out.size
  clear hI hK HI2 HK2
  go_wp2_with fail
  refine (own_append HI3.out hs3 (Keep.refl _ _) nmB (HB.out.keep HK3.out (fun i hi h => by omega)) (fun i hi => ⟨by omega, .inl hi⟩)).mono ?_
  rw [two_new (by omega) (by unfold whole; omega)]
  rintro e w4 ⟨rfl, hI, hK⟩
  have HI4 := hid hI
  have HK4 := hid (HK3.out.trans hK (fun _ _ h => h))
  have hs4 := HK4.out.size
  clear hI hK HI3 HK3
  go_wp2_with fail
  refine (own_sync HI4.out hs4 nmB).mono ?_
  rw [two_syncB]
  rintro e w5 ⟨rfl, hI, hK⟩
  have HI5 := hid hI
  have HK5 := hid (HK4.out.trans hK (fun _ _ h => h))
  have hs5 := HK5.out.size
  clear hI hK HI4 HK4 e1
  cases sure with
  | false =>
    by_cases hc : cut = 1
    · subst hc
      by_cases hp0 : part < 0
      · have hpg : ¬ (0 : Int) ≤ part := by omega
        go_wp2_with fail
        refine (own_cut HI5.out hs5 0 part 0 (by decide) hp (by decide)).mono ?_
        rw [two_cut_not hp0]
        rintro e w6 ⟨rfl, hI, hK⟩
        have HI6 := hid hI
        have HK6 := hid (HK5.out.trans hK (fun _ _ h => h))
        have hs6 := HK6.out.size
        clear hI hK HI5 HK5
        go_wp2_with fail
        refine (own_rename HI6.out hs6 nmA nmB).mono ?_
        rw [two_ren]
        rintro e w7 ⟨rfl, hI, hK⟩
        have HI7 := hid hI
        have HK7 := hid (HK6.out.trans hK (fun _ _ h => h))
        have hs7 := HK7.out.size
        clear hI hK HI6 HK6
        go_wp2_with fail
        refine (own_on HI7.out).mono ?_
        rintro e w8 ⟨rfl, hI, hK⟩
        have HI8 := hid hI
        have HK8 := hid (HK7.out.trans hK (fun _ _ h => h))
        have hs8 := HK8.out.size
        clear hI hK HI7 HK7
        go_wp2_with fail
        refine (read_any w8 HI8.out nmB).mono ?_
        rintro e w9 ⟨vb, rfl, hF, hK⟩
        rw [onlyB_readB] at hF
        rw [onlyB_readB]
        have HF := hid hF
        have HI9 := hid (HI8.out.keep (hK.mono fun _ _ h => h.elim))
        have HK9 := hid (HK8.out.trans hK (fun _ _ h => h.elim))
        clear hF hK HI8 HK8
        go_wp2_with fail
        refine (read_any w9 HI9.out nmA).mono ?_
        rintro e w10 ⟨va, rfl, -, hK⟩
        rw [onlyB_readA]
        have hF := HF.out.keepF hK
        have HK10 := hid (HK9.out.trans hK (fun _ _ h => h.elim))
        have hst1 := bytes_string hF.bytesIn
        have hst2 := bytes_string (HA.out.keep HK10.out (fun i hi h => by omega))
        have hst3 := bytes_string (HB.out.keep HK10.out (fun i hi h => by omega))
        obtain ⟨av, cv, hv, -, -⟩ := hF.slice
        subst hv
        clear hF hK HI9 HK9
        go_wp2_with fail
        all_goals go_ret
        all_goals exact ⟨rfl, keep_new HK10.out⟩
      · have hpg : (0 : Int) ≤ part := by omega
        by_cases hpz : part = 0
        · subst hpz
          go_wp2_with fail
          refine (own_cut HI5.out hs5 0 0 0 (by decide) (by decide) (by decide)).mono ?_
          rw [two_cut (by decide), show (0 : Int).toNat = 0 from rfl]
          rintro e w6 ⟨rfl, hI, hK⟩
          have HI6 := hid hI
          have HK6 := hid (HK5.out.trans hK (fun _ _ h => h))
          have hs6 := HK6.out.size
          clear hI hK HI5 HK5
          go_wp2_with fail
          refine (own_rename HI6.out hs6 nmA nmB).mono ?_
          rw [two_ren_none]
          rintro e w7 ⟨rfl, hI, hK⟩
          have HI7 := hid hI
          have HK7 := hid (HK6.out.trans hK (fun _ _ h => h))
          have hs7 := HK7.out.size
          clear hI hK HI6 HK6
          go_wp2_with fail
          refine (own_on HI7.out).mono ?_
          rintro e w8 ⟨rfl, hI, hK⟩
          have HI8 := hid hI
          have HK8 := hid (HK7.out.trans hK (fun _ _ h => h))
          have hs8 := HK8.out.size
          clear hI hK HI7 HK7
          go_wp2_with fail
          refine (read_any w8 HI8.out nmB).mono ?_
          rintro e w9 ⟨vb, rfl, hF, hK⟩
          rw [two_none_readB] at hF
          rw [two_none_readB]
          have HF := hid hF
          have HI9 := hid (HI8.out.keep (hK.mono fun _ _ h => h.elim))
          have HK9 := hid (HK8.out.trans hK (fun _ _ h => h.elim))
          clear hF hK HI8 HK8
          go_wp2_with fail
          refine (read_any w9 HI9.out nmA).mono ?_
          rintro e w10 ⟨va, rfl, -, hK⟩
          rw [two_none_readA]
          have hF := HF.out.keepF hK
          have HK10 := hid (HK9.out.trans hK (fun _ _ h => h.elim))
          have hst1 := bytes_string hF.bytesIn
          have hst2 := bytes_string (HA.out.keep HK10.out (fun i hi h => by omega))
          have hst3 := bytes_string (HB.out.keep HK10.out (fun i hi h => by omega))
          obtain ⟨av, cv, hv, -, -⟩ := hF.slice
          subst hv
          clear hF hK HI9 HK9
          go_wp2_with fail
          all_goals go_ret
          all_goals exact ⟨rfl, keep_new HK10.out⟩
        · obtain ⟨q, hq⟩ : ∃ q : Nat, part.toNat = q := ⟨_, rfl⟩
          have hq0 : 0 < q := by omega
          go_wp2_with fail
          refine (own_cut HI5.out hs5 0 part 0 (by decide) hp (by decide)).mono ?_
          rw [two_cut hpg, hq]
          rintro e w6 ⟨rfl, hI, hK⟩
          have HI6 := hid hI
          have HK6 := hid (HK5.out.trans hK (fun _ _ h => h))
          have hs6 := HK6.out.size
          clear hI hK HI5 HK5
          go_wp2_with fail
          refine (own_rename HI6.out hs6 nmA nmB).mono ?_
          rw [two_ren_cut hq0]
          rintro e w7 ⟨rfl, hI, hK⟩
          have HI7 := hid hI
          have HK7 := hid (HK6.out.trans hK (fun _ _ h => h))
          have hs7 := HK7.out.size
          clear hI hK HI6 HK6
          go_wp2_with fail
          refine (own_on HI7.out).mono ?_
          rintro e w8 ⟨rfl, hI, hK⟩
          have HI8 := hid hI
          have HK8 := hid (HK7.out.trans hK (fun _ _ h => h))
          have hs8 := HK8.out.size
          clear hI hK HI7 HK7
          go_wp2_with fail
          refine (read_any w8 HI8.out nmB).mono ?_
          rintro e w9 ⟨vb, rfl, hF, hK⟩
          rw [onlyB_readB, fall_not] at hF
          rw [onlyB_readB, fall_not]
          have HF := hid hF
          have HI9 := hid (HI8.out.keep (hK.mono fun _ _ h => h.elim))
          have HK9 := hid (HK8.out.trans hK (fun _ _ h => h.elim))
          clear hF hK HI8 HK8
          go_wp2_with fail
          refine (read_any w9 HI9.out nmA).mono ?_
          rintro e w10 ⟨va, rfl, -, hK⟩
          rw [onlyB_readA]
          have hF := HF.out.keepF hK
          have HK10 := hid (HK9.out.trans hK (fun _ _ h => h.elim))
          have hst1 := bytes_string hF.bytesIn
          have hst2 := bytes_string (HA.out.keep HK10.out (fun i hi h => by omega))
          have hst3 := bytes_string (HB.out.keep HK10.out (fun i hi h => by omega))
          obtain ⟨av, cv, hv, -, -⟩ := hF.slice
          subst hv
          clear hF hK HI9 HK9
          go_wp2_with fail
          all_goals go_ret
          all_goals exact ⟨rfl, keep_new HK10.out⟩
    · skip
      go_wp2_with fail
      refine (own_rename HI5.out hs5 nmA nmB).mono ?_
      rw [two_ren]
      rintro e w6 ⟨rfl, hI, hK⟩
      have HI6 := hid hI
      have HK6 := hid (HK5.out.trans hK (fun _ _ h => h))
      have hs6 := HK6.out.size
      clear hI hK HI5 HK5
      go_wp2_with fail
      refine (own_on HI6.out).mono ?_
      rintro e w7 ⟨rfl, hI, hK⟩
      have HI7 := hid hI
      have HK7 := hid (HK6.out.trans hK (fun _ _ h => h))
      have hs7 := HK7.out.size
      clear hI hK HI6 HK6
      go_wp2_with fail
      refine (read_any w7 HI7.out nmB).mono ?_
      rintro e w8 ⟨vb, rfl, hF, hK⟩
      rw [onlyB_readB] at hF
      rw [onlyB_readB]
      have HF := hid hF
      have HI8 := hid (HI7.out.keep (hK.mono fun _ _ h => h.elim))
      have HK8 := hid (HK7.out.trans hK (fun _ _ h => h.elim))
      clear hF hK HI7 HK7
      go_wp2_with fail
      refine (read_any w8 HI8.out nmA).mono ?_
      rintro e w9 ⟨va, rfl, -, hK⟩
      rw [onlyB_readA]
      have hF := HF.out.keepF hK
      have HK9 := hid (HK8.out.trans hK (fun _ _ h => h.elim))
      have hst1 := bytes_string hF.bytesIn
      have hst2 := bytes_string (HA.out.keep HK9.out (fun i hi h => by omega))
      have hst3 := bytes_string (HB.out.keep HK9.out (fun i hi h => by omega))
      obtain ⟨av, cv, hv, -, -⟩ := hF.slice
      subst hv
      clear hF hK HI8 HK8
      go_wp2_with fail
      all_goals go_ret
      all_goals exact ⟨rfl, keep_new HK9.out⟩
  | true =>
    go_wp2_with fail
    refine (own_sync HI5.out hs5 nmA).mono ?_
    rw [two_syncA]
    rintro e w6 ⟨rfl, hI, hK⟩
    have HI6 := hid hI
    have HK6 := hid (HK5.out.trans hK (fun _ _ h => h))
    have hs6 := HK6.out.size
    clear hI hK HI5 HK5
    by_cases hc : cut = 1
    · subst hc
      by_cases hp0 : part < 0
      · have hpg : ¬ (0 : Int) ≤ part := by omega
        go_wp2_with fail
        refine (own_cut HI6.out hs6 0 part 0 (by decide) hp (by decide)).mono ?_
        rw [two_cut_not hp0]
        rintro e w7 ⟨rfl, hI, hK⟩
        have HI7 := hid hI
        have HK7 := hid (HK6.out.trans hK (fun _ _ h => h))
        have hs7 := HK7.out.size
        clear hI hK HI6 HK6
        go_wp2_with fail
        refine (own_rename HI7.out hs7 nmA nmB).mono ?_
        rw [two_ren]
        rintro e w8 ⟨rfl, hI, hK⟩
        have HI8 := hid hI
        have HK8 := hid (HK7.out.trans hK (fun _ _ h => h))
        have hs8 := HK8.out.size
        clear hI hK HI7 HK7
        go_wp2_with fail
        refine (own_on HI8.out).mono ?_
        rintro e w9 ⟨rfl, hI, hK⟩
        have HI9 := hid hI
        have HK9 := hid (HK8.out.trans hK (fun _ _ h => h))
        have hs9 := HK9.out.size
        clear hI hK HI8 HK8
        go_wp2_with fail
        refine (read_any w9 HI9.out nmB).mono ?_
        rintro e w10 ⟨vb, rfl, hF, hK⟩
        rw [onlyB_readB] at hF
        rw [onlyB_readB]
        have HF := hid hF
        have HI10 := hid (HI9.out.keep (hK.mono fun _ _ h => h.elim))
        have HK10 := hid (HK9.out.trans hK (fun _ _ h => h.elim))
        clear hF hK HI9 HK9
        go_wp2_with fail
        refine (read_any w10 HI10.out nmA).mono ?_
        rintro e w11 ⟨va, rfl, -, hK⟩
        rw [onlyB_readA]
        have hF := HF.out.keepF hK
        have HK11 := hid (HK10.out.trans hK (fun _ _ h => h.elim))
        have hst1 := bytes_string hF.bytesIn
        have hst2 := bytes_string (HA.out.keep HK11.out (fun i hi h => by omega))
        have hst3 := bytes_string (HB.out.keep HK11.out (fun i hi h => by omega))
        obtain ⟨av, cv, hv, -, -⟩ := hF.slice
        subst hv
        clear hF hK HI10 HK10
        go_wp2_with fail
        all_goals go_ret
        all_goals exact ⟨rfl, keep_new HK11.out⟩
      · have hpg : (0 : Int) ≤ part := by omega
        by_cases hpz : part = 0
        · subst hpz
          go_wp2_with fail
          refine (own_cut HI6.out hs6 0 0 0 (by decide) (by decide) (by decide)).mono ?_
          rw [two_cut (by decide), show (0 : Int).toNat = 0 from rfl]
          rintro e w7 ⟨rfl, hI, hK⟩
          have HI7 := hid hI
          have HK7 := hid (HK6.out.trans hK (fun _ _ h => h))
          have hs7 := HK7.out.size
          clear hI hK HI6 HK6
          go_wp2_with fail
          refine (own_rename HI7.out hs7 nmA nmB).mono ?_
          rw [two_ren_none]
          rintro e w8 ⟨rfl, hI, hK⟩
          have HI8 := hid hI
          have HK8 := hid (HK7.out.trans hK (fun _ _ h => h))
          have hs8 := HK8.out.size
          clear hI hK HI7 HK7
          go_wp2_with fail
          refine (own_on HI8.out).mono ?_
          rintro e w9 ⟨rfl, hI, hK⟩
          have HI9 := hid hI
          have HK9 := hid (HK8.out.trans hK (fun _ _ h => h))
          have hs9 := HK9.out.size
          clear hI hK HI8 HK8
          go_wp2_with fail
          refine (read_any w9 HI9.out nmB).mono ?_
          rintro e w10 ⟨vb, rfl, hF, hK⟩
          rw [two_none_readB] at hF
          rw [two_none_readB]
          have HF := hid hF
          have HI10 := hid (HI9.out.keep (hK.mono fun _ _ h => h.elim))
          have HK10 := hid (HK9.out.trans hK (fun _ _ h => h.elim))
          clear hF hK HI9 HK9
          go_wp2_with fail
          refine (read_any w10 HI10.out nmA).mono ?_
          rintro e w11 ⟨va, rfl, -, hK⟩
          rw [two_none_readA]
          have hF := HF.out.keepF hK
          have HK11 := hid (HK10.out.trans hK (fun _ _ h => h.elim))
          have hst1 := bytes_string hF.bytesIn
          have hst2 := bytes_string (HA.out.keep HK11.out (fun i hi h => by omega))
          have hst3 := bytes_string (HB.out.keep HK11.out (fun i hi h => by omega))
          obtain ⟨av, cv, hv, -, -⟩ := hF.slice
          subst hv
          clear hF hK HI10 HK10
          go_wp2_with fail
          all_goals go_ret
          all_goals exact ⟨rfl, keep_new HK11.out⟩
        · obtain ⟨q, hq⟩ : ∃ q : Nat, part.toNat = q := ⟨_, rfl⟩
          have hq0 : 0 < q := by omega
          go_wp2_with fail
          refine (own_cut HI6.out hs6 0 part 0 (by decide) hp (by decide)).mono ?_
          rw [two_cut hpg, hq]
          rintro e w7 ⟨rfl, hI, hK⟩
          have HI7 := hid hI
          have HK7 := hid (HK6.out.trans hK (fun _ _ h => h))
          have hs7 := HK7.out.size
          clear hI hK HI6 HK6
          go_wp2_with fail
          refine (own_rename HI7.out hs7 nmA nmB).mono ?_
          rw [two_ren_cut hq0]
          rintro e w8 ⟨rfl, hI, hK⟩
          have HI8 := hid hI
          have HK8 := hid (HK7.out.trans hK (fun _ _ h => h))
          have hs8 := HK8.out.size
          clear hI hK HI7 HK7
          go_wp2_with fail
          refine (own_on HI8.out).mono ?_
          rintro e w9 ⟨rfl, hI, hK⟩
          have HI9 := hid hI
          have HK9 := hid (HK8.out.trans hK (fun _ _ h => h))
          have hs9 := HK9.out.size
          clear hI hK HI8 HK8
          go_wp2_with fail
          refine (read_any w9 HI9.out nmB).mono ?_
          rintro e w10 ⟨vb, rfl, hF, hK⟩
          rw [onlyB_readB, fall_sure] at hF
          rw [onlyB_readB, fall_sure]
          have HF := hid hF
          have HI10 := hid (HI9.out.keep (hK.mono fun _ _ h => h.elim))
          have HK10 := hid (HK9.out.trans hK (fun _ _ h => h.elim))
          clear hF hK HI9 HK9
          go_wp2_with fail
          refine (read_any w10 HI10.out nmA).mono ?_
          rintro e w11 ⟨va, rfl, -, hK⟩
          rw [onlyB_readA]
          have hF := HF.out.keepF hK
          have HK11 := hid (HK10.out.trans hK (fun _ _ h => h.elim))
          have hst1 := bytes_string hF.bytesIn
          have hst2 := bytes_string (HA.out.keep HK11.out (fun i hi h => by omega))
          have hst3 := bytes_string (HB.out.keep HK11.out (fun i hi h => by omega))
          obtain ⟨av, cv, hv, -, -⟩ := hF.slice
          subst hv
          clear hF hK HI10 HK10
          go_wp2_with fail
          all_goals go_ret
          all_goals exact ⟨rfl, keep_new HK11.out⟩
    · skip
      go_wp2_with fail
      refine (own_rename HI6.out hs6 nmA nmB).mono ?_
      rw [two_ren]
      rintro e w7 ⟨rfl, hI, hK⟩
      have HI7 := hid hI
      have HK7 := hid (HK6.out.trans hK (fun _ _ h => h))
      have hs7 := HK7.out.size
      clear hI hK HI6 HK6
      go_wp2_with fail
      refine (own_on HI7.out).mono ?_
      rintro e w8 ⟨rfl, hI, hK⟩
      have HI8 := hid hI
      have HK8 := hid (HK7.out.trans hK (fun _ _ h => h))
      have hs8 := HK8.out.size
      clear hI hK HI7 HK7
      go_wp2_with fail
      refine (read_any w8 HI8.out nmB).mono ?_
      rintro e w9 ⟨vb, rfl, hF, hK⟩
      rw [onlyB_readB] at hF
      rw [onlyB_readB]
      have HF := hid hF
      have HI9 := hid (HI8.out.keep (hK.mono fun _ _ h => h.elim))
      have HK9 := hid (HK8.out.trans hK (fun _ _ h => h.elim))
      clear hF hK HI8 HK8
      go_wp2_with fail
      refine (read_any w9 HI9.out nmA).mono ?_
      rintro e w10 ⟨va, rfl, -, hK⟩
      rw [onlyB_readA]
      have hF := HF.out.keepF hK
      have HK10 := hid (HK9.out.trans hK (fun _ _ h => h.elim))
      have hst1 := bytes_string hF.bytesIn
      have hst2 := bytes_string (HA.out.keep HK10.out (fun i hi h => by omega))
      have hst3 := bytes_string (HB.out.keep HK10.out (fun i hi h => by omega))
      obtain ⟨av, cv, hv, -, -⟩ := hF.slice
      subst hv
      clear hF hK HI9 HK9
      go_wp2_with fail
      all_goals go_ret
      all_goals exact ⟨rfl, keep_new HK10.out⟩

theorem rename_law (v0 v1 : Value) (s : Bool) (c p : Int) (W : World) (h0 : ∃ A C l, v0 = .slice A (l : List UInt8).length C ∧ BytesIn W v0 l (fun i => i < W.heap.size)) (h1 : ∃ A C l, v1 = .slice A (l : List UInt8).length C ∧ BytesIn W v1 l (fun i => i < W.heap.size))
    (_hc : (Lit.int .i64 c).wf = true) (hp : (Lit.int .i64 p).wf = true) :
    Calls Tryd.prog 10 #[v0, v1, .bool s, .int .i64 c, .int .i64 p] W fun e w' => e = .returned (.bool true) ∧ Below W.heap.size W w' := by
  obtain ⟨A, C, l, rfl, hB⟩ := h0
  obtain ⟨A2, C2, ls, rfl, hR⟩ := h1
  exact true_below (rename_row W hB hR (wf_lt hp))

end Go.Proofs.YtbjjohfpdphpfaaDoor.Dsk
