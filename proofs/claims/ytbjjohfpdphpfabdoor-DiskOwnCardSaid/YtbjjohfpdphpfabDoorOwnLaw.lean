/- osierlaw18.DiskOwn: what is handed in and told is no memory of the disk's; walked. -/
import Derived.Test.YtbjjohfpdphpfabDoorDiskNil
import Derived.Test.YtbjjohfpdphpfabDoorRoomLaw
import Derived.Test.YtbjjohfpdphpfabDoorOpenArgs2
namespace Go.Proofs.YtbjjohfpdphpfabDoor.Wal
open Go Go.RowKit Go.Lib Go.Proofs.YtbjjohfpdphpfabDoor.Dsk

def nmX : ByteArray := ⟨#[120]⟩
theorem nmX_name : isName nmX.toList = true := by decide +kernel
/-- A row of octets of one's own. -/
def Octets (w : World) (v : Value) (n : Nat) (P : Nat → Prop) : Prop := ∃ ao cap, v = .slice ao n cap ∧ (ao = none → n = 0) ∧ ∀ a, ao = some a → ∃ g cs, a = ⟨g, 0, none⟩ ∧ w.heap[g]? = some (.cells cs 5 (0, 0)) ∧ P g ∧ ∀ j, j < n → ∃ z, cs[j]? = some (.int .u8 z)
theorem octets_of {w : World} {base : Nat} {v : Value} {l : List UInt8} (h : ByteRow w base v l) : Octets w v l.length (fun g => base ≤ g ∧ g < w.heap.size) := by
  obtain ⟨-, ⟨rfl, h0⟩ | ⟨g, cap, cur, rfl, hg, hh, q1, q2, q3, q4⟩⟩ := h
  · exact ⟨none, 0, by rw [h0], fun _ => h0, fun a ha => by cases ha⟩
  · refine ⟨_, _, rfl, (fun e => by cases e), fun a ha => ?_⟩
    obtain rfl := Option.some.inj ha
    refine ⟨g, cur, rfl, hh, ⟨hg, lt_of_block hh⟩, fun j hj => ?_⟩
    rw [Nat.mul_one] at q4
    have h2 : (cur.toList.take l.length)[j]? = (l.map byteV)[j]? := by rw [q4]
    rw [List.getElem?_take_of_lt hj, List.getElem?_map, List.getElem?_eq_getElem hj, Array.getElem?_toList] at h2
    exact ⟨_, h2⟩
theorem Octets.keep {w w' : World} {v : Value} {n : Nat} {P F : Nat → Prop} (h : Octets w v n P) (k : Keep F w w') (hF : ∀ i, P i → ¬ F i) : Octets w' v n P := by
  obtain ⟨ao, cap, e, h1, h2⟩ := h
  refine ⟨ao, cap, e, h1, fun a ha => ?_⟩
  obtain ⟨g, cs, e1, e2, e3, e4⟩ := h2 a ha
  exact ⟨g, cs, e1, k.at e2 (hF g e3), e3, e4⟩
theorem Octets.set {w : World} {g n cap k : Nat} {P : Nat → Prop} {z : Int} (h : Octets w (.slice (some ⟨g, 0, none⟩) n cap) n P) : Octets (w.setCell ⟨g, k, none⟩ (.int .u8 z)) (.slice (some ⟨g, 0, none⟩) n cap) n P := by
  obtain ⟨ao, cap', e, h1, h2⟩ := h
  injection e with e1 _ e3
  subst e1 e3
  refine ⟨_, _, rfl, h1, fun a ha => ?_⟩
  obtain rfl := Option.some.inj ha
  obtain ⟨g', cs, e1, e2, e3, e4⟩ := h2 _ rfl
  obtain rfl : g = g' := by injection e1
  refine ⟨g, _, rfl, heap_setCell_self e2 _, e3, fun j hj => ?_⟩
  obtain ⟨z', hz⟩ := e4 j hj
  by_cases e : k = j
  · subst e
    exact ⟨z, by rw [Array.getElem?_setIfInBounds_self_of_lt (Array.getElem?_eq_some_iff.1 hz).1]⟩
  · exact ⟨z', by rw [Array.getElem?_setIfInBounds_ne e]; exact hz⟩
theorem Held.grow' {n db : Nat} {X G : Nat → Prop} {w0 w : World} {D : DiskM} (h : Held n X w0 db D) (k : Keep G w0 w) (hG : ∀ i, ¬ G i) : Held n (fun i => w0.heap.size ≤ i) w db D :=
  (h.grow k (fun i hi => absurd hi (hG i))).mono fun _ _ hi => .inr hi

/-- One file. -/
def oneX (l : List UInt8) : DiskM := ⟨2000, [(nmX, ⟨l, 0⟩)], false, none⟩
theorem oneX_new {l : List UInt8} (h : l.length ≤ 1000) : append (new 2000) nmX l = ((oneX l), 0) := by
  have hE : appendE (new 2000) nmX l = 0 := by
    unfold appendE
    rw [nmX_name, if_pos rfl, if_neg]
    simp [new, total]
    omega
  unfold append
  rw [hE]
  have hw : l.length ≤ whole := by unfold whole; omega
  simp [oneX, new, operate, appendP, List.take_of_length_le hw, fileOf, mget_nil, mput, mhas]
  rfl
theorem oneX_read {l : List UInt8} : Dsk.read (oneX l) nmX = (l, 0) := by
  unfold Dsk.read oneX
  simp [fileOf, mget_cons, mhas]
theorem oneX_tidy {l : List UInt8} : Tidy (oneX l).files := by
  refine ⟨by simp [oneX], fun p hp => ?_⟩
  obtain rfl : p = (nmX, ⟨l, 0⟩) := by simpa [oneX] using hp
  exact nmX_name
/-- The one name's row. -/
theorem held_names {n db : Nat} {X : Nat → Prop} {w : World} {l : List UInt8} (h : Held n X w db (oneX l)) :
    Calls Tryd.prog 19 #[ptr db] w fun e w' => ∃ g cap cs, e = .returned (.slice (some ⟨g, 0, none⟩) 1 cap) ∧ w'.heap[g]? = some (.cells cs 9 (0, 0)) ∧ cs[0]? = some (.string nmX) ∧ w.heap.size ≤ g ∧ g < w'.heap.size ∧ Keep (fun _ => False) w w' := by
  refine (names_any w h oneX_tidy).mono ?_
  rintro e w' ⟨v, ls, rfl, hP, -, hrow, hB⟩
  obtain rfl : ls = [nmX] := List.perm_singleton.1 hP
  obtain ⟨-, ⟨-, h0⟩ | ⟨g, cap, cur, rfl, hg, hh, q1, q2, q3, q4⟩⟩ := hrow
  · simp at h0
  · refine ⟨g, cap, cur, rfl, hh, ?_, hg, lt_of_block hh, keep_of_below hB⟩
    have h2 : (cur.toList.take 1)[0]? = some (Value.string nmX) := by
      have : (cur.toList.take ([nmX].length * 1))[0]? = ([nmX].map Value.string)[0]? := by rw [q4]
      simpa using this
    rw [List.getElem?_take_of_lt (by omega), Array.getElem?_toList] at h2
    exact h2

set_option maxRecDepth 100000 in
set_option maxHeartbeats 8000000 in
theorem own_row (W : World) (name : ByteArray) {v0 : Value} {la : List UInt8} (hA : BytesArg W v0 la) :
    Calls Tryd.prog 4 #[v0, .string name] W fun e w' => e = .returned (.bool true) ∧ Keep (fun _ => False) W w' := by
  have HA := hid hA
  obtain ⟨ao0, c0, hv0, -⟩ := hA.bytes.read
  subst hv0
  clear hA
  go_enter Tryd.func4, Tryd.ntmps4
  go_wp2_with fail
  refine (awake18 W).mono ?_
  rintro e w0 ⟨rfl, hK⟩
  have HK0 := hid hK
  clear hK
  go_wp2_with fail
  refine (nil_on _).mono ?_
  rintro e w1 ⟨rfl, hK⟩
  have HK1 := hid (HK0.out.trans hK (fun _ _ h => h))
  clear hK
  go_wp2_with fail
  refine (nil_read _ _).mono ?_
  rintro e w2 ⟨rfl, hK⟩
  have HK2 := hid (HK1.out.trans hK (fun _ _ h => h))
  clear hK
  go_wp2_with fail
  refine (nil_append _ _ _ _ _).mono ?_
  rintro e w3 ⟨rfl, hK⟩
  have HK3 := hid (HK2.out.trans hK (fun _ _ h => h))
  clear hK
  go_wp2_with fail
  refine (nil_sync _ _).mono ?_
  rintro e w4 ⟨rfl, hK⟩
  have HK4 := hid (HK3.out.trans hK (fun _ _ h => h))
  clear hK
  go_wp2_with fail
  refine (nil_rename _ _ _).mono ?_
  rintro e w5 ⟨rfl, hK⟩
  have HK5 := hid (HK4.out.trans hK (fun _ _ h => h))
  clear hK
  go_wp2_with fail
  refine (nil_remove _ _).mono ?_
  rintro e w6 ⟨rfl, hK⟩
  have HK6 := hid (HK5.out.trans hK (fun _ _ h => h))
  clear hK
  go_wp2_with fail
  refine (nil_shorten _ _ _).mono ?_
  rintro e w7 ⟨rfl, hK⟩
  have HK7 := hid (HK6.out.trans hK (fun _ _ h => h))
  clear hK
  go_wp2_with fail
  refine (nil_cut _ _ _ _).mono ?_
  rintro e w8 ⟨rfl, hK⟩
  have HK8 := hid (HK7.out.trans hK (fun _ _ h => h))
  clear hK
  go_wp2_with fail
  refine (nil_names _).mono ?_
  rintro e w9 ⟨rfl, hK⟩
  have HK9 := hid (HK8.out.trans hK (fun _ _ h => h))
  clear hK
  go_wp2_with fail
  refine (nil_room _).mono ?_
  rintro e w10 ⟨rfl, hK⟩
  have HK10 := hid (HK9.out.trans hK (fun _ _ h => h))
  clear hK
  go_wp2_with fail
  refine (nil_off _).mono ?_
  rintro e w11 ⟨rfl, hK⟩
  have HK11 := hid (HK10.out.trans hK (fun _ _ h => h))
  clear hK
  by_cases h1 : 1000 < (la.length : Int)
  · go_wp2_with fail
    all_goals go_ret
    all_goals exact ⟨rfl, HK11.out⟩
  have HRN := hid (ByteRow.nil w11 w11.heap.size)
  have HA11 := hid (HA.out.bytes.keep HK11.out (fun _ _ h => h))
  go_wp2_with (at_builtin; refine wpList_append_row rfl _ _ rfl HRN.out HA11.out rfl rfl (Nat.le_refl _) (by simp; omega) ?_; intro v1 wp hR hKp)
  have HR := hid (show ByteRow wp w11.heap.size v1 la from hR)
  have HKp := hid (show Keep (fun _ => False) W wp from (HK11.out.trans (hKp.mono (G := fun _ => False) (fun i hi h => by omega)) (fun _ _ h => h)))
  obtain ⟨aom, capm, hvm⟩ := HR.out.slice
  subst hvm
  have HO := hid (octets_of HR.out)
  clear hR hKp
  refine (new_any 2000 wp (by decide)).mono ?_
  rintro e wq ⟨db, rfl, hdb, hI, hK⟩
  have HH := hid (show Held wp.heap.size (fun _ => False) wq db (new 2000) from by obtain ⟨mr, gs, cv, h⟩ := hI; exact ⟨mr, gs, cv, h.here.mono fun i hi => ⟨hi.1, hi.2, fun h => h⟩⟩)
  have HKq := hid hK
  have hsq := hK.size
  clear hI hK
  unfold ptr
  go_wp2_with fail
  refine (held_append HH.out hsq (fun _ h => h.elim) (Keep.refl _ _) nmX ((bytes_here HR.out.fb.bytesIn).keep HKq.out (fun _ _ h => h)) (fun i hi => .inl hi.2)).mono ?_
  rw [oneX_new (by omega)]
  rintro e w3 ⟨rfl, hH, hK⟩
  have HH3 := hid hH
  have hsw : W.heap.size ≤ wp.heap.size := HKp.out.size
  have HK3 := hid (show Keep (fun i => W.heap.size ≤ i) W w3 from ((HKp.out.trans HKq.out (fun _ _ h => h)).mono (fun _ _ h => h.elim)).trans hK (fun i hi h => by omega))
  have HO3 := hid ((HO.out.keep HKq.out (fun _ _ h => h)).keep hK (fun i hi h => by omega))
  have hs3 : wp.heap.size ≤ w3.heap.size := Nat.le_trans hsq hK.size
  have hswn : W.heap.size ≤ w11.heap.size := HK11.out.size
  clear hH hK HH HO
  go_wp2_with fail
  go_loopw [12] (fun iv wr => ∃ k : Nat, iv = .int .i64 (k : Int) ∧ k ≤ la.length ∧ Hid (Keep (fun i => W.heap.size ≤ i) W wr) ∧ Hid (Held wp.heap.size (fun i => False) wr db (oneX la)) ∧ Hid (Octets wr (.slice aom la.length capm) la.length (fun g => w11.heap.size ≤ g ∧ g < wp.heap.size)) ∧ wp.heap.size ≤ wr.heap.size) (fun iv _ => la.length - (RowKit.intOf iv).toNat)
  case atStart => exact ⟨0, rfl, Nat.zero_le _, HK3, HH3, HO3, hs3⟩
  case round =>
    obtain ⟨k, rfl, hk, HKr, HHr, HOr, hsr⟩ := hrel
    by_cases hkl : k < la.length
    · obtain ⟨ao, cap, e, hn0, hoc⟩ := HOr.out
      injection e with e1 _ e3
      subst e1 e3
      obtain ⟨a, rfl⟩ : ∃ a, aom = some a := by
        cases aom with
        | none => rw [hn0 rfl] at hkl; simp at hkl
        | some a => exact ⟨a, rfl⟩
      obtain ⟨g, cs, rfl, hg, hPg, hzz⟩ := hoc a rfl
      obtain ⟨z, hz⟩ := hzz k hkl
      have hcell : wr.cell? ⟨g, k, none⟩ = some (.int .u8 z) := by rw [cell_at hg, hz]
      have hfr : wr.frozen? ⟨g, k, none⟩ = false := frozen_at hg k
      clear hoc hzz hz hg hn0
      go_wp2_with fail
      exact ⟨⟨k + 1, by simp, by omega, hid (HKr.out.trans (keep_setCell _ _ _ _) (fun i hi h => by omega)), hid (HHr.out.keep (keep_setCell _ _ _ _) (fun i hi h2 h3 => by omega)), hid HOr.out.set, by simpa using hsr⟩, by simp [RowKit.intOf]; omega⟩
    · generalize wr = w4 at *
      go_wp2_with fail
      refine (read_row w4 HHr.out nmX).mono ?_
      rw [oneX_read]
      rintro e w5 ⟨v2, rfl, hR, hK⟩
      obtain ⟨aox, capx, hvx⟩ := hR.slice
      subst hvx
      have HO5 := hid (octets_of hR)
      have HH5 := hid (HHr.out.grow' hK (fun _ h => h))
      have HK5 := hid (HKr.out.trans hK (fun _ _ h => h.elim))
      have hs5 := hK.size
      clear hR hK
      go_wp2_with fail
      go_loopw [15] (fun iv wr => ∃ k : Nat, iv = .int .i64 (k : Int) ∧ k ≤ la.length ∧ Hid (Keep (fun i => W.heap.size ≤ i) W wr) ∧ Hid (Held wp.heap.size (fun i => w4.heap.size ≤ i) wr db (oneX la)) ∧ Hid (Octets wr (.slice aox la.length capx) la.length (fun g => w4.heap.size ≤ g ∧ g < w5.heap.size)) ∧ w5.heap.size ≤ wr.heap.size) (fun iv _ => la.length - (RowKit.intOf iv).toNat)
      case atStart => exact ⟨0, rfl, Nat.zero_le _, HK5, HH5, HO5, Nat.le_refl _⟩
      case round =>
        obtain ⟨k, rfl, hk, HKr, HHr, HOr, hsr⟩ := hrel
        by_cases hkl : k < la.length
        · obtain ⟨ao, cap, e, hn0, hoc⟩ := HOr.out
          injection e with e1 _ e3
          subst e1 e3
          obtain ⟨a, rfl⟩ : ∃ a, aox = some a := by
            cases aox with
            | none => rw [hn0 rfl] at hkl; simp at hkl
            | some a => exact ⟨a, rfl⟩
          obtain ⟨g, cs, rfl, hg, hPg, hzz⟩ := hoc a rfl
          obtain ⟨z, hz⟩ := hzz k hkl
          have hcell : wr.cell? ⟨g, k, none⟩ = some (.int .u8 z) := by rw [cell_at hg, hz]
          have hfr : wr.frozen? ⟨g, k, none⟩ = false := frozen_at hg k
          clear hoc hzz hz hg hn0
          go_wp2_with fail
          exact ⟨⟨k + 1, by simp, by omega, hid (HKr.out.trans (keep_setCell _ _ _ _) (fun i hi h => by omega)), hid (HHr.out.keep (keep_setCell _ _ _ _) (fun i hi h2 h3 => by omega)), hid HOr.out.set, by simpa using hsr⟩, by simp [RowKit.intOf]; omega⟩
        · generalize wr = w6 at *
          go_wp2_with fail
          refine (read_row w6 HHr.out nmX).mono ?_
          rw [oneX_read]
          rintro e w7 ⟨v3, rfl, hR, hK⟩
          obtain ⟨aoy, capy, hvy⟩ := hR.slice
          subst hvy
          have HY7 := hid (bytes_here hR.fb.bytesIn)
          have HH7 := hid (HHr.out.keep hK (fun _ h => h.elim))
          have HK7 := hid (HKr.out.trans hK (fun _ _ h => h.elim))
          have hs7 := hK.size
          clear hR hK
          go_wp2_with fail
          refine (held_names HH7.out).mono ?_
          rintro e w8 ⟨g3, cap3, cs3, rfl, hg3, hc3, hl3, hlt3, hK⟩
          have hcell : w8.cell? ⟨g3, 0, none⟩ = some (.string nmX) := by rw [cell_at hg3, hc3]
          have hfr : w8.frozen? ⟨g3, 0, none⟩ = false := frozen_at hg3 0
          have HH8 := hid (HH7.out.grow' hK (fun _ h => h))
          have HK8 := hid (HK7.out.trans hK (fun _ _ h => h.elim))
          have HY8 := hid (HY7.out.keep hK (fun _ _ h => h))
          have hs8 := hK.size
          clear hg3 hc3 hK
          go_wp2_with fail
          obtain ⟨w9, hw9⟩ : ∃ w9, w8.setCell ⟨g3, 0, none⟩ (.string ⟨#[121]⟩) = w9 := ⟨_, rfl⟩
          have hk9 : Keep (fun i => i = g3) w8 w9 := hw9 ▸ keep_setCell _ _ _ _
          have HH9 := hid (HH8.out.keep hk9 (fun i hi _ _ => by omega))
          have HK9 := hid (HK8.out.trans hk9 (fun i hi h => by omega))
          have HY9 := hid (HY8.out.keep hk9 (fun i hi h => by omega))
          rw [hw9]
          clear hk9 hcell hfr hw9
          refine (held_names HH9.out).mono ?_
          rintro e wz ⟨g4, cap4, cs4, rfl, hg4, hc4, -, -, hK⟩
          have hcell : wz.cell? ⟨g4, 0, none⟩ = some (.string nmX) := by rw [cell_at hg4, hc4]
          have HKz := hid (HK9.out.trans hK (fun _ _ h => h.elim))
          have hcy := bytes_string (HY9.out.keep hK (fun _ _ h => h))
          have hcb := bytes_string (HA.out.bytes.keep HKz.out (fun i hi h => by omega))
          have hxx : (nmX.toList == [120]) = true := by decide +kernel
          clear hK hg4 hc4
          go_wp2_with fail
          all_goals go_ret
          all_goals exact ⟨rfl, keep_new' HKz.out⟩

theorem own_any (v0 : Value) (name : ByteArray) (W : World) (h0 : ∃ l, BytesArg W v0 l) (_h1 : name.size ≤ 140737488351232) :
    Calls Tryd.prog 4 #[v0, .string name] W fun e w' => e = .returned (.bool true) ∧ Below W.heap.size W w' := by
  obtain ⟨l0, h0⟩ := h0
  exact (own_row W name h0).mono fun _ _ hh => ⟨hh.1, hh.2.below (fun _ _ h => h.elim) (Nat.le_refl _)⟩

end Go.Proofs.YtbjjohfpdphpfabDoor.Wal
