/- osierref06: May, Right, digit, from, Between, walked: they compute what the program's functions compute. -/
import Derived.Test.YtbjjohfpdphpfaaDoorKeysDense
import Derived.LoopTactic
import Derived.Laws.Concat
namespace Go.Proofs.YtbjjohfpdphpfaaDoor
open Go.RowKit Go.Lib

theorem az_at (s : ByteArray) (k : Nat) (h : k < s.size) : Keys.az s[k] = (decide (97 ≤ s[k].toNat) && decide (s[k].toNat ≤ 122)) := rfl

theorem take_snoc (s : ByteArray) (k : Nat) (h : k < s.size) : s.toList.take (k + 1) = s.toList.take k ++ [s[k]] := by
  rw [toList_data, List.take_succ_eq_append_getElem (by simpa using h)]; rfl

theorem key_all (s : ByteArray) (h0 : 0 < s.size) (h1 : s.size ≤ 200) (h2 : s.size - 1 < s.size) : Keys.isKey s.toList = (s[s.size - 1].toNat != 97 && s.toList.all Keys.az) := by
  rw [toList_data, key_rest s h0 (by omega) h2]
  congr 1
  · rw [Bool.eq_iff_iff, bne_iff_ne, bne_iff_ne]
    omega
  · simp

set_option maxHeartbeats 1000000 in
theorem refmay_any (s : ByteArray) (w : World) (hs : s.size ≤ 9223372036854775807) :
    Calls Tryd.prog 19 #[.string s] w fun e w' => e = .returned (.bool (Keys.isKey s.toList)) ∧ w = w' := by
  by_cases h0 : s.size = 0
  · have hres : Keys.isKey s.toList = false := by rw [toList_data]; exact key_short s (by omega)
    have Hres := Lib.hid hres
    clear hres
    have hz : ((s.size : Int) == 0) = true := by rw [beq_iff_eq]; omega
    clear h0
    go_enter Tryd.func19, Tryd.ntmps19
    go_wp2
    go_ret
    exact ⟨ret_bool (by rw [Hres.out]), rfl⟩
  have hz : ((s.size : Int) == 0) = false := by rw [beq_eq_false_iff_ne]; omega
  by_cases h1 : 200 < s.size
  · have hres : Keys.isKey s.toList = false := by rw [toList_data]; exact key_long s (by omega)
    have Hres := Lib.hid hres
    clear hres
    go_enter Tryd.func19, Tryd.ntmps19
    go_wp2
    go_ret
    exact ⟨ret_bool (by rw [Hres.out]), rfl⟩
  have hpos : 0 < s.size := by omega
  have hlast : s.size - 1 < s.size := by omega
  by_cases h2 : s[s.size - 1].toNat = 97
  · have hres : Keys.isKey s.toList = false := by rw [key_all s hpos (by omega) hlast, h2]; rfl
    have Hres := Lib.hid hres
    clear hres
    have hb : ((s[s.size - 1].toNat : Int) == 97) = true := by rw [beq_iff_eq]; omega
    clear h2
    go_enter Tryd.func19, Tryd.ntmps19
    go_wp2
    go_ret
    exact ⟨ret_bool (by rw [Hres.out]), rfl⟩
  have hres : Keys.isKey s.toList = s.toList.all Keys.az := by
    rw [key_all s hpos (by omega) hlast]
    have : (s[s.size - 1].toNat != 97) = true := by rw [bne_iff_ne]; exact h2
    rw [this, Bool.true_and]
  have Hres := Lib.hid hres
  clear hres
  have hb : ((s[s.size - 1].toNat : Int) == 97) = false := by rw [beq_eq_false_iff_ne]; omega
  clear h2 h0
  go_enter Tryd.func19, Tryd.ntmps19
  go_wp2
  go_loop [3] (fun i => ∃ k : Nat, k ≤ s.size ∧ i = .int .i64 k ∧ Hid ((s.toList.take k).all Keys.az = true)) (fun i => s.size - (RowKit.intOf i).toNat)
  case atStart => exact ⟨0, Nat.zero_le _, rfl, rfl⟩
  case round =>
    obtain ⟨k, hk, rfl, hall⟩ := hrel
    by_cases hlt : k < s.size
    · cases ha : Keys.az s[k] with
      | true =>
        have hsn : (s.toList.take (k + 1)).all Keys.az = true := by
          rw [take_snoc s k hlt, List.all_append, hall.out]; simp [ha]
        have Hsn := Lib.hid hsn
        rw [az_at s k hlt] at ha
        simp only [Bool.and_eq_true, decide_eq_true_eq] at ha
        obtain ⟨ha1, ha2⟩ := ha
        clear hsn hall hb hz
        go_wp2
        go_round
        case rel => exact ⟨k + 1, by omega, by go_num, Hsn⟩
        case measure => simp [RowKit.intOf]; omega
      | false =>
        have hf : s.toList.all Keys.az = false := by
          cases hc : s.toList.all Keys.az with
          | false => rfl
          | true =>
            rw [toList_data] at hc
            have := List.all_eq_true.1 hc s[k] (List.getElem_mem (by simpa using hlt))
            rw [ha] at this; cases this
        have Hf := Lib.hid hf
        rw [az_at s k hlt] at ha
        simp only [Bool.and_eq_false_iff, decide_eq_false_iff_not] at ha
        clear hf hall hb hz
        rcases ha with ha | ha
        all_goals
          go_wp2
          go_ret
          exact ⟨ret_bool (by rw [Hres.out, Hf.out]), rfl⟩
    · have hf : s.toList.all Keys.az = true := by
        have := hall.out
        rwa [List.take_of_length_le (by rw [toList_data]; simp; omega)] at this
      have Hf := Lib.hid hf
      clear hf hall hb hz
      go_wp2
      go_ret
      exact ⟨ret_bool (by rw [Hres.out, Hf.out]), rfl⟩

theorem hid_max {a : ByteArray} (h : a.size ≤ 140737488351232) : a.size ≤ 9223372036854775807 := by omega

set_option maxHeartbeats 1000000 in
theorem refright_any (a b : ByteArray) (w : World) (ha : a.size ≤ 9223372036854775807) (hb : b.size ≤ 9223372036854775807) :
    Calls Tryd.prog 42 #[.string a, .string b] w fun e w' => e = .returned (.bool (Keys.right a b)) ∧ w = w' := by
  go_enter Tryd.func42, Tryd.ntmps42
  go_wp2_with (go_at_call 19; refine (refmay_any _ _ (by assumption)).mono ?_; rintro e w1 ⟨rfl, rfl⟩)
  all_goals go_ret
  all_goals refine ⟨ret_bool ?_, rfl⟩
  all_goals
    unfold Keys.right Keys.rightL
    generalize a.toList = x at *
    generalize b.toList = y at *
    clear ha hb
    simp [*, Bool.or_assoc]

theorem digit_at (s : ByteArray) (i : Nat) (h : i < s.size) : (s.toList.getD i 97) = s[i] := by
  rw [toList_data, List.getD_eq_getElem?_getD, List.getElem?_eq_getElem (by simpa using h)]; rfl

theorem refdigit_any (s : ByteArray) (i : Nat) (w : World) (_hi : i ≤ 200) (_hs : s.size ≤ 200) (haz : s.toList.all Keys.az = true) :
    Calls Tryd.prog 61 #[.string s, .int .i64 (i : Int)] w fun e w' => e = .returned (.int .i64 (Keys.digit s.toList i : Int)) ∧ w = w' := by
  by_cases hlt : i < s.size
  · have hmem : Keys.az s[i] = true := by
      rw [toList_data] at haz
      exact List.all_eq_true.1 haz _ (List.getElem_mem (by simpa using hlt))
    rw [az_at s i hlt] at hmem
    simp only [Bool.and_eq_true, decide_eq_true_eq] at hmem
    obtain ⟨h1, h2⟩ := hmem
    have hd : (Keys.digit s.toList i : Int) = (s[i].toNat : Int) - 97 := by unfold Keys.digit; rw [digit_at s i hlt]; omega
    have Hd := Lib.hid hd
    clear hd haz
    go_enter Tryd.func61, Tryd.ntmps61
    go_wp2
    go_ret
    exact ⟨ret_int (by rw [Hd.out]), rfl⟩
  · have hd : Keys.digit s.toList i = 0 := by
      unfold Keys.digit
      rw [toList_data, List.getD_eq_getElem?_getD, List.getElem?_eq_none (by simp; omega)]; rfl
    have Hd := Lib.hid hd
    clear hd haz
    go_enter Tryd.func61, Tryd.ntmps61
    go_wp2
    go_ret
    exact ⟨ret_int (by rw [Hd.out]; rfl), rfl⟩

/-- The digits as a text; nothing where there are none. -/
def fromL (f : Nat) (a b : List UInt8) (op : Bool) : List UInt8 := (Keys.mid f a b op).getD []
def fromB (f i : Nat) (a b : ByteArray) (op : Bool) : ByteArray := ⟨(fromL f (a.toList.drop i) (b.toList.drop i) op).toArray⟩

theorem mid_len (f : Nat) : ∀ (a b r : List UInt8) (op : Bool), Keys.mid f a b op = some r → r.length ≤ f ∧ r ≠ [] := by
  induction f with
  | zero => intro a b r op h; cases h
  | succ f ih =>
    intro a b r op h
    rw [Keys.mid] at h
    by_cases hc : Keys.hd a + 1 < (if op then 26 else Keys.hd b)
    · rw [if_pos hc] at h
      obtain rfl := Option.some.inj h
      simp
    · rw [if_neg hc] at h
      cases hm : Keys.mid f a.tail b.tail (op || (if op then 26 else Keys.hd b) == Keys.hd a + 1) with
      | none => rw [hm] at h; cases h
      | some q =>
        rw [hm] at h
        obtain rfl : r = Keys.letter (Keys.hd a) :: q := by simpa using h.symm
        have := ih _ _ _ _ hm
        simp; omega

theorem fromL_len (f : Nat) (a b : List UInt8) (op : Bool) : (fromL f a b op).length ≤ f := by
  unfold fromL
  cases h : Keys.mid f a b op with
  | none => simp
  | some r => exact (mid_len f a b r op h).1
theorem fromB_size (f i : Nat) (a b : ByteArray) (op : Bool) : (fromB f i a b op).size ≤ f := by
  have := fromL_len f (a.toList.drop i) (b.toList.drop i) op
  exact this

theorem letter_int {d : Nat} (h : d ≤ 158) (e : Int) (he : e = 97 + (d : Int)) : e = ((Keys.letter d).toNat : Int) := by
  unfold Keys.letter
  rw [UInt8.toNat_ofNat_of_lt' (by rw [show UInt8.size = 256 from rfl]; omega), he]
  omega

theorem fromL_stop {f : Nat} {a b : List UInt8} {op : Bool} {h : Nat} (hu : (if op then 26 else Keys.hd b) = h) (hd : Keys.hd a + 1 < h) : fromL (f + 1) a b op = [Keys.letter ((Keys.hd a + h) / 2)] := by
  subst hu
  unfold fromL; rw [Keys.mid, if_pos hd]; rfl
theorem fromL_step {f : Nat} {a b : List UInt8} {op : Bool} {h : Nat} (hu : (if op then 26 else Keys.hd b) = h) (hd : ¬ Keys.hd a + 1 < h) :
    fromL (f + 1) a b op = if (fromL f a.tail b.tail (op || h == Keys.hd a + 1)).isEmpty then [] else Keys.letter (Keys.hd a) :: fromL f a.tail b.tail (op || h == Keys.hd a + 1) := by
  subst hu
  unfold fromL
  rw [Keys.mid, if_neg hd]
  cases hm : Keys.mid f a.tail b.tail (op || (if op then 26 else Keys.hd b) == Keys.hd a + 1) with
  | none => rfl
  | some q =>
    have := (mid_len f _ _ q _ hm).2
    cases q with
    | nil => exact absurd rfl this
    | cons x q => rfl

def FromPost (f i : Nat) (a b : ByteArray) (op : Bool) (w : World) (e : Ending) (w' : World) : Prop := e = .returned (.string (fromB f i a b op)) ∧ Below w.heap.size w w'

theorem from_nil (f i : Nat) (a b : ByteArray) (op : Bool) (h : (fromB f i a b op).toList.isEmpty = true) : (fromL f (a.toList.drop i) (b.toList.drop i) op).isEmpty = true := by
  rw [toList_data] at h; exact h
theorem from_not_nil (f i : Nat) (a b : ByteArray) (op : Bool) (h : ¬ (fromB f i a b op).toList = []) : (fromL f (a.toList.drop i) (b.toList.drop i) op).isEmpty = false := by
  rw [toList_data] at h; exact emp_false h

/-- What one round of 'from' comes to, in the walk's own forms. -/
theorem fromB_stop {f i : Nat} {a b : ByteArray} {op : Bool} {da h : Nat} (hda : da = Keys.digit a.toList i) (hu : h = if op then 26 else Keys.digit b.toList i) (hd : da + 1 < h) : fromB (f + 1) i a b op = ⟨#[Keys.letter ((da + h) / 2)]⟩ := by
  rw [Keys.digit_drop] at hda hu
  unfold fromB
  rw [fromL_stop hu.symm (by rw [← hda]; exact hd), ← hda]
theorem fromB_step {f i : Nat} {a b : ByteArray} {op : Bool} {da h : Nat} (hda : da = Keys.digit a.toList i) (hu : h = if op then 26 else Keys.digit b.toList i) (hd : ¬ da + 1 < h) :
    fromB (f + 1) i a b op = if (fromB f (i + 1) a b (op || h == da + 1)).toList.isEmpty then ⟨#[]⟩ else ⟨#[Keys.letter da]⟩ ++ fromB f (i + 1) a b (op || h == da + 1) := by
  rw [Keys.digit_drop] at hda hu
  unfold fromB
  rw [fromL_step hu.symm (by rw [← hda]; exact hd), ← hda, List.tail_drop, List.tail_drop]
  generalize fromL f (a.toList.drop (i + 1)) (b.toList.drop (i + 1)) (op || h == da + 1) = q
  rw [toList_data]
  cases q with
  | nil => rfl
  | cons x l => simp [ByteArray.ext_iff]

set_option maxRecDepth 100000 in
set_option maxHeartbeats 2000000 in
theorem from_any (a b : ByteArray) (hal : a.size ≤ 200) (hbl : b.size ≤ 200) (haz : a.toList.all Keys.az = true) (hbz : b.toList.all Keys.az = true) (f : Nat) :
    ∀ (i : Nat) (op : Bool) (w : World), i + f = 200 → Calls Tryd.prog 43 #[.string a, .string b, .int .i64 (i : Int), .bool op] w (FromPost f i a b op w) := by
  have Haz := Lib.hid haz
  have Hbz := Lib.hid hbz
  clear haz hbz
  induction f with
  | zero =>
    intro i op w hi
    have hz : ((i : Int) == 200) = true := by rw [beq_iff_eq]; omega
    clear hi
    go_enter Tryd.func43, Tryd.ntmps43
    go_wp2_with fail
    go_ret
    exact ⟨rfl, Below.refl _ _⟩
  | succ f ih =>
    intro i op w hi
    have IH := Lib.hid ih
    clear ih
    have hz : ((i : Int) == 200) = false := by rw [beq_eq_false_iff_ne]; omega
    have Hi := Lib.hid hi
    have hi2 : i < 200 := by omega
    clear hi
    have hda := Keys.digit_le a.toList i
    have hdb := Keys.digit_le b.toList i
    obtain ⟨da, eda⟩ : ∃ d, d = Keys.digit a.toList i := ⟨_, rfl⟩
    obtain ⟨db, edb⟩ : ∃ d, d = Keys.digit b.toList i := ⟨_, rfl⟩
    rw [← eda] at hda
    rw [← edb] at hdb
    have Eda := Lib.hid eda
    have Edb := Lib.hid edb
    clear eda edb
    cases op with
    | true =>
      go_enter Tryd.func43, Tryd.ntmps43
      go_wp2_with fail
      refine (refdigit_any a i _ (by omega) hal Haz.out).mono ?_
      rintro e w1 ⟨rfl, rfl⟩
      rw [← Eda.out]
      by_cases hd : da + 1 < 26
      · have Hres := Lib.hid (fromB_stop (f := f) (i := i) (a := a) (b := b) (op := true) (h := 26) Eda.out rfl hd)
        go_wp2_with ((with_reducible refine wpl_here ?_); refine wpList_string_one rfl 33 9 5 (.tmp 32) rfl Tryd.underlying33 Tryd.underlying5 Tryd.underlying9 (Keys.letter ((da + 26) / 2)) ?_ rfl ?_; exact letter_int (by omega) _ (by omega))
        go_ret
        exact ⟨ret_str (by rw [Hres.out]), (Below.refl _ _).alloc (Nat.le_refl _) _⟩
      · have Hres' : Hid (fromB (f + 1) i a b true = if (fromB f (i + 1) a b true).toList.isEmpty then ⟨#[]⟩ else ⟨#[Keys.letter da]⟩ ++ fromB f (i + 1) a b true) := by
          have := fromB_step (f := f) (i := i) (a := a) (b := b) (op := true) (h := 26) Eda.out rfl hd
          rw [show (true || 26 == da + 1) = true from by rfl] at this
          exact this
        go_wp2_with fail
        refine (IH.out (i + 1) true _ (by have := Hi.out; omega)).mono ?_
        rintro e w1 ⟨rfl, hB⟩
        have hsz := fromB_size f (i + 1) a b true
        have hsz2 : (fromB f (i + 1) a b true).size ≤ 200 := by have := Hi.out; omega
        have hsz1 : (⟨#[Keys.letter da]⟩ : ByteArray).size = 1 := rfl
        generalize fromB f (i + 1) a b true = r at Hres' hsz hsz2 ⊢
        by_cases hr : r.toList = []
        · have Hr := Lib.hid (show fromB (f + 1) i a b true = ⟨#[]⟩ by rw [Hres'.out, hr]; rfl)
          have hre : r.toList.isEmpty = true := by rw [hr]; rfl
          go_wp2_with fail
          go_ret
          exact ⟨ret_str (by rw [Hr.out]), hB⟩
        · have hre := emp_false hr
          have Hr := Lib.hid (show fromB (f + 1) i a b true = ⟨#[Keys.letter da]⟩ ++ r by rw [Hres'.out, hre]; rfl)
          go_wp2_with ((with_reducible refine wpl_here ?_); refine wpList_string_one rfl 33 9 5 (.tmp 51) rfl Tryd.underlying33 Tryd.underlying5 Tryd.underlying9 (Keys.letter da) ?_ rfl ?_; exact letter_int (by omega) _ (by omega))
          go_ret
          exact ⟨ret_str (by rw [Hr.out]), hB.alloc hB.size _⟩
    | false =>
      go_enter Tryd.func43, Tryd.ntmps43
      go_wp2_with fail
      refine (refdigit_any a i _ (by omega) hal Haz.out).mono ?_
      rintro e w1 ⟨rfl, rfl⟩
      rw [← Eda.out]
      go_wp2_with fail
      refine (refdigit_any b i _ (by omega) hbl Hbz.out).mono ?_
      rintro e w1 ⟨rfl, rfl⟩
      rw [← Edb.out]
      by_cases hd : da + 1 < db
      · have Hres := Lib.hid (fromB_stop (f := f) (i := i) (a := a) (b := b) (op := false) (h := db) Eda.out Edb.out hd)
        go_wp2_with ((with_reducible refine wpl_here ?_); refine wpList_string_one rfl 33 9 5 (.tmp 32) rfl Tryd.underlying33 Tryd.underlying5 Tryd.underlying9 (Keys.letter ((da + db) / 2)) ?_ rfl ?_; exact letter_int (by omega) _ (by omega))
        go_ret
        exact ⟨ret_str (by rw [Hres.out]), (Below.refl _ _).alloc (Nat.le_refl _) _⟩
      · by_cases heq : db = da + 1
        · have hq : ((db : Int) - (da : Int) == 1) = true := by rw [beq_iff_eq]; omega
          have Heq := Lib.hid heq
          clear heq
          have Hres' : Hid (fromB (f + 1) i a b false = if (fromB f (i + 1) a b true).toList.isEmpty then ⟨#[]⟩ else ⟨#[Keys.letter da]⟩ ++ fromB f (i + 1) a b true) := by
            have := fromB_step (f := f) (i := i) (a := a) (b := b) (op := false) (h := db) Eda.out Edb.out hd
            rw [show (false || db == da + 1) = true from by simp [Heq.out]] at this
            exact this
          go_wp2_with fail
          refine (IH.out (i + 1) true _ (by have := Hi.out; omega)).mono ?_
          rintro e w1 ⟨rfl, hB⟩
          have hsz := fromB_size f (i + 1) a b true
          have hsz2 : (fromB f (i + 1) a b true).size ≤ 200 := by have := Hi.out; omega
          have hsz1 : (⟨#[Keys.letter da]⟩ : ByteArray).size = 1 := rfl
          generalize fromB f (i + 1) a b true = r at Hres' hsz hsz2 ⊢
          by_cases hr : r.toList = []
          · have Hr := Lib.hid (show fromB (f + 1) i a b false = ⟨#[]⟩ by rw [Hres'.out, hr]; rfl)
            have hre : r.toList.isEmpty = true := by rw [hr]; rfl
            go_wp2_with fail
            go_ret
            exact ⟨ret_str (by rw [Hr.out]), hB⟩
          · have hre := emp_false hr
            have Hr := Lib.hid (show fromB (f + 1) i a b false = ⟨#[Keys.letter da]⟩ ++ r by rw [Hres'.out, hre]; rfl)
            go_wp2_with ((with_reducible refine wpl_here ?_); refine wpList_string_one rfl 33 9 5 (.tmp 51) rfl Tryd.underlying33 Tryd.underlying5 Tryd.underlying9 (Keys.letter da) ?_ rfl ?_; exact letter_int (by omega) _ (by omega))
            go_ret
            exact ⟨ret_str (by rw [Hr.out]), hB.alloc hB.size _⟩
        · have hq : ((db : Int) - (da : Int) == 1) = false := by rw [beq_eq_false_iff_ne]; omega
          have Heq := Lib.hid heq
          clear heq
          have Hres' : Hid (fromB (f + 1) i a b false = if (fromB f (i + 1) a b false).toList.isEmpty then ⟨#[]⟩ else ⟨#[Keys.letter da]⟩ ++ fromB f (i + 1) a b false) := by
            have := fromB_step (f := f) (i := i) (a := a) (b := b) (op := false) (h := db) Eda.out Edb.out hd
            rw [show (false || db == da + 1) = false from by simp [Heq.out]] at this
            exact this
          go_wp2_with fail
          refine (IH.out (i + 1) false _ (by have := Hi.out; omega)).mono ?_
          rintro e w1 ⟨rfl, hB⟩
          have hsz := fromB_size f (i + 1) a b false
          have hsz2 : (fromB f (i + 1) a b false).size ≤ 200 := by have := Hi.out; omega
          have hsz1 : (⟨#[Keys.letter da]⟩ : ByteArray).size = 1 := rfl
          generalize fromB f (i + 1) a b false = r at Hres' hsz hsz2 ⊢
          by_cases hr : r.toList = []
          · have Hr := Lib.hid (show fromB (f + 1) i a b false = ⟨#[]⟩ by rw [Hres'.out, hr]; rfl)
            have hre : r.toList.isEmpty = true := by rw [hr]; rfl
            go_wp2_with fail
            go_ret
            exact ⟨ret_str (by rw [Hr.out]), hB⟩
          · have hre := emp_false hr
            have Hr := Lib.hid (show fromB (f + 1) i a b false = ⟨#[Keys.letter da]⟩ ++ r by rw [Hres'.out, hre]; rfl)
            go_wp2_with ((with_reducible refine wpl_here ?_); refine wpList_string_one rfl 33 9 5 (.tmp 51) rfl Tryd.underlying33 Tryd.underlying5 Tryd.underlying9 (Keys.letter da) ?_ rfl ?_; exact letter_int (by omega) _ (by omega))
            go_ret
            exact ⟨ret_str (by rw [Hr.out]), hB.alloc hB.size _⟩

end Go.Proofs.YtbjjohfpdphpfaaDoor
