/- The plain law of keys: what 'Keys.between' answers lies between. No program in sight. -/
import Derived.Test.YtbjjohfpdphpfaaDoorKeysPure
namespace Go.Proofs.YtbjjohfpdphpfaaDoor.Keys
open Go

theorem less_nil (l : List UInt8) : Op.bytesLess l [] = false := by cases l <;> rfl
theorem nil_less (l : List UInt8) : Op.bytesLess [] l = !l.isEmpty := by cases l <;> rfl
theorem less_cons (x y : UInt8) (l m : List UInt8) : Op.bytesLess (x :: l) (y :: m) = (decide (x < y) || (x == y && Op.bytesLess l m)) := rfl

theorem less_irrefl (l : List UInt8) : Op.bytesLess l l = false := by
  induction l with
  | nil => rfl
  | cons x l ih => rw [less_cons, ih]; simp [UInt8.lt_irrefl]
theorem less_trans {a b c : List UInt8} (h : Op.bytesLess a b = true) (k : Op.bytesLess b c = true) : Op.bytesLess a c = true := by
  induction a generalizing b c with
  | nil =>
    cases c with
    | nil => rw [less_nil] at k; cases k
    | cons z c => rfl
  | cons x a ih =>
    cases b with
    | nil => rw [less_nil] at h; cases h
    | cons y b =>
      cases c with
      | nil => rw [less_nil] at k; cases k
      | cons z c =>
        rw [less_cons] at h k ⊢
        simp only [Bool.or_eq_true, Bool.and_eq_true, decide_eq_true_eq, beq_iff_eq] at h k ⊢
        rcases h with h | ⟨rfl, h⟩
        · rcases k with k | ⟨rfl, k⟩
          · exact .inl (UInt8.lt_trans h k)
          · exact .inl h
        · rcases k with k | ⟨rfl, k⟩
          · exact .inl k
          · exact .inr ⟨rfl, ih h k⟩

/-- A text's first digit. -/
def hd (l : List UInt8) : Nat := digit l 0

/-- The digits of what is between, by recursion on both texts. -/
def mid : Nat → List UInt8 → List UInt8 → Bool → Option (List UInt8)
  | 0, _, _, _ => none
  | f + 1, a, b, op =>
    if hd a + 1 < (if op then 26 else hd b) then some [letter ((hd a + (if op then 26 else hd b)) / 2)]
    else (mid f a.tail b.tail (op || (if op then 26 else hd b) == hd a + 1)).map (letter (hd a) :: ·)

theorem digit_drop (l : List UInt8) (i : Nat) : digit l i = hd (l.drop i) := by
  unfold hd digit; simp

theorem go_mid (a b : List UInt8) (f : Nat) : ∀ (i : Nat) (op : Bool) (out : List UInt8), go a b f i op out = (mid f (a.drop i) (b.drop i) op).map (out ++ ·) := by
  induction f with
  | zero => intro i op out; rfl
  | succ f ih =>
    intro i op out
    have hu : upper b i op = (if op then 26 else hd (b.drop i)) := by unfold upper; rw [digit_drop]
    rw [go, mid, hu, digit_drop]
    by_cases h : hd (a.drop i) + 1 < (if op then 26 else hd (b.drop i))
    · rw [if_pos h, if_pos h]; simp
    · rw [if_neg h, if_neg h, ih, List.tail_drop, List.tail_drop, Option.map_map]
      congr 1
      funext r
      simp

theorem letter_nat {d : Nat} (h : d ≤ 25) : (letter d).toNat = 97 + d := by
  unfold letter
  rw [UInt8.toNat_ofNat_of_lt' (by rw [show UInt8.size = 256 from rfl]; omega)]
theorem letter_az {d : Nat} (h : d ≤ 25) : az (letter d) = true := by
  unfold az; rw [letter_nat h]; simp; omega
theorem hd_nil : hd [] = 0 := rfl
theorem hd_cons (x : UInt8) (l : List UInt8) : hd (x :: l) = x.toNat - 97 := rfl
theorem hd_le {l : List UInt8} (h : l.all az = true) : hd l ≤ 25 := by
  cases l with
  | nil => simp [hd_nil]
  | cons x l => simp only [List.all_cons, Bool.and_eq_true, az, decide_eq_true_eq] at h; rw [hd_cons]; omega
theorem all_tail {l : List UInt8} (h : l.all az = true) : l.tail.all az = true := by
  cases l with
  | nil => rfl
  | cons x l => simp only [List.all_cons, Bool.and_eq_true] at h; exact h.2

/-- The last letter is not the least. -/
def ends (l : List UInt8) : Prop := ∀ h : l ≠ [], l.getLast h ≠ 97

theorem ends_tail {l : List UInt8} (h : ends l) : ends l.tail := by
  cases l with
  | nil => exact h
  | cons x l =>
    intro hn
    have := h (by simp)
    rwa [List.getLast_cons (show l ≠ [] from hn)] at this

theorem nat_of_az {x : UInt8} (h : az x = true) : 97 ≤ x.toNat ∧ x.toNat ≤ 122 := by
  simpa [az] using h

theorem less_of_nat {x y : UInt8} (h : x.toNat < y.toNat) (l m : List UInt8) : Op.bytesLess (x :: l) (y :: m) = true := by
  rw [less_cons]
  have : x < y := UInt8.lt_iff_toNat_lt.2 h
  simp [this]
theorem less_same {x y : UInt8} (h : x.toNat = y.toNat) (l m : List UInt8) : Op.bytesLess (x :: l) (y :: m) = Op.bytesLess l m := by
  have : x = y := UInt8.toNat_inj.1 h
  subst this
  rw [less_cons]
  simp [UInt8.lt_irrefl]

/-- What comes of the digits, where there is an upper bound no more. -/
theorem mid_open (f : Nat) : ∀ (a b r : List UInt8), a.all az = true → mid f a b true = some r →
    r ≠ [] ∧ r.all az = true ∧ ends r ∧ r.length ≤ f ∧ r.length ≤ a.length + 1 ∧ Op.bytesLess a r = true := by
  induction f with
  | zero => intro a b r _ h; cases h
  | succ f ih =>
    intro a b r ha h
    have hx := hd_le ha
    rw [mid] at h
    simp only [if_true] at h
    by_cases hc : hd a + 1 < 26
    · rw [if_pos hc] at h
      obtain rfl : r = [letter ((hd a + 26) / 2)] := by simpa using h.symm
      refine ⟨by simp, by simp [letter_az (show (hd a + 26) / 2 ≤ 25 by omega)], ?_, by simp, by simp, ?_⟩
      · intro _
        simp only [List.getLast_singleton]
        intro he
        have := congrArg UInt8.toNat he
        rw [letter_nat (by omega)] at this
        have : (97 : UInt8).toNat = 97 := rfl
        omega
      · cases a with
        | nil => rfl
        | cons x l =>
          simp only [List.all_cons, Bool.and_eq_true] at ha
          have := nat_of_az ha.1
          rw [hd_cons] at hc hx ⊢
          exact less_of_nat (by rw [letter_nat (by omega)]; omega) _ _
    · rw [if_neg hc] at h
      simp only [Bool.true_or] at h
      cases hm : mid f a.tail b.tail true with
      | none => rw [hm] at h; cases h
      | some q =>
        rw [hm] at h
        obtain rfl : r = letter (hd a) :: q := by simpa using h.symm
        obtain ⟨q1, q2, q3, q4, q5, q6⟩ := ih _ _ _ (all_tail ha) hm
        refine ⟨by simp, by simp only [List.all_cons, Bool.and_eq_true]; exact ⟨letter_az hx, q2⟩, ?_, by simp; omega, ?_, ?_⟩
        · intro _; rw [List.getLast_cons q1]; exact q3 q1
        · cases a with
          | nil => rw [hd_nil] at hc; omega
          | cons x l => simp at q5 ⊢; exact q5
        · cases a with
          | nil => rw [hd_nil] at hc; omega
          | cons x l =>
            simp only [List.all_cons, Bool.and_eq_true] at ha
            have := nat_of_az ha.1
            rw [hd_cons] at hx
            rw [hd_cons, less_same (by rw [letter_nat (by omega)]; omega)]
            exact q6

theorem mid_open_some (f : Nat) : ∀ (a b : List UInt8), a.all az = true → a.length < f → mid f a b true ≠ none := by
  induction f with
  | zero => intro a b _ h; omega
  | succ f ih =>
    intro a b ha h
    rw [mid]
    simp only [if_true]
    by_cases hc : hd a + 1 < 26
    · rw [if_pos hc]; simp
    · rw [if_neg hc]
      simp only [Bool.true_or]
      cases a with
      | nil => rw [hd_nil] at hc; omega
      | cons x l =>
        have := ih l b.tail (all_tail ha) (by simp at h; omega)
        cases hm : mid f l b.tail true with
        | none => exact absurd hm this
        | some q => simp [hm]

/-- What comes of the digits of two texts, the one ahead of the other. -/
theorem mid_shut (f : Nat) : ∀ (a b r : List UInt8), a.all az = true → b.all az = true → ends b → Op.bytesLess a b = true → mid f a b false = some r →
    r ≠ [] ∧ r.all az = true ∧ ends r ∧ r.length ≤ f ∧ r.length ≤ max a.length b.length + 1 ∧ Op.bytesLess a r = true ∧ Op.bytesLess r b = true := by
  induction f with
  | zero => intro a b r _ _ _ _ h; cases h
  | succ f ih =>
    intro a b r ha hb he hl h
    have hx := hd_le ha
    have hy := hd_le hb
    cases b with
    | nil => rw [less_nil] at hl; cases hl
    | cons y m =>
      have hby : az y = true := by simp only [List.all_cons, Bool.and_eq_true] at hb; exact hb.1
      have hyn := nat_of_az hby
      have hle : hd a ≤ hd (y :: m) := by
        cases a with
        | nil => rw [hd_nil]; omega
        | cons x l =>
          simp only [List.all_cons, Bool.and_eq_true] at ha
          have := nat_of_az ha.1
          rw [hd_cons, hd_cons]
          rw [less_cons] at hl
          simp only [Bool.or_eq_true, Bool.and_eq_true, decide_eq_true_eq, beq_iff_eq] at hl
          rcases hl with hl | ⟨rfl, hl⟩
          · have := UInt8.lt_iff_toNat_lt.1 hl; omega
          · omega
      rw [mid] at h
      simp only [Bool.false_eq_true, if_false] at h
      by_cases hc : hd a + 1 < hd (y :: m)
      · rw [if_pos hc] at h
        obtain rfl : r = [letter ((hd a + hd (y :: m)) / 2)] := by simpa using h.symm
        refine ⟨by simp, by simp [letter_az (show (hd a + hd (y :: m)) / 2 ≤ 25 by omega)], ?_, by simp, by simp, ?_, ?_⟩
        · intro _
          simp only [List.getLast_singleton]
          intro he
          have := congrArg UInt8.toNat he
          rw [letter_nat (by omega)] at this
          have : (97 : UInt8).toNat = 97 := rfl
          omega
        · cases a with
          | nil => rfl
          | cons x l =>
            simp only [List.all_cons, Bool.and_eq_true] at ha
            have := nat_of_az ha.1
            rw [hd_cons] at hc hx
            rw [hd_cons] at hc hy
            exact less_of_nat (by rw [letter_nat (by rw [hd_cons, hd_cons]; omega)]; rw [hd_cons, hd_cons]; omega) _ _
        · rw [hd_cons] at hc hy
          exact less_of_nat (by rw [letter_nat (by rw [hd_cons]; omega)]; rw [hd_cons]; omega) _ _
      · rw [if_neg hc] at h
        by_cases hq : hd (y :: m) = hd a + 1
        · have e : (false || hd (y :: m) == hd a + 1) = true := by simp [hq]
          rw [e] at h
          cases hm : mid f a.tail (y :: m).tail true with
          | none => rw [hm] at h; cases h
          | some q =>
            rw [hm] at h
            obtain rfl : r = letter (hd a) :: q := by simpa using h.symm
            obtain ⟨q1, q2, q3, q4, q5, q6⟩ := mid_open f _ _ _ (all_tail ha) hm
            refine ⟨by simp, by simp only [List.all_cons, Bool.and_eq_true]; exact ⟨letter_az hx, q2⟩, ?_, by simp; omega, ?_, ?_, ?_⟩
            · intro _; rw [List.getLast_cons q1]; exact q3 q1
            · cases a with
              | nil => simp at q5 ⊢; omega
              | cons x l => simp at q5 ⊢; omega
            · cases a with
              | nil => rfl
              | cons x l =>
                simp only [List.all_cons, Bool.and_eq_true] at ha
                have := nat_of_az ha.1
                rw [hd_cons] at hx
                rw [hd_cons, less_same (by rw [letter_nat (by omega)]; omega)]
                exact q6
            · rw [hd_cons] at hq hy
              exact less_of_nat (by rw [letter_nat hx]; omega) _ _
        · have hxy : hd (y :: m) = hd a := by omega
          have e : (false || hd (y :: m) == hd a + 1) = false := by simp [hq]
          rw [e] at h
          have hl' : Op.bytesLess a.tail m = true := by
            cases a with
            | nil =>
              rw [hd_nil, hd_cons] at hxy
              show Op.bytesLess [] m = true
              rw [nil_less]
              cases m with
              | nil =>
                have := he (by simp)
                simp only [List.getLast_singleton] at this
                exact absurd (UInt8.toNat_inj.1 (by show y.toNat = 97; omega)) this
              | cons z m => rfl
            | cons x l =>
              simp only [List.all_cons, Bool.and_eq_true] at ha
              have := nat_of_az ha.1
              rw [hd_cons, hd_cons] at hxy
              rwa [less_same (by omega)] at hl
          cases hm : mid f a.tail (y :: m).tail false with
          | none => rw [hm] at h; cases h
          | some q =>
            rw [hm] at h
            obtain rfl : r = letter (hd a) :: q := by simpa using h.symm
            obtain ⟨q1, q2, q3, q4, q5, q6, q7⟩ := ih _ _ _ (all_tail ha) (all_tail hb) (ends_tail he) hl' hm
            refine ⟨by simp, by simp only [List.all_cons, Bool.and_eq_true]; exact ⟨letter_az hx, q2⟩, ?_, by simp; omega, ?_, ?_, ?_⟩
            · intro _; rw [List.getLast_cons q1]; exact q3 q1
            · cases a with
              | nil => simp at q5 ⊢; omega
              | cons x l => simp at q5 ⊢; omega
            · cases a with
              | nil => rfl
              | cons x l =>
                simp only [List.all_cons, Bool.and_eq_true] at ha
                have := nat_of_az ha.1
                rw [hd_cons] at hx
                rw [hd_cons, less_same (by rw [letter_nat (by omega)]; omega)]
                exact q6
            · rw [hd_cons] at hxy
              rw [less_same (by rw [letter_nat hx]; omega)]
              exact q7

theorem mid_shut_some (f : Nat) : ∀ (a b : List UInt8), a.all az = true → b.all az = true → ends b → Op.bytesLess a b = true → a.length < f → b.length < f → mid f a b false ≠ none := by
  induction f with
  | zero => intro a b _ _ _ _ h; omega
  | succ f ih =>
    intro a b ha hb he hl h1 h2
    have hx := hd_le ha
    have hy := hd_le hb
    cases b with
    | nil => rw [less_nil] at hl; cases hl
    | cons y m =>
      have hby : az y = true := by simp only [List.all_cons, Bool.and_eq_true] at hb; exact hb.1
      have hyn := nat_of_az hby
      simp only [List.length_cons] at h2
      have hle : hd a ≤ hd (y :: m) := by
        cases a with
        | nil => rw [hd_nil]; omega
        | cons x l =>
          simp only [List.all_cons, Bool.and_eq_true] at ha
          have := nat_of_az ha.1
          rw [hd_cons, hd_cons]
          rw [less_cons] at hl
          simp only [Bool.or_eq_true, Bool.and_eq_true, decide_eq_true_eq, beq_iff_eq] at hl
          rcases hl with hl | ⟨rfl, hl⟩
          · have := UInt8.lt_iff_toNat_lt.1 hl; omega
          · omega
      have ht : a.tail.length < f := by
        cases a with
        | nil => simp; omega
        | cons x l => simp at h1 ⊢; omega
      rw [mid]
      simp only [Bool.false_eq_true, if_false]
      by_cases hc : hd a + 1 < hd (y :: m)
      · rw [if_pos hc]; simp
      · rw [if_neg hc]
        by_cases hq : hd (y :: m) = hd a + 1
        · have e : (false || hd (y :: m) == hd a + 1) = true := by simp [hq]
          rw [e]
          cases hm : mid f a.tail (y :: m).tail true with
          | none => exact absurd hm (mid_open_some f _ _ (all_tail ha) ht)
          | some q => simp
        · have hxy : hd (y :: m) = hd a := by omega
          have e : (false || hd (y :: m) == hd a + 1) = false := by simp [hq]
          rw [e]
          have hl' : Op.bytesLess a.tail m = true := by
            cases a with
            | nil =>
              rw [hd_nil, hd_cons] at hxy
              show Op.bytesLess [] m = true
              rw [nil_less]
              cases m with
              | nil =>
                have := he (by simp)
                simp only [List.getLast_singleton] at this
                exact absurd (UInt8.toNat_inj.1 (by show y.toNat = 97; omega)) this
              | cons z m => rfl
            | cons x l =>
              simp only [List.all_cons, Bool.and_eq_true] at ha
              have := nat_of_az ha.1
              rw [hd_cons, hd_cons] at hxy
              rwa [less_same (by omega)] at hl
          cases hm : mid f a.tail (y :: m).tail false with
          | none => exact absurd hm (ih _ _ (all_tail ha) (all_tail hb) (ends_tail he) hl' ht (by simp; omega))
          | some q => simp

theorem key_iff (l : List UInt8) : isKey l = true ↔ l ≠ [] ∧ l.length ≤ 200 ∧ ends l ∧ l.all az = true := by
  unfold isKey ends
  simp only [Bool.and_eq_true, decide_eq_true_eq, bne_iff_ne]
  constructor
  · rintro ⟨h1, h2, h3, h4⟩
    have hn : l ≠ [] := by intro e; subst e; simp at h1
    refine ⟨hn, h2, fun _ => ?_, h4⟩
    rw [List.getLast_eq_getElem]
    rwa [List.getD_eq_getElem?_getD, List.getElem?_eq_getElem (by omega)] at h3
  · rintro ⟨h1, h2, h3, h4⟩
    have hp : 0 < l.length := List.length_pos_iff.2 h1
    refine ⟨hp, h2, ?_, h4⟩
    have := h3 h1
    rw [List.getLast_eq_getElem] at this
    rwa [List.getD_eq_getElem?_getD, List.getElem?_eq_getElem (by omega)]

/-- What 'between' answers: a key that lies between, as long as need be; or nothing. -/
theorem between_says (a b : List UInt8) : (∃ k, between a b = (k, 0) ∧ rightL a b = true ∧ isKey k = true ∧ k.length ≤ max a.length b.length + 1 ∧ Op.bytesLess a k = true ∧ (b = [] ∨ Op.bytesLess k b = true))
    ∨ (between a b = ([], 43) ∧ (rightL a b = false ∨ a.length = 200 ∨ b.length = 200)) := by
  unfold between
  by_cases hr : rightL a b = true
  · rw [if_pos hr, go_mid]
    obtain ⟨ha, hb, la, lb⟩ := rightL_az hr
    simp only [List.drop_zero]
    have hends : ends b := by
      intro hn
      unfold rightL at hr
      simp only [Bool.and_eq_true, Bool.or_eq_true, List.isEmpty_iff] at hr
      rcases hr.2.1 with h | h
      · exact absurd h hn
      · exact ((key_iff b).1 h).2.2.1 hn
    have hless : b ≠ [] → Op.bytesLess a b = true := by
      intro hn
      unfold rightL at hr
      simp only [Bool.and_eq_true, Bool.or_eq_true, List.isEmpty_iff] at hr
      rcases hr.2.2 with h | h | h
      · subst h; rw [nil_less]; cases b with
        | nil => exact absurd rfl hn
        | cons _ _ => rfl
      · exact absurd h hn
      · exact h
    cases b with
    | nil =>
      cases hm : mid 200 a [] true with
      | none =>
        refine .inr ⟨by simp [hm], .inr (.inl ?_)⟩
        by_cases hl : a.length < 200
        · exact absurd hm (mid_open_some 200 a [] ha hl)
        · omega
      | some r =>
        obtain ⟨q1, q2, q3, q4, q5, q6⟩ := mid_open 200 a [] r ha hm
        exact .inl ⟨r, by simp [hm], hr, (key_iff r).2 ⟨q1, q4, q3, q2⟩, by simpa using q5, q6, .inl rfl⟩
    | cons y m =>
      cases hm : mid 200 a (y :: m) false with
      | none =>
        refine .inr ⟨by simp [hm], .inr ?_⟩
        by_cases hl : a.length < 200 ∧ (y :: m).length < 200
        · exact absurd hm (mid_shut_some 200 a _ ha hb hends (hless (by simp)) hl.1 hl.2)
        · omega
      | some r =>
        obtain ⟨q1, q2, q3, q4, q5, q6, q7⟩ := mid_shut 200 a _ r ha hb hends (hless (by simp)) hm
        exact .inl ⟨r, by simp [hm], hr, (key_iff r).2 ⟨q1, q4, q3, q2⟩, q5, q6, .inr q7⟩
  · rw [if_neg hr]
    exact .inr ⟨rfl, .inl (by simpa using hr)⟩

theorem less_total {a b : List UInt8} (h : Op.bytesLess a b = false) (hne : a ≠ b) : Op.bytesLess b a = true := by
  induction a generalizing b with
  | nil =>
    cases b with
    | nil => exact absurd rfl hne
    | cons y b => cases h
  | cons x a ih =>
    cases b with
    | nil => rfl
    | cons y b =>
      rw [less_cons] at h ⊢
      simp only [Bool.or_eq_false_iff, Bool.and_eq_false_iff, decide_eq_false_iff_not, beq_eq_false_iff_ne] at h
      simp only [Bool.or_eq_true, Bool.and_eq_true, decide_eq_true_eq, beq_iff_eq]
      rcases UInt8.lt_or_eq_of_le (UInt8.not_lt.1 h.1) with hl | rfl
      · exact .inl hl
      · refine .inr ⟨rfl, ih ?_ (fun e => hne (by rw [e]))⟩
        rcases h.2 with h2 | h2
        · exact absurd rfl h2
        · exact h2

end Go.Proofs.YtbjjohfpdphpfaaDoor.Keys
