/- Frames as plain data: sums, numbers, bodies. No program in sight. -/
import Derived.Test.YtmdibkafjpglkaaGreatDoorBase
import Derived.Laws.BitsAllLaws
namespace Go.Proofs.YtmdibkafjpglkaaGreatDoor.Frm
open Go

def crcBit (s : Nat) : Nat := if s % 2 = 1 then (s / 2) ^^^ 2197175160 else s / 2
def crcBits (s : Nat) : Nat → Nat
  | 0 => s
  | k + 1 => crcBit (crcBits s k)
def crcByte (s : Nat) (c : UInt8) : Nat := crcBits (s ^^^ c.toNat) 8
def crcRun (l : List UInt8) : Nat := l.foldl crcByte 4294967295
def crc (l : List UInt8) : Nat := 4294967295 - crcRun l

theorem crcBit_lt {s : Nat} (h : s < 4294967296) : crcBit s < 4294967296 := by
  unfold crcBit
  split
  · have : (s / 2) ^^^ 2197175160 < 2 ^ 32 := Nat.xor_lt_two_pow (by omega) (by omega)
    omega
  · omega
theorem crcBits_lt {s : Nat} (h : s < 4294967296) (k : Nat) : crcBits s k < 4294967296 := by
  induction k with
  | zero => exact h
  | succ k ih => exact crcBit_lt ih
theorem xor_byte_lt {s : Nat} (h : s < 4294967296) (c : UInt8) : s ^^^ c.toNat < 4294967296 := by
  have h2 : c.toNat < 256 := c.toNat_lt
  have : s ^^^ c.toNat < 2 ^ 32 := Nat.xor_lt_two_pow (by omega) (by omega)
  omega
theorem crcByte_lt {s : Nat} (h : s < 4294967296) (c : UInt8) : crcByte s c < 4294967296 := crcBits_lt (xor_byte_lt h c) 8
theorem foldl_lt (l : List UInt8) : ∀ s, s < 4294967296 → l.foldl crcByte s < 4294967296 := by
  induction l with
  | nil => intro s h; exact h
  | cons c l ih => intro s h; exact ih _ (crcByte_lt h c)
theorem crcRun_lt (l : List UInt8) : crcRun l < 4294967296 := foldl_lt l _ (by omega)
theorem crc_lt (l : List UInt8) : crc l < 4294967296 := by unfold crc; omega
theorem crcRun_succ {l : List UInt8} {i : Nat} {c : UInt8} (h : l[i]? = some c) : crcRun (l.take (i + 1)) = crcByte (crcRun (l.take i)) c := by
  unfold crcRun
  rw [List.take_add_one, h]
  simp

/-- What the code reckons in a round. -/
theorem crc_step (s : Nat) (h : s < 4294967296) : bits .xor .u32 ((s : Int) / 2) (bits .and .u32 2197175160 (-bits .and .u32 (s : Int) 1 % 4294967296)) = ((crcBit s : Nat) : Int) := by
  have h1 : bits .and .u32 (s : Int) 1 = ((s &&& 1 : Nat) : Int) := u32_and_nat s 1 h (by omega)
  rw [h1, Nat.and_one_is_mod]
  have e2 : (s : Int) / 2 = ((s / 2 : Nat) : Int) := by omega
  rw [e2]
  unfold crcBit
  by_cases hp : s % 2 = 1
  · rw [hp, if_pos rfl]
    have h3 : -((1 : Nat) : Int) % 4294967296 = ((4294967295 : Nat) : Int) := by decide
    rw [h3]
    have h4 : bits .and .u32 2197175160 ((4294967295 : Nat) : Int) = ((2197175160 &&& 4294967295 : Nat) : Int) := u32_and_nat 2197175160 4294967295 (by omega) (by omega)
    rw [h4, show (2197175160 &&& 4294967295 : Nat) = 2197175160 from by decide]
    exact u32_xor_nat _ _ (by omega) (by omega)
  · have hp0 : s % 2 = 0 := by omega
    rw [hp0, if_neg (by omega)]
    have h3 : -((0 : Nat) : Int) % 4294967296 = ((0 : Nat) : Int) := by decide
    rw [h3]
    have h4 : bits .and .u32 2197175160 ((0 : Nat) : Int) = ((2197175160 &&& 0 : Nat) : Int) := u32_and_nat 2197175160 0 (by omega) (by omega)
    rw [h4, show (2197175160 &&& 0 : Nat) = 0 from by decide, u32_xor_nat _ _ (by omega) (by omega)]
    simp

/-! The reference, bit by bit. -/
theorem xor_half (a b : Nat) : (a ^^^ b) / 2 = a / 2 ^^^ b / 2 := by
  have := Nat.xor_div_two (a := a) (b := b)
  exact this
theorem xor_odd (a b : Nat) : (a ^^^ b) % 2 = 1 ↔ a % 2 ≠ b % 2 := by
  have h := Nat.xor_mod_two_eq_one (a := a) (b := b)
  rw [h]
  omega

/-- What the reference reckons in a round. -/
def refBit (r c : Nat) : Nat := if r % 2 ≠ c % 2 then (r / 2) ^^^ 2197175160 else r / 2
theorem ref_bit (r c : Nat) : crcBit (r ^^^ c) = refBit r c ^^^ (c / 2) := by
  unfold crcBit refBit
  by_cases h : r % 2 ≠ c % 2
  · rw [if_pos ((xor_odd r c).2 h), if_pos h, xor_half, Nat.xor_assoc, Nat.xor_comm (c / 2), ← Nat.xor_assoc]
  · rw [if_neg (fun e => h ((xor_odd r c).1 e)), if_neg h, xor_half]
def refBits (r c : Nat) : Nat → Nat
  | 0 => r
  | k + 1 => refBit (refBits r c k) (c / 2 ^ k)
theorem ref_bits (r c : Nat) (k : Nat) : crcBits (r ^^^ c) k = refBits r c k ^^^ (c / 2 ^ k) := by
  induction k with
  | zero => simp [crcBits, refBits]
  | succ k ih =>
    show crcBit (crcBits (r ^^^ c) k) = _
    rw [ih, ref_bit, Nat.div_div_eq_div_mul, ← Nat.pow_succ]
    rfl
theorem ref_byte (r : Nat) (c : UInt8) : crcByte r c = refBits r c.toNat 8 := by
  unfold crcByte
  have h2 : c.toNat < 256 := c.toNat_lt
  rw [ref_bits, show c.toNat / 2 ^ 8 = 0 from by omega, Nat.xor_zero]

/-! Numbers. -/
def num (l : List UInt8) : Nat := (l.getD 0 0).toNat + 256 * (l.getD 1 0).toNat + 65536 * (l.getD 2 0).toNat + 16777216 * (l.getD 3 0).toNat
def four (n : Nat) : List UInt8 := [UInt8.ofNat n, UInt8.ofNat (n / 256), UInt8.ofNat (n / 65536), UInt8.ofNat (n / 16777216)]
theorem num_lt (l : List UInt8) : num l < 4294967296 := by
  unfold num
  have h0 := (l.getD 0 0).toNat_lt
  have h1 := (l.getD 1 0).toNat_lt
  have h2 := (l.getD 2 0).toNat_lt
  have h3 := (l.getD 3 0).toNat_lt
  omega
theorem num_four {n : Nat} (h : n < 4294967296) (l : List UInt8) : num (four n ++ l) = n := by
  unfold num four
  simp only [List.cons_append, List.getD_cons_zero, List.getD_cons_succ, UInt8.toNat_ofNat']
  omega

/-! The first frame. -/
def maxBody : Nat := 4194304
def firstE (b : List UInt8) : Nat × Int :=
  if b.length < 4 then (0, 10)
  else if maxBody < num b then (0, 11)
  else if b.length < num b + 8 then (0, 10)
  else if num (b.drop (num b + 4)) = crc (b.take (num b + 4)) then (num b + 8, 0)
  else (0, 12)
theorem firstE_ok {b : List UInt8} (h : (firstE b).2 = 0) : (firstE b).1 = num b + 8 ∧ num b ≤ maxBody ∧ num b + 8 ≤ b.length := by
  unfold firstE at h ⊢
  split
  · rename_i h1; rw [if_pos h1] at h; simp at h
  · rename_i h1
    rw [if_neg h1] at h
    split
    · rename_i h2; rw [if_pos h2] at h; simp at h
    · rename_i h2
      rw [if_neg h2] at h
      split
      · rename_i h3; rw [if_pos h3] at h; simp at h
      · rename_i h3
        rw [if_neg h3] at h
        split
        · exact ⟨rfl, by omega, by omega⟩
        · rename_i h4; rw [if_neg h4] at h; simp at h
/-- The body of the first frame. -/
def bodyOf (b : List UInt8) : List UInt8 := (b.drop 4).take (num b)
/-- All bodies up to the first frame that isn't right, and where that begins. -/
def splitF : Nat → List UInt8 → List (List UInt8) × Nat
  | 0, _ => ([], 0)
  | k + 1, b => if (firstE b).2 = 0 then (bodyOf b :: (splitF k (b.drop (num b + 8))).1, num b + 8 + (splitF k (b.drop (num b + 8))).2) else ([], 0)
def split (b : List UInt8) : List (List UInt8) × Nat := splitF b.length b
def frame (b : List UInt8) : List UInt8 := four b.length ++ b ++ four (crc (four b.length ++ b))

theorem splitF_enough : ∀ (k j : Nat) (b : List UInt8), b.length ≤ k → b.length ≤ j → splitF k b = splitF j b := by
  intro k
  induction k with
  | zero =>
    intro j b hk _
    obtain rfl : b = [] := List.eq_nil_of_length_eq_zero (by omega)
    cases j with
    | zero => rfl
    | succ j => unfold splitF; rw [if_neg (by simp [firstE])]
  | succ k ih =>
    intro j b hk hj
    cases j with
    | zero =>
      obtain rfl : b = [] := List.eq_nil_of_length_eq_zero (by omega)
      unfold splitF; rw [if_neg (by simp [firstE])]
    | succ j =>
      unfold splitF
      split
      · rw [ih j _ (by simp; omega) (by simp; omega)]
      · rfl
theorem split_cons {b : List UInt8} (h : (firstE b).2 = 0) : split b = (bodyOf b :: (split (b.drop (num b + 8))).1, num b + 8 + (split (b.drop (num b + 8))).2) := by
  have h2 := firstE_ok h
  unfold split
  obtain ⟨k, hk⟩ : ∃ k, b.length = k + 1 := ⟨b.length - 1, by omega⟩
  rw [hk]
  conv => lhs; unfold splitF
  rw [if_pos h, splitF_enough k (b.drop (num b + 8)).length _ (by simp; omega) (Nat.le_refl _)]
theorem split_nil {b : List UInt8} (h : ¬ (firstE b).2 = 0) : split b = ([], 0) := by
  unfold split
  cases b.length with
  | zero => rfl
  | succ k => unfold splitF; rw [if_neg h]

end Go.Proofs.YtmdibkafjpglkaaGreatDoor.Frm
