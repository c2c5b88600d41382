/- Numbers as bytes (layer 1), plain: what is put, what is taken, and that what is put is taken. -/
import Derived.Test.YtmdibkafjpglkaaGreatDoorProg
import Derived.Lib.BitFns
namespace Go.Proofs.YtmdibkafjpglkaaGreatDoor.Num
open Go

/-- How many bytes a number has. -/
def sizeN (n : Nat) : Nat := if n < 128 then 1 else if n < 16384 then 2 else if n < 2097152 then 3 else if n < 268435456 then 4 else if n < 34359738368 then 5 else if n < 4398046511104 then 6 else if n < 562949953421312 then 7 else if n < 72057594037927936 then 8 else 9
/-- The first bits of a number of k bytes. -/
def headN (k : Nat) : Nat := (256 - 2 ^ (9 - k)) % 256
/-- The lowest j bytes, the highest first. -/
def low : Nat → Nat → List UInt8
  | 0, _ => []
  | j + 1, n => UInt8.ofNat (n / 256 ^ j % 256) :: low j n
/-- A number's bytes. -/
def uintB (n : Nat) : List UInt8 := UInt8.ofNat (headN (sizeN n) + n / 256 ^ (sizeN n - 1)) :: low (sizeN n - 1) n
/-- Of either sign. -/
def zig (z : Int) : Nat := if 0 ≤ z then 2 * z.toNat else 2 * (-(z + 1)).toNat + 1
def zag (n : Nat) : Int := if n % 2 = 0 then ((n / 2 : Nat) : Int) else -((n / 2 : Nat) : Int) - 1
def intB (z : Int) : List UInt8 := uintB (zig z)

/-- How many ones a byte begins with, and one. -/
def lead (b : Nat) : Nat := if b < 128 then 1 else if b < 192 then 2 else if b < 224 then 3 else if b < 240 then 4 else if b < 248 then 5 else if b < 252 then 6 else if b < 254 then 7 else if b < 255 then 8 else 9
def fold (a : Nat) (l : List UInt8) : Nat := l.foldl (fun a c => a * 256 + c.toNat) a
/-- The next number: an error, the number, what is left. -/
def takeU (l : List UInt8) : Int × Nat × List UInt8 :=
  match l with
  | [] => (10, 0, [])
  | b :: t => if t.length + 1 < lead b.toNat then (10, 0, []) else
    if sizeN (fold (b.toNat - headN (lead b.toNat)) (t.take (lead b.toNat - 1))) = lead b.toNat then (0, fold (b.toNat - headN (lead b.toNat)) (t.take (lead b.toNat - 1)), t.drop (lead b.toNat - 1)) else (11, 0, [])

theorem low_len (j n : Nat) : (low j n).length = j := by
  induction j with
  | zero => rfl
  | succ j ih => simp [low, ih]
theorem fold_low (j n : Nat) : ∀ a, fold a (low j n) = a * 256 ^ j + n % 256 ^ j := by
  induction j with
  | zero => intro a; simp [fold, low, Nat.mod_one]
  | succ j ih =>
    intro a
    show fold (a * 256 + (UInt8.ofNat (n / 256 ^ j % 256)).toNat) (low j n) = _
    rw [ih]
    have h1 : (UInt8.ofNat (n / 256 ^ j % 256)).toNat = n / 256 ^ j % 256 := by
      rw [UInt8.toNat_ofNat']; exact Nat.mod_mod_of_dvd _ (by decide)
    rw [h1]
    have h2 : n % 256 ^ (j + 1) = n % 256 ^ j + 256 ^ j * (n / 256 ^ j % 256) := by rw [Nat.pow_succ]; exact Nat.mod_mul
    rw [h2, Nat.pow_succ, Nat.add_mul, Nat.mul_assoc, Nat.mul_comm 256 (256 ^ j), Nat.mul_comm (n / 256 ^ j % 256) (256 ^ j)]
    omega
theorem size_pos (n : Nat) : 1 ≤ sizeN n ∧ sizeN n ≤ 9 := by
  unfold sizeN
  repeat' split
  all_goals omega
theorem lead_tab : ∀ b : Fin 256, ∀ k : Fin 10, 1 ≤ k.val → headN k.val ≤ b.val → (k.val ≤ 8 → b.val < headN k.val + 2 ^ (8 - k.val)) → lead b.val = k.val := by decide +kernel
theorem head_tab : ∀ k : Fin 10, 1 ≤ k.val → headN k.val < 256 ∧ (k.val ≤ 8 → headN k.val + 2 ^ (8 - k.val) ≤ 256) := by decide +kernel
theorem lead_key (n k : Nat) (h1 : 1 ≤ k) (h2 : k ≤ 9) (h3 : k ≤ 8 → n / 256 ^ (k - 1) < 2 ^ (8 - k)) (h4 : k = 9 → n / 256 ^ (k - 1) = 0) : lead (headN k + n / 256 ^ (k - 1)) = k ∧ headN k + n / 256 ^ (k - 1) < 256 := by
  have ht := head_tab ⟨k, by omega⟩ h1
  have hl := fun b hb => lead_tab ⟨b, hb⟩ ⟨k, by omega⟩ h1
  simp only at ht hl
  generalize n / 256 ^ (k - 1) = q at *
  generalize 2 ^ (8 - k) = p at *
  have hb : headN k + q < 256 := by
    rcases Nat.lt_or_ge k 9 with h | h
    · have := h3 (by omega); have := ht.2 (by omega); omega
    · rw [h4 (by omega)]; omega
  exact ⟨hl _ hb (by omega) (fun h => by have := h3 h; omega), hb⟩
theorem lead_head (n : Nat) (h : n < 18446744073709551616) : lead (headN (sizeN n) + n / 256 ^ (sizeN n - 1)) = sizeN n ∧ headN (sizeN n) + n / 256 ^ (sizeN n - 1) < 256 := by
  unfold sizeN
  split
  · exact lead_key n 1 (by omega) (by omega) (fun _ => by simp only [Nat.reduceSub, Nat.reducePow]; omega) (fun h => by omega)
  split
  · exact lead_key n 2 (by omega) (by omega) (fun _ => by simp only [Nat.reduceSub, Nat.reducePow]; omega) (fun h => by omega)
  split
  · exact lead_key n 3 (by omega) (by omega) (fun _ => by simp only [Nat.reduceSub, Nat.reducePow]; omega) (fun h => by omega)
  split
  · exact lead_key n 4 (by omega) (by omega) (fun _ => by simp only [Nat.reduceSub, Nat.reducePow]; omega) (fun h => by omega)
  split
  · exact lead_key n 5 (by omega) (by omega) (fun _ => by simp only [Nat.reduceSub, Nat.reducePow]; omega) (fun h => by omega)
  split
  · exact lead_key n 6 (by omega) (by omega) (fun _ => by simp only [Nat.reduceSub, Nat.reducePow]; omega) (fun h => by omega)
  split
  · exact lead_key n 7 (by omega) (by omega) (fun _ => by simp only [Nat.reduceSub, Nat.reducePow]; omega) (fun h => by omega)
  split
  · exact lead_key n 8 (by omega) (by omega) (fun _ => by simp only [Nat.reduceSub, Nat.reducePow]; omega) (fun h => by omega)
  exact lead_key n 9 (by omega) (by omega) (fun h => by omega) (fun _ => by simp only [Nat.reduceSub, Nat.reducePow]; omega)
theorem take_put (n : Nat) (h : n < 18446744073709551616) (rest : List UInt8) : takeU (uintB n ++ rest) = (0, n, rest) := by
  obtain ⟨h1, h2⟩ := lead_head n h
  have hs := size_pos n
  have hb : (UInt8.ofNat (headN (sizeN n) + n / 256 ^ (sizeN n - 1))).toNat = headN (sizeN n) + n / 256 ^ (sizeN n - 1) := by
    rw [UInt8.toNat_ofNat']; exact Nat.mod_eq_of_lt h2
  show takeU (UInt8.ofNat (headN (sizeN n) + n / 256 ^ (sizeN n - 1)) :: (low (sizeN n - 1) n ++ rest)) = _
  unfold takeU
  simp only [hb, h1]
  rw [if_neg (by rw [List.length_append, low_len]; omega)]
  have ht : (low (sizeN n - 1) n ++ rest).take (sizeN n - 1) = low (sizeN n - 1) n := by rw [List.take_append_of_le_length (by rw [low_len]; exact Nat.le_refl _), List.take_of_length_le (by rw [low_len]; exact Nat.le_refl _)]
  have hd : (low (sizeN n - 1) n ++ rest).drop (sizeN n - 1) = rest := by rw [List.drop_append_of_le_length (by rw [low_len]; exact Nat.le_refl _), List.drop_of_length_le (by rw [low_len]; exact Nat.le_refl _)]; rfl
  have hf : fold (headN (sizeN n) + n / 256 ^ (sizeN n - 1) - headN (sizeN n)) (low (sizeN n - 1) n) = n := by
    rw [fold_low, Nat.add_sub_cancel_left, Nat.mul_comm]
    exact Nat.div_add_mod n _
  rw [ht, hd, hf, if_pos rfl]
theorem size_len (n : Nat) (h : n < 18446744073709551616) : min (max ((Lib.bitLen n + 6) / 7) 1) 9 = sizeN n := by
  have up : ∀ k, k ≤ 64 → n < 2 ^ k → Lib.bitLen n ≤ k := fun k hk hn => Lib.bitLen_le n k hk hn
  have dn : ∀ k, 2 ^ k ≤ n → k + 1 ≤ Lib.bitLen n := fun k hk => by
    have h1 := Lib.bitLen_shift k n hk h
    have h2 : 1 ≤ n / 2 ^ k := (Nat.one_le_div_iff (Nat.two_pow_pos k)).2 hk
    have h3 : n / 2 ^ k < 2 ^ 64 := Nat.lt_of_le_of_lt (Nat.div_le_self _ _) h
    have h4 := Lib.bitLen_half (n / 2 ^ k) (by omega) h3
    omega
  have u7 := up 7 (by omega); have u14 := up 14 (by omega); have u21 := up 21 (by omega); have u28 := up 28 (by omega); have u35 := up 35 (by omega); have u42 := up 42 (by omega); have u49 := up 49 (by omega); have u56 := up 56 (by omega)
  have d7 := dn 7; have d14 := dn 14; have d21 := dn 21; have d28 := dn 28; have d35 := dn 35; have d42 := dn 42; have d49 := dn 49; have d56 := dn 56
  simp only [Nat.reducePow] at u7 u14 u21 u28 u35 u42 u49 u56 d7 d14 d21 d28 d35 d42 d49 d56
  unfold sizeN
  repeat' split
  all_goals omega
theorem zag_zig (z : Int) : zag (zig z) = z := by
  unfold zig zag
  split
  · rw [if_pos (by omega)]; omega
  · rw [if_neg (by omega)]; omega
end Go.Proofs.YtmdibkafjpglkaaGreatDoor.Num
