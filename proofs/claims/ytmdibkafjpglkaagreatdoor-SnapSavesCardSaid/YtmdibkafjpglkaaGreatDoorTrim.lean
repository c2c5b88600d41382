/- The keys of layer 6 as lists of bytes: what may be a key. No program in sight. What the walks over names and keys lean on: the library's trimming at this program, and the walk's tools. -/
import Derived.Lib.SlTrimSet
import GoSem.Op.String
import Derived.Test.YtmdibkafjpglkaaGreatDoorProg
import Derived.Test.YtmdibkafjpglkaaGreatDoorBase
import Derived.WalkKit
import Derived.WalkSpells
import Derived.WalkLawsBesides
import Derived.Below
import Derived.Lib.Hide
import Derived.Test.YtmdibkafjpglkaaGreatDoorLaysTrim
namespace Go.Proofs.YtmdibkafjpglkaaGreatDoor.Keys

/-- Is a byte a letter 'a' to 'z'? -/
def az (b : UInt8) : Bool := decide (97 ≤ b.toNat) && decide (b.toNat ≤ 122)

/-- Is a text a key? -/
def isKey (l : List UInt8) : Bool := decide (0 < l.length) && (decide (l.length ≤ 200) && (l.getD (l.length - 1) 0 != 97 && l.all az))

def letters : List UInt8 := [97, 98, 99, 100, 101, 102, 103, 104, 105, 106, 107, 108, 109, 110, 111, 112, 113, 114, 115, 116, 117, 118, 119, 120, 121, 122]

theorem letters_az (b : UInt8) : letters.contains b = az b := by
  have h : ∀ n : Fin 256, letters.contains (UInt8.ofNat n.val) = az (UInt8.ofNat n.val) := by decide +kernel
  have := h ⟨b.toNat, b.toNat_lt⟩
  simpa using this

theorem dropWhile_nil {p : UInt8 → Bool} (l : List UInt8) : (l.dropWhile p = []) ↔ l.all p = true := by
  induction l with
  | nil => simp
  | cons x l ih => by_cases h : p x = true <;> simp [List.dropWhile, h] <;> simpa using ih

theorem trim_nil (l : List UInt8) : (Lib.trimS l letters).isEmpty = l.all az := by
  unfold Lib.trimS Lib.trimLeftS Lib.trimRightS
  have e : (fun b => letters.contains b) = az := funext letters_az
  rw [Bool.eq_iff_iff, List.isEmpty_iff]
  simp only [e]
  rw [dropWhile_nil]
  constructor
  · intro h
    rw [List.all_reverse] at h
    have h2 : (l.reverse.dropWhile az) = [] := by
      cases hc : l.reverse.dropWhile az with
      | nil => rfl
      | cons x t =>
        have := List.head?_dropWhile_not az l.reverse
        rw [hc] at this h
        simp at this h
        rw [h.1] at this
        cases this
    rw [dropWhile_nil, List.all_reverse] at h2
    exact h2
  · intro h
    have h2 : l.reverse.dropWhile az = [] := by rw [dropWhile_nil, List.all_reverse]; exact h
    rw [h2]; rfl

/-- A text's digit at a place: 0 behind its end. -/
def digit (l : List UInt8) (i : Nat) : Nat := (l.getD i 97).toNat - 97

/-- Can two texts be bounds? -/
def rightL (a b : List UInt8) : Bool := (a.isEmpty || isKey a) && ((b.isEmpty || isKey b) && (a.isEmpty || (b.isEmpty || Op.bytesLess a b)))
def right (a b : ByteArray) : Bool := rightL a.toList b.toList

/-- The letter of a digit. -/
def letter (d : Nat) : UInt8 := UInt8.ofNat (97 + d)

/-- The upper digit at a place: 26 where there is no upper bound any more. -/
def upper (b : List UInt8) (i : Nat) (op : Bool) : Nat := if op then 26 else digit b i

/-- The digits of what is between two texts, from a place on. -/
def go (a b : List UInt8) : Nat → Nat → Bool → List UInt8 → Option (List UInt8)
  | 0, _, _, _ => none
  | f + 1, i, op, out => if digit a i + 1 < upper b i op then some (out ++ [letter ((digit a i + upper b i op) / 2)])
    else go a b f (i + 1) (op || upper b i op == digit a i + 1) (out ++ [letter (digit a i)])

/-- What is between two texts: a key and 0, or nothing and 43. -/
def between (a b : List UInt8) : List UInt8 × Int :=
  if rightL a b then (match go a b 200 0 b.isEmpty [] with | some k => (k, 0) | none => ([], 43)) else ([], 43)

theorem digit_le (l : List UInt8) (i : Nat) : digit l i ≤ 158 := by
  unfold digit; have := (l.getD i 97).toNat_lt; omega
theorem upper_le (l : List UInt8) (i : Nat) (op : Bool) : upper l i op ≤ 158 := by
  unfold upper; split
  · omega
  · exact digit_le _ _
theorem rightL_az {a b : List UInt8} (h : rightL a b = true) : a.all az = true ∧ b.all az = true ∧ a.length ≤ 200 ∧ b.length ≤ 200 := by
  have key : ∀ l : List UInt8, (l.isEmpty || isKey l) = true → l.all az = true ∧ l.length ≤ 200 := by
    intro l hl
    cases l with
    | nil => simp
    | cons x t => simp only [List.isEmpty_cons, Bool.false_or, isKey, Bool.and_eq_true, decide_eq_true_eq] at hl; exact ⟨hl.2.2.2, hl.2.1⟩
  unfold rightL at h
  simp only [Bool.and_eq_true] at h
  exact ⟨(key a h.1).1, (key b h.2.1).1, (key a h.1).2, (key b h.2.1).2⟩
theorem go_stop {a b : List UInt8} {f i : Nat} {op : Bool} {out : List UInt8} (h : digit a i + 1 < upper b i op) : go a b (f + 1) i op out = some (out ++ [letter ((digit a i + upper b i op) / 2)]) := by
  rw [go, if_pos h]
theorem go_step {a b : List UInt8} {f i : Nat} {op : Bool} {out : List UInt8} (h : ¬ digit a i + 1 < upper b i op) : go a b (f + 1) i op out = go a b f (i + 1) (op || upper b i op == digit a i + 1) (out ++ [letter (digit a i)]) := by
  rw [go, if_neg h]

end Go.Proofs.YtmdibkafjpglkaaGreatDoor.Keys

