/- Where the bodies of frames lie within bytes. No program in sight. -/
import Derived.Test.YtbjjohfpdphpfaaDoorFramePure
namespace Go.Proofs.YtbjjohfpdphpfaaDoor.Frm
open Go

/-- Those spots are the first frames' bodies; the last frame ends at p. -/
inductive IsRun (b : List UInt8) : List (Nat × Nat) → Nat → Prop
  | nil : IsRun b [] 0
  | snoc {xs : List (Nat × Nat)} {p : Nat} : IsRun b xs p → (firstE (b.drop p)).2 = 0 → IsRun b (xs ++ [(p + 4, num (b.drop p))]) (p + (num (b.drop p) + 8))

def bodyAt (b : List UInt8) (s : Nat × Nat) : List UInt8 := (b.drop s.1).take s.2

theorem IsRun.le {b : List UInt8} {xs : List (Nat × Nat)} {p : Nat} (h : IsRun b xs p) : p ≤ b.length := by
  induction h with
  | nil => omega
  | snoc _ hf ih =>
    have := (firstE_ok hf).2.2
    rw [List.length_drop] at this
    omega
theorem IsRun.splits {b : List UInt8} {xs : List (Nat × Nat)} {p : Nat} (h : IsRun b xs p) : split b = (xs.map (bodyAt b) ++ (split (b.drop p)).1, p + (split (b.drop p)).2) := by
  induction h with
  | nil => simp
  | snoc _ hf ih =>
    rw [ih, split_cons hf]
    refine Prod.ext ?_ ?_
    · simp only [List.map_append, List.map_cons, List.map_nil, List.append_assoc, List.cons_append, List.nil_append, List.drop_drop]
      congr 1
      congr 1
      unfold bodyOf bodyAt
      rw [List.drop_drop]
    · simp only [List.drop_drop]
      omega
theorem IsRun.done {b : List UInt8} {xs : List (Nat × Nat)} {p : Nat} (h : IsRun b xs p) (hn : ¬ (firstE (b.drop p)).2 = 0) : split b = (xs.map (bodyAt b), p) := by
  rw [h.splits, split_nil hn]
  simp
theorem IsRun.count {b : List UInt8} {xs : List (Nat × Nat)} {p : Nat} (h : IsRun b xs p) : xs.length ≤ p := by
  induction h with
  | nil => simp
  | snoc _ _ ih => simp; omega

end Go.Proofs.YtbjjohfpdphpfaaDoor.Frm
