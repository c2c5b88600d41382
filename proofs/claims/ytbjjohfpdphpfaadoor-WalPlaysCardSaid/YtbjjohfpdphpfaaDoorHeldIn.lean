/- A region that draws its order, in a round of a range over a function: what holds outside holds there, too. Over any program. -/
import Derived.Test.YtbjjohfpdphpfaaDoorHeldI
import Derived.OrdersIn
import Derived.TacticsIn
import Derived.RangeFuncCalls
namespace Go.Proofs.YtbjjohfpdphpfaaDoor
open Go Go.RowKit
section
variable {P : Program} {md : Region.Mode} {ops : Array Oper} {Q : Exit → Act → World → Prop} {n l : Nat}

theorem rowsIn_round {row : String} {args : Array Value} {w : World} {R : Value → World → Prop} (h : Rows P row args w R) : RowsIn (Fence.wide.inRound l) n P row args w R := by
  intro c cs _
  obtain ⟨v, w', hr, hs⟩ := h c cs
  exact ⟨v, w', hr, stepsIn_wide.2 hs⟩

theorem uponIn_round {o : Oper} {a : Act} {K : Act → World → Prop} {r : Result Next} (h : o.upon P a K Q r) : o.uponIn (Fence.wide.inRound l) n P a K Q r := by
  have hd : (Fence.wide.inRound l).depth.isSome = true → 1 ≤ n := fun e => by cases e
  cases r with
  | ok x w =>
    cases x with
    | value v => exact h
    | skip => exact h
    | defer d => exact h
    | enter f args => exact ⟨hd, CallsIn.inRound l (callsIn_wide.2 h)⟩
    | row row args => exact ⟨hd, rowsIn_round h⟩
    | _ => exact h.elim
  | halt x w =>
    cases x with
    | panic v => exact h
    | _ => exact h.elim

def noDefer (ops : Array Oper) : Bool := ops.all fun o => match o.op with | .defer _ => false | _ => true
theorem noDefer_spec (h : noDefer ops = true) {i : Nat} {o : Oper} (hi : ops[i]? = some o) : ∀ c, o.op ≠ .defer c := by
  intro c e
  unfold noDefer at h
  obtain ⟨hlt, hx⟩ := Array.getElem?_eq_some_iff.1 hi
  have := Array.all_eq_true.1 h i hlt
  rw [hx, e] at this
  cases this

theorem wpOpIn_round (hd : noDefer ops = true) (hno : ¬ LetsOut Q) {i : Nat} {K K' : Act → World → Prop} {a : Act} {w : World} (hK : ∀ a w, K a w → K' a w) (h : wpOp P ops Q i K a w) : wpOpIn (Fence.wide.inRound l) n P ops Q i K' a w := by
  have h := wpOp_mono hK h
  unfold wpOp at h
  unfold wpOpIn
  cases hi : ops[i]? with
  | none => rw [hi] at h; exact h
  | some o =>
    simp only [hi] at h ⊢
    split
    · rename_i hw
      rw [if_pos hw] at h
      rcases h with h | h
      · refine ⟨fun _ _ => trivial, ?_⟩
        rw [show (Fence.wide.inRound l).round = some l from rfl, Oper.semAt_some l _ o (noDefer_spec hd hi)]
        exact uponIn_round h
      · exact absurd h.2 hno
    · rename_i hw
      rw [if_neg hw] at h
      exact ⟨fun _ _ => trivial, h⟩

theorem wpAnyIn_round (hd : noDefer ops = true) (hno : ¬ LetsOut Q) : ∀ (k : Nat) (L : Array Bool) (a : Act) (w : World), wpAny P md ops Q k L a w → wpAnyIn (Fence.wide.inRound l) n P md ops Q k L a w
  | 0, _, _, _, h => h
  | k + 1, _, _, _, h => ⟨h.1, fun j hj => wpOpIn_round hd hno (fun a w => wpAnyIn_round hd hno k _ a w) (h.2 j hj)⟩

/-- The region law, in a round. -/
theorem wpIn_region_heldi {id : Nat} {a : Act} {w : World} {q : List Oper} (is : List Nat) (z t : Nat) (S : World → Prop) (hmx : P.follows .mixedOrders = true) (hd : noDefer q.toArray = true) (hno : ¬ LetsOut Q) (hB : (Region.noSelect q.toArray && heldIB .any q.toArray z is (Array.replicate q.toArray.size false)) = true) (ht : q.toArray.size = t + is.length) (hS : S w.drew)
    (hQ : ∀ d v c a w, Q (.panic c) (Act.put a d v) w → Q (.panic c) a w)
    (h : heldIList P q.toArray S (fun b => anyZ P .any q.toArray Q S z t (setAll (Array.replicate q.toArray.size false) is) b w.drew) is a) : (Code.region id q.toArray true).wpIn (Fence.wide.inRound l) n P Q a w := by
  simp only [Bool.and_eq_true] at hB
  refine wpIn_region_any hmx (wpAnyIn_round hd hno _ _ _ _ (any_of_z (S := S) (z := z) _ _ _ _ ?_))
  have := heldI_run (t := t) hB.1 hQ w.drew hS is _ a hB.2 h
  rwa [← ht] at this
end
end Go.Proofs.YtbjjohfpdphpfaaDoor
