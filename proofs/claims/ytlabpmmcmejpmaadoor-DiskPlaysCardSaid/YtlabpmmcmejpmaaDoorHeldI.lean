/- A region that draws its order: operations that yield the same wherever a condition holds are taken first, in whatever order is named; the others follow. Over any program. -/
import Derived.Test.YtlabpmmcmejpmaaDoorHeld
namespace Go.Proofs.YtlabpmmcmejpmaaDoor
open Go Go.RowKit
section
variable {P : Program} {md : Region.Mode} {ops : Array Oper} {Q : Exit → Act → World → Prop} {S : World → Prop} {z t : Nat}

def setAll (L : Array Bool) : List Nat → Array Bool
  | [] => L
  | i :: is => setAll (L.setIfInBounds i true) is
/-- May those be taken in that order, and does number z wait for each? -/
def heldIB (md : Region.Mode) (ops : Array Oper) (z : Nat) : List Nat → Array Bool → Bool
  | [], _ => true
  | i :: is, L => Region.free md ops L i && ((Region.ready md ops L).contains i && (waits md ops z i || decide (ops.size ≤ z))) && heldIB md ops z is (L.setIfInBounds i true)
def heldIList (P : Program) (ops : Array Oper) (S : World → Prop) (K : Act → Prop) : List Nat → Act → Prop
  | [], a => K a
  | i :: is, a => ∃ o v, ops.toList[i]? = some o ∧ YieldsIf P ops S o v a ∧ heldIList P ops S K is (a.put o.dst v)

theorem heldI_step {K : Act → Prop} {i : Nat} {is : List Nat} {o : Oper} {a : Act} {v : Value} (hi : ops.toList[i]? = some o) (hg : o.guard = none) (hy : ∀ w, S w → (execOp a.eval o).run P w = .ok (.value v) w) (h : heldIList P ops S K is (a.put o.dst v)) : heldIList P ops S K (i :: is) a :=
  ⟨o, v, hi, .inl ⟨by simp [Region.wanted, hg], hy⟩, h⟩
theorem heldI_want {K : Act → Prop} {i : Nat} {is : List Nat} {o : Oper} {a : Act} {v : Value} (hi : ops.toList[i]? = some o) (hg : Region.wanted o (yielded ops a.tmps) = true) (hy : ∀ w, S w → (execOp a.eval o).run P w = .ok (.value v) w) (h : heldIList P ops S K is (a.put o.dst v)) : heldIList P ops S K (i :: is) a :=
  ⟨o, v, hi, .inl ⟨hg, hy⟩, h⟩
theorem heldI_skip {K : Act → Prop} {i : Nat} {is : List Nat} {o : Oper} {a : Act} (hi : ops.toList[i]? = some o) (hg : Region.wanted o (yielded ops a.tmps) = false) (h : heldIList P ops S K is (a.put o.dst undef)) : heldIList P ops S K (i :: is) a :=
  ⟨o, undef, hi, .inr ⟨hg, rfl⟩, h⟩
theorem heldI_nil {K : Act → Prop} {a : Act} (h : K a) : heldIList P ops S K [] a := h

theorem heldI_run (hns : Region.noSelect ops = true) (hQ : ∀ d v c a w, Q (.panic c) (Act.put a d v) w → Q (.panic c) a w) (w : World) (hS : S w) : ∀ (is : List Nat) (L : Array Bool) (a : Act), heldIB md ops z is L = true →
    heldIList P ops S (fun b => anyZ P md ops Q S z t (setAll L is) b w) is a → anyZ P md ops Q S z (t + is.length) L a w := by
  intro is
  induction is with
  | nil => intro L a _ h; exact h
  | cons i is ih =>
    intro L a hB h
    unfold heldIB at hB
    simp only [Bool.and_eq_true] at hB
    obtain ⟨⟨b1, b2, b3⟩, b4⟩ := hB
    obtain ⟨o, v, hi, hy, hr⟩ := h
    rw [Array.getElem?_toList] at hi
    have := ih (L.setIfInBounds i true) _ b4 hr
    exact anyZ_first hi hns b3 (fun c a w => hQ _ _ c a w) _ _ _ _ (Region.free_spec hi b1) (by simpa using b2) hy hS this

theorem wp_region_heldi {id : Nat} {a : Act} {w : World} {l : List Oper} (is : List Nat) (z t : Nat) (S : World → Prop) (hmx : P.follows .mixedOrders = true) (hB : (Region.noSelect l.toArray && heldIB .any l.toArray z is (Array.replicate l.toArray.size false)) = true) (ht : l.toArray.size = t + is.length) (hS : S w.drew)
    (hQ : ∀ d v c a w, Q (.panic c) (Act.put a d v) w → Q (.panic c) a w)
    (h : heldIList P l.toArray S (fun b => anyZ P .any l.toArray Q S z t (setAll (Array.replicate l.toArray.size false) is) b w.drew) is a) : (Code.region id l.toArray true).wp P Q a w := by
  simp only [Bool.and_eq_true] at hB
  refine wp_region_any hmx (any_of_z (S := S) (z := z) _ _ _ _ ?_)
  have := heldI_run (t := t) hB.1 hQ w.drew hS is _ a hB.2 h
  rwa [← ht] at this
end
end Go.Proofs.YtlabpmmcmejpmaaDoor
