/- What a range over a map has still to come: sums over it. -/
import Derived.Test.YtlabpmmcmejpmaaDoorMaps
namespace Go.Proofs.YtlabpmmcmejpmaaDoor
section
variable {κ : Type} [DecidableEq κ]

def sumOf (f : κ → Nat) : List (κ × Value) → Nat
  | [] => 0
  | p :: m => f p.1 + sumOf f m

omit [DecidableEq κ] in
theorem todoOf_sub (m : List (κ × Value)) : ∀ (es : List MapEntry) (seen : Array Nat), (todoOf m es seen).Sublist m := by
  induction m with
  | nil => intro es seen; cases es <;> exact List.Sublist.slnil
  | cons p m ih =>
    intro es seen
    cases es with
    | nil => exact List.nil_sublist _
    | cons e es =>
      rw [todoOf]
      split
      · exact (ih es seen).cons _
      · exact (ih es seen).cons_cons _

omit [DecidableEq κ] in
theorem todoOf_start (m : List (κ × Value)) : ∀ (es : List MapEntry), es.length = m.length → todoOf m es #[] = m := by
  induction m with
  | nil => intro es h; cases es <;> rfl
  | cons p m ih =>
    intro es h
    cases es with
    | nil => simp at h
    | cons e es =>
      rw [todoOf]
      simp only [List.length_cons, Nat.add_right_cancel_iff] at h
      have : (#[] : Array Nat).contains e.born = false := by simp
      rw [this, if_neg (by simp), ih es h]

omit [DecidableEq κ] in
theorem sumOf_sub (f : κ → Nat) {l m : List (κ × Value)} (h : l.Sublist m) : sumOf f l ≤ sumOf f m := by
  induction h with
  | slnil => exact Nat.le_refl _
  | cons a _ ih => exact Nat.le_trans ih (Nat.le_add_left _ _)
  | cons_cons a _ ih => exact Nat.add_le_add_left ih _

theorem sumOf_filter (f : κ → Nat) (l : List (κ × Value)) (hn : (l.map (·.1)).Nodup) (p : κ × Value) (hp : p ∈ l) : sumOf f l = sumOf f (l.filter (fun q => decide (q.1 ≠ p.1))) + f p.1 ∧ (l.filter (fun q => decide (q.1 ≠ p.1))).length + 1 = l.length := by
  induction l with
  | nil => cases hp
  | cons q l ih =>
    simp only [List.map_cons, List.nodup_cons] at hn
    by_cases e : q.1 = p.1
    · have hall : l.filter (fun q => decide (q.1 ≠ p.1)) = l := by
        rw [List.filter_eq_self]
        intro x hx
        have : x.1 ≠ p.1 := fun e2 => hn.1 (by rw [e, ← e2]; exact List.mem_map_of_mem (f := (·.1)) hx)
        simpa using this
      rw [List.filter_cons_of_neg (by simp [e]), hall, sumOf, e]
      exact ⟨Nat.add_comm _ _, rfl⟩
    · rw [List.filter_cons_of_pos (by simpa using e), sumOf, sumOf]
      obtain ⟨h1, h2⟩ := ih hn.2 (by
        rcases List.mem_cons.1 hp with rfl | h
        · exact absurd rfl e
        · exact h)
      exact ⟨by omega, by simp only [List.length_cons]; omega⟩

omit [DecidableEq κ] in
theorem nodup_sub {l m : List (κ × Value)} (h : l.Sublist m) (hn : (m.map (·.1)).Nodup) : (l.map (·.1)).Nodup := (h.map _).nodup hn
end

/-- How many entries an iterator has still to come: for a measure. -/
def itLeft {κ : Type} (m : List (κ × Value)) (es : Array MapEntry) (it : Nat) (w : World) : Nat :=
  match w.heap[it]? with
  | some (.mapIter _ _ seen _) => (todoOf m es.toList seen).length
  | _ => 0

theorem itLeft_is {κ : Type} {m : List (κ × Value)} {enc : κ → Value} {w : World} {it r : Nat} {es : Array MapEntry} {clock : Nat} {seen : Array Nat} (h : IterIs w it r enc m es clock seen) : itLeft m es it w = (todoOf m es.toList seen).length := by
  unfold itLeft; rw [h.iter]

end Go.Proofs.YtlabpmmcmejpmaaDoor
