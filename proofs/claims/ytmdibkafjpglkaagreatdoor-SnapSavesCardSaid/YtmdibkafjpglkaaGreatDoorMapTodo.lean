/- Maps in a walk: the laws for an operation at the head of a region's list. Over any program. What a range over a map has still to come: sums over it. -/
import Derived.Test.YtmdibkafjpglkaaGreatDoorMaps
namespace Go.Proofs.YtmdibkafjpglkaaGreatDoor
open Go.RowKit
variable {P : Program} {ops : Array Oper} {rest : List Oper} {o : Oper} {a : Act} {w : World} {Q : Exit → Act → World → Prop}

theorem wpList_lookup (hgd : o.guard = none) (T : TypeId) (x k : Operand) (ok : Bool) (ho : o.op = .lookup T x k ok) {xv kv v : Value} (hx : a.eval x = xv) (hk : a.eval k = kv)
    (hr : (Instr.lookup T xv kv ok).run P w = .ok v w) (h : wpList P ops Q rest (a.put o.dst v) w) : wpList P ops Q (o :: rest) a w :=
  wpList_plain hgd fun _ hK => by
    unfold Oper.wp execOp
    simp only [ho, hx, hk, Sem.run_bind, hr, Result.andThen_ok, Sem.run_pure, Oper.upon_value]
    exact hK _ _ h

theorem wpList_mapUpdate (hgd : o.guard = none) (T : TypeId) (x k e : Operand) (ho : o.op = .mapUpdate T x k e) {xv kv ev : Value} {w' : World} (hx : a.eval x = xv) (hk : a.eval k = kv) (he : a.eval e = ev)
    (hr : (Instr.mapUpdate T xv kv ev).run P w = .ok () w') (h : wpList P ops Q rest (a.put o.dst undef) w') : wpList P ops Q (o :: rest) a w :=
  wpList_plain hgd fun _ hK => by
    unfold Oper.wp execOp
    simp only [ho, hx, hk, he, Sem.run_bind, hr, Result.andThen_ok, Sem.run_pure, Oper.upon_skip]
    exact hK _ _ h

theorem wpList_delete (hgd : o.guard = none) (x k : Operand) (t u : TypeId) (ho : o.op = .call { callee := .builtin .delete, args := #[x, k], argTypes := #[t, u] }) {xv kv v : Value} {w' : World} (hx : a.eval x = xv) (hk : a.eval k = kv)
    (hr : (Builtin.delete_ #[t, u] o.type #[xv, kv]).run P w = .ok v w') (h : wpList P ops Q rest (a.put o.dst v) w') : wpList P ops Q (o :: rest) a w :=
  wpList_plain hgd fun _ hK => by
    unfold Oper.wp execOp
    simp only [ho, resolve, invoke, builtin, Sem.run_bind, Sem.run_pure, Result.andThen_ok, List.map_toArray, List.map_cons, List.map_nil, hx, hk, hr, Oper.upon_value]
    exact hK _ _ h

theorem wpList_lenmap (hgd : o.guard = none) (x : Operand) (t : TypeId) (ho : o.op = .call { callee := .builtin .len, args := #[x], argTypes := #[t] }) {xv v : Value} (hx : a.eval x = xv)
    (hr : (Builtin.len_ #[t] o.type #[xv]).run P w = .ok v w) (h : wpList P ops Q rest (a.put o.dst v) w) : wpList P ops Q (o :: rest) a w :=
  wpList_plain hgd fun _ hK => by
    unfold Oper.wp execOp
    simp only [ho, resolve, invoke, builtin, Sem.run_bind, Sem.run_pure, Result.andThen_ok, List.map_toArray, List.map_cons, List.map_nil, hx, hr, Oper.upon_value]
    exact hK _ _ h

theorem wpList_rangemap (hgd : o.guard = none) (T : TypeId) (x : Operand) (ho : o.op = .range T x) {xv v : Value} {w' : World} (hx : a.eval x = xv)
    (hr : (Instr.range T xv).run P w = .ok v w') (h : wpList P ops Q rest (a.put o.dst v) w') : wpList P ops Q (o :: rest) a w :=
  wpList_plain hgd fun _ hK => by
    unfold Oper.wp execOp
    simp only [ho, hx, Sem.run_bind, hr, Result.andThen_ok, Sem.run_pure, Oper.upon_value]
    exact hK _ _ h

theorem wpList_next (hgd : o.guard = none) (x : Operand) (b : Bool) (ho : o.op = .next x b) {xv v : Value} {w' : World} (hx : a.eval x = xv)
    (hr : (Instr.next xv b o.type).run P w = .ok v w') (h : wpList P ops Q rest (a.put o.dst v) w') : wpList P ops Q (o :: rest) a w :=
  wpList_plain hgd fun _ hK => by
    unfold Oper.wp execOp
    simp only [ho, hx, Sem.run_bind, hr, Result.andThen_ok, Sem.run_pure, Oper.upon_value]
    exact hK _ _ h

theorem wpList_entry (hgd : o.guard = none) (x : Operand) (ho : o.op = .entry x) {xv v : Value} {w' : World} (hx : a.eval x = xv)
    (hr : (Instr.entry xv).run P w = .ok v w') (h : wpList P ops Q rest (a.put o.dst v) w') : wpList P ops Q (o :: rest) a w :=
  wpList_plain hgd fun _ hK => by
    unfold Oper.wp execOp
    simp only [ho, hx, Sem.run_bind, hr, Result.andThen_ok, Sem.run_pure, Oper.upon_value]
    exact hK _ _ h

theorem wp_mapUpdate {K : Act → World → Prop} (T : TypeId) (x k e : Operand) (ho : o.op = .mapUpdate T x k e) {xv kv ev : Value} {w' : World} (hx : a.eval x = xv) (hk : a.eval k = kv) (he : a.eval e = ev)
    (hr : (Instr.mapUpdate T xv kv ev).run P w = .ok () w') (h : K (a.put o.dst undef) w') : o.wp P a w K Q := by
  unfold Oper.wp execOp
  simp only [ho, hx, hk, he, Sem.run_bind, hr, Result.andThen_ok, Sem.run_pure, Oper.upon_skip]
  exact h

theorem wp_lenmap {K : Act → World → Prop} (x : Operand) (t : TypeId) (ho : o.op = .call { callee := .builtin .len, args := #[x], argTypes := #[t] }) {xv v : Value} (hx : a.eval x = xv)
    (hr : (Builtin.len_ #[t] o.type #[xv]).run P w = .ok v w) (h : K (a.put o.dst v) w) : o.wp P a w K Q := by
  unfold Oper.wp execOp
  simp only [ho, resolve, invoke, builtin, Sem.run_bind, Sem.run_pure, Result.andThen_ok, List.map_toArray, List.map_cons, List.map_nil, hx, hr, Oper.upon_value]
  exact h

/-! Guards of arms: which operation stands at the head. -/
section guards
variable {d : Option Tmp} {t : TypeId} {ps : String} {af : Array Edge}
theorem at_lookup {T : TypeId} {x k : Operand} {b : Bool} (h : wpList P ops Q ({ dst := d, op := .lookup T x k b, type := t, pos := ps, after := af, guard := none } :: rest) a w) : wpList P ops Q ({ dst := d, op := .lookup T x k b, type := t, pos := ps, after := af, guard := none } :: rest) a w := h
theorem at_update {T : TypeId} {x k e : Operand} (h : wpList P ops Q ({ dst := d, op := .mapUpdate T x k e, type := t, pos := ps, after := af, guard := none } :: rest) a w) : wpList P ops Q ({ dst := d, op := .mapUpdate T x k e, type := t, pos := ps, after := af, guard := none } :: rest) a w := h
theorem at_delete {x k : Operand} {t1 t2 : TypeId} (h : wpList P ops Q ({ dst := d, op := .call { callee := .builtin .delete, args := #[x, k], argTypes := #[t1, t2] }, type := t, pos := ps, after := af, guard := none } :: rest) a w) : wpList P ops Q ({ dst := d, op := .call { callee := .builtin .delete, args := #[x, k], argTypes := #[t1, t2] }, type := t, pos := ps, after := af, guard := none } :: rest) a w := h
theorem at_len {x : Operand} {t1 : TypeId} (h : wpList P ops Q ({ dst := d, op := .call { callee := .builtin .len, args := #[x], argTypes := #[t1] }, type := t, pos := ps, after := af, guard := none } :: rest) a w) : wpList P ops Q ({ dst := d, op := .call { callee := .builtin .len, args := #[x], argTypes := #[t1] }, type := t, pos := ps, after := af, guard := none } :: rest) a w := h
theorem at_append {x y : Operand} {t1 t2 : TypeId} (h : wpList P ops Q ({ dst := d, op := .call { callee := .builtin .append, args := #[x, y], argTypes := #[t1, t2] }, type := t, pos := ps, after := af, guard := none } :: rest) a w) : wpList P ops Q ({ dst := d, op := .call { callee := .builtin .append, args := #[x, y], argTypes := #[t1, t2] }, type := t, pos := ps, after := af, guard := none } :: rest) a w := h
theorem at_range {T : TypeId} {x : Operand} (h : wpList P ops Q ({ dst := d, op := .range T x, type := t, pos := ps, after := af, guard := none } :: rest) a w) : wpList P ops Q ({ dst := d, op := .range T x, type := t, pos := ps, after := af, guard := none } :: rest) a w := h
theorem at_next {x : Operand} {b : Bool} (h : wpList P ops Q ({ dst := d, op := .next x b, type := t, pos := ps, after := af, guard := none } :: rest) a w) : wpList P ops Q ({ dst := d, op := .next x b, type := t, pos := ps, after := af, guard := none } :: rest) a w := h
theorem at_entry {x : Operand} (h : wpList P ops Q ({ dst := d, op := .entry x, type := t, pos := ps, after := af, guard := none } :: rest) a w) : wpList P ops Q ({ dst := d, op := .entry x, type := t, pos := ps, after := af, guard := none } :: rest) a w := h
theorem at_slice {T : TypeId} {x : Operand} {p q r : Option Operand} (h : wpList P ops Q ({ dst := d, op := .slice T x p q r, type := t, pos := ps, after := af, guard := none } :: rest) a w) : wpList P ops Q ({ dst := d, op := .slice T x p q r, type := t, pos := ps, after := af, guard := none } :: rest) a w := h
theorem at_convert {T U : TypeId} {x : Operand} (h : wpList P ops Q ({ dst := d, op := .convert T U x, type := t, pos := ps, after := af, guard := none } :: rest) a w) : wpList P ops Q ({ dst := d, op := .convert T U x, type := t, pos := ps, after := af, guard := none } :: rest) a w := h
theorem at_load {T : TypeId} {x : Operand} (h : wpList P ops Q ({ dst := d, op := .load T x, type := t, pos := ps, after := af, guard := none } :: rest) a w) : wpList P ops Q ({ dst := d, op := .load T x, type := t, pos := ps, after := af, guard := none } :: rest) a w := h
theorem at_store {T : TypeId} {x y : Operand} (h : wpList P ops Q ({ dst := d, op := .store T x y, type := t, pos := ps, after := af, guard := none } :: rest) a w) : wpList P ops Q ({ dst := d, op := .store T x y, type := t, pos := ps, after := af, guard := none } :: rest) a w := h
theorem at_alloc {T : TypeId} (h : wpList P ops Q ({ dst := d, op := .alloc T, type := t, pos := ps, after := af, guard := none } :: rest) a w) : wpList P ops Q ({ dst := d, op := .alloc T, type := t, pos := ps, after := af, guard := none } :: rest) a w := h
theorem at_box {T : TypeId} {x : Operand} (h : wpList P ops Q ({ dst := d, op := .box T x, type := t, pos := ps, after := af, guard := none } :: rest) a w) : wpList P ops Q ({ dst := d, op := .box T x, type := t, pos := ps, after := af, guard := none } :: rest) a w := h
end guards

end Go.Proofs.YtmdibkafjpglkaaGreatDoor

namespace Go.Proofs.YtmdibkafjpglkaaGreatDoor
section
variable {κ : Type} [DecidableEq κ]

def sumOf (f : κ → Nat) : List (κ × Value) → Nat
  | [] => 0
  | p :: m => f p.1 + sumOf f m

omit [DecidableEq κ] in
theorem todoOf_sub (m : List (κ × Value)) : ∀ (es : List MapEntry) (seen : Array Nat), (todoOf m es seen).Sublist m := by
  induction m with
  | nil => intro es seen; cases es <;> exact List.Sublist.slnil
  | cons p m ih =>
    intro es seen
    cases es with
    | nil => exact List.nil_sublist _
    | cons e es =>
      rw [todoOf]
      split
      · exact (ih es seen).cons _
      · exact (ih es seen).cons_cons _

omit [DecidableEq κ] in
theorem todoOf_start (m : List (κ × Value)) : ∀ (es : List MapEntry), es.length = m.length → todoOf m es #[] = m := by
  induction m with
  | nil => intro es h; cases es <;> rfl
  | cons p m ih =>
    intro es h
    cases es with
    | nil => simp at h
    | cons e es =>
      rw [todoOf]
      simp only [List.length_cons, Nat.add_right_cancel_iff] at h
      have : (#[] : Array Nat).contains e.born = false := by simp
      rw [this, if_neg (by simp), ih es h]

omit [DecidableEq κ] in
theorem sumOf_sub (f : κ → Nat) {l m : List (κ × Value)} (h : l.Sublist m) : sumOf f l ≤ sumOf f m := by
  induction h with
  | slnil => exact Nat.le_refl _
  | cons a _ ih => exact Nat.le_trans ih (Nat.le_add_left _ _)
  | cons_cons a _ ih => exact Nat.add_le_add_left ih _

theorem sumOf_filter (f : κ → Nat) (l : List (κ × Value)) (hn : (l.map (·.1)).Nodup) (p : κ × Value) (hp : p ∈ l) : sumOf f l = sumOf f (l.filter (fun q => decide (q.1 ≠ p.1))) + f p.1 ∧ (l.filter (fun q => decide (q.1 ≠ p.1))).length + 1 = l.length := by
  induction l with
  | nil => cases hp
  | cons q l ih =>
    simp only [List.map_cons, List.nodup_cons] at hn
    by_cases e : q.1 = p.1
    · have hall : l.filter (fun q => decide (q.1 ≠ p.1)) = l := by
        rw [List.filter_eq_self]
        intro x hx
        have : x.1 ≠ p.1 := fun e2 => hn.1 (by rw [e, ← e2]; exact List.mem_map_of_mem (f := (·.1)) hx)
        simpa using this
      rw [List.filter_cons_of_neg (by simp [e]), hall, sumOf, e]
      exact ⟨Nat.add_comm _ _, rfl⟩
    · rw [List.filter_cons_of_pos (by simpa using e), sumOf, sumOf]
      obtain ⟨h1, h2⟩ := ih hn.2 (by
        rcases List.mem_cons.1 hp with rfl | h
        · exact absurd rfl e
        · exact h)
      exact ⟨by omega, by simp only [List.length_cons]; omega⟩

omit [DecidableEq κ] in
theorem nodup_sub {l m : List (κ × Value)} (h : l.Sublist m) (hn : (m.map (·.1)).Nodup) : (l.map (·.1)).Nodup := (h.map _).nodup hn
end

/-- How many entries an iterator has still to come: for a measure. -/
def itLeft {κ : Type} (m : List (κ × Value)) (es : Array MapEntry) (it : Nat) (w : World) : Nat :=
  match w.heap[it]? with
  | some (.mapIter _ _ seen _) => (todoOf m es.toList seen).length
  | _ => 0

theorem itLeft_is {κ : Type} {m : List (κ × Value)} {enc : κ → Value} {w : World} {it r : Nat} {es : Array MapEntry} {clock : Nat} {seen : Array Nat} (h : IterIs w it r enc m es clock seen) : itLeft m es it w = (todoOf m es.toList seen).length := by
  unfold itLeft; rw [h.iter]

end Go.Proofs.YtmdibkafjpglkaaGreatDoor
