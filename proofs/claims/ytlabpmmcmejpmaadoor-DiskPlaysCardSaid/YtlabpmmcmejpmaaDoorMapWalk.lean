/- Maps in a walk: the laws for an operation at the head of a region's list. Over any program. -/
import Derived.Test.YtlabpmmcmejpmaaDoorMaps
namespace Go.Proofs.YtlabpmmcmejpmaaDoor
open Go.RowKit
variable {P : Program} {ops : Array Oper} {rest : List Oper} {o : Oper} {a : Act} {w : World} {Q : Exit → Act → World → Prop}

theorem wpList_lookup (hgd : o.guard = none) (T : TypeId) (x k : Operand) (ok : Bool) (ho : o.op = .lookup T x k ok) {xv kv v : Value} (hx : a.eval x = xv) (hk : a.eval k = kv)
    (hr : (Instr.lookup T xv kv ok).run P w = .ok v w) (h : wpList P ops Q rest (a.put o.dst v) w) : wpList P ops Q (o :: rest) a w :=
  wpList_plain hgd fun _ hK => by
    unfold Oper.wp execOp
    simp only [ho, hx, hk, Sem.run_bind, hr, Result.andThen_ok, Sem.run_pure, Oper.upon_value]
    exact hK _ _ h

theorem wpList_mapUpdate (hgd : o.guard = none) (T : TypeId) (x k e : Operand) (ho : o.op = .mapUpdate T x k e) {xv kv ev : Value} {w' : World} (hx : a.eval x = xv) (hk : a.eval k = kv) (he : a.eval e = ev)
    (hr : (Instr.mapUpdate T xv kv ev).run P w = .ok () w') (h : wpList P ops Q rest (a.put o.dst undef) w') : wpList P ops Q (o :: rest) a w :=
  wpList_plain hgd fun _ hK => by
    unfold Oper.wp execOp
    simp only [ho, hx, hk, he, Sem.run_bind, hr, Result.andThen_ok, Sem.run_pure, Oper.upon_skip]
    exact hK _ _ h

theorem wpList_delete (hgd : o.guard = none) (x k : Operand) (t u : TypeId) (ho : o.op = .call { callee := .builtin .delete, args := #[x, k], argTypes := #[t, u] }) {xv kv v : Value} {w' : World} (hx : a.eval x = xv) (hk : a.eval k = kv)
    (hr : (Builtin.delete_ #[t, u] o.type #[xv, kv]).run P w = .ok v w') (h : wpList P ops Q rest (a.put o.dst v) w') : wpList P ops Q (o :: rest) a w :=
  wpList_plain hgd fun _ hK => by
    unfold Oper.wp execOp
    simp only [ho, resolve, invoke, builtin, Sem.run_bind, Sem.run_pure, Result.andThen_ok, List.map_toArray, List.map_cons, List.map_nil, hx, hk, hr, Oper.upon_value]
    exact hK _ _ h

theorem wpList_lenmap (hgd : o.guard = none) (x : Operand) (t : TypeId) (ho : o.op = .call { callee := .builtin .len, args := #[x], argTypes := #[t] }) {xv v : Value} (hx : a.eval x = xv)
    (hr : (Builtin.len_ #[t] o.type #[xv]).run P w = .ok v w) (h : wpList P ops Q rest (a.put o.dst v) w) : wpList P ops Q (o :: rest) a w :=
  wpList_plain hgd fun _ hK => by
    unfold Oper.wp execOp
    simp only [ho, resolve, invoke, builtin, Sem.run_bind, Sem.run_pure, Result.andThen_ok, List.map_toArray, List.map_cons, List.map_nil, hx, hr, Oper.upon_value]
    exact hK _ _ h

theorem wpList_rangemap (hgd : o.guard = none) (T : TypeId) (x : Operand) (ho : o.op = .range T x) {xv v : Value} {w' : World} (hx : a.eval x = xv)
    (hr : (Instr.range T xv).run P w = .ok v w') (h : wpList P ops Q rest (a.put o.dst v) w') : wpList P ops Q (o :: rest) a w :=
  wpList_plain hgd fun _ hK => by
    unfold Oper.wp execOp
    simp only [ho, hx, Sem.run_bind, hr, Result.andThen_ok, Sem.run_pure, Oper.upon_value]
    exact hK _ _ h

theorem wpList_next (hgd : o.guard = none) (x : Operand) (b : Bool) (ho : o.op = .next x b) {xv v : Value} {w' : World} (hx : a.eval x = xv)
    (hr : (Instr.next xv b o.type).run P w = .ok v w') (h : wpList P ops Q rest (a.put o.dst v) w') : wpList P ops Q (o :: rest) a w :=
  wpList_plain hgd fun _ hK => by
    unfold Oper.wp execOp
    simp only [ho, hx, Sem.run_bind, hr, Result.andThen_ok, Sem.run_pure, Oper.upon_value]
    exact hK _ _ h

theorem wpList_entry (hgd : o.guard = none) (x : Operand) (ho : o.op = .entry x) {xv v : Value} {w' : World} (hx : a.eval x = xv)
    (hr : (Instr.entry xv).run P w = .ok v w') (h : wpList P ops Q rest (a.put o.dst v) w') : wpList P ops Q (o :: rest) a w :=
  wpList_plain hgd fun _ hK => by
    unfold Oper.wp execOp
    simp only [ho, hx, Sem.run_bind, hr, Result.andThen_ok, Sem.run_pure, Oper.upon_value]
    exact hK _ _ h

theorem wp_mapUpdate {K : Act → World → Prop} (T : TypeId) (x k e : Operand) (ho : o.op = .mapUpdate T x k e) {xv kv ev : Value} {w' : World} (hx : a.eval x = xv) (hk : a.eval k = kv) (he : a.eval e = ev)
    (hr : (Instr.mapUpdate T xv kv ev).run P w = .ok () w') (h : K (a.put o.dst undef) w') : o.wp P a w K Q := by
  unfold Oper.wp execOp
  simp only [ho, hx, hk, he, Sem.run_bind, hr, Result.andThen_ok, Sem.run_pure, Oper.upon_skip]
  exact h

theorem wp_lenmap {K : Act → World → Prop} (x : Operand) (t : TypeId) (ho : o.op = .call { callee := .builtin .len, args := #[x], argTypes := #[t] }) {xv v : Value} (hx : a.eval x = xv)
    (hr : (Builtin.len_ #[t] o.type #[xv]).run P w = .ok v w) (h : K (a.put o.dst v) w) : o.wp P a w K Q := by
  unfold Oper.wp execOp
  simp only [ho, resolve, invoke, builtin, Sem.run_bind, Sem.run_pure, Result.andThen_ok, List.map_toArray, List.map_cons, List.map_nil, hx, hr, Oper.upon_value]
  exact h

/-! Guards of arms: which operation stands at the head. -/
section guards
variable {d : Option Tmp} {t : TypeId} {ps : String} {af : Array Edge}
theorem at_lookup {T : TypeId} {x k : Operand} {b : Bool} (h : wpList P ops Q ({ dst := d, op := .lookup T x k b, type := t, pos := ps, after := af, guard := none } :: rest) a w) : wpList P ops Q ({ dst := d, op := .lookup T x k b, type := t, pos := ps, after := af, guard := none } :: rest) a w := h
theorem at_update {T : TypeId} {x k e : Operand} (h : wpList P ops Q ({ dst := d, op := .mapUpdate T x k e, type := t, pos := ps, after := af, guard := none } :: rest) a w) : wpList P ops Q ({ dst := d, op := .mapUpdate T x k e, type := t, pos := ps, after := af, guard := none } :: rest) a w := h
theorem at_delete {x k : Operand} {t1 t2 : TypeId} (h : wpList P ops Q ({ dst := d, op := .call { callee := .builtin .delete, args := #[x, k], argTypes := #[t1, t2] }, type := t, pos := ps, after := af, guard := none } :: rest) a w) : wpList P ops Q ({ dst := d, op := .call { callee := .builtin .delete, args := #[x, k], argTypes := #[t1, t2] }, type := t, pos := ps, after := af, guard := none } :: rest) a w := h
theorem at_len {x : Operand} {t1 : TypeId} (h : wpList P ops Q ({ dst := d, op := .call { callee := .builtin .len, args := #[x], argTypes := #[t1] }, type := t, pos := ps, after := af, guard := none } :: rest) a w) : wpList P ops Q ({ dst := d, op := .call { callee := .builtin .len, args := #[x], argTypes := #[t1] }, type := t, pos := ps, after := af, guard := none } :: rest) a w := h
theorem at_append {x y : Operand} {t1 t2 : TypeId} (h : wpList P ops Q ({ dst := d, op := .call { callee := .builtin .append, args := #[x, y], argTypes := #[t1, t2] }, type := t, pos := ps, after := af, guard := none } :: rest) a w) : wpList P ops Q ({ dst := d, op := .call { callee := .builtin .append, args := #[x, y], argTypes := #[t1, t2] }, type := t, pos := ps, after := af, guard := none } :: rest) a w := h
theorem at_range {T : TypeId} {x : Operand} (h : wpList P ops Q ({ dst := d, op := .range T x, type := t, pos := ps, after := af, guard := none } :: rest) a w) : wpList P ops Q ({ dst := d, op := .range T x, type := t, pos := ps, after := af, guard := none } :: rest) a w := h
theorem at_next {x : Operand} {b : Bool} (h : wpList P ops Q ({ dst := d, op := .next x b, type := t, pos := ps, after := af, guard := none } :: rest) a w) : wpList P ops Q ({ dst := d, op := .next x b, type := t, pos := ps, after := af, guard := none } :: rest) a w := h
theorem at_entry {x : Operand} (h : wpList P ops Q ({ dst := d, op := .entry x, type := t, pos := ps, after := af, guard := none } :: rest) a w) : wpList P ops Q ({ dst := d, op := .entry x, type := t, pos := ps, after := af, guard := none } :: rest) a w := h
theorem at_slice {T : TypeId} {x : Operand} {p q r : Option Operand} (h : wpList P ops Q ({ dst := d, op := .slice T x p q r, type := t, pos := ps, after := af, guard := none } :: rest) a w) : wpList P ops Q ({ dst := d, op := .slice T x p q r, type := t, pos := ps, after := af, guard := none } :: rest) a w := h
theorem at_convert {T U : TypeId} {x : Operand} (h : wpList P ops Q ({ dst := d, op := .convert T U x, type := t, pos := ps, after := af, guard := none } :: rest) a w) : wpList P ops Q ({ dst := d, op := .convert T U x, type := t, pos := ps, after := af, guard := none } :: rest) a w := h
theorem at_load {T : TypeId} {x : Operand} (h : wpList P ops Q ({ dst := d, op := .load T x, type := t, pos := ps, after := af, guard := none } :: rest) a w) : wpList P ops Q ({ dst := d, op := .load T x, type := t, pos := ps, after := af, guard := none } :: rest) a w := h
theorem at_store {T : TypeId} {x y : Operand} (h : wpList P ops Q ({ dst := d, op := .store T x y, type := t, pos := ps, after := af, guard := none } :: rest) a w) : wpList P ops Q ({ dst := d, op := .store T x y, type := t, pos := ps, after := af, guard := none } :: rest) a w := h
theorem at_alloc {T : TypeId} (h : wpList P ops Q ({ dst := d, op := .alloc T, type := t, pos := ps, after := af, guard := none } :: rest) a w) : wpList P ops Q ({ dst := d, op := .alloc T, type := t, pos := ps, after := af, guard := none } :: rest) a w := h
theorem at_box {T : TypeId} {x : Operand} (h : wpList P ops Q ({ dst := d, op := .box T x, type := t, pos := ps, after := af, guard := none } :: rest) a w) : wpList P ops Q ({ dst := d, op := .box T x, type := t, pos := ps, after := af, guard := none } :: rest) a w := h
end guards

end Go.Proofs.YtlabpmmcmejpmaaDoor
