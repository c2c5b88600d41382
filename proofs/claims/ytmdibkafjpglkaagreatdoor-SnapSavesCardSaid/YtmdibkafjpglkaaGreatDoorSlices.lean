/- Laws for slices that a call owns: appends of one element, conversions. -/
import Derived.Test.YtmdibkafjpglkaaGreatDoorBase
import Derived.Laws.IdiomStrings
import Derived.Laws.BytesArg
import Derived.OwnWalk
import Derived.Laws.AppendOwn
namespace Go.Proofs.YtmdibkafjpglkaaGreatDoor
open Go.RowKit
variable {P : Program} {ops : Array Oper} {rest : List Oper} {o : Oper} {a : Act} {w : World} {Q : Exit → Act → World → Prop}

theorem addr_add0 (g j : Nat) : (⟨g, 0, none⟩ : Addr).add j = ⟨g, j, none⟩ := by
  unfold Addr.add; split <;> simp_all

/-- What an owned slice reads as, cell by cell (one cell an element). -/
theorem own_cell {base n : Nat} {e : TypeId} {v : Value} {xs : List Value} (hown : w.ownsRow base e 1 v n xs) :
    (v = .slice none 0 0 ∧ n = 0 ∧ xs = []) ∨ ∃ g cap, v = .slice (some ⟨g, 0, none⟩) n cap ∧ base ≤ g ∧ n ≤ cap ∧ cap ≤ maxLen ∧ g < w.heap.size ∧ xs.length = n ∧ ∀ j (h : j < xs.length), w.cell? ⟨g, j, none⟩ = some xs[j] := by
  obtain ⟨h1, h2⟩ := hown
  rcases h2 with ⟨rfl, rfl⟩ | ⟨g, cap, cur, rfl, hg, hh, hn, hc, hz, ht⟩
  · exact .inl ⟨rfl, rfl, List.eq_nil_of_length_eq_zero (by simpa using h1)⟩
  · refine .inr ⟨g, cap, rfl, hg, hn, hc, ?_, by simpa using h1, fun j hj => ?_⟩
    · by_cases hlt : g < w.heap.size
      · exact hlt
      · rw [Array.getElem?_eq_none (by omega)] at hh; cases hh
    · rw [cell_of_row _ _ _ _ _ _ hh]
      subst ht
      simp only [List.length_take] at hj
      rw [List.getElem_take]
      rw [Array.getElem?_eq_getElem (by simp at hj; omega)]
      rfl

theorem own_slice {base n size : Nat} {e : TypeId} {v : Value} {xs : List Value} (hown : w.ownsRow base e size v n xs) : ∃ ao cap, v = .slice ao n cap := by
  rcases hown.2 with ⟨rfl, rfl⟩ | ⟨g, cap, cur, rfl, -⟩
  · exact ⟨_, _, rfl⟩
  · exact ⟨_, _, rfl⟩

theorem owns_below {base n size : Nat} {e : TypeId} {v : Value} {xs : List Value} {w' : World} (h : w.ownsRow base e size v n xs) (hb : Below w.heap.size w w') : w'.ownsRow base e size v n xs := by
  obtain ⟨h1, h2⟩ := h
  refine ⟨h1, ?_⟩
  rcases h2 with h2 | ⟨g, cap, cur, hv, hg, hh, r⟩
  · exact .inl h2
  · refine .inr ⟨g, cap, cur, hv, hg, ?_, r⟩
    rw [hb.block g ?_]
    · exact hh
    · by_cases hlt : g < w.heap.size
      · exact hlt
      · rw [Array.getElem?_eq_none (by omega)] at hh; cases hh

theorem run_string_own (src dst e : TypeId) (hs : P.underlying src = some (.slice e)) (he : P.underlying e = some (.int .u8)) (hd : P.underlying dst = some .string)
    {base : Nat} {v : Value} {n : Nat} {l : List UInt8} (hown : w.ownsRow base e 1 v n (l.map byteV)) :
    (convert src dst v).run P w = .ok (.string ⟨l.toArray⟩) w := by
  rcases own_cell hown with ⟨rfl, rfl, h⟩ | ⟨g, cap, rfl, -, -, -, -, hl, hc⟩
  · have : l = [] := by simpa using h
    subst this
    rw [run_convert_bytes_nil w src e hs he 0 0 dst hd]; rfl
  · have hl' : l.length = n := by simpa using hl
    subst hl'
    refine run_convert_bytes_back w src dst e _ cap l hs he hd (fun j hj => ?_)
    rw [addr_add0, hc j (by simpa using hj)]
    simp [byteV]

/-- 'string(b)' of a slice of bytes that the call owns. -/
theorem wpList_string_own (hgd : o.guard = none) (src dst e : TypeId) (x : Operand) (ho : o.op = .convert src dst x)
    (hs : P.underlying src = some (.slice e)) (he : P.underlying e = some (.int .u8)) (hd : P.underlying dst = some .string)
    {base : Nat} {v : Value} {n : Nat} {l : List UInt8} (hx : a.eval x = v) (hown : w.ownsRow base e 1 v n (l.map byteV))
    (h : wpList P ops Q rest (a.put o.dst (.string ⟨l.toArray⟩)) w) : wpList P ops Q (o :: rest) a w :=
  wpList_plain hgd fun _ hK => by
    unfold Oper.wp execOp
    simp only [ho, hx, Sem.run_bind, run_string_own src dst e hs he hd hown, Result.andThen_ok, Sem.run_pure, Oper.upon_value]
    exact hK _ _ h

/-- 'append(s, x)' onto a slice that the call owns, behind the making of the block that holds x. -/
theorem wpList_append_one (hgd : o.guard = none) (s x : Operand) (t e : TypeId)
    (ho : o.op = .call { callee := .builtin .append, args := #[s, x], argTypes := #[t, t] })
    (z : Value) (size bytes : Nat) (ht : P.underlying t = some (.slice e)) (hinfo : (P.info? e).map (fun i => (i.zero, i.size, i.bytes)) = some (some z, size, bytes))
    (hzs : z.cells.size = size) (hsz : 0 < size) {base n : Nat} {v : Value} {xs : List Value} {cs : Array Value} (hs : a.eval s = v) (hown : w.ownsRow base e size v n xs)
    (hx : a.eval x = .slice (some ⟨w.heap.size, 0, none⟩) 1 1) (hcs : cs.size = size) (h1 : ∀ u ∈ cs.toList, u.oneCell' = true)
    (h63 : n + 1 ≤ maxLen) (hbytes : (n + 1) * bytes ≤ 140737488355328) (hbase : base ≤ w.heap.size)
    (h : ∀ v' w', w'.ownsRow base e size v' (n + 1) (xs ++ cs.toList) → Below base w w' → (w.alloc (.cells cs e)).grownBy w' v.ownBlock → wpList P ops Q rest (a.put o.dst v') w') :
    wpList P ops Q (o :: rest) a (w.alloc (.cells cs e)) := by
  obtain ⟨i, hi, hz, hsz', hby⟩ := info_parts hinfo
  refine wpList_append_own (w.alloc (.cells cs e)) hgd s x t ho base e i z size bytes ht hi hz hsz' hby hzs hsz v n xs hs (hown.alloc _) ⟨w.heap.size, 0, none⟩ 1 1 cs.toList hx (by simpa using hcs) ?_ h1 h63 hbytes (by simp; omega) ?_
  · intro j u hu
    rw [addr_add0, cell_of_row _ _ _ _ _ _ (heap_alloc_new _ _)]
    simpa using hu
  · intro v' w' hown' hg _
    refine h v' w' hown' ?_ hg
    refine ((Below.refl _ _).alloc hbase _).grown hg (by simp; omega) ?_
    intro k hk
    rcases hown.2 with ⟨rfl, -⟩ | ⟨g, cap, cur, rfl, hg', -⟩
    · cases hk
    · simp only [Value.ownBlock, Option.some.injEq] at hk; omega

/-- 'string([]byte{b})'. -/
theorem wpList_string_one (hgd : o.guard = none) (src dst e : TypeId) (x : Operand) (ho : o.op = .convert src dst x)
    (hs : P.underlying src = some (.slice e)) (he : P.underlying e = some (.int .u8)) (hd : P.underlying dst = some .string)
    {d : Int} (b : UInt8) (hb : d = (b.toNat : Int)) (hx : a.eval x = .slice (some ⟨w.heap.size, 0, none⟩) 1 1)
    (h : wpList P ops Q rest (a.put o.dst (.string ⟨#[b]⟩)) (w.alloc (.cells #[.int .u8 d] e))) : wpList P ops Q (o :: rest) a (w.alloc (.cells #[.int .u8 d] e)) :=
  wpList_plain hgd fun _ hK => by
    unfold Oper.wp execOp
    have hr := run_convert_bytes_back (P := P) (w.alloc (.cells #[.int .u8 d] e)) src dst e ⟨w.heap.size, 0, none⟩ 1 [b] hs he hd (fun j hj => by
      have : j = 0 := by simpa using hj
      subst this
      rw [addr_add0, cell_of_row _ _ _ _ _ _ (heap_alloc_new _ _), hb]; rfl)
    simp only [List.length_cons, List.length_nil, Nat.zero_add] at hr
    simp only [ho, hx, Sem.run_bind, hr, Result.andThen_ok, Sem.run_pure, Oper.upon_value]
    exact hK _ _ h

end Go.Proofs.YtmdibkafjpglkaaGreatDoor
