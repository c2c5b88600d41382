/- Rows of bytes that a call owns: append of bytes onto them. -/
import Derived.Test.YtmdibkafjpglkaaGreatDoorDiskAppend2
import Derived.Test.YtmdibkafjpglkaaGreatDoorMapTodo
namespace Go.Proofs.YtmdibkafjpglkaaGreatDoor.Dsk
open Go Go.RowKit Go.Lib

/-- v is a row of bytes of one's own, at or beyond block base. -/
def ByteRow (w : World) (base : Nat) (v : Value) (l : List UInt8) : Prop := w.ownsRow base 5 1 v l.length (l.map byteV)

theorem keep_grown {w w' : World} {ob : Option Nat} {F : Nat → Prop} (h : w.grownBy w' ob) (hF : ∀ g, ob = some g → F g) : Keep F w w' :=
  ⟨h.os, h.tape, h.output, h.size, fun k hk hf => h.block k hk (fun e => hf (hF k e.symm))⟩
theorem ByteRow.nil (w : World) (base : Nat) : ByteRow w base (.slice none 0 0) [] := World.ownsRow_nil w base _ 1
theorem ByteRow.keep {w w' : World} {base : Nat} {v : Value} {l : List UInt8} {F : Nat → Prop} (h : ByteRow w base v l) (k : Keep F w w') (hF : ∀ i, base ≤ i → ¬ F i) : ByteRow w' base v l := by
  obtain ⟨h1, h2⟩ := h
  refine ⟨h1, ?_⟩
  rcases h2 with h2 | ⟨g, cap, cur, hv, hg, hh, r⟩
  · exact .inl h2
  · exact .inr ⟨g, cap, cur, hv, hg, k.at hh (hF g hg), r⟩
theorem ByteRow.fb {w : World} {base : Nat} {v : Value} {l : List UInt8} (h : ByteRow w base v l) : FB w v l (fun i => base ≤ i) := by
  obtain ⟨h1, h2⟩ := h
  rcases h2 with ⟨rfl, h0⟩ | ⟨g, cap, cur, hv, hg, hh, q1, q2, q3, q4⟩
  · obtain rfl : l = [] := List.eq_nil_of_length_eq_zero h0
    exact FB.nil _ _
  · refine ⟨some ⟨g, 0, none⟩, cap, hv, q1, q2, .inr ⟨g, cur, (0, 0), rfl, hh, by omega, by simpa using q4, hg⟩⟩
theorem ByteRow.own {w : World} {base : Nat} {v : Value} {l : List UInt8} (h : ByteRow w base v l) : ∀ g, v.ownBlock = some g → base ≤ g := by
  intro g e
  rcases h.2 with ⟨rfl, -⟩ | ⟨g', cap, cur, rfl, hg, -⟩
  · cases e
  · obtain rfl := Option.some.inj e
    exact hg
theorem ByteRow.slice {w : World} {base : Nat} {v : Value} {l : List UInt8} (h : ByteRow w base v l) : ∃ ao cap, v = .slice ao l.length cap := by
  rcases h.2 with ⟨rfl, h0⟩ | ⟨g', cap, cur, rfl, hg, -⟩
  · exact ⟨none, 0, by rw [h0]⟩
  · exact ⟨_, _, rfl⟩

theorem run_append_row (ty : TypeId) (w : World) {base : Nat} {v : Value} {l : List UInt8} (h : ByteRow w base v l) {x : Value} {l2 : List UInt8} {G : Nat → Prop} (hsrc : BytesIn w x l2 G) (hbase : base ≤ w.heap.size) (hsz : l.length + l2.length ≤ 4294967296) :
    ∃ v' w', (Builtin.append_ #[22, 22] ty #[v, x]).run Tryz.prog w = .ok v' w' ∧ ByteRow w' base v' (l ++ l2) ∧ Keep (fun i => base ≤ i) w w' := by
  obtain ⟨i, hi, hz, hsz', hby⟩ := info_parts info_u8
  obtain ⟨bo, c2, rfl, hc1, hc2, hnone2, hcells2⟩ := hsrc.read
  by_cases hm0 : l2.length = 0
  · obtain rfl : l2 = [] := List.eq_nil_of_length_eq_zero hm0
    have hs : Src Tryz.prog i.size 22 (.slice bo 0 c2) 0 [] w := by
      refine ⟨.inl ⟨_, under_bytes⟩, fun _ => rfl, ?_, ?_, by simp, by simp⟩
      · cases bo with
        | none => exact run_firstCells_none w _ 0 0 c2
        | some b => exact run_firstCells_some w i.size 0 b 0 c2 [] (by simp) (by simp)
      · cases bo with
        | none => exact run_firstCells_none w.drew _ 0 0 c2
        | some b => exact run_firstCells_some w.drew i.size 0 b 0 c2 [] (by simp) (by simp)
    have h0 := h
    rcases h.2 with ⟨rfl, -⟩ | ⟨g, cap, cur, rfl, -, -, q1, -⟩
    · exact ⟨_, w, run_append_nothing w _ _ _ _ i under_bytes hi none 0 0 (Nat.le_refl _) _ hs, by rw [List.append_nil]; exact h0, Keep.refl _ _⟩
    · exact ⟨_, w, run_append_nothing w _ _ _ _ i under_bytes hi _ _ cap q1 _ hs, by rw [List.append_nil]; exact h0, Keep.refl _ _⟩
  · obtain ⟨b, rfl⟩ : ∃ b, bo = some b := by
      cases bo with
      | none => exact absurd (by rw [hnone2 rfl]; rfl) hm0
      | some b => exact ⟨b, rfl⟩
    have hone : ∀ u ∈ l2.map byteV, u.oneCell' = true := by
      intro u hu
      obtain ⟨x, -, rfl⟩ := List.mem_map.1 hu
      rfl
    obtain ⟨v', w', hr, ho, hg, -⟩ := run_append_own (P := Tryz.prog) w base 22 ty 5 i (.int .u8 0) 1 1 under_bytes hi hz hsz' hby rfl (by decide) v l.length (l.map byteV) h b l2.length c2 (l2.map byteV) (by simp) (fun j u hj => (hcells2 b rfl j u hj).1) hone (by simp only [maxLen]; omega) (by omega) hbase
    exact ⟨v', w', hr, by unfold ByteRow; rw [List.length_append, List.map_append]; exact ho, keep_grown hg h.own⟩

theorem wpList_append_row {ops : Array Oper} {rest : List Oper} {o : Oper} {a : Act} {w : World} {Q : Exit → Act → World → Prop} (hgd : o.guard = none) (s x : Operand)
    (ho : o.op = .call { callee := .builtin .append, args := #[s, x], argTypes := #[22, 22] })
    {base : Nat} {v xv : Value} {l l2 : List UInt8} {G : Nat → Prop} (h : ByteRow w base v l) (hsrc : BytesIn w xv l2 G) (hs : a.eval s = v) (hx : a.eval x = xv) (hbase : base ≤ w.heap.size) (hsz : l.length + l2.length ≤ 4294967296)
    (hK : ∀ v' w', ByteRow w' base v' (l ++ l2) → Keep (fun i => base ≤ i) w w' → wpList Tryz.prog ops Q rest (a.put o.dst v') w') : wpList Tryz.prog ops Q (o :: rest) a w := by
  obtain ⟨v', w', hr, h1, h2⟩ := run_append_row o.type w h hsrc hbase hsz
  refine wpList_plain hgd fun _ hk => ?_
  unfold Oper.wp execOp
  simp only [ho, resolve, invoke, builtin, Sem.run_bind, Sem.run_pure, Result.andThen_ok, List.map_toArray, List.map_cons, List.map_nil, hs, hx, hr, Oper.upon_value]
  exact hk _ _ (hK v' w' h1 h2)

end Go.Proofs.YtmdibkafjpglkaaGreatDoor.Dsk
