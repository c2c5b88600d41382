/- Bytes that are read, appended, taken over. -/
import Derived.Test.YtmdibkafjpglkaaGreatDoorDiskDo
import Derived.Deep.RegionLaw
import Derived.Deep.Upon
namespace Go.Proofs.YtmdibkafjpglkaaGreatDoor.Dsk
open Go Go.RowKit Go.Lib

/-- The slice reads as the bytes l; its array lies in G. -/
structure BytesIn (w : World) (v : Value) (l : List UInt8) (G : Nat → Prop) : Prop where
  read : ∃ ao cap, v = .slice ao l.length cap ∧ l.length ≤ cap ∧ cap ≤ maxLen ∧ (ao = none → l = []) ∧ ∀ b, ao = some b → ∀ j u, (l.map byteV)[j]? = some u → w.cell? (b.add j) = some u ∧ b.block < w.heap.size ∧ G b.block

theorem BytesIn.keep {w w' : World} {v : Value} {l : List UInt8} {F G : Nat → Prop} (h : BytesIn w v l G) (k : Keep F w w') (hd : ∀ i, G i → ¬ F i) : BytesIn w' v l G := by
  obtain ⟨ao, cap, e, h1, h2, h3, h4⟩ := h.read
  refine ⟨ao, cap, e, h1, h2, h3, fun b hb j u hj => ?_⟩
  obtain ⟨r1, r2, r3⟩ := h4 b hb j u hj
  have e1 : (b.add j).block = b.block := by unfold Addr.add; split <;> rfl
  exact ⟨by rw [k.cell (by rw [e1]; exact r2) (by rw [e1]; exact hd _ r3)]; exact r1, Nat.lt_of_lt_of_le r2 k.size, r3⟩
theorem BytesIn.first {w : World} {ao : Option Addr} {n cap : Nat} {l : List UInt8} {G : Nat → Prop} (h : BytesIn w (.slice ao n cap) l G) (k : Nat) (hk : k ≤ l.length) : BytesIn w (.slice ao k cap) (l.take k) G := by
  obtain ⟨ao', cap', e, h1, h2, h3, h4⟩ := h.read
  injection e with e1 e2 e3
  subst e1; subst e3
  refine ⟨ao, cap, by simp [Nat.min_eq_left hk], by simp; omega, h2, fun e => by rw [h3 e]; simp, fun b hb j u hj => ?_⟩
  refine h4 b hb j u ?_
  rw [List.map_take, List.getElem?_take] at hj
  split at hj
  · exact hj
  · cases hj
theorem FB.bytesIn {w : World} {v : Value} {l : List UInt8} {F : Nat → Prop} (h : FB w v l F) : BytesIn w v l F := by
  obtain ⟨ao, cap, rfl, h1, h2, h3⟩ := h
  refine ⟨ao, cap, rfl, h1, h2, ?_, ?_⟩
  · rintro rfl
    rcases h3 with ⟨-, h3⟩ | ⟨g, cs, fr, e, -⟩
    · exact List.eq_nil_of_length_eq_zero (by omega)
    · cases e
  · rintro b rfl j u hj
    have := (FB.cells ⟨_, cap, rfl, h1, h2, h3⟩).2.2 b rfl j u hj
    rcases h3 with ⟨e, -⟩ | ⟨g, cs, fr, e, hg, -, -, hf⟩
    · cases e
    · obtain rfl := Option.some.inj e
      exact ⟨this, lt_of_block hg, hf⟩

theorem under_bytes : Tryz.prog.underlying 22 = some (.slice 5) := by kernel_rfl

/-- append of bytes onto bytes whose slice has no room: new memory, or nothing at all. -/
theorem run_append_bytes (ty : TypeId) (w : World) {ao : Option Addr} {n cap : Nat} {l : List UInt8} {F : Nat → Prop} (hfb : FB w (.slice ao n cap) l F) {bo : Option Addr} {m c : Nat} {l2 : List UInt8} {G : Nat → Prop} (hsrc : BytesIn w (.slice bo m c) l2 G)
    (hsz : n + m ≤ 4294967296) : ∃ v' w', (Builtin.append_ #[22, 22] ty #[.slice ao n n, .slice bo m c]).run Tryz.prog w = .ok v' w' ∧ FB w' v' (l ++ l2) (fun i => F i ∨ w.heap.size ≤ i) ∧ Keep (fun _ => False) w w' := by
  obtain ⟨hn, hnone, hcells⟩ := hfb.cells
  obtain ⟨i, hi, hz, hsz', hby⟩ := info_parts info_u8
  obtain ⟨ao2, c2, e2, hc1, hc2, hnone2, hcells2⟩ := hsrc.read
  injection e2 with e3 e4 e5
  subst e3; subst e5
  by_cases hm0 : m = 0
  · subst hm0
    have hl2 : l2 = [] := List.eq_nil_of_length_eq_zero e4.symm
    subst hl2
    refine ⟨.slice ao n n, w, ?_, ?_, Keep.refl _ _⟩
    · have hs : Src Tryz.prog i.size 22 (.slice bo 0 c) 0 [] w := by
        refine ⟨.inl ⟨_, under_bytes⟩, fun _ => rfl, ?_, ?_, by simp, by simp⟩
        · cases bo with
          | none => exact run_firstCells_none w _ 0 0 c
          | some b => exact run_firstCells_some w i.size 0 b 0 c [] (by simp) (by simp)
        · cases bo with
          | none => exact run_firstCells_none w.drew _ 0 0 c
          | some b => exact run_firstCells_some w.drew i.size 0 b 0 c [] (by simp) (by simp)
      exact run_append_nothing w _ _ _ _ i under_bytes hi ao n n (Nat.le_refl _) (.slice bo 0 c) hs
    · rw [List.append_nil]
      obtain ⟨ao', cap', hv, h1, h2, h3⟩ := hfb
      injection hv with q1 q2 q3
      subst q1; subst q3
      refine ⟨ao, n, by rw [hn], by omega, by omega, ?_⟩
      rcases h3 with ⟨e, ec⟩ | ⟨g, cs, fr, e, hg, r1, r2, hf⟩
      · exact .inl ⟨e, by omega⟩
      · exact .inr ⟨g, cs, fr, e, hg, by omega, r2, .inl hf⟩
  · have hso : ∃ b, bo = some b := by
      cases bo with
      | none => exact absurd (by rw [e4, hnone2 rfl]; rfl) hm0
      | some b => exact ⟨b, rfl⟩
    obtain ⟨b, rfl⟩ := hso
    have hend : ∀ (v' : Value) (w' : World), w'.ownsRow w.heap.size 5 1 v' (n + m) (l.map byteV ++ l2.map byteV) → w.grownBy w' none → FB w' v' (l ++ l2) (fun i => F i ∨ w.heap.size ≤ i) ∧ Keep (fun _ => False) w w' := by
      intro v' w' ho hg
      refine ⟨?_, ⟨hg.os, hg.tape, hg.output, hg.size, fun k hk _ => hg.block k hk (by simp)⟩⟩
      rcases ho.2 with ⟨-, h0⟩ | ⟨g, cap', cur, rfl, hb, hh, q1, q2, q3, q4⟩
      · omega
      · have hlen : (l ++ l2).length = n + m := by rw [List.length_append]; omega
        refine ⟨some ⟨g, 0, none⟩, cap', by rw [hlen], by omega, q2, .inr ⟨g, cur, (0, 0), rfl, hh, by omega, ?_, .inr hb⟩⟩
        rw [hlen, List.map_append, ← q4, Nat.mul_one]
    have hone : ∀ u ∈ l2.map byteV, u.oneCell' = true := by
      intro u hu
      obtain ⟨x, -, rfl⟩ := List.mem_map.1 hu
      rfl
    cases ao with
    | some a =>
      obtain ⟨v', w', hr, ho, hg⟩ := run_append_arg_grows (P := Tryz.prog) w 22 ty 5 i (.int .u8 0) 1 1 under_bytes hi hz hsz' hby rfl (by decide) a n n (l.map byteV) (by simp; omega) (hcells a rfl) b m c (l2.map byteV) (by simp; omega) (fun j u hj => (hcells2 b rfl j u hj).1) (by omega) (by simp only [maxLen]; omega) (by omega)
      exact ⟨v', w', hr, hend v' w' ho hg⟩
    | none =>
      obtain ⟨hl0, -⟩ := hnone rfl
      subst hl0
      simp only [List.length_nil] at hn
      subst hn
      obtain ⟨v', w', hr, ho, hg, -⟩ := run_append_own (P := Tryz.prog) w w.heap.size 22 ty 5 i (.int .u8 0) 1 1 under_bytes hi hz hsz' hby rfl (by decide) (.slice none 0 0) 0 [] (World.ownsRow_nil w _ _ 1) b m c (l2.map byteV) (by simp; omega) (fun j u hj => (hcells2 b rfl j u hj).1) hone (by simp only [maxLen]; omega) (by omega) (Nat.le_refl _)
      exact ⟨v', w', hr, hend v' w' ho hg⟩

/-- .. as a step of a region that draws its order. -/
theorem step_append_bytes {ops : Array Oper} {o : Oper} {a : Act} {w : World} {K : Act → World → Prop} {Q : Exit → Act → World → Prop} {E : Prop} (hgd : o.guard = none) (s x : Operand)
    (ho : o.op = .call { callee := .builtin .append, args := #[s, x], argTypes := #[22, 22] })
    {ao : Option Addr} {n cap : Nat} {l : List UInt8} {F : Nat → Prop} (hfb : FB w (.slice ao n cap) l F) {bo : Option Addr} {m c : Nat} {l2 : List UInt8} {G : Nat → Prop} (hsrc : BytesIn w (.slice bo m c) l2 G)
    (hs : a.eval s = .slice ao n n) (hx : a.eval x = .slice bo m c) (hsz : n + m ≤ 4294967296)
    (hK : ∀ v' w', FB w' v' (l ++ l2) (fun i => F i ∨ w.heap.size ≤ i) → Keep (fun _ => False) w w' → K (a.put o.dst v') w') :
    if Region.wanted o (yielded ops a.tmps) = true then Oper.wp Tryz.prog o a w K Q else E := by
  have hw : Region.wanted o (yielded ops a.tmps) = true := by simp [Region.wanted, hgd]
  rw [if_pos hw]
  obtain ⟨v', w', hr, h1, h2⟩ := run_append_bytes o.type w hfb hsrc hsz
  unfold Oper.wp execOp
  simp only [ho, resolve, invoke, builtin, Sem.run_bind, Sem.run_pure, Result.andThen_ok, List.map_toArray, List.map_cons, List.map_nil, hs, hx, hr, Oper.upon_value]
  exact hK v' w' h1 h2

/-- .. as an operation. -/
theorem wp_append_bytes {o : Oper} {a : Act} {w : World} {K : Act → World → Prop} {Q : Exit → Act → World → Prop} (s x : Operand)
    (ho : o.op = .call { callee := .builtin .append, args := #[s, x], argTypes := #[22, 22] })
    {ao : Option Addr} {n cap : Nat} {l : List UInt8} {F : Nat → Prop} (hfb : FB w (.slice ao n cap) l F) {bo : Option Addr} {m c : Nat} {l2 : List UInt8} {G : Nat → Prop} (hsrc : BytesIn w (.slice bo m c) l2 G)
    (hs : a.eval s = .slice ao n n) (hx : a.eval x = .slice bo m c) (hsz : n + m ≤ 4294967296)
    (hK : ∀ v' w', FB w' v' (l ++ l2) (fun i => F i ∨ w.heap.size ≤ i) → Keep (fun _ => False) w w' → K (a.put o.dst v') w') : Oper.wp Tryz.prog o a w K Q := by
  obtain ⟨v', w', hr, h1, h2⟩ := run_append_bytes o.type w hfb hsrc hsz
  unfold Oper.wp execOp
  simp only [ho, resolve, invoke, builtin, Sem.run_bind, Sem.run_pure, Result.andThen_ok, List.map_toArray, List.map_cons, List.map_nil, hs, hx, hr, Oper.upon_value]
  exact hK v' w' h1 h2

end Go.Proofs.YtmdibkafjpglkaaGreatDoor.Dsk
