/- A region that draws its order: reads (loads too) ahead of a few operations that write, of which the last may write what the reads read.
   The reads may come up late: they read the same as long as a condition S holds, and the last writing operation waits for all of them. Over any program. A region that draws its order: operations that yield the same wherever a condition holds are taken first, in whatever order is named; the others follow. Over any program. -/
import Derived.Test.YtmdibkafjpglkaaGreatDoorKeep
import Derived.OrdersHeld
import Derived.Tactics
import Derived.Tactics2
namespace Go.Proofs.YtmdibkafjpglkaaGreatDoor
open Go Go.RowKit
section
variable {P : Program} {md : Region.Mode} {ops : Array Oper} {Q : Exit → Act → World → Prop} {S : World → Prop} {z : Nat}

/-- Whatever order the draw allows; behind each operation but number z the condition S is shown. -/
def anyZ (P : Program) (md : Region.Mode) (ops : Array Oper) (Q : Exit → Act → World → Prop) (S : World → Prop) (z : Nat) : Nat → Array Bool → Act → World → Prop
  | 0, L, a, w => Region.ready md ops L = [] ∧ Q .normal a w
  | n + 1, L, a, w => (Region.ready md ops L = [] → Q .normal a w) ∧
    ∀ j ∈ Region.ready md ops L, wpOp P ops Q j (fun b u => (j ≠ z → S u) ∧ anyZ P md ops Q S z n (L.setIfInBounds j true) b u) a w

theorem any_of_z : ∀ (n : Nat) (L : Array Bool) (a : Act) (w : World), anyZ P md ops Q S z n L a w → wpAny P md ops Q n L a w
  | 0, _, _, _, h => h
  | n + 1, _, _, _, h => ⟨h.1, fun j hj => wpOp_mono (fun _ _ hh => any_of_z n _ _ _ hh.2) (h.2 j hj)⟩

/-- Does number j wait for number i? -/
def waits (md : Region.Mode) (ops : Array Oper) (j i : Nat) : Bool :=
  match ops[j]? with
  | some o => o.after.any fun e => Region.binds md e && e.on == i
  | none => false

theorem waits_not {j i : Nat} {L : Array Bool} (h : waits md ops j i = true) (hi : i ∈ Region.ready md ops L) : j ∉ Region.ready md ops L := by
  intro hj
  obtain ⟨-, o, ho, hall⟩ := mem_ready.1 hj
  unfold waits at h
  rw [ho] at h
  obtain ⟨e, he, hb⟩ := Array.any_eq_true'.1 h
  simp only [Bool.and_eq_true, beq_iff_eq] at hb
  have h1 := hall e he hb.1
  rw [hb.2] at h1
  have h0 := (mem_ready.1 hi).1
  by_cases hlt : i < L.size
  · simp [hlt] at h0 h1
    rw [h0] at h1
    cases h1
  · simp [Array.getElem?_eq_none (Nat.le_of_not_lt hlt)] at h1

/-- Number i is taken first. -/
theorem anyZ_first {i : Nat} {o : Oper} {v : Value} (hi : ops[i]? = some o) (hns : Region.noSelect ops = true) (hw : (waits md ops z i || decide (ops.size ≤ z)) = true) (hQ : ∀ c a w, Q (.panic c) (a.put o.dst v) w → Q (.panic c) a w) :
    ∀ (n : Nat) (L : Array Bool) (a : Act) (w : World), (∀ j q, ops[j]? = some q → j ≠ i → L.getD j true = false → (∀ e ∈ q.after, Region.binds md e = true → e.on ≠ i) → o.apart ops q = true) →
      i ∈ Region.ready md ops L → YieldsIf P ops S o v a → S w → anyZ P md ops Q S z n (L.setIfInBounds i true) (a.put o.dst v) w → anyZ P md ops Q S z (n + 1) L a w := by
  intro n
  induction n with
  | zero =>
    intro L a w _ hr hy hS H
    refine ⟨fun h0 => absurd hr (by rw [h0]; simp), fun j hj => ?_⟩
    by_cases e : j = i
    · subst e
      exact hy.wpOp hi hS ⟨fun _ => hS, H⟩
    · exact absurd (ready_mono hj e) (by rw [H.1]; simp)
  | succ n ih =>
    intro L a w hfree hr hy hS H
    refine ⟨fun h0 => absurd hr (by rw [h0]; simp), fun j hj => ?_⟩
    by_cases e : j = i
    · subst e
      exact hy.wpOp hi hS ⟨fun _ => hS, H⟩
    · obtain ⟨hjun, q, hq, hall⟩ := mem_ready.1 hj
      have hjz : j ≠ z := fun e2 => by
        rcases Bool.or_eq_true_iff.1 hw with hw | hw
        · exact waits_not hw hr (e2 ▸ hj)
        · have := (Array.getElem?_eq_some_iff.1 hq).1
          have := of_decide_eq_true hw
          omega
      have hnw : ∀ e ∈ q.after, Region.binds md e = true → e.on ≠ i := by
        intro x hx hb hon
        have : waits md ops j i = true := by
          unfold waits
          rw [hq]
          exact Array.any_eq_true'.2 ⟨x, hx, by simp [hb, hon]⟩
        exact waits_not this hr hj
      have h2 := wpOp_putIf hq (hfree j q hq e hjun hnw) (fun cs b => Region.noSelect_spec hns i o cs b hi) (fun cs b => Region.noSelect_spec hns j q cs b hq) hQ hy (H.2 j (ready_mono hj e))
      refine wpOp_mono (fun b u h3 => ⟨h3.2.1, ih _ b u ?_ (ready_mono hr (Ne.symm e)) h3.1 (h3.2.1 hjz) ?_⟩) h2
      · intro k x hk hki hun hno
        refine hfree k x hk hki ?_ hno
        by_cases hjk : j = k
        · rw [← hjk]; exact hjun
        · rwa [getD_set_ne true hjk] at hun
      · have := h3.2.2
        rwa [Array.setIfInBounds_comm _ _ (Ne.symm e)] at this

/-- The first k are listed. -/
def upto (n k : Nat) : Array Bool := (List.range k).foldl (fun L j => L.setIfInBounds j true) (Array.replicate n false)
theorem upto_succ (n k : Nat) : upto n (k + 1) = (upto n k).setIfInBounds k true := by
  unfold upto; rw [List.range_succ, List.foldl_append]; rfl

/-- The reads: each yields its value wherever S holds. -/
def heldList (P : Program) (ops : Array Oper) (S : World → Prop) (K : Act → Prop) : List Oper → Act → Prop
  | [], a => K a
  | o :: l, a => ∃ v, YieldsIf P ops S o v a ∧ heldList P ops S K l (a.put o.dst v)

theorem held_step {K : Act → Prop} {o : Oper} {l : List Oper} {a : Act} {v : Value} (hg : o.guard = none) (hy : ∀ w, S w → (execOp a.eval o).run P w = .ok (.value v) w) (h : heldList P ops S K l (a.put o.dst v)) : heldList P ops S K (o :: l) a :=
  ⟨v, .inl ⟨by simp [Region.wanted, hg], hy⟩, h⟩

theorem held_nil {K : Act → Prop} {a : Act} (h : K a) : heldList P ops S K [] a := h

/-- May the first m be taken in the text's order, and does number z wait for each? -/
def heldB (md : Region.Mode) (ops : Array Oper) (m z : Nat) : Bool :=
  Region.noSelect ops && (List.range m).all fun k => Region.free md ops (upto ops.size k) k && ((Region.ready md ops (upto ops.size k)).contains k && (waits md ops z k || decide (ops.size ≤ z)))

theorem heldB_run (hQ : ∀ d v c a w, Q (.panic c) (Act.put a d v) w → Q (.panic c) a w) (m : Nat) (hB : heldB md ops m z = true) (w : World) (hS : S w) (hm : m ≤ ops.size) : ∀ (j k : Nat) (a : Act), k + j = m →
    heldList P ops S (fun b => anyZ P md ops Q S z (ops.size - m) (upto ops.size m) b w) ((ops.toList.drop k).take j) a → anyZ P md ops Q S z (ops.size - k) (upto ops.size k) a w := by
  unfold heldB at hB
  simp only [Bool.and_eq_true, List.all_eq_true, List.mem_range] at hB
  intro j
  induction j with
  | zero =>
    intro k a hk h
    obtain rfl : k = m := by omega
    simpa [heldList] using h
  | succ j ih =>
    intro k a hk h
    have hlt : k < ops.toList.length := by simp; omega
    rw [List.drop_eq_getElem_cons hlt, List.take_succ_cons] at h
    obtain ⟨v, hy, hr⟩ := h
    have hi : ops[k]? = some ops.toList[k] := by simp at hlt; simp [hlt]
    obtain ⟨b1, b2, b3⟩ := hB.2 k (by omega)
    have := ih (k + 1) _ (by omega) hr
    rw [upto_succ, show ops.size - k = (ops.size - (k + 1)) + 1 from by simp at hlt; omega] at *
    exact anyZ_first hi hB.1 b3 (fun c a w => hQ _ _ c a w) _ _ _ _ (Region.free_spec hi b1) (by simpa using b2) hy hS this

theorem wp_region_heldz {id : Nat} {a : Act} {w : World} {l : List Oper} (m z t : Nat) (S : World → Prop) (hmx : P.follows .mixedOrders = true) (hB : heldB .any l.toArray m z = true) (ht : l.toArray.size = m + t) (hS : S w.drew)
    (hQ : ∀ d v c a w, Q (.panic c) (Act.put a d v) w → Q (.panic c) a w)
    (h : heldList P l.toArray S (fun b => anyZ P .any l.toArray Q S z t (upto l.toArray.size m) b w.drew) (l.take m) a) : (Code.region id l.toArray true).wp P Q a w := by
  refine wp_region_any hmx (any_of_z (S := S) (z := z) _ _ _ _ ?_)
  have := heldB_run (P := P) (S := S) hQ m hB w.drew hS (by omega) m 0 a (by omega) (by rw [show l.toArray.size - m = t from by omega]; simpa using h)
  simpa [upto] using this

theorem anyZ_next {n j : Nat} {L : Array Bool} {a : Act} {w : World} {o : Oper} (hr : Region.ready md ops L = [j]) (ho : ops[j]? = some o) (hg : o.guard = none)
    (h : o.wp P a w (fun b u => (j ≠ z → S u) ∧ anyZ P md ops Q S z n (L.setIfInBounds j true) b u) Q) : anyZ P md ops Q S z (n + 1) L a w := by
  refine ⟨fun h0 => absurd (hr.symm.trans h0) (by simp), fun i hi => ?_⟩
  rw [hr, List.mem_singleton] at hi
  subst hi
  unfold wpOp
  have hw : Region.wanted o (yielded ops a.tmps) = true := by simp [Region.wanted, hg]
  simp only [ho, hw, if_true]
  exact .inl h
theorem anyZ_read {n j : Nat} {L : Array Bool} {a : Act} {w : World} {o : Oper} {v : Value} (hr : Region.ready md ops L = [j]) (ho : ops[j]? = some o) (hg : o.guard = none) (hS : S w)
    (hy : (execOp a.eval o).run P w = .ok (.value v) w) (h : anyZ P md ops Q S z n (L.setIfInBounds j true) (a.put o.dst v) w) : anyZ P md ops Q S z (n + 1) L a w := by
  refine anyZ_next hr ho hg ?_
  unfold Oper.wp
  rw [hy]
  exact ⟨fun _ => hS, h⟩
theorem anyZ_next' {n j : Nat} {L : Array Bool} {a : Act} {w : World} {o : Oper} (hr : Region.ready md ops L = [j]) (ho : ops[j]? = some o) (hw : Region.wanted o (yielded ops a.tmps) = true)
    (h : o.wp P a w (fun b u => (j ≠ z → S u) ∧ anyZ P md ops Q S z n (L.setIfInBounds j true) b u) Q) : anyZ P md ops Q S z (n + 1) L a w := by
  refine ⟨fun h0 => absurd (hr.symm.trans h0) (by simp), fun i hi => ?_⟩
  rw [hr, List.mem_singleton] at hi
  subst hi
  unfold wpOp
  simp only [ho, hw, if_true]
  exact .inl h
/-- One that is wanted yields a value. -/
theorem anyZ_want {n j : Nat} {L : Array Bool} {a : Act} {w : World} {o : Oper} {v : Value} (hr : Region.ready md ops L = [j]) (ho : ops[j]? = some o) (hw : Region.wanted o (yielded ops a.tmps) = true) (hS : S w)
    (hy : (execOp a.eval o).run P w = .ok (.value v) w) (h : anyZ P md ops Q S z n (L.setIfInBounds j true) (a.put o.dst v) w) : anyZ P md ops Q S z (n + 1) L a w := by
  refine anyZ_next' hr ho hw ?_
  unfold Oper.wp
  rw [hy]
  exact ⟨fun _ => hS, h⟩
/-- One that is not wanted. -/
theorem anyZ_skip {n j : Nat} {L : Array Bool} {a : Act} {w : World} {o : Oper} (hr : Region.ready md ops L = [j]) (ho : ops[j]? = some o) (hw : Region.wanted o (yielded ops a.tmps) = false) (hS : S w)
    (h : anyZ P md ops Q S z n (L.setIfInBounds j true) (a.put o.dst undef) w) : anyZ P md ops Q S z (n + 1) L a w := by
  refine ⟨fun h0 => absurd (hr.symm.trans h0) (by simp), fun i hi => ?_⟩
  rw [hr, List.mem_singleton] at hi
  subst hi
  unfold wpOp
  simp only [ho, hw, Bool.false_eq_true, if_false]
  exact ⟨fun _ => hS, h⟩
theorem anyZ_value {n j : Nat} {L : Array Bool} {a : Act} {w w' : World} {o : Oper} {v : Value} (hr : Region.ready md ops L = [j]) (ho : ops[j]? = some o) (hg : o.guard = none)
    (hy : (execOp a.eval o).run P w = .ok (.value v) w') (hS : S w') (h : anyZ P md ops Q S z n (L.setIfInBounds j true) (a.put o.dst v) w') : anyZ P md ops Q S z (n + 1) L a w := by
  refine anyZ_next hr ho hg ?_
  unfold Oper.wp
  rw [hy]
  exact ⟨fun _ => hS, h⟩
theorem anyZ_last {n : Nat} {L : Array Bool} {a : Act} {w : World} {o : Oper} (hr : Region.ready md ops L = [z]) (ho : ops[z]? = some o) (hg : o.guard = none) (hd : Region.ready md ops (L.setIfInBounds z true) = [])
    (h : o.wp P a w (fun b u => Q .normal b u) Q) : anyZ P md ops Q S z (n + 1) L a w := by
  refine anyZ_next hr ho hg (Oper.wp_mono (fun b u hb => ⟨fun h => absurd rfl h, ?_⟩) h)
  cases n with
  | zero => exact ⟨hd, hb⟩
  | succ n => exact ⟨fun _ => hb, by rw [hd]; simp⟩
/-- The operations behind the reads, in the text's order. -/
def tailZ (P : Program) (ops : Array Oper) (Q : Exit → Act → World → Prop) (S : World → Prop) (z : Nat) : Nat → List Oper → Act → World → Prop
  | _, [], a, w => Q .normal a w
  | k, o :: l, a, w => (Region.wanted o (yielded ops a.tmps) = true → o.wp P a w (fun b u => (k ≠ z → S u) ∧ tailZ P ops Q S z (k + 1) l b u) Q) ∧
      (Region.wanted o (yielded ops a.tmps) = false → (k ≠ z → S w) ∧ tailZ P ops Q S z (k + 1) l (a.put o.dst undef) w)

/-- Does number k come up alone, for all k from m on? -/
def tailB (md : Region.Mode) (ops : Array Oper) (m : Nat) : Bool := (List.range ops.size).all fun k => decide (k < m) || (Region.ready md ops (upto ops.size k) == [k])

theorem upto_true (n : Nat) : ∀ k, k ≤ n → ∀ j, j < k → (upto n k).getD j true = true ∧ (upto n k).size = n := by
  intro k
  induction k with
  | zero => intro _ j hj; omega
  | succ k ih =>
    intro hk j hj
    rw [upto_succ]
    by_cases e : j = k
    · subst e
      rcases Nat.eq_zero_or_pos j with h0 | h0
      · subst h0; simp [upto, Array.getD]
      · have := (ih (by omega) 0 h0).2
        simp only [Array.getElem?_setIfInBounds, Array.size_setIfInBounds, this, Array.getD_eq_getD_getElem?, and_true, if_true]
        split <;> rfl
    · have := ih (by omega) j (by omega)
      rw [getD_set_ne true (Ne.symm e)]
      exact ⟨this.1, by simp [this.2]⟩

theorem ready_all (n : Nat) (hn : n = ops.size) : Region.ready md ops (upto n n) = [] := by
  rw [List.eq_nil_iff_forall_not_mem]
  intro j hj
  obtain ⟨h1, o, ho, -⟩ := mem_ready.1 hj
  have hlt := (Array.getElem?_eq_some_iff.1 ho).1
  have := (upto_true n n (Nat.le_refl _) j (by omega)).1
  rw [h1] at this
  cases this

theorem tail_run (m : Nat) (hB : tailB md ops m = true) : ∀ (j k : Nat) (a : Act) (w : World), k + j = ops.size → m ≤ k → tailZ P ops Q S z k (ops.toList.drop k) a w → anyZ P md ops Q S z j (upto ops.size k) a w := by
  unfold tailB at hB
  simp only [List.all_eq_true, List.mem_range, Bool.or_eq_true, decide_eq_true_eq, beq_iff_eq] at hB
  intro j
  induction j with
  | zero =>
    intro k a w hk hm h
    obtain rfl : k = ops.size := by omega
    rw [List.drop_eq_nil_of_le (by simp)] at h
    exact ⟨ready_all _ rfl, h⟩
  | succ j ih =>
    intro k a w hk hm h
    have hlt : k < ops.toList.length := by simp; omega
    rw [List.drop_eq_getElem_cons hlt] at h
    have hi : ops[k]? = some ops.toList[k] := by simp at hlt; simp [hlt]
    have hr : Region.ready md ops (upto ops.size k) = [k] := by
      rcases hB k (by omega) with h1 | h1
      · omega
      · exact h1
    refine ⟨fun h0 => absurd (hr.symm.trans h0) (by simp), fun i hi2 => ?_⟩
    rw [hr, List.mem_singleton] at hi2
    subst hi2
    unfold wpOp
    simp only [hi]
    rw [← upto_succ]
    cases hw : Region.wanted ops.toList[i] (yielded ops a.tmps) with
    | true =>
      simp only [if_true]
      exact .inl (Oper.wp_mono (fun b u hb => ⟨hb.1, ih (i + 1) b u (by omega) (by omega) hb.2⟩) (h.1 hw))
    | false =>
      simp only [Bool.false_eq_true, if_false]
      exact ⟨(h.2 hw).1, ih (i + 1) _ w (by omega) (by omega) (h.2 hw).2⟩

theorem tail_want {k : Nat} {o : Oper} {l : List Oper} {a : Act} {w : World} {v : Value} (hw : Region.wanted o (yielded ops a.tmps) = true) (hS : S w) (hy : (execOp a.eval o).run P w = .ok (.value v) w)
    (h : tailZ P ops Q S z (k + 1) l (a.put o.dst v) w) : tailZ P ops Q S z k (o :: l) a w := by
  refine ⟨fun _ => ?_, fun h0 => by rw [hw] at h0; cases h0⟩
  unfold Oper.wp
  rw [hy]
  exact ⟨fun _ => hS, h⟩
theorem tail_skip {k : Nat} {o : Oper} {l : List Oper} {a : Act} {w : World} (hw : Region.wanted o (yielded ops a.tmps) = false) (hS : S w) (h : tailZ P ops Q S z (k + 1) l (a.put o.dst undef) w) : tailZ P ops Q S z k (o :: l) a w :=
  ⟨fun h0 => absurd (hw.symm.trans h0) (by simp), fun _ => ⟨fun _ => hS, h⟩⟩
theorem tail_wp {k : Nat} {o : Oper} {l : List Oper} {a : Act} {w : World} (hw : Region.wanted o (yielded ops a.tmps) = true) (h : o.wp P a w (fun b u => (k ≠ z → S u) ∧ tailZ P ops Q S z (k + 1) l b u) Q) : tailZ P ops Q S z k (o :: l) a w :=
  ⟨fun _ => h, fun h0 => by rw [hw] at h0; cases h0⟩
theorem tail_nil {k : Nat} {a : Act} {w : World} (h : Q .normal a w) : tailZ P ops Q S z k [] a w := h

theorem wp_region_heldt {id : Nat} {a : Act} {w : World} {l : List Oper} (m z : Nat) (S : World → Prop) (hmx : P.follows .mixedOrders = true) (hB : heldB .any l.toArray m z = true) (hT : tailB .any l.toArray m = true) (hm : decide (m ≤ l.toArray.size) = true) (hS : S w.drew)
    (hQ : ∀ d v c a w, Q (.panic c) (Act.put a d v) w → Q (.panic c) a w)
    (h : heldList P l.toArray S (fun b => tailZ P l.toArray Q S z m (l.drop m) b w.drew) (l.take m) a) : (Code.region id l.toArray true).wp P Q a w := by
  have hm' : m ≤ l.toArray.size := by simpa using hm
  refine wp_region_heldz m z (l.toArray.size - m) S hmx hB (by omega) hS hQ ?_
  have hmono : ∀ (q : List Oper) (a : Act) (K K' : Act → Prop), (∀ b, K b → K' b) → heldList P l.toArray S K q a → heldList P l.toArray S K' q a := by
    intro q
    induction q with
    | nil => intro a K K' hk h; exact hk _ h
    | cons o q ih => intro a K K' hk h; obtain ⟨v, h1, h2⟩ := h; exact ⟨v, h1, ih _ _ _ hk h2⟩
  exact hmono _ _ _ _ (fun b hb => tail_run m hT _ _ b w.drew (by omega) (Nat.le_refl _) (by simpa using hb)) h

theorem anyZ_done {L : Array Bool} {a : Act} {w : World} (hr : Region.ready md ops L = []) (h : Q .normal a w) : anyZ P md ops Q S z 0 L a w := ⟨hr, h⟩
end
end Go.Proofs.YtmdibkafjpglkaaGreatDoor

namespace Go.Proofs.YtmdibkafjpglkaaGreatDoor
open Go Go.RowKit
section
variable {P : Program} {md : Region.Mode} {ops : Array Oper} {Q : Exit → Act → World → Prop} {S : World → Prop} {z t : Nat}

def setAll (L : Array Bool) : List Nat → Array Bool
  | [] => L
  | i :: is => setAll (L.setIfInBounds i true) is
/-- May those be taken in that order, and does number z wait for each? -/
def heldIB (md : Region.Mode) (ops : Array Oper) (z : Nat) : List Nat → Array Bool → Bool
  | [], _ => true
  | i :: is, L => Region.free md ops L i && ((Region.ready md ops L).contains i && (waits md ops z i || decide (ops.size ≤ z))) && heldIB md ops z is (L.setIfInBounds i true)
def heldIList (P : Program) (ops : Array Oper) (S : World → Prop) (K : Act → Prop) : List Nat → Act → Prop
  | [], a => K a
  | i :: is, a => ∃ o v, ops.toList[i]? = some o ∧ YieldsIf P ops S o v a ∧ heldIList P ops S K is (a.put o.dst v)

theorem heldI_step {K : Act → Prop} {i : Nat} {is : List Nat} {o : Oper} {a : Act} {v : Value} (hi : ops.toList[i]? = some o) (hg : o.guard = none) (hy : ∀ w, S w → (execOp a.eval o).run P w = .ok (.value v) w) (h : heldIList P ops S K is (a.put o.dst v)) : heldIList P ops S K (i :: is) a :=
  ⟨o, v, hi, .inl ⟨by simp [Region.wanted, hg], hy⟩, h⟩
theorem heldI_want {K : Act → Prop} {i : Nat} {is : List Nat} {o : Oper} {a : Act} {v : Value} (hi : ops.toList[i]? = some o) (hg : Region.wanted o (yielded ops a.tmps) = true) (hy : ∀ w, S w → (execOp a.eval o).run P w = .ok (.value v) w) (h : heldIList P ops S K is (a.put o.dst v)) : heldIList P ops S K (i :: is) a :=
  ⟨o, v, hi, .inl ⟨hg, hy⟩, h⟩
theorem heldI_skip {K : Act → Prop} {i : Nat} {is : List Nat} {o : Oper} {a : Act} (hi : ops.toList[i]? = some o) (hg : Region.wanted o (yielded ops a.tmps) = false) (h : heldIList P ops S K is (a.put o.dst undef)) : heldIList P ops S K (i :: is) a :=
  ⟨o, undef, hi, .inr ⟨hg, rfl⟩, h⟩
theorem heldI_nil {K : Act → Prop} {a : Act} (h : K a) : heldIList P ops S K [] a := h

theorem heldI_run (hns : Region.noSelect ops = true) (hQ : ∀ d v c a w, Q (.panic c) (Act.put a d v) w → Q (.panic c) a w) (w : World) (hS : S w) : ∀ (is : List Nat) (L : Array Bool) (a : Act), heldIB md ops z is L = true →
    heldIList P ops S (fun b => anyZ P md ops Q S z t (setAll L is) b w) is a → anyZ P md ops Q S z (t + is.length) L a w := by
  intro is
  induction is with
  | nil => intro L a _ h; exact h
  | cons i is ih =>
    intro L a hB h
    unfold heldIB at hB
    simp only [Bool.and_eq_true] at hB
    obtain ⟨⟨b1, b2, b3⟩, b4⟩ := hB
    obtain ⟨o, v, hi, hy, hr⟩ := h
    rw [Array.getElem?_toList] at hi
    have := ih (L.setIfInBounds i true) _ b4 hr
    exact anyZ_first hi hns b3 (fun c a w => hQ _ _ c a w) _ _ _ _ (Region.free_spec hi b1) (by simpa using b2) hy hS this

theorem wp_region_heldi {id : Nat} {a : Act} {w : World} {l : List Oper} (is : List Nat) (z t : Nat) (S : World → Prop) (hmx : P.follows .mixedOrders = true) (hB : (Region.noSelect l.toArray && heldIB .any l.toArray z is (Array.replicate l.toArray.size false)) = true) (ht : l.toArray.size = t + is.length) (hS : S w.drew)
    (hQ : ∀ d v c a w, Q (.panic c) (Act.put a d v) w → Q (.panic c) a w)
    (h : heldIList P l.toArray S (fun b => anyZ P .any l.toArray Q S z t (setAll (Array.replicate l.toArray.size false) is) b w.drew) is a) : (Code.region id l.toArray true).wp P Q a w := by
  simp only [Bool.and_eq_true] at hB
  refine wp_region_any hmx (any_of_z (S := S) (z := z) _ _ _ _ ?_)
  have := heldI_run (t := t) hB.1 hQ w.drew hS is _ a hB.2 h
  rwa [← ht] at this
end
end Go.Proofs.YtmdibkafjpglkaaGreatDoor
