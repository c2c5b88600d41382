/- keys.Row, walked: so many keys between two. -/
import Derived.Test.YtbjjohfpdphpfaaDoorKeysNext
namespace Go.Proofs.YtbjjohfpdphpfaaDoor
open Go.RowKit Go.Lib

/-- So many keys between two, or none. -/
def rowB (a b : ByteArray) : Nat → Option (List ByteArray)
  | 0 => some []
  | n + 1 => if (Keys.between a.toList b.toList).2 = 0 then (rowB ⟨(Keys.between a.toList b.toList).1.toArray⟩ b n).map (⟨(Keys.between a.toList b.toList).1.toArray⟩ :: ·) else none

theorem rowB_step {a b k : ByteArray} (h : Keys.between a.toList b.toList = (k.data.toList, 0)) (n : Nat) : rowB a b (n + 1) = (rowB k b n).map (k :: ·) := by
  rw [rowB, h]; rfl
theorem rowB_stop {a b k : ByteArray} (h : Keys.between a.toList b.toList = (k.data.toList, 43)) (n : Nat) : rowB a b (n + 1) = none := by
  rw [rowB, h]; rfl
theorem rowB_len {b : ByteArray} (n : Nat) : ∀ {a : ByteArray} {ks : List ByteArray}, rowB a b n = some ks → ks.length = n := by
  induction n with
  | zero => intro a ks h; obtain rfl := Option.some.inj h; rfl
  | succ n ih =>
    intro a ks h
    rw [rowB] at h
    split at h
    · cases hm : rowB ⟨(Keys.between a.toList b.toList).1.toArray⟩ b n with
      | none => rw [hm] at h; cases h
      | some q =>
        rw [hm] at h
        obtain rfl := Option.some.inj h
        have := ih hm
        simp [this]
    · cases h

theorem rowB_at {b : ByteArray} (n : Nat) : ∀ {a : ByteArray} {ks : List ByteArray}, rowB a b n = some ks → ∀ i, i < n → Lies (if i = 0 then a else ks.getD (i - 1) ⟨#[]⟩) b (ks.getD i ⟨#[]⟩) := by
  induction n with
  | zero => intro a ks h i hi; omega
  | succ n ih =>
    intro a ks h i hi
    rcases between_split a b with ⟨k, hk, hl⟩ | ⟨hk, -⟩
    · rw [rowB_step hk] at h
      cases hm : rowB k b n with
      | none => rw [hm] at h; cases h
      | some q =>
        rw [hm] at h
        obtain rfl := Option.some.inj h
        cases i with
        | zero => exact hl
        | succ j =>
          have := ih hm j (by omega)
          cases j with
          | zero => simpa using this
          | succ j => simpa using this
    · rw [rowB_stop (k := ⟨#[]⟩) hk] at h; cases h
theorem rowB_take {b : ByteArray} (n : Nat) : ∀ {a : ByteArray} {ks : List ByteArray} (m : Nat), rowB a b n = some ks → m ≤ n → rowB a b m = some (ks.take m) := by
  induction n with
  | zero => intro a ks m h hm; obtain rfl : m = 0 := by omega
            rfl
  | succ n ih =>
    intro a ks m h hm
    cases m with
    | zero => simp [rowB]
    | succ m =>
      rcases between_split a b with ⟨k, hk, -⟩ | ⟨hk, -⟩
      · rw [rowB_step hk] at h ⊢
        cases hq : rowB k b n with
        | none => rw [hq] at h; cases h
        | some q =>
          rw [hq] at h
          obtain rfl := Option.some.inj h
          rw [ih m hq (by omega)]
          simp
      · rw [rowB_stop (k := ⟨#[]⟩) hk] at h; cases h

/-- What Row answers where so many may be asked. -/
def RowEnd (a b : ByteArray) (n : Nat) (w : World) (e : Ending) (w' : World) : Prop :=
  (∃ (ks : List ByteArray) (v : Value), Keys.right a b = true ∧ rowB a b n = some ks ∧ e = .returned (.tuple #[v, .int .i64 0]) ∧ w'.ownsRow w.heap.size 9 1 v ks.length (ks.map Value.string) ∧ Below w.heap.size w w')
  ∨ ((Keys.right a b = false ∨ rowB a b n = none) ∧ e = .returned (.tuple #[.slice none 0 0, .int .i64 43]) ∧ Below w.heap.size w w')

theorem owns_mono {w : World} {base base' n size : Nat} {e : TypeId} {v : Value} {xs : List Value} (h : w.ownsRow base e size v n xs) (hb : base' ≤ base) : w.ownsRow base' e size v n xs := by
  obtain ⟨h1, h2⟩ := h
  refine ⟨h1, ?_⟩
  rcases h2 with h2 | ⟨g, cap, cur, hv, hg, r⟩
  · exact .inl h2
  · exact .inr ⟨g, cap, cur, hv, Nat.le_trans hb hg, r⟩

set_option maxRecDepth 100000 in
set_option maxHeartbeats 2000000 in
theorem row_bad (a b : ByteArray) (n : Int) (w : World) (hn : n < 0 ∨ 1000 < n) :
    Calls Tryd.prog 20 #[.string a, .string b, .int .i64 n] w fun e w' => e = .returned (.tuple #[.slice none 0 0, .int .i64 1]) ∧ Below w.heap.size w w' := by
  rcases hn with hn | hn
  all_goals
    go_enter Tryd.func20, Tryd.ntmps20
    go_wp2_with fail
    go_ret2
    exact ⟨rfl, ((Below.refl _ _).alloc (Nat.le_refl _) _).alloc (by simp) _⟩

set_option maxRecDepth 100000 in
set_option maxHeartbeats 2000000 in
theorem row_any (a b : ByteArray) (n : Nat) (w : World) (hn : n ≤ 1000) (ha : a.size ≤ 140737488351232) (hb : b.size ≤ 140737488351232) :
    Calls Tryd.prog 20 #[.string a, .string b, .int .i64 (n : Int)] w (RowEnd a b n w) := by
  have hmf : ∀ (fn : Fn) (first cap : Array Value) (w : World), (Instr.makeFunc fn first cap).run Tryd.prog w = .ok (.func fn first cap) w := fun _ _ _ _ => rfl
  go_enter Tryd.func20, Tryd.ntmps20
  go_wp2_with fail
  refine (right_any a b _ (by omega) (by omega)).mono ?_
  rintro e w1 ⟨rfl, hB⟩
  have hs1 := hB.size
  have hc0 : w1.cell? ⟨w.heap.size, 0, none⟩ = some (.string a) := by
    rw [hB.cell (by simp; omega), World.cell?_alloc_past _ _ _ (by simp), World.cell?_alloc_at _ _ _ _ rfl]; rfl
  have hc1 : w1.cell? ⟨w.heap.size + 1, 0, none⟩ = some (.string b) := by
    rw [hB.cell (by simp), World.cell?_alloc_at _ _ _ _ (by simp)]; rfl
  have hf0 : w1.frozen? ⟨w.heap.size, 0, none⟩ = false := by
    rw [hB.frozen (by simp; omega)]; simp
  have hBw : Below w.heap.size w w1 := (((Below.refl _ _).alloc (Nat.le_refl _) _).alloc (by simp) _).trans (hB.mono (by simp; omega))
  clear hB
  simp only [World.size_alloc] at hs1
  cases hr : Keys.right a b with
  | false =>
    go_wp2_with fail
    go_ret2
    exact .inr ⟨.inl hr, rfl, hBw⟩
  | true =>
    have HR := Lib.hid hr
    have E0 : Env (w1.alloc (Obj.cells #[Value.slice none 0 0] 29)) w.heap.size (w.heap.size + 1) w1.heap.size (w1.heap.size + 1) a b (.slice none 0 0) [] := by
      refine ⟨by omega, by omega, by omega, by simp, ?_, ?_, ?_, ?_, ?_, ⟨rfl, .inl ⟨rfl, rfl⟩⟩, ha, hb⟩
      · rw [World.cell?_alloc_past _ _ _ (show w.heap.size < w1.heap.size by omega)]; exact hc0
      · rw [World.cell?_alloc_past _ _ _ (show w.heap.size + 1 < w1.heap.size by omega)]; exact hc1
      · rw [World.cell?_alloc_at _ _ _ _ rfl]; rfl
      · rw [World.frozen?_alloc_past _ _ _ (show w.heap.size < w1.heap.size by omega)]; exact hf0
      · exact World.frozen?_alloc_at _ _ _ _ rfl
    have HE0 := Lib.hid E0
    have hBw2 : Below w.heap.size w (w1.alloc (Obj.cells #[Value.slice none 0 0] 29)) := hBw.alloc (by omega) _
    clear E0 hc0 hc1 hf0 hr
    go_wp2_with fail
    generalize w1.heap.size = bo at HE0 hs1 ⊢
    go_loopw [22] (fun i wr => ∃ (k : Nat) (ak : ByteArray) (v : Value) (ks : List ByteArray), i = .int .i64 k ∧ k ≤ n ∧ Hid (ks.length = k) ∧ Hid (Env wr w.heap.size (w.heap.size + 1) bo (bo + 1) ak b v ks) ∧ Below w.heap.size w wr ∧ Hid (rowB a b n = (rowB ak b (n - k)).map (ks ++ ·))) (fun i _ => n - (RowKit.intOf i).toNat)
    case atStart => exact ⟨0, a, _, [], rfl, Nat.zero_le _, rfl, HE0, hBw2, by show _ = _; simp⟩
    case round =>
      rename_i wr
      obtain ⟨k, ak, v, ks, rfl, hk, hks, hE, hB2, hrow⟩ := hrel
      clear HE0 hBw2
      by_cases hlt : k < n
      · have hrow' := hrow.out
        rw [show n - k = (n - (k + 1)) + 1 from by omega] at hrow'
        clear hrow
        rcases between_split ak b with ⟨q, hq, l1, l2, l3, l4, l5⟩ | ⟨hq, -⟩
        · rw [rowB_step hq] at hrow'
          have HQ := Lib.hid hq
          have Hrow := Lib.hid hrow'
          clear hq hrow' l1 l2 l3 l5
          go_wp2_with fail
          refine (next_any ak b q 0 _ _ _ _ v ks _ hE.out HQ.out l4 (by have := hks.out; omega)).mono ?_
          rintro e w2 ⟨v', rfl, E2, hB⟩
          have HE2 := Lib.hid E2
          have hB3 := hB2.trans hB
          clear E2 hB hB2
          go_wp2_with fail
          go_roundw
          case rel => exact ⟨k + 1, q, v', ks ++ [q], by go_num, by omega, by show _ = _; simp [hks.out], HE2, hB3, by
            show _ = _
            rw [Hrow.out, Option.map_map]
            congr 1
            funext r
            simp⟩
          case measure => simp [RowKit.intOf]; omega
        · rw [rowB_stop (k := ⟨#[]⟩) hq] at hrow'
          have HQ := Lib.hid (show Keys.between ak.toList b.toList = ((⟨#[]⟩ : ByteArray).data.toList, 43) from hq)
          have Hrow := Lib.hid hrow'
          clear hq hrow'
          go_wp2_with fail
          refine (next_any ak b ⟨#[]⟩ 43 _ _ _ _ v ks _ hE.out HQ.out (by decide) (by have := hks.out; omega)).mono ?_
          rintro e w2 ⟨v', rfl, E2, hB⟩
          have hB3 := hB2.trans hB
          clear E2 hB hB2
          go_wp2_with fail
          go_ret2
          exact .inr ⟨.inr (by rw [Hrow.out]; rfl), rfl, hB3⟩
      · have hkn : k = n := by omega
        have hfin : rowB a b n = some ks := by rw [hrow.out, hkn, Nat.sub_self]; simp [rowB]
        have co := hE.out.co
        have HF := Lib.hid hfin
        clear hfin hkn hrow
        go_wp2_with fail
        go_ret2
        exact .inl ⟨ks, v, HR.out, HF.out, rfl, owns_mono hE.out.own (by omega), hB2⟩

end Go.Proofs.YtbjjohfpdphpfaaDoor
