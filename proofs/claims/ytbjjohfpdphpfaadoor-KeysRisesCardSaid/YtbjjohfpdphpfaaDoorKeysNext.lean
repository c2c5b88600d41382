/- keys.Row's closure, walked: it steps from one key to the next one. -/
import Derived.Test.YtbjjohfpdphpfaaDoorKeysDense
namespace Go.Proofs.YtbjjohfpdphpfaaDoor
open Go.RowKit Go.Lib

theorem info_string : (Tryd.prog.info? 9).map (fun i => (i.zero, i.size, i.bytes)) = some (some (.string ⟨#[]⟩), 1, 16) := by kernel_rfl

/-- The closure's variables: a, b, and what was made so far. -/
structure Env (W : World) (ba bb bo base : Nat) (a b : ByteArray) (v : Value) (ks : List ByteArray) : Prop where
  ab : ba < bb
  bo_ : bb < bo
  ob : bo < base
  size : base ≤ W.heap.size
  ca : W.cell? ⟨ba, 0, none⟩ = some (.string a)
  cb : W.cell? ⟨bb, 0, none⟩ = some (.string b)
  co : W.cell? ⟨bo, 0, none⟩ = some v
  fa : W.frozen? ⟨ba, 0, none⟩ = false
  fo : W.frozen? ⟨bo, 0, none⟩ = false
  own : W.ownsRow base 9 1 v ks.length (ks.map Value.string)
  la : a.size ≤ 140737488351232
  lb : b.size ≤ 140737488351232

theorem Env.below {W W' : World} {ba bb bo base : Nat} {a b : ByteArray} {v : Value} {ks : List ByteArray} (E : Env W ba bb bo base a b v ks) (h : Below W.heap.size W W') : Env W' ba bb bo base a b v ks := by
  have := E.ab; have := E.bo_; have := E.ob; have := E.size
  refine ⟨E.ab, E.bo_, E.ob, Nat.le_trans E.size h.size, ?_, ?_, ?_, ?_, ?_, ?_, E.la, E.lb⟩
  · rw [h.cell (by simp; omega)]; exact E.ca
  · rw [h.cell (by simp; omega)]; exact E.cb
  · rw [h.cell (by simp; omega)]; exact E.co
  · rw [h.frozen (by simp; omega)]; exact E.fa
  · rw [h.frozen (by simp; omega)]; exact E.fo
  · obtain ⟨h1, h2⟩ := E.own
    refine ⟨h1, ?_⟩
    rcases h2 with h2 | ⟨g, cap, cur, hv, hg, hh, r⟩
    · exact .inl h2
    · refine .inr ⟨g, cap, cur, hv, hg, ?_, r⟩
      rw [h.block g ?_]
      · exact hh
      · by_cases hlt : g < W.heap.size
        · exact hlt
        · rw [Array.getElem?_eq_none (by omega)] at hh; cases hh

theorem Env.step {W W2 : World} {ba bb bo base : Nat} {a b k : ByteArray} {v v' : Value} {ks : List ByteArray} (E : Env W ba bb bo base a b v ks)
    (h : Below base W W2) (ho : W2.ownsRow base 9 1 v' (ks.length + 1) (ks.map Value.string ++ [Value.string k])) (lk : k.size ≤ 200) :
    Env ((W2.setCell ⟨ba, 0, none⟩ (.string k)).setCell ⟨bo, 0, none⟩ v') ba bb bo base k b v' (ks ++ [k]) := by
  have h1 := E.ab; have h2 := E.bo_; have h3 := E.ob; have h4 := E.size
  have ca : W2.cell? ⟨ba, 0, none⟩ = some (.string a) := by rw [h.cell (by simp; omega)]; exact E.ca
  have cb : W2.cell? ⟨bb, 0, none⟩ = some (.string b) := by rw [h.cell (by simp; omega)]; exact E.cb
  have co : W2.cell? ⟨bo, 0, none⟩ = some v := by rw [h.cell (by simp; omega)]; exact E.co
  have fa : W2.frozen? ⟨ba, 0, none⟩ = false := by rw [h.frozen (by simp; omega)]; exact E.fa
  have fo : W2.frozen? ⟨bo, 0, none⟩ = false := by rw [h.frozen (by simp; omega)]; exact E.fo
  have n1 : (⟨bo, 0, none⟩ : Addr) ≠ ⟨ba, 0, none⟩ := by intro e; injection e; omega
  have n2 : (⟨bo, 0, none⟩ : Addr) ≠ ⟨bb, 0, none⟩ := by intro e; injection e; omega
  have n3 : (⟨ba, 0, none⟩ : Addr) ≠ ⟨bb, 0, none⟩ := by intro e; injection e; omega
  have n4 : (⟨ba, 0, none⟩ : Addr) ≠ ⟨bo, 0, none⟩ := by intro e; injection e; omega
  refine ⟨h1, h2, h3, by have := h.size; simp; omega, ?_, ?_, ?_, ?_, ?_, ?_, by omega, E.lb⟩
  · rw [World.cell?_setCell_other _ _ _ _ n1]
    exact World.cell?_setCell_same _ _ _ ca
  · rw [World.cell?_setCell_other _ _ _ _ n2, World.cell?_setCell_other _ _ _ _ n3]; exact cb
  · exact World.cell?_setCell_same _ _ _ (by rw [World.cell?_setCell_other _ _ _ _ n4]; exact co)
  · rw [World.frozen?_setCell, World.frozen?_setCell]; exact fa
  · rw [World.frozen?_setCell, World.frozen?_setCell]; exact fo
  · have := ownsRow_setCell_below (ownsRow_setCell_below ho (a := ⟨ba, 0, none⟩) (show ba < base by omega) (.string k)) (a := ⟨bo, 0, none⟩) (show bo < base by omega) v'
    simpa using this

set_option maxRecDepth 100000 in
set_option maxHeartbeats 2000000 in
theorem next_any (a b k : ByteArray) (n : Int) (ba bb bo base : Nat) (v : Value) (ks : List ByteArray) (W : World) (E : Env W ba bb bo base a b v ks)
    (hk : Keys.between a.toList b.toList = (k.data.toList, n)) (lk : k.size ≤ 200) (hn : ks.length ≤ 1000) :
    Calls Tryd.prog 45 #[.pointer (some ⟨ba, 0, none⟩), .pointer (some ⟨bb, 0, none⟩), .pointer (some ⟨bo, 0, none⟩)] W fun e w' =>
      ∃ v', e = .returned (.bool (n == 0)) ∧ Env w' ba bb bo base k b v' (ks ++ [k]) ∧ Below ba W w' := by
  have Hk := Lib.hid hk
  have HE := Lib.hid E
  have ca := E.ca; have cb := E.cb
  have la := E.la; have lb := E.lb
  clear hk E
  go_enter Tryd.func45, Tryd.ntmps45
  go_wp2_with fail
  refine (between_is a b k n _ (by omega) (by omega) Hk.out).mono ?_
  rintro e w1 ⟨rfl, hB⟩
  have E1 := HE.out.below hB
  have HE1 := Lib.hid E1
  have h1 := E1.ab; have h2 := E1.bo_; have h3 := E1.ob; have h4 := E1.size
  have ca := E1.ca; have co := E1.co; have fa := E1.fa; have fo := E1.fo
  have hown := E1.own
  clear E1
  clear h4
  go_wp2_with (at_builtin; refine wpList_append_one rfl (.tmp 13) (.tmp 15) 29 9 rfl (.string ⟨#[]⟩) 1 16 Tryd.underlying29 info_string rfl (by decide) rfl hown rfl rfl ?_ ?_ ?_ ?_ ?_; simp [Value.oneCell']; unfold maxLen; omega; omega; exact HE1.out.size; intro v1 w2 hown1 hB2 hg2; obtain ⟨ao1, cap1, rfl⟩ := own_slice hown1; have E2 := HE1.out.step hB2 hown1 lk; have HE2 := Lib.hid E2; have HB2 := Lib.hid hB2; have c1 : w2.cell? ⟨ba, 0, none⟩ = some (.string a) := (hB2.cell (show ba < base by omega)).trans ca; have c2 : w2.cell? ⟨bo, 0, none⟩ = some v := (hB2.cell (show bo < base by omega)).trans co; have f1 : w2.frozen? ⟨ba, 0, none⟩ = false := (hB2.frozen (show ba < base by omega)).trans fa; have f2 : w2.frozen? ⟨bo, 0, none⟩ = false := (hB2.frozen (show bo < base by omega)).trans fo; have nb : ¬ ba = bo := (by omega); clear E2 hB2 hown1 hg2 hown ca co fa fo)
  go_ret
  refine ⟨_, rfl, HE2.out, ?_⟩
  have hs := HE1.out.size
  have q1 : Below ba W w1 := hB.mono (by have := HE.out.size; have := HE.out.ab; have := HE.out.bo_; have := HE.out.ob; omega)
  have q2 := q1.trans (HB2.out.mono (show ba ≤ base by omega))
  exact (q2.setCell (p := ⟨ba, 0, none⟩) (Nat.le_refl _) _).setCell (p := ⟨bo, 0, none⟩) (show ba ≤ bo by omega) _

end Go.Proofs.YtbjjohfpdphpfaaDoor
