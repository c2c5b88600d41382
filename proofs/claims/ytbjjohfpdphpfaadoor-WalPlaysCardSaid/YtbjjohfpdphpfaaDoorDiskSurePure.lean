/- DiskSure, the plain law: what a file holds while bytes are appended and the power goes off. No program in sight. -/
import Derived.Test.YtbjjohfpdphpfaaDoorDiskAwake
namespace Go.Proofs.YtbjjohfpdphpfaaDoor.Dsk
open Go

/-- A disk whose one file is 'a'. -/
def one (room : Nat) (off : Bool) (cut : Option (Nat × Nat × Nat)) (b : List UInt8) (s : Nat) : DiskM := ⟨room, [(nmA, ⟨b, s⟩)], off, cut⟩

theorem one_file (b : List UInt8) (s : Nat) : fileOf [(nmA, ⟨b, s⟩)] nmA = ⟨b, s⟩ := by unfold fileOf; rw [mget_cons, if_pos rfl]; rfl
theorem one_has (f : FileM) : mhas [(nmA, f)] nmA = true := by unfold mhas; rw [mget_cons, if_pos rfl]; rfl
theorem one_put (f f' : FileM) : mput [(nmA, f)] nmA f' = [(nmA, f')] := by unfold mput; rw [one_has]; simp
theorem nmA_name : isName nmA.toList = true := by decide +kernel

theorem one_appendE {room : Nat} {off : Bool} {cut : Option (Nat × Nat × Nat)} {b : List UInt8} {s : Nat} {x : List UInt8} (h : b.length + x.length ≤ room) : appendE (one room off cut b s) nmA x = 0 := by
  unfold appendE
  rw [nmA_name, if_pos rfl, if_neg]
  unfold one
  simp only [total, one_has]
  simp
  omega

/-- An append while the power stays on. -/
theorem one_later {room : Nat} {o p k : Nat} {b x : List UInt8} {s : Nat} (h : b.length + x.length ≤ room) (hx : x.length ≤ whole) :
    append (one room false (some (o + 1, p, k)) b s) nmA x = (one room false (some (o, p, k)) (b ++ x) s, 0) := by
  unfold append
  rw [one_appendE h]
  unfold one operate
  simp only [appendP, one_file, one_put, List.take_of_length_le hx]
  rfl

theorem take_part (b x : List UInt8) (q m : Nat) (hm : m ≤ b.length + q) : (b ++ x.take q).take m = (b ++ x).take m := by
  have h : b ++ x.take q = (b ++ x).take (b.length + q) := by rw [List.take_length_add_append]
  rw [h, List.take_take, Nat.min_eq_left hm]

/-- The append at which the power goes off. -/
theorem one_cut {room : Nat} {p k : Nat} {b x : List UInt8} {s : Nat} (h : b.length + x.length ≤ room) (hs : s ≤ b.length) :
    ∃ m, append (one room false (some (0, p, k)) b s) nmA x = (one room true none ((b ++ x).take m) m, 71) ∧ s ≤ m ∧ m ≤ (b ++ x).length := by
  refine ⟨leftOf k ⟨b ++ x.take (min p (whole - 1)), s⟩, ?_, ?_, ?_⟩
  · unfold append
    rw [one_appendE h]
    unfold one operate fallP fallF
    simp only [appendP, one_file, one_put, List.map_cons, List.map_nil, if_true, Bool.false_eq_true, if_false]
    rw [take_part b x _ _ (by unfold leftOf; simp only [List.length_append, List.length_take]; omega)]
  · unfold leftOf; simp only [List.length_append]; omega
  · unfold leftOf; simp only [List.length_append, List.length_take]; omega

/-- An append while the power is off. -/
theorem one_off {room : Nat} {b x : List UInt8} {s : Nat} {c : Option (Nat × Nat × Nat)} : append (one room true c b s) nmA x = (one room true c b s, 71) := rfl

theorem one_new {R : Nat} {b : List UInt8} (h : b.length ≤ R) (hw : b.length ≤ whole) : append (new (R : Int)) nmA b = (one R false none b 0, 0) := by
  have hE : appendE (new (R : Int)) nmA b = 0 := by
    unfold appendE
    rw [nmA_name, if_pos rfl, if_neg]
    unfold new
    simp only [total, List.length_nil]
    have : (max (R : Int) 0).toNat = R := by omega
    rw [this]
    omega
  have hR : (max (R : Int) 0).toNat = R := by omega
  unfold append
  rw [hE]
  unfold new operate one
  simp only [appendP, hR, List.take_of_length_le hw]
  rfl
theorem one_sync {R : Nat} {b : List UInt8} {s : Nat} : sync (one R false none b s) nmA = (one R false none b b.length, 0) := by
  have hE : noneE (one R false none b s) nmA = 0 := by unfold noneE one; simp only [one_has]; rfl
  unfold sync
  rw [hE]
  unfold one operate
  simp only [syncP, one_file, one_put, if_true]
  rfl
theorem one_cutTo {R : Nat} {b : List UInt8} {s : Nat} {n p k : Int} (hn : 0 ≤ n) (hp : 0 ≤ p) (hk : 0 ≤ k) : cutTo (one R false none b s) n p k = (one R false (some (n.toNat, p.toNat, k.toNat)) b s, 0) := by
  unfold cutTo
  rw [if_neg (by omega)]
  rfl
theorem one_on {R : Nat} {off : Bool} {c : Option (Nat × Nat × Nat)} {b : List UInt8} {s : Nat} : on (one R off c b s) = one R false none b s := rfl
theorem one_read {R : Nat} {b : List UInt8} {s : Nat} {c : Option (Nat × Nat × Nat)} : read (one R false c b s) nmA = (b, 0) := by
  unfold read one
  simp only [one_has, one_file]
  rfl

/-- What was appended first. -/
def firsts (b : List UInt8) (ls : List (List UInt8)) (i : Nat) : List UInt8 := b ++ (ls.take i).flatten
theorem firsts_zero (b : List UInt8) (ls : List (List UInt8)) : firsts b ls 0 = b := by simp [firsts]
theorem firsts_succ (b : List UInt8) (ls : List (List UInt8)) (i : Nat) (l : List UInt8) (h : ls[i]? = some l) : firsts b ls (i + 1) = firsts b ls i ++ l := by
  have hl := (List.getElem?_eq_some_iff.1 h)
  unfold firsts
  rw [List.take_add_one, h]
  simp

/-- The disk within the loop. -/
def SureAt (n p k s : Nat) (b : List UInt8) (ls : List (List UInt8)) (i : Nat) (D : DiskM) : Prop :=
  (i ≤ n ∧ D = one 1000000 false (some (n - i, p, k)) (firsts b ls i) s) ∨
  (n < i ∧ ∃ m, D = one 1000000 true none ((firsts b ls (n + 1)).take m) m ∧ s ≤ m ∧ m ≤ (firsts b ls (n + 1)).length)

theorem sure_step {n p k s : Nat} {b : List UInt8} {ls : List (List UInt8)} {i : Nat} {D : DiskM} {l : List UInt8} (h : SureAt n p k s b ls i D) (hl : ls[i]? = some l) (hs : s ≤ b.length) (hr : (firsts b ls i).length + l.length ≤ 1000000) :
    SureAt n p k s b ls (i + 1) (append D nmA l).1 ∧ ((append D nmA l).2 = 0 ↔ (append D nmA l).1.off = false) := by
  rcases h with ⟨hi, rfl⟩ | ⟨hi, m, rfl, h1, h2⟩
  · by_cases e : i = n
    · subst e
      rw [Nat.sub_self]
      obtain ⟨m, hm, h1, h2⟩ := one_cut (p := p) (k := k) (s := s) hr (Nat.le_trans hs (by unfold firsts; simp))
      rw [hm]
      refine ⟨.inr ⟨Nat.lt_succ_self _, m, ?_, h1, ?_⟩, ?_⟩
      · rw [firsts_succ b ls i l hl]
      · rw [firsts_succ b ls i l hl]; exact h2
      · simp [one]
    · rw [show n - i = (n - (i + 1)) + 1 from by omega, one_later hr (by unfold whole; omega)]
      refine ⟨.inl ⟨by omega, ?_⟩, by simp [one]⟩
      rw [firsts_succ b ls i l hl]
  · rw [one_off]
    exact ⟨.inr ⟨by omega, m, rfl, h1, h2⟩, by simp [one]⟩

theorem keep_drawn (w : World) (d : Nat) : Keep (fun _ => False) w { heap := w.heap, tape := w.tape, drawn := d, os := w.os, output := w.output } := ⟨rfl, rfl, rfl, Nat.le_refl _, fun _ _ _ => rfl⟩
theorem bytes_append (x y : List UInt8) : (⟨x.toArray⟩ : ByteArray) ++ ⟨y.toArray⟩ = ⟨(x ++ y).toArray⟩ := by
  apply ByteArray.ext
  simp

/-- Behind the loop. -/
theorem sure_end {n p k s : Nat} {b : List UInt8} {ls : List (List UInt8)} {D : DiskM} (h : SureAt n p k s b ls ls.length D) (hs : s ≤ b.length) :
    ∃ x, read (on D) nmA = (x, 0) ∧ s ≤ x.length ∧ x.length ≤ (firsts b ls (min ls.length (n + 1))).length ∧ x = (firsts b ls (min ls.length (n + 1))).take x.length ∧ D.off = decide (n < ls.length) ∧ (D.off = false → x.length = (firsts b ls (min ls.length (n + 1))).length) := by
  rcases h with ⟨hi, rfl⟩ | ⟨hi, m, rfl, h1, h2⟩
  · rw [Nat.min_eq_left (by omega), one_on, one_read]
    refine ⟨_, rfl, ?_, Nat.le_refl _, (List.take_length).symm, ?_, fun _ => rfl⟩
    · unfold firsts; simp only [List.length_append]; omega
    · simp [one, hi]
  · rw [Nat.min_eq_right (by omega), one_on, one_read]
    have hl : ((firsts b ls (n + 1)).take m).length = m := by rw [List.length_take]; omega
    refine ⟨_, rfl, ?_, ?_, ?_, ?_, ?_⟩
    · omega
    · omega
    · rw [hl]
    · simp [one, hi]
    · simp [one]

end Go.Proofs.YtbjjohfpdphpfaaDoor.Dsk
