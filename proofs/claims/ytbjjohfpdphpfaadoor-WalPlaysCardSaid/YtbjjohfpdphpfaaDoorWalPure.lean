/- Logs as plain data: what an opening finds, what an append leaves. No program in sight. -/
import Derived.Test.YtbjjohfpdphpfaaDoorWalAwake
namespace Go.Proofs.YtbjjohfpdphpfaaDoor.Wal
open Go Go.Proofs.YtbjjohfpdphpfaaDoor.Dsk Go.Proofs.YtbjjohfpdphpfaaDoor.Frm

/-! Frames. -/
theorem getD_app (b y : List UInt8) (n i : Nat) (hi : i < n) (hn : n ≤ b.length) : (b.take n ++ y).getD i 0 = b.getD i 0 := by
  rw [List.getD_eq_getElem?_getD, List.getD_eq_getElem?_getD, List.getElem?_append_left (by simp; omega), List.getElem?_take, if_pos hi]
theorem num_app (b y : List UInt8) (n : Nat) (h4 : 4 ≤ n) (hn : n ≤ b.length) : num (b.take n ++ y) = num b := by
  unfold num
  rw [getD_app b y n 0 (by omega) hn, getD_app b y n 1 (by omega) hn, getD_app b y n 2 (by omega) hn, getD_app b y n 3 (by omega) hn]
theorem first_app {b : List UInt8} (y : List UInt8) (h : (firstE b).2 = 0) : num (b.take (num b + 8) ++ y) = num b ∧ (firstE (b.take (num b + 8) ++ y)).2 = 0 ∧ bodyOf (b.take (num b + 8) ++ y) = bodyOf b ∧ (b.take (num b + 8) ++ y).drop (num b + 8) = y := by
  have hok := firstE_ok h
  have hn := num_app b y (num b + 8) (by omega) hok.2.2
  have hlen : (b.take (num b + 8)).length = num b + 8 := by rw [List.length_take]; omega
  have hsum : num (b.drop (num b + 4)) = crc (b.take (num b + 4)) := by
    unfold firstE at h
    rw [if_neg (by omega), if_neg (by omega), if_neg (by omega)] at h
    by_cases hs : num (b.drop (num b + 4)) = crc (b.take (num b + 4))
    · exact hs
    · rw [if_neg hs] at h; simp at h
  have ht : (b.take (num b + 8) ++ y).take (num b + 4) = b.take (num b + 4) := by
    rw [List.take_append_of_le_length (by omega), List.take_take, Nat.min_eq_left (by omega)]
  have hd : (b.take (num b + 8) ++ y).drop (num b + 4) = (b.drop (num b + 4)).take 4 ++ y := by
    rw [List.drop_append_of_le_length (by omega), List.drop_take]
    congr 2
    omega
  refine ⟨hn, ?_, ?_, ?_⟩
  · unfold firstE
    rw [hn, if_neg (by simp; omega), if_neg (by omega), if_neg (by simp; omega), ht, hd, num_app _ _ 4 (by omega) (by simp; omega), if_pos hsum]
  · unfold bodyOf
    rw [hn, List.drop_append_of_le_length (by omega), List.take_append_of_le_length (by simp; omega), List.drop_take, List.take_take]
    congr 1
    omega
  · have := List.drop_left (l₁ := b.take (num b + 8)) (l₂ := y)
    rwa [hlen] at this

theorem split_app (r : List UInt8) : ∀ (k : Nat) (b : List UInt8), b.length ≤ k → Frm.split (b.take (Frm.split b).2 ++ r) = ((Frm.split b).1 ++ (Frm.split r).1, (Frm.split b).2 + (Frm.split r).2) := by
  intro k
  induction k with
  | zero =>
    intro b hk
    obtain rfl : b = [] := List.eq_nil_of_length_eq_zero (by omega)
    have h0 : Frm.split [] = ([], 0) := split_nil (by simp [firstE])
    rw [h0]; simp
  | succ k ih =>
    intro b hk
    by_cases h : (firstE b).2 = 0
    · have hok := firstE_ok h
      have hs := split_cons h
      have hi := ih (b.drop (num b + 8)) (by simp; omega)
      generalize hb' : Frm.split (b.drop (num b + 8)) = q at *
      obtain ⟨bs, p⟩ := q
      simp only at hs hi
      rw [hs]
      simp only
      have e1 : b.take (num b + 8 + p) ++ r = b.take (num b + 8) ++ ((b.drop (num b + 8)).take p ++ r) := by
        rw [← List.append_assoc, List.take_add]
      obtain ⟨g1, g2, g3, g4⟩ := first_app ((b.drop (num b + 8)).take p ++ r) h
      rw [e1, split_cons g2, g1, g3, g4, hi]
      refine Prod.ext ?_ ?_
      · simp
      · simp; omega
    · rw [split_nil h]; simp

theorem frame_first (l r : List UInt8) (hl : l.length ≤ maxBody) : num (frame l ++ r) = l.length ∧ (firstE (frame l ++ r)).2 = 0 ∧ bodyOf (frame l ++ r) = l ∧ (frame l ++ r).drop (l.length + 8) = r := by
  have hm : l.length < 4294967296 := by unfold maxBody at hl; omega
  have hn : num (frame l ++ r) = l.length := by
    unfold frame
    rw [List.append_assoc, List.append_assoc]
    exact num_four hm _
  have h4 : ∀ n, (four n).length = 4 := fun _ => rfl
  have hlen : (frame l ++ r).length = l.length + 8 + r.length := by unfold frame; simp only [List.length_append, h4]; omega
  have ht : (frame l ++ r).take (l.length + 4) = four l.length ++ l := by
    unfold frame
    rw [List.append_assoc]
    have := List.take_left (l₁ := four l.length ++ l) (l₂ := four (crc (four l.length ++ l)) ++ r)
    rwa [List.length_append, h4, Nat.add_comm] at this
  have hd : (frame l ++ r).drop (l.length + 4) = four (crc (four l.length ++ l)) ++ r := by
    unfold frame
    rw [List.append_assoc]
    have := List.drop_left (l₁ := four l.length ++ l) (l₂ := four (crc (four l.length ++ l)) ++ r)
    rwa [List.length_append, h4, Nat.add_comm] at this
  refine ⟨hn, ?_, ?_, ?_⟩
  · unfold firstE
    rw [hn, if_neg (by omega), if_neg (by omega), if_neg (by omega), ht, hd, num_four (crc_lt _), if_pos rfl]
  · unfold bodyOf
    rw [hn]
    unfold frame
    rw [List.append_assoc, List.append_assoc]
    have := List.drop_left (l₁ := four l.length) (l₂ := l ++ (four (crc (four l.length ++ l)) ++ r))
    rw [h4] at this
    rw [this, List.take_left]
  · rw [show l.length + 8 = l.length + 4 + 4 from by omega, ← List.drop_drop, hd]
    have := List.drop_left (l₁ := four (crc (four l.length ++ l))) (l₂ := r)
    rwa [h4] at this
theorem frame_length (l : List UInt8) : (frame l).length = l.length + 8 := by
  have h4 : ∀ n, (four n).length = 4 := fun _ => rfl
  unfold frame; simp only [List.length_append, h4]; omega
theorem split_frame (l r : List UInt8) (hl : l.length ≤ maxBody) : Frm.split (frame l ++ r) = (l :: (Frm.split r).1, l.length + 8 + (Frm.split r).2) := by
  obtain ⟨h1, h2, h3, h4⟩ := frame_first l r hl
  rw [split_cons h2, h1, h3, h4]
theorem split_empty : Frm.split [] = ([], 0) := split_nil (by simp [firstE])

/-! A disk whose one file is a log's. -/
def oneF (R : Nat) (N : ByteArray) (b : List UInt8) (s : Nat) : DiskM := ⟨R, [(N, ⟨b, s⟩)], false, none⟩
section
variable {R : Nat} {N : ByteArray} {b x : List UInt8} {s : Nat}
theorem oneF_new (hN : isName N.toList = true) (h : x.length ≤ R) (hw : x.length ≤ whole) : append (new (R : Int)) N x = (oneF R N x 0, 0) := by
  have hR : (max (R : Int) 0).toNat = R := by omega
  have hE : appendE (new (R : Int)) N x = 0 := by
    unfold appendE
    rw [hN, if_pos rfl, if_neg]
    unfold new
    simp only [total, List.length_nil, hR]
    omega
  unfold append
  rw [hE]
  unfold new operate oneF
  simp [appendP, List.take_of_length_le hw, fileOf, mget_nil, mput, mhas]
theorem oneF_append (hN : isName N.toList = true) (h : b.length + x.length ≤ R) (hw : x.length ≤ whole) : append (oneF R N b s) N x = (oneF R N (b ++ x) s, 0) := by
  have hE : appendE (oneF R N b s) N x = 0 := by
    unfold appendE
    rw [hN, if_pos rfl, if_neg]
    unfold oneF
    simp [total, mhas, mget_cons]
    omega
  unfold append
  rw [hE]
  unfold oneF operate
  simp [appendP, List.take_of_length_le hw, fileOf, mget_cons, mput, mhas]
theorem oneF_read : Dsk.read (oneF R N b s) N = (b, 0) := by
  unfold Dsk.read oneF
  simp [fileOf, mget_cons, mhas]
theorem new_read {r : Int} : Dsk.read (new r) N = ([], 70) := by
  unfold Dsk.read new
  simp [mhas, mget_nil]
theorem oneF_shorten (k : Nat) : shorten (oneF R N b s) N (k : Int) = (oneF R N (b.take k) (min s (min k b.length)), 0) := by
  have h : shortenE (oneF R N b s) N (k : Int) = 0 := by
    unfold shortenE noneE oneF
    simp [mhas, mget_cons]
  unfold shorten
  rw [h]
  unfold oneF operate
  simp [shortenP, fileOf, mget_cons, mput, mhas, whole]
theorem oneF_open (hN : isName N.toList = true) : ∃ s', walOpen (oneF R N b s) N = ⟨oneF R N (b.take (Frm.split b).2) s', some ⟨0, N, (Frm.split b).1.length, 0⟩, (Frm.split b).1, 0⟩ := by
  have hle := (split_le b).1
  unfold walOpen
  rw [hN, if_pos rfl, oneF_read, if_neg (by simp)]
  simp only
  split
  · rw [oneF_shorten, if_pos rfl]
    exact ⟨_, rfl⟩
  · refine ⟨s, ?_⟩
    rw [List.take_of_length_le (by omega)]
theorem new_open {r : Int} (hN : isName N.toList = true) : walOpen (new r) N = ⟨new r, some ⟨0, N, 0, 0⟩, [], 0⟩ := by
  unfold walOpen
  rw [hN, if_pos rfl, new_read, if_neg (by simp)]
  simp only [split_empty]
  rw [if_neg (by simp)]
  rfl
theorem oneF_walAppend (hN : isName N.toList = true) {c u : Nat} (hx : x.length ≤ maxBody) (h : b.length + (x.length + 8) ≤ R) : walAppend (oneF R N b s) ⟨0, N, c, u⟩ x = (oneF R N (b ++ frame x) s, ⟨0, N, c + 1, u⟩, 0) := by
  unfold walAppend
  rw [if_pos rfl, if_neg (by omega), oneF_append hN (by rw [frame_length]; omega) (by rw [frame_length]; unfold whole; unfold maxBody at hx; omega), if_pos rfl]
theorem new_walAppend (hN : isName N.toList = true) {c u : Nat} (hx : x.length ≤ maxBody) (h : x.length + 8 ≤ R) : walAppend (new (R : Int)) ⟨0, N, c, u⟩ x = (oneF R N (frame x) 0, ⟨0, N, c + 1, u⟩, 0) := by
  unfold walAppend
  rw [if_pos rfl, if_neg (by omega), oneF_new hN (by rw [frame_length]; omega) (by rw [frame_length]; unfold whole; unfold maxBody at hx; omega), if_pos rfl]
end
theorem nmLog_name : isName nmLog.toList = true := by decide +kernel

end Go.Proofs.YtbjjohfpdphpfaaDoor.Wal
