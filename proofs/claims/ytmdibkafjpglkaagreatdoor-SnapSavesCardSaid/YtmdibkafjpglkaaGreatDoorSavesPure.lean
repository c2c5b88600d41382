/- A frame is read back. No program in sight. Saving, plain: what a file that is saved is loaded as; a saving within which the power may go off. No program in sight. -/
import Derived.Test.YtmdibkafjpglkaaGreatDoorFramePure
import Derived.Test.YtmdibkafjpglkaaGreatDoorSnapNil
import Derived.Test.YtmdibkafjpglkaaGreatDoorDiskTidy
namespace Go.Proofs.YtmdibkafjpglkaaGreatDoor.Frm
open Go
theorem first_of_frame (l r : List UInt8) (hl : l.length ≤ maxBody) : num (frame l ++ r) = l.length ∧ (firstE (frame l ++ r)).2 = 0 ∧ bodyOf (frame l ++ r) = l ∧ (frame l ++ r).drop (l.length + 8) = r := by
  have hm : l.length < 4294967296 := by unfold maxBody at hl; omega
  have hn : num (frame l ++ r) = l.length := by
    unfold frame
    rw [List.append_assoc, List.append_assoc]
    exact num_four hm _
  have h4 : ∀ n, (four n).length = 4 := fun _ => rfl
  have hlen : (frame l ++ r).length = l.length + 8 + r.length := by unfold frame; simp only [List.length_append, h4]; omega
  have ht : (frame l ++ r).take (l.length + 4) = four l.length ++ l := by
    unfold frame
    rw [List.append_assoc]
    have := List.take_left (l₁ := four l.length ++ l) (l₂ := four (crc (four l.length ++ l)) ++ r)
    rwa [List.length_append, h4, Nat.add_comm] at this
  have hd : (frame l ++ r).drop (l.length + 4) = four (crc (four l.length ++ l)) ++ r := by
    unfold frame
    rw [List.append_assoc]
    have := List.drop_left (l₁ := four l.length ++ l) (l₂ := four (crc (four l.length ++ l)) ++ r)
    rwa [List.length_append, h4, Nat.add_comm] at this
  refine ⟨hn, ?_, ?_, ?_⟩
  · unfold firstE
    rw [hn, if_neg (by omega), if_neg (by omega), if_neg (by omega), ht, hd, num_four (crc_lt _), if_pos rfl]
  · unfold bodyOf
    rw [hn]
    unfold frame
    rw [List.append_assoc, List.append_assoc]
    have := List.drop_left (l₁ := four l.length) (l₂ := l ++ (four (crc (four l.length ++ l)) ++ r))
    rw [h4] at this
    rw [this, List.take_left]
  · rw [show l.length + 8 = l.length + 4 + 4 from by omega, ← List.drop_drop, hd]
    have := List.drop_left (l₁ := four (crc (four l.length ++ l))) (l₂ := r)
    rwa [h4] at this
theorem len_of_frame (l : List UInt8) : (frame l).length = l.length + 8 := by
  have h4 : ∀ n, (four n).length = 4 := fun _ => rfl
  unfold frame; simp only [List.length_append, h4]; omega
end Go.Proofs.YtmdibkafjpglkaaGreatDoor.Frm

namespace Go.Proofs.YtmdibkafjpglkaaGreatDoor.Snp
open Go Go.Proofs.YtmdibkafjpglkaaGreatDoor.Dsk Go.Proofs.YtmdibkafjpglkaaGreatDoor.Frm Go.Proofs.YtmdibkafjpglkaaGreatDoor.Num Go.Proofs.YtmdibkafjpglkaaGreatDoor.Wal

/-- If there was no error, go on. -/
def onward (r : DiskM × Int) (f : DiskM → DiskM × Int) : DiskM × Int := if r.2 = 0 then f r.1 else r
theorem onward_ok {r : DiskM × Int} {f : DiskM → DiskM × Int} (h : r.2 = 0) : onward r f = f r.1 := by unfold onward; rw [if_pos h]
theorem onward_err {r : DiskM × Int} {f : DiskM → DiskM × Int} (h : r.2 = 71) : onward r f = r := by unfold onward; rw [if_neg (by rw [h]; decide)]
/-- The name of what is to be there. -/
def dotNew : ByteArray := ⟨#[46, 110, 101, 119]⟩
def saveR (D : DiskM) (fr : ByteArray) : DiskM × Int := if mhas D.files fr then remove D fr else (D, 0)
/-- The operations of a saving. -/
def saveQ (D : DiskM) (fr name : ByteArray) (x : List UInt8) : DiskM × Int :=
  onward (onward (onward (saveR D fr) (fun E => append E fr x)) (fun E => sync E fr)) (fun E => rename E fr name)
def saveP (D : DiskM) (name : ByteArray) (gen : Int) (b : List UInt8) : DiskM × Int :=
  if gen < 0 then (D, 1) else if isName (name ++ dotNew).toList = false then (D, 61) else if maxBody < (intB gen ++ b).length then (D, 81) else if D.off then (D, 71) else saveQ D (name ++ dotNew) name (frame (intB gen ++ b))

theorem intB_len (z : Int) : (intB z).length ≤ 9 := by
  unfold intB uintB
  rw [List.length_cons, low_len]
  have := size_pos (zig z)
  omega
/-- What is saved is loaded. -/
theorem file_saved (g : Int) (b : List UInt8) (h0 : 0 ≤ g) (h1 : g < 9223372036854775808) (hl : b.length ≤ 1000000) : fileF (frame (intB g ++ b)) = (g, b, 0) := by
  have hi := intB_len g
  have hb : (intB g ++ b).length ≤ maxBody := by rw [List.length_append]; unfold maxBody; omega
  obtain ⟨f1, f2, f3, f4⟩ := first_of_frame (intB g ++ b) [] hb
  rw [List.append_nil] at f1 f2 f3 f4
  have hz : zig g < 18446744073709551616 := by unfold zig; rw [if_pos h0]; omega
  have ht : takeU (intB g ++ b) = (0, zig g, b) := take_put (zig g) hz b
  unfold fileF nextF
  rw [if_pos f2]
  simp only [if_true]
  rw [f3, f1, f4]
  unfold bodyF
  rw [ht, zag_zig]
  simp only [List.length_nil, if_true]
  rw [if_neg (by omega)]
  have hd : (intB g ++ b).drop ((intB g ++ b).length - b.length) = b := by rw [List.length_append, Nat.add_sub_cancel, List.drop_left]
  rw [hd]

/-! A disk of three files. -/
def nmOther : ByteArray := ⟨#[111, 116, 104, 101, 114]⟩
def nmNew : ByteArray := ⟨#[115, 46, 110, 101, 119]⟩
/-- The three files, as they are found. -/
structure Three (fs : Files) (S : Option FileM) : Prop where
  nodup : (fs.map (·.1)).Nodup
  only : ∀ p ∈ fs, p.1 = nmOther ∨ p.1 = nmS ∨ p.1 = nmNew
  small : ∀ p ∈ fs, p.2.b.length ≤ 1100
  other : mget fs nmOther = some ⟨[120], 1⟩
  s : mget fs nmS = S

theorem mget_fall (k : Nat) (fs : Files) (n : ByteArray) : mget (fallP k fs) n = (mget fs n).map (fallF k) := by
  unfold fallP
  rw [mget_mapv]
theorem fall_sure (k : Nat) (x : List UInt8) (n : Nat) (h : n = x.length) : fallF k ⟨x, n⟩ = ⟨x, n⟩ := by
  subst h
  unfold fallF Dsk.leftOf
  have : min x.length (x.length + min k (x.length - x.length)) = x.length := by omega
  simp only [this, List.take_length]
theorem keys_fall (k : Nat) (fs : Files) : (fallP k fs).map (·.1) = fs.map (·.1) := by
  unfold fallP; rw [List.map_map]; rfl
/-- What is sure outlasts the power. -/
theorem Three.fall {fs : Files} {S : Option FileM} (h : Three fs S) (k : Nat) (hS : ∀ f, S = some f → f.sure = f.b.length) : Three (fallP k fs) S := by
  refine ⟨by rw [keys_fall]; exact h.nodup, ?_, ?_, ?_, ?_⟩
  · intro p hp
    unfold fallP at hp
    obtain ⟨q, hq, rfl⟩ := List.mem_map.1 hp
    exact h.only q hq
  · intro p hp
    unfold fallP at hp
    obtain ⟨q, hq, rfl⟩ := List.mem_map.1 hp
    have := h.small q hq
    show (q.2.b.take _).length ≤ 1100
    rw [List.length_take]
    omega
  · rw [mget_fall, h.other]
    exact congrArg some (fall_sure k [120] 1 rfl)
  · rw [mget_fall, h.s]
    cases S with
    | none => rfl
    | some f => exact congrArg some (fall_sure k f.b f.sure (hS f rfl))
theorem nodup_three (l : List ByteArray) (h : l.Nodup) (a b c : ByteArray) (ho : ∀ x ∈ l, x = a ∨ x = b ∨ x = c) : l.length ≤ 3 := by
  match l, h, ho with
  | [], _, _ => exact Nat.zero_le _
  | [_], _, _ => exact (by decide : (1 : Nat) ≤ 3)
  | [_, _], _, _ => exact (by decide : (2 : Nat) ≤ 3)
  | [_, _, _], _, _ => exact Nat.le_refl _
  | x :: y :: z :: u :: r, h, ho =>
    exfalso
    simp only [List.nodup_cons, List.mem_cons, not_or] at h
    obtain ⟨⟨h1, h2, h3, -⟩, ⟨h4, h5, -⟩, ⟨h6, -⟩, -⟩ := h
    have hx := ho x (by simp)
    have hy := ho y (by simp)
    have hz := ho z (by simp)
    have hu := ho u (by simp)
    rcases hx with rfl | rfl | rfl <;> rcases hy with rfl | rfl | rfl <;> first | exact h1 rfl | skip
    all_goals rcases hz with rfl | rfl | rfl
    all_goals first | exact h2 rfl | exact h4 rfl | skip
    all_goals rcases hu with rfl | rfl | rfl
    all_goals first | exact h3 rfl | exact h5 rfl | exact h6 rfl
theorem total_small (fs : Files) (c : Nat) (h : ∀ p ∈ fs, p.2.b.length ≤ c) : total fs ≤ fs.length * c := by
  induction fs with
  | nil => exact Nat.zero_le _
  | cons p fs ih =>
    have h1 := h p (List.mem_cons_self)
    have h2 := ih fun q hq => h q (List.mem_cons_of_mem _ hq)
    simp only [total, List.length_cons, Nat.add_mul, Nat.one_mul]
    omega
theorem Three.count {fs : Files} {S : Option FileM} (h : Three fs S) : fs.length ≤ 3 ∧ total fs ≤ 3300 := by
  have h1 : fs.length ≤ 3 := by
    have := nodup_three (fs.map (·.1)) h.nodup nmOther nmS nmNew (fun x hx => by
      obtain ⟨p, hp, rfl⟩ := List.mem_map.1 hx
      exact h.only p hp)
    rwa [List.length_map] at this
  have h2 := total_small fs 1100 h.small
  refine ⟨h1, Nat.le_trans h2 ?_⟩
  have := Nat.mul_le_mul_right 1100 h1
  omega
theorem names_apart : nmNew ≠ nmOther ∧ nmNew ≠ nmS ∧ nmS ≠ nmOther := by decide +kernel
theorem new_name : isName nmNew.toList = true := by decide +kernel

theorem s_new : nmS ++ dotNew = nmNew := by decide +kernel
/-- A store of the file to come. -/
theorem Three.put {fs : Files} {S : Option FileM} (h : Three fs S) (f : FileM) (hf : f.b.length ≤ 1100) : Three (mput fs nmNew f) S := by
  refine ⟨nodup_mput h.nodup _ _, ?_, ?_, ?_, ?_⟩
  · intro p hp
    rcases mem_mput hp with hp | rfl
    · exact h.only p hp
    · exact .inr (.inr rfl)
  · intro p hp
    rcases mem_mput hp with hp | rfl
    · exact h.small p hp
    · exact hf
  · rw [mget_mput, if_neg names_apart.1.symm]; exact h.other
  · rw [mget_mput, if_neg names_apart.2.1.symm]; exact h.s
theorem Three.del {fs : Files} {S : Option FileM} (h : Three fs S) : Three (mdel fs nmNew) S := by
  refine ⟨nodup_mdel h.nodup _, fun p hp => h.only p (mem_mdel hp), fun p hp => h.small p (mem_mdel hp), ?_, ?_⟩
  · rw [mget_mdel, if_neg names_apart.1.symm]; exact h.other
  · rw [mget_mdel, if_neg names_apart.2.1.symm]; exact h.s
/-- The file to come takes the place. -/
theorem Three.move {fs : Files} {S : Option FileM} (h : Three fs S) (f : FileM) (hf : f.b.length ≤ 1100) : Three (mput (mdel fs nmNew) nmS f) (some f) := by
  refine ⟨nodup_mput (nodup_mdel h.nodup _) _ _, ?_, ?_, ?_, ?_⟩
  · intro p hp
    rcases mem_mput hp with hp | rfl
    · exact h.only p (mem_mdel hp)
    · exact .inr (.inl rfl)
  · intro p hp
    rcases mem_mput hp with hp | rfl
    · exact h.small p (mem_mdel hp)
    · exact hf
  · rw [mget_mput, if_neg names_apart.2.2.symm, mget_mdel, if_neg names_apart.1.symm]; exact h.other
  · rw [mget_mput, if_pos rfl]

/-- An operation that may be done: it is done, or the power goes off within it. -/
theorem operate_zero (D : DiskM) (doP : Nat → Files → Files) : (∃ c', operate D 0 doP = ({ D with files := doP whole D.files, cut := c' }, 0)) ∨ ∃ k q c, q < whole ∧ operate D 0 doP = ({ D with off := true, cut := c, files := fallP k (doP q D.files) }, 71) := by
  unfold operate
  obtain ⟨room, files, off, cut⟩ := D
  match cut with
  | none => exact .inl ⟨none, rfl⟩
  | some (o + 1, p, k) => exact .inl ⟨some (o, p, k), rfl⟩
  | some (0, p, k) =>
    refine .inr ⟨k, min p (whole - 1), none, ?_, rfl⟩
    have : 1 ≤ whole := by decide
    omega
/-- And so without a cut. -/
theorem operate_safe (D : DiskM) (doP : Nat → Files → Files) (hc : D.cut = none) : operate D 0 doP = ({ D with files := doP whole D.files }, 0) := by
  unfold operate
  rw [hc]
  rfl

/-- A disk of the three files, its power on. -/
structure Disk3 (D : DiskM) (S : Option FileM) : Prop where
  room : D.room = 1000000
  on : D.off = false
  files : Three D.files S
/-- ... off, or on. -/
structure Off3 (D : DiskM) (S : Option FileM) : Prop where
  room : D.room = 1000000
  off : D.off = true
  files : Three D.files S

section
variable {D : DiskM} {S : Option FileM} {x : List UInt8}
theorem saveR_three (h : Disk3 D S) (hS : ∀ f, S = some f → f.sure = f.b.length) : ((saveR D nmNew).2 = 0 ∧ Disk3 (saveR D nmNew).1 S ∧ mget (saveR D nmNew).1.files nmNew = none ∧ (D.cut = none → (saveR D nmNew).1.cut = none)) ∨ ((saveR D nmNew).2 = 71 ∧ Off3 (saveR D nmNew).1 S ∧ D.cut ≠ none) := by
  unfold saveR
  by_cases hm : mhas D.files nmNew = true
  · rw [if_pos hm]
    have hn : noneE D nmNew = 0 := by unfold noneE; rw [if_pos hm]
    have hr : remove D nmNew = operate D 0 (removeP nmNew) := by unfold remove; rw [if_neg (by rw [h.on]; decide), hn]
    rw [hr]
    have hw : removeP nmNew whole D.files = mdel D.files nmNew := by unfold removeP; rw [if_pos (by decide)]
    rcases operate_zero D (removeP nmNew) with ⟨c', e⟩ | ⟨k, q, c, hq, e⟩
    · rw [e]
      refine .inl ⟨rfl, ⟨h.room, h.on, by rw [hw]; exact h.files.del⟩, by rw [hw, mget_mdel, if_pos rfl], fun hc => ?_⟩
      have := operate_safe D (removeP nmNew) hc
      rw [e] at this
      exact (congrArg (fun r => r.1.cut) this).trans hc
    · rw [e]
      refine .inr ⟨rfl, ⟨h.room, rfl, ?_⟩, fun hc => ?_⟩
      · refine Three.fall ?_ k hS
        unfold removeP
        split
        · exact h.files.del
        · exact h.files
      · have := operate_safe D (removeP nmNew) hc
        rw [e] at this
        exact absurd (show (71 : Int) = 0 from congrArg (fun r => r.2) this) (by decide)
  · rw [if_neg hm]
    refine .inl ⟨rfl, h, ?_, fun hc => hc⟩
    unfold mhas at hm
    cases hg : mget D.files nmNew with
    | none => rfl
    | some f => rw [hg] at hm; exact absurd rfl hm
theorem append_three (h : Disk3 D S) (hS : ∀ f, S = some f → f.sure = f.b.length) (hn : mget D.files nmNew = none) (hx : x.length ≤ 1100) : ((append D nmNew x).2 = 0 ∧ Disk3 (append D nmNew x).1 S ∧ mget (append D nmNew x).1.files nmNew = some ⟨x, 0⟩ ∧ (D.cut = none → (append D nmNew x).1.cut = none)) ∨ ((append D nmNew x).2 = 71 ∧ Off3 (append D nmNew x).1 S ∧ D.cut ≠ none) := by
  obtain ⟨c1, c2⟩ := h.files.count
  have he : appendE D nmNew x = 0 := by
    unfold appendE
    rw [if_pos new_name, if_neg]
    rintro (h1 | ⟨-, h1⟩)
    · rw [h.room] at h1; omega
    · omega
  have hr : append D nmNew x = operate D 0 (appendP nmNew x) := by unfold append; rw [if_neg (by rw [h.on]; decide), he]
  have hf : fileOf D.files nmNew = ⟨[], 0⟩ := by unfold fileOf; rw [hn]; rfl
  have hp : ∀ q, Three (appendP nmNew x q D.files) S := fun q => by
    unfold appendP
    rw [hf]
    refine h.files.put _ ?_
    show ([] ++ x.take q).length ≤ 1100
    rw [List.nil_append, List.length_take]
    omega
  rw [hr]
  rcases operate_zero D (appendP nmNew x) with ⟨c', e⟩ | ⟨k, q, c, hq, e⟩
  · rw [e]
    refine .inl ⟨rfl, ⟨h.room, h.on, hp whole⟩, ?_, fun hc => ?_⟩
    · show mget (appendP nmNew x whole D.files) nmNew = _
      unfold appendP
      rw [hf, mget_mput, if_pos rfl, List.nil_append, List.take_of_length_le (by unfold whole; omega)]
    · have := operate_safe D (appendP nmNew x) hc
      rw [e] at this
      exact (congrArg (fun r => r.1.cut) this).trans hc
  · rw [e]
    refine .inr ⟨rfl, ⟨h.room, rfl, (hp q).fall k hS⟩, fun hc => ?_⟩
    have := operate_safe D (appendP nmNew x) hc
    rw [e] at this
    exact absurd (show (71 : Int) = 0 from congrArg (fun r => r.2) this) (by decide)
theorem sync_three (h : Disk3 D S) (hS : ∀ f, S = some f → f.sure = f.b.length) (hn : mget D.files nmNew = some ⟨x, 0⟩) (hx : x.length ≤ 1100) : ((sync D nmNew).2 = 0 ∧ Disk3 (sync D nmNew).1 S ∧ mget (sync D nmNew).1.files nmNew = some ⟨x, x.length⟩ ∧ (D.cut = none → (sync D nmNew).1.cut = none)) ∨ ((sync D nmNew).2 = 71 ∧ Off3 (sync D nmNew).1 S ∧ D.cut ≠ none) := by
  have hm : mhas D.files nmNew = true := by unfold mhas; rw [hn]; rfl
  have hne : noneE D nmNew = 0 := by unfold noneE; rw [if_pos hm]
  have hr : sync D nmNew = operate D 0 (syncP nmNew) := by unfold sync; rw [if_neg (by rw [h.on]; decide), hne]
  have hf : fileOf D.files nmNew = ⟨x, 0⟩ := by unfold fileOf; rw [hn]; rfl
  have hp : ∀ q, Three (syncP nmNew q D.files) S := fun q => by
    unfold syncP
    rw [hf]
    split
    · exact h.files.put _ hx
    · exact h.files
  rw [hr]
  rcases operate_zero D (syncP nmNew) with ⟨c', e⟩ | ⟨k, q, c, hq, e⟩
  · rw [e]
    refine .inl ⟨rfl, ⟨h.room, h.on, hp whole⟩, ?_, fun hc => ?_⟩
    · show mget (syncP nmNew whole D.files) nmNew = _
      unfold syncP
      rw [if_pos rfl, hf, mget_mput, if_pos rfl]
    · have := operate_safe D (syncP nmNew) hc
      rw [e] at this
      exact (congrArg (fun r => r.1.cut) this).trans hc
  · rw [e]
    refine .inr ⟨rfl, ⟨h.room, rfl, (hp q).fall k hS⟩, fun hc => ?_⟩
    have := operate_safe D (syncP nmNew) hc
    rw [e] at this
    exact absurd (show (71 : Int) = 0 from congrArg (fun r => r.2) this) (by decide)
theorem rename_three (h : Disk3 D S) (hS : ∀ f, S = some f → f.sure = f.b.length) (hn : mget D.files nmNew = some ⟨x, x.length⟩) (hx : x.length ≤ 1100) : ((rename D nmNew nmS).2 = 0 ∧ Disk3 (rename D nmNew nmS).1 (some ⟨x, x.length⟩)) ∨ ((rename D nmNew nmS).2 = 71 ∧ D.cut ≠ none ∧ (Off3 (rename D nmNew nmS).1 S ∨ Off3 (rename D nmNew nmS).1 (some ⟨x, x.length⟩))) := by
  have hm : mhas D.files nmNew = true := by unfold mhas; rw [hn]; rfl
  have hne : renameE D nmNew nmS = 0 := by unfold renameE noneE; rw [if_pos nmS_name, if_pos hm]
  have hr : rename D nmNew nmS = operate D 0 (renameP nmNew nmS) := by unfold rename; rw [if_neg (by rw [h.on]; decide), hne]
  have hf : fileOf D.files nmNew = ⟨x, x.length⟩ := by unfold fileOf; rw [hn]; rfl
  rw [hr]
  rcases operate_zero D (renameP nmNew nmS) with ⟨c', e⟩ | ⟨k, q, c, hq, e⟩
  · rw [e]
    refine .inl ⟨rfl, ⟨h.room, h.on, ?_⟩⟩
    show Three (renameP nmNew nmS whole D.files) _
    unfold renameP
    rw [if_pos (by decide), hf]
    exact h.files.move _ hx
  · rw [e]
    refine .inr ⟨rfl, fun hc => ?_, ?_⟩
    · have := operate_safe D (renameP nmNew nmS) hc
      rw [e] at this
      exact absurd (show (71 : Int) = 0 from congrArg (fun r => r.2) this) (by decide)
    · by_cases hq0 : 0 < q
      · refine .inr ⟨h.room, rfl, Three.fall ?_ k (fun f hf => by obtain rfl := Option.some.inj hf; rfl)⟩
        unfold renameP
        rw [if_pos hq0, hf]
        exact h.files.move _ hx
      · refine .inl ⟨h.room, rfl, Three.fall ?_ k hS⟩
        unfold renameP
        rw [if_neg hq0]
        exact h.files
/-- A saving: done, or the power goes off within it; then the file is the old one, or the new one. -/
theorem saveQ_three (h : Disk3 D S) (hS : ∀ f, S = some f → f.sure = f.b.length) (hx : x.length ≤ 1100) : ((saveQ D nmNew nmS x).2 = 0 ∧ Disk3 (saveQ D nmNew nmS x).1 (some ⟨x, x.length⟩)) ∨ ((saveQ D nmNew nmS x).2 = 71 ∧ D.cut ≠ none ∧ (Off3 (saveQ D nmNew nmS x).1 S ∨ Off3 (saveQ D nmNew nmS x).1 (some ⟨x, x.length⟩))) := by
  unfold saveQ
  rcases saveR_three h hS with ⟨e1, h1, n1, c1⟩ | ⟨e1, h1, c1⟩
  · rw [onward_ok e1]
    rcases append_three h1 hS n1 hx with ⟨e2, h2, n2, c2⟩ | ⟨e2, h2, c2⟩
    · rw [onward_ok e2]
      rcases sync_three h2 hS n2 hx with ⟨e3, h3, n3, c3⟩ | ⟨e3, h3, c3⟩
      · rw [onward_ok e3]
        rcases rename_three h3 hS n3 hx with h4 | ⟨e4, c4, h4⟩
        · exact .inl h4
        · exact .inr ⟨e4, fun hc => c4 (c3 (c2 (c1 hc))), h4⟩
      · rw [onward_err e3]
        exact .inr ⟨e3, fun hc => c3 (c2 (c1 hc)), .inl h3⟩
    · rw [onward_err e2, onward_err e2]
      exact .inr ⟨e2, fun hc => c2 (c1 hc), .inl h2⟩
  · rw [onward_err e1, onward_err e1, onward_err e1]
    exact .inr ⟨e1, c1, .inl h1⟩
theorem Disk3.cut (h : Disk3 D S) (o p k : Int) (h0 : 0 ≤ o) (h1 : 0 ≤ p) (h2 : 0 ≤ k) : Disk3 (cutTo D o p k).1 S := by
  unfold cutTo
  rw [if_neg (by omega), if_neg (by rw [h.on]; decide)]
  exact ⟨h.room, h.on, h.files⟩
theorem Disk3.goes_on (h : Disk3 D S) : Disk3 (Dsk.on D) S := ⟨h.room, rfl, h.files⟩
theorem Off3.goes_on (h : Off3 D S) : Disk3 (Dsk.on D) S := ⟨h.room, rfl, h.files⟩
theorem Disk3.load_none (h : Disk3 D none) : loadF D nmS = (0, [], 70) := by
  have hs := h.files.s
  have hm : ¬ mhas D.files nmS = true := by unfold mhas; rw [hs]; decide
  have hr : Dsk.read D nmS = ([], 70) := by
    unfold Dsk.read
    rw [if_neg (by rw [h.on]; decide), if_neg hm]
  unfold loadF
  rw [hr]
  rfl
theorem Disk3.load_some {f : FileM} (h : Disk3 D (some f)) : loadF D nmS = fileF f.b := by
  have hs := h.files.s
  have hm : mhas D.files nmS = true := by unfold mhas; rw [hs]; rfl
  have hf : fileOf D.files nmS = f := by unfold fileOf; rw [hs]; rfl
  have hr : Dsk.read D nmS = (f.b, 0) := by
    unfold Dsk.read
    rw [if_neg (by rw [h.on]; decide), if_pos hm, hf]
  unfold loadF
  rw [hr]
  rfl
theorem Disk3.reads (h : Disk3 D S) : Dsk.read D nmOther = ([120], 0) := by
  unfold Dsk.read
  rw [if_neg (by rw [h.on]; decide)]
  have hs := h.files.other
  have hm : mhas D.files nmOther = true := by unfold mhas; rw [hs]; rfl
  rw [if_pos hm]
  unfold fileOf
  rw [hs]
  rfl
end
end Go.Proofs.YtmdibkafjpglkaaGreatDoor.Snp
