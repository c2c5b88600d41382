/- A disk's files are few and have names. No program in sight. -/
import Derived.Test.YtmdibkafjpglkaaGreatDoorDiskPure
namespace Go.Proofs.YtmdibkafjpglkaaGreatDoor.Dsk
open Go

/-- Few, with names. -/
def Tidy (fs : Files) : Prop := fs.length ≤ 100 ∧ ∀ p ∈ fs, isName p.1.toList = true

theorem tidy_keys {fs fs' : Files} (h : Tidy fs) (e : fs'.map (·.1) = fs.map (·.1)) : Tidy fs' := by
  refine ⟨?_, fun p hp => ?_⟩
  · have := congrArg List.length e
    simp only [List.length_map] at this
    rw [this]; exact h.1
  · have hm : p.1 ∈ fs.map (·.1) := e ▸ List.mem_map_of_mem (f := (·.1)) hp
    obtain ⟨q, hq, e2⟩ := List.mem_map.1 hm
    rw [← e2]; exact h.2 q hq
theorem tidy_put {fs : Files} (h : Tidy fs) {n : ByteArray} (f : FileM) (hh : mhas fs n = true) : Tidy (mput fs n f) := tidy_keys h (by rw [keys_mput, hh, if_pos rfl])
theorem tidy_new {fs : Files} (h : Tidy fs) {n : ByteArray} (f : FileM) (hn : isName n.toList = true) (hl : fs.length < 100) : Tidy (mput fs n f) := by
  cases hh : mhas fs n with
  | true => exact tidy_put h f hh
  | false =>
    unfold mput
    rw [hh]
    refine ⟨by simp; omega, fun p hp => ?_⟩
    rcases List.mem_append.1 hp with hp | hp
    · exact h.2 p hp
    · obtain rfl : p = (n, f) := by simpa using hp
      exact hn
theorem tidy_del {fs : Files} (h : Tidy fs) (n : ByteArray) : Tidy (mdel fs n) := ⟨Nat.le_trans (List.length_filter_le _ _) h.1, fun p hp => h.2 p (mem_mdel hp)⟩
theorem mdel_less {fs : Files} {n : ByteArray} (h : mhas fs n = true) : (mdel fs n).length < fs.length := by
  obtain ⟨f, hf⟩ := Option.isSome_iff_exists.1 (show (mget fs n).isSome = true from h)
  unfold mdel
  refine List.length_filter_lt_length_iff_exists.2 ⟨(n, f), mget_mem hf, by simp⟩
theorem tidy_fall {fs : Files} (h : Tidy fs) (k : Nat) : Tidy (fallP k fs) := tidy_keys h (by unfold fallP; rw [List.map_map]; rfl)

theorem tidy_operate {D : DiskM} (h : Tidy D.files) {e : Int} {doP : Nat → Files → Files} (hd : e = 0 → ∀ part, Tidy (doP part D.files)) : Tidy (operate D e doP).1.files := by
  unfold operate
  split
  · split
    · exact hd ‹_› _
    · exact h
  · split
    · exact hd ‹_› _
    · exact h
  · refine tidy_fall ?_ _
    split
    · exact hd ‹_› _
    · exact h
theorem none_has {D : DiskM} {n : ByteArray} (h : noneE D n = 0) : mhas D.files n = true := by
  unfold noneE at h
  cases hm : mhas D.files n with
  | true => rfl
  | false => rw [hm] at h; simp at h
theorem tidy_append {D : DiskM} (h : Tidy D.files) (n : ByteArray) (b : List UInt8) : Tidy (append D n b).1.files := by
  unfold append
  split
  · exact h
  · refine tidy_operate h fun he part => ?_
    unfold appendE at he
    split at he
    · rename_i hn
      split at he
      · simp at he
      · rename_i hr
        unfold appendP
        cases hh : mhas D.files n with
        | true => exact tidy_put h _ hh
        | false => exact tidy_new h _ hn (by rw [hh] at hr; simp at hr; omega)
    · simp at he
theorem tidy_sync {D : DiskM} (h : Tidy D.files) (n : ByteArray) : Tidy (sync D n).1.files := by
  unfold sync
  split
  · exact h
  · refine tidy_operate h fun he part => ?_
    unfold syncP
    split
    · exact tidy_put h _ (none_has he)
    · exact h
theorem tidy_rename {D : DiskM} (h : Tidy D.files) (n m : ByteArray) : Tidy (rename D n m).1.files := by
  unfold rename
  split
  · exact h
  · refine tidy_operate h fun he part => ?_
    unfold renameE at he
    split at he
    · rename_i hm
      unfold renameP
      split
      · have := mdel_less (none_has he)
        have := h.1
        exact tidy_new (tidy_del h _) _ hm (by omega)
      · exact h
    · simp at he
theorem tidy_remove {D : DiskM} (h : Tidy D.files) (n : ByteArray) : Tidy (remove D n).1.files := by
  unfold remove
  split
  · exact h
  · refine tidy_operate h fun _ part => ?_
    unfold removeP
    split
    · exact tidy_del h _
    · exact h
theorem tidy_shorten {D : DiskM} (h : Tidy D.files) (n : ByteArray) (k : Int) : Tidy (shorten D n k).1.files := by
  unfold shorten
  split
  · exact h
  · refine tidy_operate h fun he part => ?_
    have hn : noneE D n = 0 := by
      unfold shortenE at he
      split at he
      · simp at he
      · exact he
    unfold shortenP
    split
    · exact tidy_put h _ (none_has hn)
    · exact h
theorem tidy_cut {D : DiskM} (h : Tidy D.files) (o p k : Int) : Tidy (cutTo D o p k).1.files := by
  unfold cutTo
  split
  · exact h
  · split <;> exact h
theorem tidy_on {D : DiskM} (h : Tidy D.files) : Tidy (on D).files := h
theorem tidy_fresh (r : Int) : Tidy (new r).files := ⟨by simp [new], fun p hp => by simp [new] at hp⟩
theorem isName_size {n : ByteArray} (h : isName n.toList = true) : n.size ≤ 32 := by
  unfold isName at h
  simp only [Bool.and_eq_true, decide_eq_true_eq] at h
  have := h.2.1
  rw [toList_data] at this
  simpa using this
end Go.Proofs.YtmdibkafjpglkaaGreatDoor.Dsk
