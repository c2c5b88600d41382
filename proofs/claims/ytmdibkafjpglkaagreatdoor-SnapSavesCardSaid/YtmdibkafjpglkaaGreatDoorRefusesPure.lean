/- What is refused, plain: names that may not be, too much, a power that is off. No program in sight. -/
import Derived.Test.YtmdibkafjpglkaaGreatDoorSavesPure
namespace Go.Proofs.YtmdibkafjpglkaaGreatDoor.Snp
open Go Go.Proofs.YtmdibkafjpglkaaGreatDoor.Dsk Go.Proofs.YtmdibkafjpglkaaGreatDoor.Frm Go.Proofs.YtmdibkafjpglkaaGreatDoor.Num Go.Proofs.YtmdibkafjpglkaaGreatDoor.Wal

theorem tidy_onward {r : DiskM × Int} {f : DiskM → DiskM × Int} (h : Tidy r.1.files) (hf : ∀ E, Tidy E.files → Tidy (f E).1.files) : Tidy (onward r f).1.files := by
  unfold onward
  split
  · exact hf _ h
  · exact h
theorem tidy_saveP {D : DiskM} (h : Tidy D.files) (name : ByteArray) (gen : Int) (b : List UInt8) : Tidy (saveP D name gen b).1.files := by
  unfold saveP
  split
  · exact h
  split
  · exact h
  split
  · exact h
  split
  · exact h
  unfold saveQ
  refine tidy_onward (tidy_onward (tidy_onward ?_ fun E hE => tidy_append hE _ _) fun E hE => tidy_sync hE _) fun E hE => tidy_rename hE _ _
  unfold saveR
  split
  · exact tidy_remove h _
  · exact h
/-- Without a cut an operation leaves the power on, and no cut. -/
def Calm (D : DiskM) : Prop := D.off = false ∧ D.cut = none
theorem calm_operate {D : DiskM} (h : Calm D) (e : Int) (doP : Nat → Files → Files) : operate D e doP = (if e = 0 then { D with files := doP whole D.files } else D, e) := by
  unfold operate
  rw [h.2]
theorem calm_after {D : DiskM} (h : Calm D) (e : Int) (doP : Nat → Files → Files) : Calm (operate D e doP).1 := by
  rw [calm_operate h]
  show Calm (if e = 0 then _ else D)
  split
  · exact h
  · exact h
theorem calm_onward {r : DiskM × Int} {f : DiskM → DiskM × Int} (h : Calm r.1) (hf : ∀ E, Calm E → Calm (f E).1) : Calm (onward r f).1 := by
  unfold onward
  split
  · exact hf _ h
  · exact h
theorem calm_append {D : DiskM} (h : Calm D) (n : ByteArray) (b : List UInt8) : Calm (append D n b).1 := by
  unfold append
  rw [if_neg (by rw [h.1]; decide)]
  exact calm_after h _ _
theorem calm_saveP {D : DiskM} (h : Calm D) (name : ByteArray) (gen : Int) (b : List UInt8) : Calm (saveP D name gen b).1 := by
  unfold saveP
  split
  · exact h
  split
  · exact h
  split
  · exact h
  split
  · exact h
  unfold saveQ
  refine calm_onward (calm_onward (calm_onward ?_ fun E hE => calm_append hE _ _) fun E hE => ?_) fun E hE => ?_
  · unfold saveR
    split
    · unfold remove
      rw [if_neg (by rw [h.1]; decide)]
      exact calm_after h _ _
    · exact h
  · unfold sync
    rw [if_neg (by rw [hE.1]; decide)]
    exact calm_after hE _ _
  · unfold rename
    rw [if_neg (by rw [hE.1]; decide)]
    exact calm_after hE _ _
theorem calm_new (r : Int) : Calm (Dsk.new r) := ⟨rfl, rfl⟩

/-- A cut at once. -/
def cut0 (D : DiskM) : DiskM := { D with cut := some (0, 0, 0) }
theorem cut_now {D : DiskM} (h : Calm D) : cutTo D 0 0 0 = (cut0 D, 0) := by
  unfold cutTo
  rw [if_neg (by omega), if_neg (by rw [h.1]; decide)]
  rfl
theorem sync_now {D : DiskM} (h : Calm D) (n : ByteArray) : (sync (cut0 D) n).1.off = true := by
  unfold sync
  rw [if_neg (by show ¬ D.off = true; rw [h.1]; decide)]
  rfl
theorem s_may : isName (nmS ++ dotNew).toList = true := by rw [s_new]; exact new_name
theorem save_much {D : DiskM} {gen : Int} {b : List UInt8} (h0 : 0 ≤ gen) (hb : maxBody ≤ b.length) : saveP D nmS gen b = (D, 81) := by
  unfold saveP
  rw [if_neg (by omega), if_neg (by rw [s_may]; decide), if_pos]
  rw [List.length_append]
  have : 1 ≤ (intB gen).length := by unfold intB uintB; rw [List.length_cons]; omega
  omega
theorem save_off {D : DiskM} {gen : Int} (h0 : 0 ≤ gen) (h : D.off = true) : saveP D nmS gen [] = (D, 71) := by
  have hi := intB_len gen
  unfold saveP
  rw [if_neg (by omega), if_neg (by rw [s_may]; decide), if_neg (by rw [List.length_append]; unfold maxBody; simp only [List.length_nil]; omega), if_pos h]

/-! Any name. -/
theorem dot_list (name : ByteArray) : (name ++ dotNew).toList = name.toList ++ [46, 110, 101, 119] := by
  rw [toList_data, toList_data]
  simp [dotNew]
theorem name_of_new {name : ByteArray} (h : isName (name ++ dotNew).toList = true) (h0 : name.toList ≠ []) : isName name.toList = true := by
  rw [dot_list] at h
  unfold isName at h ⊢
  simp only [Bool.and_eq_true, decide_eq_true_eq, List.length_append, List.all_append] at h ⊢
  obtain ⟨-, h1, h2, -⟩ := h
  refine ⟨by simpa using h0, by omega, h2⟩
theorem apart_new (name : ByteArray) : name ++ dotNew ≠ name := by
  intro h
  have := congrArg (fun b : ByteArray => b.toList.length) h
  simp only [dot_list, List.length_append, List.length_cons, List.length_nil] at this
  omega
section
variable {name : ByteArray} {gen : Int}
/-- The disk of one file that is to come. -/
def oneN (n : ByteArray) (f : FileM) : DiskM := ⟨16777216, [(n, f)], false, none⟩
theorem oneN_has (n : ByteArray) (f : FileM) : mhas (oneN n f).files n = true := by show mhas [(n, f)] n = true; unfold mhas; rw [mget_cons, if_pos rfl]; rfl
theorem first_append (hn : isName (name ++ dotNew).toList = true) : append (Dsk.new 16777216) (name ++ dotNew) [120] = (oneN (name ++ dotNew) ⟨[120], 0⟩, 0) := by
  have he : appendE (Dsk.new 16777216) (name ++ dotNew) [120] = 0 := by
    unfold appendE
    rw [if_pos hn, if_neg]
    rintro (h | ⟨-, h⟩)
    · have h1 : (Dsk.new 16777216).room = 16777216 := rfl
      have h2 : total (Dsk.new 16777216).files = 0 := rfl
      rw [h1, h2] at h
      simp at h
    · have h1 : (Dsk.new 16777216).files.length = 0 := rfl
      omega
  unfold append
  rw [if_neg (by simp [Dsk.new]), he, calm_operate (calm_new _)]
  rfl
theorem first_none (hn : isName (name ++ dotNew).toList = false) : append (Dsk.new 16777216) (name ++ dotNew) [120] = (Dsk.new 16777216, 61) := by
  have he : appendE (Dsk.new 16777216) (name ++ dotNew) [120] = 61 := by
    unfold appendE
    rw [if_neg (by rw [hn]; decide)]
  unfold append
  rw [if_neg (by simp [Dsk.new]), he, calm_operate (calm_new _)]
  rfl
theorem save_none (h0 : 0 ≤ gen) {D : DiskM} (hn : isName (name ++ dotNew).toList = false) : saveP D name gen [] = (D, 61) := by
  unfold saveP
  rw [if_neg (by omega), if_pos hn]
theorem one_has (n : ByteArray) (f : FileM) : mhas [(n, f)] n = true := by unfold mhas; rw [mget_cons, if_pos rfl]; rfl
theorem one_of (n : ByteArray) (f : FileM) : fileOf [(n, f)] n = f := by unfold fileOf; rw [mget_cons, if_pos rfl]; rfl
theorem save_name (h0 : 0 ≤ gen) (hn : isName (name ++ dotNew).toList = true) : (saveP (oneN (name ++ dotNew) ⟨[120], 0⟩) name gen []).2 = if isName name.toList then 0 else 61 := by
  have hi := intB_len gen
  obtain ⟨fr, hfr⟩ : ∃ fr, name ++ dotNew = fr := ⟨_, rfl⟩
  rw [hfr] at hn ⊢
  have hlen : (intB gen ++ []).length ≤ 9 := by rw [List.append_nil]; exact hi
  obtain ⟨x, hx⟩ : ∃ x, frame (intB gen ++ []) = x := ⟨_, rfl⟩
  have hxl : x.length ≤ 17 := by rw [← hx, len_of_frame]; omega
  have hP : saveP (oneN fr ⟨[120], 0⟩) name gen [] = saveQ (oneN fr ⟨[120], 0⟩) fr name x := by
    unfold saveP
    rw [hfr, if_neg (by omega), if_neg (by rw [hn]; decide), if_neg (by unfold maxBody; omega), if_neg (by simp [oneN]), hx]
  have hR : saveR (oneN fr ⟨[120], 0⟩) fr = (⟨16777216, [], false, none⟩, 0) := by
    unfold saveR
    rw [if_pos (oneN_has _ _)]
    unfold remove
    rw [if_neg (by simp [oneN]), calm_operate ⟨rfl, rfl⟩]
    have hne : noneE (oneN fr ⟨[120], 0⟩) fr = 0 := by unfold noneE; rw [if_pos (oneN_has _ _)]
    rw [hne, if_pos rfl]
    unfold removeP
    rw [if_pos (by decide)]
    show (({ room := 16777216, files := mdel [(fr, _)] fr, off := false, cut := none } : DiskM), (0 : Int)) = _
    have : mdel [(fr, (⟨[120], 0⟩ : FileM))] fr = [] := by simp [mdel]
    rw [this]
  have hA : append ⟨16777216, [], false, none⟩ fr x = (oneN fr ⟨x, 0⟩, 0) := by
    have he : appendE ⟨16777216, [], false, none⟩ fr x = 0 := by
      unfold appendE
      rw [if_pos hn, if_neg]
      rintro (h | ⟨-, h⟩)
      · simp only [total] at h; omega
      · simp only [List.length_nil] at h; omega
    unfold append
    rw [if_neg (by decide), he, calm_operate ⟨rfl, rfl⟩, if_pos rfl]
    unfold appendP
    show (({ room := 16777216, files := mput [] fr ⟨[] ++ x.take whole, 0⟩, off := false, cut := none } : DiskM), (0 : Int)) = _
    rw [List.nil_append, List.take_of_length_le (by unfold whole; omega)]
    rfl
  have hS : sync (oneN fr ⟨x, 0⟩) fr = (oneN fr ⟨x, x.length⟩, 0) := by
    unfold sync
    have hne : noneE (oneN fr ⟨x, 0⟩) fr = 0 := by unfold noneE; rw [if_pos (oneN_has _ _)]
    rw [if_neg (by simp [oneN]), calm_operate ⟨rfl, rfl⟩, hne, if_pos rfl]
    unfold syncP
    rw [if_pos rfl]
    show (({ room := 16777216, files := mput [(fr, ⟨x, 0⟩)] fr ⟨(fileOf [(fr, ⟨x, 0⟩)] fr).b, (fileOf [(fr, ⟨x, 0⟩)] fr).b.length⟩, off := false, cut := none } : DiskM), (0 : Int)) = _
    rw [one_of]
    unfold mput
    rw [if_pos (one_has _ _)]
    simp [oneN]
  have hN : (rename (oneN fr ⟨x, x.length⟩) fr name).2 = if isName name.toList then 0 else 61 := by
    unfold rename
    rw [if_neg (by simp [oneN]), calm_operate ⟨rfl, rfl⟩]
    show renameE _ fr name = _
    unfold renameE noneE
    rw [if_pos (oneN_has _ _)]
  rw [hP]
  unfold saveQ
  rw [hR, onward_ok (r := (({ room := 16777216, files := [], off := false, cut := none } : DiskM), 0)) rfl, hA, onward_ok (r := (oneN fr ⟨x, 0⟩, 0)) rfl, hS, onward_ok (r := (oneN fr ⟨x, x.length⟩, 0)) rfl]
  exact hN
end
end Go.Proofs.YtmdibkafjpglkaaGreatDoor.Snp
