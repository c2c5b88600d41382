/- What one saving of a script comes to, plain. No program in sight. -/
import Derived.Test.YtmdibkafjpglkaaGreatDoorRefusesPure
namespace Go.Proofs.YtmdibkafjpglkaaGreatDoor.Snp
open Go Go.Proofs.YtmdibkafjpglkaaGreatDoor.Dsk Go.Proofs.YtmdibkafjpglkaaGreatDoor.Frm Go.Proofs.YtmdibkafjpglkaaGreatDoor.Num Go.Proofs.YtmdibkafjpglkaaGreatDoor.Wal

/-- What the file is, next to what was loaded last. -/
def Same (S : Option FileM) (g : Int) (was : List UInt8) : Prop :=
  g < 0 ∧ S = none ∨ 0 ≤ g ∧ g < 9223372036854775808 ∧ was.length ≤ 1000 ∧ S = some ⟨frame (intB g ++ was), (frame (intB g ++ was)).length⟩
theorem Same.sure {S : Option FileM} {g : Int} {was : List UInt8} (h : Same S g was) : ∀ f, S = some f → f.sure = f.b.length := by
  rintro f rfl
  rcases h with ⟨-, h⟩ | ⟨-, -, -, h⟩
  · cases h
  · obtain rfl := Option.some.inj h
    rfl
/-- What a load says of such a file. -/
def Loads (D : DiskM) (g : Int) (was : List UInt8) : Prop := loadF D nmS = (g, was, 0)
theorem Same.load {S : Option FileM} {g : Int} {was : List UInt8} {D : DiskM} (h : Same S g was) (hD : Disk3 D S) : g < 0 ∧ loadF D nmS = (0, [], 70) ∨ 0 ≤ g ∧ loadF D nmS = (g, was, 0) := by
  rcases h with ⟨h1, rfl⟩ | ⟨h1, h2, h3, rfl⟩
  · exact .inl ⟨h1, hD.load_none⟩
  · exact .inr ⟨h1, by rw [hD.load_some]; exact file_saved g was h1 h2 (by omega)⟩
theorem same_new {g : Int} {b : List UInt8} (h0 : 0 ≤ g) (h1 : g < 9223372036854775808) (hb : b.length ≤ 1000) : Same (some ⟨frame (intB g ++ b), (frame (intB g ++ b)).length⟩) g b := .inr ⟨h0, h1, hb, rfl⟩

/-- One saving: refused; done; or the power goes off, and the file is the old one, or the new one. -/
theorem saving_says {D : DiskM} {S : Option FileM} {g gen : Int} {was b : List UInt8} (h : Disk3 D S) (hs : Same S g was) (hg : gen < 9223372036854775808) (hb : b.length ≤ 1000) :
    (gen < 0 ∧ (saveP D nmS gen b).2 = 1 ∧ Disk3 (Dsk.on (saveP D nmS gen b).1) S) ∨
    (0 ≤ gen ∧ (saveP D nmS gen b).2 = 0 ∧ (saveP D nmS gen b).1.off = false ∧ ∃ S', Same S' gen b ∧ Disk3 (Dsk.on (saveP D nmS gen b).1) S') ∨
    (0 ≤ gen ∧ (saveP D nmS gen b).2 = 71 ∧ (saveP D nmS gen b).1.off = true ∧ (Disk3 (Dsk.on (saveP D nmS gen b).1) S ∨ ∃ S', Same S' gen b ∧ Disk3 (Dsk.on (saveP D nmS gen b).1) S')) := by
  by_cases h0 : gen < 0
  · have hP : saveP D nmS gen b = (D, 1) := by unfold saveP; rw [if_pos h0]
    rw [hP]
    exact .inl ⟨h0, rfl, h.goes_on⟩
  have hp : 0 ≤ gen := by omega
  have hi := intB_len gen
  have hl : (intB gen ++ b).length ≤ 1009 := by rw [List.length_append]; omega
  have hP : saveP D nmS gen b = saveQ D nmNew nmS (frame (intB gen ++ b)) := by
    unfold saveP
    rw [if_neg h0, s_new, if_neg (by rw [new_name]; decide), if_neg (by unfold maxBody; omega), if_neg (by rw [h.on]; decide)]
  have hx : (frame (intB gen ++ b)).length ≤ 1100 := by rw [len_of_frame]; omega
  rw [hP]
  rcases saveQ_three h hs.sure hx with ⟨e, hD⟩ | ⟨e, -, hD⟩
  · exact .inr (.inl ⟨hp, e, hD.on, _, same_new hp hg hb, hD.goes_on⟩)
  · rcases hD with hD | hD
    · exact .inr (.inr ⟨hp, e, hD.off, .inl hD.goes_on⟩)
    · exact .inr (.inr ⟨hp, e, hD.off, .inr ⟨_, same_new hp hg hb, hD.goes_on⟩⟩)

/-- The disk of a script at its beginning. -/
def start3 : DiskM := ⟨1000000, [(nmOther, ⟨[120], 1⟩)], false, none⟩
theorem start_is : (sync (append (Dsk.new 1000000) nmOther [120]).1 nmOther).1 = start3 := by kernel_rfl
theorem start_three : Disk3 start3 none := by
  refine ⟨rfl, rfl, ⟨?_, ?_, ?_, rfl, ?_⟩⟩
  · simp [start3]
  · intro p hp
    obtain rfl : p = (nmOther, ⟨[120], 1⟩) := by simpa [start3] using hp
    exact .inl rfl
  · intro p hp
    obtain rfl : p = (nmOther, ⟨[120], 1⟩) := by simpa [start3] using hp
    decide
  · show mget [(nmOther, _)] nmS = none
    rw [mget_cons, if_neg names_apart.2.2.symm]
    rfl
theorem start_tidy : Tidy start3.files := by
  refine ⟨by decide, fun p hp => ?_⟩
  obtain rfl : p = (nmOther, ⟨[120], 1⟩) := by simpa [start3] using hp
  decide +kernel
theorem three_tidy_read {D : DiskM} {S : Option FileM} (h : Disk3 D S) {g : Int} {was : List UInt8} (hs : Same S g was) : (Dsk.read D nmS).1.length ≤ 4294967296 := by
  unfold Dsk.read
  rw [if_neg (by rw [h.on]; decide)]
  split
  · rename_i hm
    have hf := h.files.s
    have : fileOf D.files nmS = S.getD ⟨[], 0⟩ := by unfold fileOf; rw [hf]
    rw [this]
    rcases hs with ⟨-, rfl⟩ | ⟨-, -, h3, rfl⟩
    · exact Nat.zero_le _
    · have hi := intB_len g
      show (frame (intB g ++ was)).length ≤ _
      rw [len_of_frame, List.length_append]
      omega
  · exact Nat.zero_le _
end Go.Proofs.YtmdibkafjpglkaaGreatDoor.Snp
