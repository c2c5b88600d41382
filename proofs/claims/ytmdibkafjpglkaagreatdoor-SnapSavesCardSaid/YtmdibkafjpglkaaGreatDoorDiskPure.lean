/- The disk of layer 18 as plain data: what each call makes of it. No program in sight. -/
import Derived.Test.YtmdibkafjpglkaaGreatDoorMaps
namespace Go.Proofs.YtmdibkafjpglkaaGreatDoor.Dsk
open Go

/-- A file: its bytes, and how many of them are sure. -/
structure FileM where
  b : List UInt8
  sure : Nat

abbrev Files := List (ByteArray × FileM)

/-- A disk: its room, its files, whether the power is off, what a Cut said. -/
structure DiskM where
  room : Nat
  files : Files
  off : Bool
  cut : Option (Nat × Nat × Nat)

/-- All files' bytes. -/
def total : Files → Nat
  | [] => 0
  | p :: fs => p.2.b.length + total fs

def fileOf (fs : Files) (name : ByteArray) : FileM := (mget fs name).getD ⟨[], 0⟩

/-- Is a byte a name's? -/
def nameByte (b : UInt8) : Bool := (decide (97 ≤ b.toNat) && decide (b.toNat ≤ 122)) || ((decide (65 ≤ b.toNat) && decide (b.toNat ≤ 90)) || ((decide (48 ≤ b.toNat) && decide (b.toNat ≤ 57)) || (b.toNat == 45 || b.toNat == 46)))
def isName (l : List UInt8) : Bool := !l.isEmpty && (decide (l.length ≤ 32) && l.all nameByte)

/-- What isn't done in parts. -/
def whole : Nat := 4611686018427387904

def appendP (name : ByteArray) (b : List UInt8) (part : Nat) (fs : Files) : Files :=
  mput fs name ⟨(fileOf fs name).b ++ b.take part, (fileOf fs name).sure⟩
def syncP (name : ByteArray) (part : Nat) (fs : Files) : Files :=
  if part = whole then mput fs name ⟨(fileOf fs name).b, (fileOf fs name).b.length⟩ else fs
def renameP (frm to : ByteArray) (part : Nat) (fs : Files) : Files :=
  if 0 < part then mput (mdel fs frm) to (fileOf fs frm) else fs
def removeP (name : ByteArray) (part : Nat) (fs : Files) : Files :=
  if 0 < part then mdel fs name else fs
def shortenP (name : ByteArray) (n : Nat) (part : Nat) (fs : Files) : Files :=
  if 0 < part then mput fs name ⟨(fileOf fs name).b.take n, min (fileOf fs name).sure (min n (fileOf fs name).b.length)⟩ else fs

/-- How much of a file is left. -/
def leftOf (keep : Nat) (f : FileM) : Nat := min f.b.length (f.sure + min keep (f.b.length - f.sure))
def fallF (keep : Nat) (f : FileM) : FileM := ⟨f.b.take (leftOf keep f), leftOf keep f⟩
def fallP (keep : Nat) (fs : Files) : Files := fs.map (fun p => (p.1, fallF keep p.2))

/-- An operation: why it can't be done, what it does. -/
def operate (D : DiskM) (e : Int) (doP : Nat → Files → Files) : DiskM × Int :=
  match D.cut with
  | none => (if e = 0 then { D with files := doP whole D.files } else D, e)
  | some (o + 1, p, k) => (if e = 0 then { D with cut := some (o, p, k), files := doP whole D.files } else { D with cut := some (o, p, k) }, e)
  | some (0, p, k) => ({ D with off := true, cut := none, files := fallP k (if e = 0 then doP (min p (whole - 1)) D.files else D.files) }, 71)

def appendE (D : DiskM) (name : ByteArray) (b : List UInt8) : Int :=
  if isName name.toList then (if D.room < total D.files + b.length ∨ (mhas D.files name = false ∧ 100 ≤ D.files.length) then 72 else 0) else 61
def noneE (D : DiskM) (name : ByteArray) : Int := if mhas D.files name then 0 else 70
def renameE (D : DiskM) (frm to : ByteArray) : Int := if isName to.toList then noneE D frm else 61
def shortenE (D : DiskM) (name : ByteArray) (n : Int) : Int := if noneE D name = 0 ∧ n < 0 then 1 else noneE D name

def append (D : DiskM) (name : ByteArray) (b : List UInt8) : DiskM × Int := if D.off then (D, 71) else operate D (appendE D name b) (appendP name b)
def sync (D : DiskM) (name : ByteArray) : DiskM × Int := if D.off then (D, 71) else operate D (noneE D name) (syncP name)
def rename (D : DiskM) (frm to : ByteArray) : DiskM × Int := if D.off then (D, 71) else operate D (renameE D frm to) (renameP frm to)
def remove (D : DiskM) (name : ByteArray) : DiskM × Int := if D.off then (D, 71) else operate D (noneE D name) (removeP name)
def shorten (D : DiskM) (name : ByteArray) (n : Int) : DiskM × Int := if D.off then (D, 71) else operate D (shortenE D name n) (shortenP name n.toNat)
def read (D : DiskM) (name : ByteArray) : List UInt8 × Int := if D.off then ([], 71) else if mhas D.files name then ((fileOf D.files name).b, 0) else ([], 70)
def cutTo (D : DiskM) (o p k : Int) : DiskM × Int := if o < 0 ∨ p < 0 ∨ k < 0 then (D, 1) else if D.off then (D, 71) else ({ D with cut := some (o.toNat, p.toNat, k.toNat) }, 0)
def on (D : DiskM) : DiskM := { D with off := false, cut := none }
def new (room : Int) : DiskM := ⟨(max room 0).toNat, [], false, none⟩

/-- What holds of every disk. -/
structure Ok (D : DiskM) : Prop where
  nodup : (D.files.map (·.1)).Nodup
  sure : ∀ p ∈ D.files, p.2.sure ≤ p.2.b.length
  room : total D.files ≤ D.room
  small : D.room ≤ 2147483648

theorem total_append (a b : Files) : total (a ++ b) = total a + total b := by
  induction a with
  | nil => simp [total]
  | cons p a ih => simp [total, ih]; omega
theorem total_mem {fs : Files} {p : ByteArray × FileM} (h : p ∈ fs) : p.2.b.length ≤ total fs := by
  induction fs with
  | nil => cases h
  | cons q fs ih =>
    rcases List.mem_cons.1 h with rfl | h
    · simp [total]
    · have := ih h; simp [total]; omega
theorem total_map (fs : Files) (name : ByteArray) (f : FileM) (hn : (fs.map (·.1)).Nodup) (g : FileM) (h : mget fs name = some g) :
    total (fs.map (fun p => if p.1 = name then (name, f) else p)) + g.b.length = total fs + f.b.length := by
  induction fs with
  | nil => cases h
  | cons p fs ih =>
    simp only [List.map_cons, List.nodup_cons] at hn
    rw [mget_cons] at h
    by_cases e : p.1 = name
    · rw [if_pos e] at h
      obtain rfl := Option.some.inj h
      have : fs.map (fun p => if p.1 = name then (name, f) else p) = fs := by
        refine (List.map_congr_left (fun q hq => ?_)).trans (List.map_id fs)
        rw [if_neg (fun e2 => hn.1 (by rw [e, ← e2]; exact List.mem_map_of_mem (f := (·.1)) hq))]; rfl
      rw [List.map_cons, if_pos e, this]
      simp [total]; omega
    · rw [if_neg e] at h
      have := ih hn.2 h
      rw [List.map_cons, if_neg e]
      simp only [total]; omega
theorem total_mput (fs : Files) (name : ByteArray) (f : FileM) (hn : (fs.map (·.1)).Nodup) : total (mput fs name f) + (fileOf fs name).b.length = total fs + f.b.length := by
  unfold mput fileOf mhas
  cases h : mget fs name with
  | none => simp [total_append, total]
  | some g => simp only [Option.isSome_some, if_true, Option.getD_some]; exact total_map fs name f hn g h
theorem total_mdel (fs : Files) (name : ByteArray) : total (mdel fs name) ≤ total fs := by
  unfold mdel
  induction fs with
  | nil => simp [total]
  | cons p fs ih =>
    rw [List.filter_cons]
    split
    · simp only [total]; omega
    · simp only [total]; omega
theorem total_mdel_of (fs : Files) (name : ByteArray) (f : FileM) (h : mget fs name = some f) : total (mdel fs name) + f.b.length ≤ total fs := by
  induction fs with
  | nil => cases h
  | cons p fs ih =>
    rw [mget_cons] at h
    unfold mdel at ih ⊢
    by_cases e : p.1 = name
    · rw [if_pos e] at h
      obtain rfl := Option.some.inj h
      rw [List.filter_cons_of_neg (by simp [e])]
      have := total_mdel fs name
      unfold mdel at this
      simp only [total]; omega
    · rw [if_neg e] at h
      rw [List.filter_cons_of_pos (by simp [e])]
      have := ih h
      simp only [total]; omega
theorem total_fall (keep : Nat) (fs : Files) : total (fallP keep fs) ≤ total fs := by
  unfold fallP
  induction fs with
  | nil => simp [total]
  | cons p fs ih =>
    have h : (fallF keep p.2).b.length ≤ p.2.b.length := by simp [fallF]; omega
    simp only [List.map_cons, total]; omega

theorem mem_mput {fs : Files} {name : ByteArray} {f : FileM} {p : ByteArray × FileM} (h : p ∈ mput fs name f) : p ∈ fs ∨ p = (name, f) := by
  unfold mput at h
  split at h
  · obtain ⟨q, hq, rfl⟩ := List.mem_map.1 h
    split
    · exact .inr rfl
    · exact .inl hq
  · rcases List.mem_append.1 h with h | h
    · exact .inl h
    · exact .inr (by simpa using h)
theorem mem_mdel {fs : Files} {name : ByteArray} {p : ByteArray × FileM} (h : p ∈ mdel fs name) : p ∈ fs := by
  unfold mdel at h
  exact (List.mem_filter.1 h).1

theorem Ok.fileOf_sure {D : DiskM} (h : Ok D) (name : ByteArray) : (fileOf D.files name).sure ≤ (fileOf D.files name).b.length := by
  unfold fileOf
  cases hg : mget D.files name with
  | none => simp
  | some f => exact h.sure _ (mget_mem hg)

theorem mget_mapv {α β : Type} (fs : List (ByteArray × α)) (g : ByteArray × α → β) (n : ByteArray) : mget (fs.map fun p => (p.1, g p)) n = (mget fs n).map (fun f => g (n, f)) := by
  induction fs with
  | nil => rfl
  | cons p fs ih =>
    rw [List.map_cons, mget_cons, mget_cons, ih]
    by_cases e : p.1 = n
    · subst e; simp
    · simp [e]

/-! The files while the power goes off: those of T are still to come. -/
def inL (T : List ByteArray) (n : ByteArray) : Bool := T.any (fun m => decide (m = n))
theorem inL_iff (T : List ByteArray) (n : ByteArray) : inL T n = true ↔ n ∈ T := by simp [inL]
def partF (keep : Nat) (T : List ByteArray) (fs : Files) : Files := fs.map (fun (p : ByteArray × FileM) => (p.1, if inL T p.1 then p.2 else fallF keep p.2))

theorem partF_all (keep : Nat) (fs : Files) : partF keep (fs.map (·.1)) fs = fs := by
  unfold partF
  refine (List.map_congr_left (fun p hp => ?_)).trans (List.map_id fs)
  rw [if_pos ((inL_iff _ _).2 (List.mem_map_of_mem (f := (·.1)) hp))]; rfl
theorem partF_none (keep : Nat) (fs : Files) : partF keep [] fs = fallP keep fs := by
  unfold partF fallP
  simp [inL]
theorem partF_keys (keep : Nat) (T : List ByteArray) (fs : Files) : (partF keep T fs).map (·.1) = fs.map (·.1) := by
  unfold partF; rw [List.map_map]; rfl
theorem mhas_partF (keep : Nat) (T : List ByteArray) (fs : Files) (n : ByteArray) : mhas (partF keep T fs) n = mhas fs n := by
  unfold mhas partF; rw [mget_mapv]; simp
theorem fileOf_partF (keep : Nat) (T : List ByteArray) (fs : Files) (n : ByteArray) (hn : n ∈ T) : fileOf (partF keep T fs) n = fileOf fs n := by
  unfold fileOf partF
  rw [mget_mapv]
  cases mget fs n with
  | none => rfl
  | some f => simp [(inL_iff T n).2 hn]
theorem partF_step (keep : Nat) (T : List ByteArray) (fs : Files) (hd : (fs.map (·.1)).Nodup) (n : ByteArray) (hh : mhas fs n = true) :
    mput (partF keep T fs) n (fallF keep (fileOf fs n)) = partF keep (T.filter (fun m => decide (m ≠ n))) fs := by
  unfold mput
  rw [mhas_partF, hh, if_pos rfl]
  unfold partF
  rw [List.map_map]
  refine List.map_congr_left fun p hp => ?_
  simp only [Function.comp]
  by_cases e : p.1 = n
  · have : fileOf fs n = p.2 := by unfold fileOf; rw [← e, mget_of_mem hd (k := p.1) (v := p.2) hp]; rfl
    have hi : inL (T.filter (fun m => decide (m ≠ n))) p.1 = false := by rw [Bool.eq_false_iff]; intro h; rw [inL_iff] at h; simp [e] at h
    rw [if_pos e, this, hi, ← e]
    rfl
  · rw [if_neg e]
    have : inL (T.filter (fun m => decide (m ≠ n))) p.1 = inL T p.1 := by rw [Bool.eq_iff_iff, inL_iff, inL_iff]; simp [e]
    simp only [this]

theorem ok_mput {D : DiskM} (h : Ok D) (n : ByteArray) (f : FileM) (h1 : f.sure ≤ f.b.length) (h2 : total D.files + f.b.length ≤ D.room + (fileOf D.files n).b.length) : Ok { D with files := mput D.files n f } := by
  refine ⟨nodup_mput h.nodup _ _, ?_, ?_, h.small⟩
  · intro p hp
    rcases mem_mput hp with hp | rfl
    · exact h.sure p hp
    · exact h1
  · have := total_mput D.files n f h.nodup
    show total (mput D.files n f) ≤ D.room
    omega
theorem ok_mdel {D : DiskM} (h : Ok D) (n : ByteArray) : Ok { D with files := mdel D.files n } :=
  ⟨nodup_mdel h.nodup _, fun p hp => h.sure p (mem_mdel hp), Nat.le_trans (total_mdel _ _) h.room, h.small⟩

end Go.Proofs.YtmdibkafjpglkaaGreatDoor.Dsk
