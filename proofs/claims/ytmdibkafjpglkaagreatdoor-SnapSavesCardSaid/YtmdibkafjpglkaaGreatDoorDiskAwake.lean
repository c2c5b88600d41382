/- osierlaw18.awake, walked. -/
import Derived.Test.YtmdibkafjpglkaaGreatDoorDiskRead
namespace Go.Proofs.YtmdibkafjpglkaaGreatDoor.Dsk
open Go Go.RowKit Go.Lib

def nmA : ByteArray := ⟨#[97]⟩
def aw1 : DiskM := (append (new 100) nmA [97, 98]).1
def aw2 : DiskM := (sync aw1 nmA).1
def aw3 : DiskM := (append aw2 nmA [99, 100]).1
def aw4 : DiskM := (cutTo aw3 0 1 1).1
def aw5 : DiskM := (append aw4 nmA [101, 102]).1
def aw6 : DiskM := on aw5

/-- Two bytes in a block of their own. -/
theorem two_bytes {w : World} {g : Nat} {x y : UInt8} {t : TypeId} {fr : Nat × Nat} (h : w.heap[g]? = some (.cells #[byteV x, byteV y] t fr)) : BytesIn w (.slice (some ⟨g, 0, none⟩) [x, y].length 2) [x, y] (fun i => i = g) := by
  refine ⟨some ⟨g, 0, none⟩, 2, rfl, Nat.le_refl _, by decide, by simp, ?_⟩
  rintro b hb j u hj
  obtain rfl := Option.some.inj hb
  refine ⟨?_, lt_of_block h, rfl⟩
  rw [addr_add0, cell_at h]
  match j with
  | 0 => simpa using hj
  | 1 => simpa using hj
  | j + 2 => simp at hj

theorem aw_facts : (append (new 100) nmA [97, 98]).2 = 0 ∧ (sync aw1 nmA).2 = 0 ∧ (append aw2 nmA [99, 100]).2 = 0 ∧ (cutTo aw3 0 1 1).2 = 0 ∧ (append aw4 nmA [101, 102]).2 = 71 ∧ aw5.off = true ∧ read aw6 nmA = ([97, 98, 99], 0) ∧ (aw6.room : Int) - (total aw6.files : Int) = 97 := by
  decide +kernel

/-- A disk of a law's own: all it hangs on is new. -/
def OwnDisk (n : Nat) (w : World) (db : Nat) (D : DiskM) : Prop := IsDisk w db D (fun i => n ≤ i ∧ i < w.heap.size)

theorem IsDisk.own {w : World} {db n : Nat} {D : DiskM} {F : Nat → Prop} (h : IsDisk w db D F) (hF : ∀ i, F i → n ≤ i) : OwnDisk n w db D := by
  obtain ⟨mr, gs, cv, h⟩ := h
  exact ⟨mr, gs, cv, h.here.mono fun i hi => ⟨hF i hi.1, hi.2⟩⟩
theorem OwnDisk.keep {w w' : World} {db n : Nat} {D : DiskM} (h : OwnDisk n w db D) (k : Keep (fun i => w.heap.size ≤ i) w w') : OwnDisk n w' db D :=
  (IsDisk.keep (G := fun i => w.heap.size ≤ i) h k (fun i hi => by omega)).own fun i hi => hi.1

theorem own_append {w w0 : World} {db n : Nat} {D : DiskM} (h : OwnDisk n w0 db D) (hn : n ≤ w0.heap.size) (hk : Keep (fun _ => False) w0 w) (name : ByteArray) {bo : Option Addr} {cb : Nat} {l : List UInt8} {G : Nat → Prop} (hsrc : BytesIn w (.slice bo l.length cb) l G) (hG : ∀ i, G i → i < w.heap.size ∧ (i < n ∨ w0.heap.size ≤ i)) :
    Calls Tryz.prog 9 #[ptr db, .string name, .slice bo l.length cb] w fun e w' => e = .returned (.int .i64 (append D name l).2) ∧ OwnDisk n w' db (append D name l).1 ∧ Keep (fun i => n ≤ i) w0 w' := by
  refine (append_any w (IsDisk.keep h hk (fun _ _ h => h)) name hsrc (fun i hi => ⟨(hG i hi).1, fun hf => by have := (hG i hi).2; omega⟩)).mono ?_
  rintro e w' ⟨he, hI, hK⟩
  have hs := hk.size
  exact ⟨he, hI.own fun i hi => hi.elim (fun h => h.1) (fun h => by omega), (hk.mono fun _ _ h => h.elim).trans hK (fun i hi hf => hf.elim (fun h => h.1) (fun h => h.elim))⟩

theorem own_sync {w : World} {db n : Nat} {D : DiskM} (h : OwnDisk n w db D) (hn : n ≤ w.heap.size) (name : ByteArray) :
    Calls Tryz.prog 12 #[ptr db, .string name] w fun e w' => e = .returned (.int .i64 (sync D name).2) ∧ OwnDisk n w' db (sync D name).1 ∧ Keep (fun i => n ≤ i) w w' := by
  refine (sync_any w h name).mono ?_
  rintro e w' ⟨he, hI, hK⟩
  exact ⟨he, hI.own fun i hi => hi.elim (fun h => h.1) (fun h => by omega), hK.mono fun i hi hf => hf.elim (fun h => h.1) (fun h => h.elim)⟩
theorem own_cut {w : World} {db n : Nat} {D : DiskM} (h : OwnDisk n w db D) (hn : n ≤ w.heap.size) (o p k : Int) (ho : o < 9223372036854775808) (hp : p < 9223372036854775808) (hk : k < 9223372036854775808) :
    Calls Tryz.prog 13 #[ptr db, .int .i64 o, .int .i64 p, .int .i64 k] w fun e w' => e = .returned (.int .i64 (cutTo D o p k).2) ∧ OwnDisk n w' db (cutTo D o p k).1 ∧ Keep (fun i => n ≤ i) w w' := by
  obtain ⟨mr, gs, cv, h⟩ := h
  refine (cut_any w h o p k ho hp hk).mono ?_
  rintro e w' ⟨he, hI, hK⟩
  exact ⟨he, hI.own fun i hi => hi.elim (fun h => h.1) (fun h => by omega), hK.mono fun i hi hf => hf.1⟩
theorem own_on {w : World} {db n : Nat} {D : DiskM} (h : OwnDisk n w db D) :
    Calls Tryz.prog 16 #[ptr db] w fun e w' => e = .returned (.tuple #[]) ∧ OwnDisk n w' db (on D) ∧ Keep (fun i => n ≤ i) w w' := by
  obtain ⟨mr, gs, cv, h⟩ := h
  refine (on_any w h).mono ?_
  rintro e w' ⟨he, hI, hK⟩
  exact ⟨he, hI.own fun i hi => hi.1, hK.mono fun i hi hf => hf.1⟩
theorem own_off {w : World} {db n : Nat} {D : DiskM} (h : OwnDisk n w db D) : Calls Tryz.prog 15 #[ptr db] w fun e w' => e = .returned (.bool D.off) ∧ w' = w := by
  obtain ⟨mr, gs, cv, h⟩ := h
  exact off_any w h
theorem own_room {w : World} {db n : Nat} {D : DiskM} (h : OwnDisk n w db D) : Calls Tryz.prog 28 #[ptr db] w fun e w' => e = .returned (.int .i64 ((D.room : Int) - (total D.files : Int))) ∧ Keep (fun _ => False) w w' := by
  obtain ⟨mr, gs, cv, h⟩ := h
  exact room_any w h

/-- 'string(b)'. -/
theorem bytes_string {w : World} {v : Value} {l : List UInt8} {G : Nat → Prop} (h : BytesIn w v l G) : (convert 22 9 v).run Tryz.prog w = .ok (.string ⟨l.toArray⟩) w := by
  obtain ⟨ao, cap, rfl, h1, h2, h3, h4⟩ := h.read
  have he : Tryz.prog.underlying 5 = some (.int .u8) := by kernel_rfl
  have hd : Tryz.prog.underlying 9 = some .string := by kernel_rfl
  cases ao with
  | none =>
    obtain rfl := h3 rfl
    rw [run_convert_bytes_nil w _ _ under_bytes he _ _ _ hd]; rfl
  | some a => exact run_convert_bytes_back w _ _ _ a cap l under_bytes he hd fun j hj => (h4 a rfl j _ (by simp [hj]; rfl)).1

theorem modify_push {α : Type} (xs : Array α) (o : α) (f : α → α) : (xs.push o).modify xs.size f = xs.push (f o) := by
  apply Array.ext_getElem?
  intro i
  rw [Array.getElem?_modify, Array.getElem?_push, Array.getElem?_push]
  by_cases h : xs.size = i
  · subst h; simp
  · rw [if_neg h, if_neg (Ne.symm h), if_neg (Ne.symm h)]

/-- '[]byte{..}' turned to '[]byte': the block is marked. -/
theorem conv_bytes (w : World) (n c : Nat) (cs : Array Value) : (convert 22 22 (.slice (some ⟨w.heap.size, 0, none⟩) n c)).run Tryz.prog (w.alloc (.cells cs 5)) = .ok (.slice (some ⟨w.heap.size, 0, none⟩) n c) (w.alloc (.cells cs 5 (cs.size, cs.size + 1))) := by
  have hu := under_bytes
  have he : Tryz.prog.underlying 5 = some (.int .u8) := by kernel_rfl
  have hsh : (w.alloc (.cells cs 5)).shape? w.heap.size = some (5, cs.size) := by
    unfold World.shape?
    rw [heap_alloc_new]
  have hfz : (w.alloc (.cells cs 5)).freeze ⟨w.heap.size, cs.size, none⟩ 1 = w.alloc (.cells cs 5 (cs.size, cs.size + 1)) := by
    unfold World.freeze World.alloc
    rw [if_neg (by decide), modify_push]
    simp
  simp [convert, run_underlying hu, run_underlying he, markStringish, hsh, hfz, Result.andThen]

end Go.Proofs.YtmdibkafjpglkaaGreatDoor.Dsk
