/- osierlaw18.awake, walked. -/
import Derived.Test.YtlabpmmcmejpmaaDoorDiskRead
namespace Go.Proofs.YtlabpmmcmejpmaaDoor.Dsk
open Go Go.RowKit Go.Lib

def nmA : ByteArray := ⟨#[97]⟩
def aw1 : DiskM := (append (new 100) nmA [97, 98]).1
def aw2 : DiskM := (sync aw1 nmA).1
def aw3 : DiskM := (append aw2 nmA [99, 100]).1
def aw4 : DiskM := (cutTo aw3 0 1 1).1
def aw5 : DiskM := (append aw4 nmA [101, 102]).1
def aw6 : DiskM := on aw5

/-- Two bytes in a block of their own. -/
theorem two_bytes {w : World} {g : Nat} {x y : UInt8} {t : TypeId} {fr : Nat × Nat} (h : w.heap[g]? = some (.cells #[byteV x, byteV y] t fr)) : BytesIn w (.slice (some ⟨g, 0, none⟩) [x, y].length 2) [x, y] (fun i => i = g) := by
  refine ⟨some ⟨g, 0, none⟩, 2, rfl, Nat.le_refl _, by decide, by simp, ?_⟩
  rintro b hb j u hj
  obtain rfl := Option.some.inj hb
  refine ⟨?_, lt_of_block h, rfl⟩
  rw [addr_add0, cell_at h]
  match j with
  | 0 => simpa using hj
  | 1 => simpa using hj
  | j + 2 => simp at hj

theorem aw_facts : (append (new 100) nmA [97, 98]).2 = 0 ∧ (sync aw1 nmA).2 = 0 ∧ (append aw2 nmA [99, 100]).2 = 0 ∧ (cutTo aw3 0 1 1).2 = 0 ∧ (append aw4 nmA [101, 102]).2 = 71 ∧ aw5.off = true ∧ read aw6 nmA = ([97, 98, 99], 0) ∧ (aw6.room : Int) - (total aw6.files : Int) = 97 := by
  decide +kernel

/-- A disk of a law's own: all it hangs on is new. -/
def OwnDisk (n : Nat) (w : World) (db : Nat) (D : DiskM) : Prop := IsDisk w db D (fun i => n ≤ i ∧ i < w.heap.size)

theorem IsDisk.own {w : World} {db n : Nat} {D : DiskM} {F : Nat → Prop} (h : IsDisk w db D F) (hF : ∀ i, F i → n ≤ i) : OwnDisk n w db D := by
  obtain ⟨mr, gs, cv, h⟩ := h
  exact ⟨mr, gs, cv, h.here.mono fun i hi => ⟨hF i hi.1, hi.2⟩⟩
theorem OwnDisk.keep {w w' : World} {db n : Nat} {D : DiskM} (h : OwnDisk n w db D) (k : Keep (fun i => w.heap.size ≤ i) w w') : OwnDisk n w' db D :=
  (IsDisk.keep (G := fun i => w.heap.size ≤ i) h k (fun i hi => by omega)).own fun i hi => hi.1

theorem own_append {w w0 : World} {db n : Nat} {D : DiskM} (h : OwnDisk n w0 db D) (hn : n ≤ w0.heap.size) (hk : Keep (fun _ => False) w0 w) (name : ByteArray) {bo : Option Addr} {cb : Nat} {l : List UInt8} {G : Nat → Prop} (hsrc : BytesIn w (.slice bo l.length cb) l G) (hG : ∀ i, G i → i < w.heap.size ∧ (i < n ∨ w0.heap.size ≤ i)) :
    Calls Tryd.prog 13 #[ptr db, .string name, .slice bo l.length cb] w fun e w' => e = .returned (.int .i64 (append D name l).2) ∧ OwnDisk n w' db (append D name l).1 ∧ Keep (fun i => n ≤ i) w0 w' := by
  refine (append_any w (IsDisk.keep h hk (fun _ _ h => h)) name hsrc (fun i hi => ⟨(hG i hi).1, fun hf => by have := (hG i hi).2; omega⟩)).mono ?_
  rintro e w' ⟨he, hI, hK⟩
  have hs := hk.size
  exact ⟨he, hI.own fun i hi => hi.elim (fun h => h.1) (fun h => by omega), (hk.mono fun _ _ h => h.elim).trans hK (fun i hi hf => hf.elim (fun h => h.1) (fun h => h.elim))⟩

theorem own_sync {w : World} {db n : Nat} {D : DiskM} (h : OwnDisk n w db D) (hn : n ≤ w.heap.size) (name : ByteArray) :
    Calls Tryd.prog 14 #[ptr db, .string name] w fun e w' => e = .returned (.int .i64 (sync D name).2) ∧ OwnDisk n w' db (sync D name).1 ∧ Keep (fun i => n ≤ i) w w' := by
  refine (sync_any w h name).mono ?_
  rintro e w' ⟨he, hI, hK⟩
  exact ⟨he, hI.own fun i hi => hi.elim (fun h => h.1) (fun h => by omega), hK.mono fun i hi hf => hf.elim (fun h => h.1) (fun h => h.elim)⟩
theorem own_cut {w : World} {db n : Nat} {D : DiskM} (h : OwnDisk n w db D) (hn : n ≤ w.heap.size) (o p k : Int) (ho : o < 9223372036854775808) (hp : p < 9223372036854775808) (hk : k < 9223372036854775808) :
    Calls Tryd.prog 18 #[ptr db, .int .i64 o, .int .i64 p, .int .i64 k] w fun e w' => e = .returned (.int .i64 (cutTo D o p k).2) ∧ OwnDisk n w' db (cutTo D o p k).1 ∧ Keep (fun i => n ≤ i) w w' := by
  obtain ⟨mr, gs, cv, h⟩ := h
  refine (cut_any w h o p k ho hp hk).mono ?_
  rintro e w' ⟨he, hI, hK⟩
  exact ⟨he, hI.own fun i hi => hi.elim (fun h => h.1) (fun h => by omega), hK.mono fun i hi hf => hf.1⟩
theorem own_on {w : World} {db n : Nat} {D : DiskM} (h : OwnDisk n w db D) :
    Calls Tryd.prog 11 #[ptr db] w fun e w' => e = .returned (.tuple #[]) ∧ OwnDisk n w' db (on D) ∧ Keep (fun i => n ≤ i) w w' := by
  obtain ⟨mr, gs, cv, h⟩ := h
  refine (on_any w h).mono ?_
  rintro e w' ⟨he, hI, hK⟩
  exact ⟨he, hI.own fun i hi => hi.1, hK.mono fun i hi hf => hf.1⟩
theorem own_off {w : World} {db n : Nat} {D : DiskM} (h : OwnDisk n w db D) : Calls Tryd.prog 21 #[ptr db] w fun e w' => e = .returned (.bool D.off) ∧ w' = w := by
  obtain ⟨mr, gs, cv, h⟩ := h
  exact off_any w h
theorem own_room {w : World} {db n : Nat} {D : DiskM} (h : OwnDisk n w db D) : Calls Tryd.prog 20 #[ptr db] w fun e w' => e = .returned (.int .i64 ((D.room : Int) - (total D.files : Int))) ∧ Keep (fun _ => False) w w' := by
  obtain ⟨mr, gs, cv, h⟩ := h
  exact room_any w h

/-- 'string(b)'. -/
theorem bytes_string {w : World} {v : Value} {l : List UInt8} {G : Nat → Prop} (h : BytesIn w v l G) : (convert 31 9 v).run Tryd.prog w = .ok (.string ⟨l.toArray⟩) w := by
  obtain ⟨ao, cap, rfl, h1, h2, h3, h4⟩ := h.read
  have he : Tryd.prog.underlying 5 = some (.int .u8) := by kernel_rfl
  have hd : Tryd.prog.underlying 9 = some .string := by kernel_rfl
  cases ao with
  | none =>
    obtain rfl := h3 rfl
    rw [run_convert_bytes_nil w _ _ under_bytes he _ _ _ hd]; rfl
  | some a => exact run_convert_bytes_back w _ _ _ a cap l under_bytes he hd fun j hj => (h4 a rfl j _ (by simp [hj]; rfl)).1

theorem modify_push {α : Type} (xs : Array α) (o : α) (f : α → α) : (xs.push o).modify xs.size f = xs.push (f o) := by
  apply Array.ext_getElem?
  intro i
  rw [Array.getElem?_modify, Array.getElem?_push, Array.getElem?_push]
  by_cases h : xs.size = i
  · subst h; simp
  · rw [if_neg h, if_neg (Ne.symm h), if_neg (Ne.symm h)]

/-- '[]byte{..}' turned to '[]byte': the block is marked. -/
theorem conv_bytes (w : World) (n c : Nat) (cs : Array Value) : (convert 31 31 (.slice (some ⟨w.heap.size, 0, none⟩) n c)).run Tryd.prog (w.alloc (.cells cs 5)) = .ok (.slice (some ⟨w.heap.size, 0, none⟩) n c) (w.alloc (.cells cs 5 (cs.size, cs.size + 1))) := by
  have hu := under_bytes
  have he : Tryd.prog.underlying 5 = some (.int .u8) := by kernel_rfl
  have hsh : (w.alloc (.cells cs 5)).shape? w.heap.size = some (5, cs.size) := by
    unfold World.shape?
    rw [heap_alloc_new]
  have hfz : (w.alloc (.cells cs 5)).freeze ⟨w.heap.size, cs.size, none⟩ 1 = w.alloc (.cells cs 5 (cs.size, cs.size + 1)) := by
    unfold World.freeze World.alloc
    rw [if_neg (by decide), modify_push]
    simp
  simp [convert, run_underlying hu, run_underlying he, markStringish, hsh, hfz, Result.andThen]

set_option maxRecDepth 100000 in
set_option maxHeartbeats 4000000 in
theorem awake18 (w : World) : Calls Tryd.prog 6 #[] w fun e w' => e = .returned (.bool true) ∧ Keep (fun _ => False) w w' := by
  have hcv : ∀ (w : World) (n c : Nat) (cs : Array Value), (convert 31 31 (.slice (some ⟨w.heap.size, 0, none⟩) n c)).run Tryd.prog (w.alloc (.cells cs 5)) = .ok (.slice (some ⟨w.heap.size, 0, none⟩) n c) (w.alloc (.cells cs 5 (cs.size, cs.size + 1))) := fun w n c cs => conv_bytes w n c cs
  obtain ⟨f1, f2, f3, f4, f5, f6, f7, f8⟩ := aw_facts
  unfold aw6 aw5 aw4 aw3 aw2 aw1 at *
  have f71 := congrArg Prod.fst f7
  have f72 := congrArg Prod.snd f7
  simp only at f71 f72
  clear f7
  go_enter Tryd.func6, Tryd.ntmps6
  go_wp2_with fail
  refine (new_any 100 w (by decide)).mono ?_
  rintro e w1 ⟨db, rfl, hdb, hI, hK⟩
  have HI1 := hid (hI.own (n := w.heap.size) fun i hi => hi)
  have HK1 := hid (hK.mono (G := fun i => w.heap.size ≤ i) fun _ _ h => h.elim)
  have hs1 := hK.size
  clear hI hK
  unfold ptr
  go_wp2_with fail
  refine (own_append (l := [97, 98]) HI1.out hs1 ((Keep.refl _ w1).alloc _) nmA (two_bytes (heap_alloc_new w1 (.cells #[byteV 97, byteV 98] 5 (2, 3)))) (fun i hi => by have hi' : i = w1.heap.size := hi; subst hi'; simp)).mono ?_
  rintro e w2 ⟨rfl, hI, hK⟩
  have HI2 := hid hI
  have HK2 := hid (HK1.out.trans hK (fun _ _ h => h))
  have hs2 := HK2.out.size
  clear hI hK HI1 HK1
  go_wp2_with fail
  refine (own_sync HI2.out hs2 nmA).mono ?_
  rintro e w3 ⟨rfl, hI, hK⟩
  have HI3 := hid hI
  have HK3 := hid (HK2.out.trans hK (fun _ _ h => h))
  have hs3 := HK3.out.size
  clear hI hK HI2 HK2
  go_wp2_with fail
  refine (own_append (l := [99, 100]) HI3.out hs3 ((Keep.refl _ w3).alloc _) nmA (two_bytes (heap_alloc_new w3 (.cells #[byteV 99, byteV 100] 5 (2, 3)))) (fun i hi => by have hi' : i = w3.heap.size := hi; subst hi'; simp)).mono ?_
  rintro e w4 ⟨rfl, hI, hK⟩
  have HI4 := hid hI
  have HK4 := hid (HK3.out.trans hK (fun _ _ h => h))
  have hs4 := HK4.out.size
  clear hI hK HI3 HK3
  go_wp2_with fail
  refine (own_cut HI4.out hs4 0 1 1 (by decide) (by decide) (by decide)).mono ?_
  rintro e w5 ⟨rfl, hI, hK⟩
  have HI5 := hid hI
  have HK5 := hid (HK4.out.trans hK (fun _ _ h => h))
  have hs5 := HK5.out.size
  clear hI hK HI4 HK4
  go_wp2_with fail
  refine (own_append (l := [101, 102]) HI5.out hs5 ((Keep.refl _ w5).alloc _) nmA (two_bytes (heap_alloc_new w5 (.cells #[byteV 101, byteV 102] 5 (2, 3)))) (fun i hi => by have hi' : i = w5.heap.size := hi; subst hi'; simp)).mono ?_
  rintro e w6 ⟨rfl, hI, hK⟩
  have HI6 := hid hI
  have HK6 := hid (HK5.out.trans hK (fun _ _ h => h))
  have hs6 := HK6.out.size
  clear hI hK HI5 HK5
  go_wp2_with fail
  refine (own_off HI6.out).mono ?_
  intro e w' hh
  obtain ⟨he, hw⟩ := hh
  rw [he, hw]
  clear he hw w' e
  go_wp2_with fail
  refine (own_on HI6.out).mono ?_
  rintro e w7 ⟨rfl, hI, hK⟩
  have HI7 := hid hI
  have HK7 := hid (HK6.out.trans hK (fun _ _ h => h))
  have hs7 := HK7.out.size
  clear hI hK HI6 HK6
  go_wp2_with fail
  refine (read_any w7 HI7.out nmA).mono ?_
  rintro e w8 ⟨v', rfl, hF, hK⟩
  have HF := hid hF
  have HI8 := hid (HI7.out.keep (hK.mono fun _ _ h => h.elim))
  have HK8 := hid (HK7.out.trans hK (fun _ _ h => h.elim))
  have hs8 := HK8.out.size
  rw [f71] at hF
  have hst := bytes_string hF.bytesIn
  clear hF hK HI7 HK7
  go_wp2_with fail
  refine (own_room HI8.out).mono ?_
  rintro e w9 ⟨rfl, hK⟩
  have HK9 := hid (HK8.out.trans hK (fun _ _ h => h.elim))
  clear hK HK8 HI8
  go_wp2_with fail
  all_goals go_ret
  all_goals exact ⟨rfl, HK9.out.os, HK9.out.tape, HK9.out.output, HK9.out.size, fun k hk _ => HK9.out.block k hk (fun h => by omega)⟩

end Go.Proofs.YtlabpmmcmejpmaaDoor.Dsk
