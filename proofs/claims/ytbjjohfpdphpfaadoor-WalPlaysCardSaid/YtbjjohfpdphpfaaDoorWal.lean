/- A log on a disk: how it lies in memory; the disk apart from other blocks of one's own. -/
import Derived.Test.YtbjjohfpdphpfaaDoorDiskShort
import Derived.Test.YtbjjohfpdphpfaaDoorDiskAwake
import Derived.Test.YtbjjohfpdphpfaaDoorFrameSplit
namespace Go.Proofs.YtbjjohfpdphpfaaDoor.Wal
open Go Go.RowKit Go.Lib Go.Proofs.YtbjjohfpdphpfaaDoor.Dsk Go.Proofs.YtbjjohfpdphpfaaDoor.Frm

/-- The disk hangs on blocks at or beyond n that are none of X's. -/
def Held (n : Nat) (X : Nat → Prop) (w : World) (db : Nat) (D : DiskM) : Prop := IsDisk w db D (fun i => n ≤ i ∧ i < w.heap.size ∧ ¬ X i)

section held
variable {n db : Nat} {X : Nat → Prop} {w w0 w' : World} {D : DiskM}

theorem Held.mono {Y : Nat → Prop} (h : Held n X w db D) (hY : ∀ i, i < w.heap.size → Y i → X i) : Held n Y w db D := by
  obtain ⟨mr, gs, cv, h⟩ := h
  exact ⟨mr, gs, cv, h.mono fun i hi => ⟨hi.1, hi.2.1, fun hy => hi.2.2 (hY i hi.2.1 hy)⟩⟩
theorem Held.keep {G : Nat → Prop} (h : Held n X w db D) (k : Keep G w w') (hG : ∀ i, G i → n ≤ i → i < w.heap.size → X i) : Held n X w' db D := by
  obtain ⟨mr, gs, cv, h⟩ := h
  refine ⟨mr, gs, cv, (h.keep k fun i hi hg => hi.2.2 (hG i hg hi.1 hi.2.1)).mono fun i hi => ⟨hi.1, Nat.lt_of_lt_of_le hi.2.1 k.size, hi.2.2⟩⟩
/-- What is new since is apart, too. -/
theorem Held.grow {G : Nat → Prop} (h : Held n X w0 db D) (k : Keep G w0 w) (hG : ∀ i, G i → n ≤ i → i < w0.heap.size → X i) : Held n (fun i => X i ∨ w0.heap.size ≤ i) w db D := by
  obtain ⟨mr, gs, cv, h⟩ := h
  refine ⟨mr, gs, cv, (h.keep k fun i hi hg => hi.2.2 (hG i hg hi.1 hi.2.1)).mono fun i hi => ⟨hi.1, Nat.lt_of_lt_of_le hi.2.1 k.size, fun hx => hx.elim hi.2.2 (fun h => by omega)⟩⟩

theorem Held.after {r : DiskM × Int} {e : Ending} {F : Nat → Prop} (hF : ∀ i, F i → n ≤ i ∧ ¬ X i) (hn : n ≤ w.heap.size) (hX : ∀ i, X i → i < w.heap.size) (h : Operated w db F (fun _ => False) r e w') : Held n X w' db r.1 := by
  obtain ⟨-, ⟨mr, gs, cv, h⟩, -⟩ := h
  exact ⟨mr, gs, cv, h.here.mono fun i hi => ⟨hi.1.elim (fun h => (hF i h).1) (fun h => by omega), hi.2, hi.1.elim (fun h => (hF i h).2) (fun h hx => by have := hX i hx; omega)⟩⟩

theorem bytes_here {v : Value} {l : List UInt8} {G : Nat → Prop} (h : BytesIn w v l G) : BytesIn w v l (fun i => G i ∧ i < w.heap.size) := by
  obtain ⟨ao, cap, e, h1, h2, h3, h4⟩ := h.read
  exact ⟨ao, cap, e, h1, h2, h3, fun b hb j u hj => ⟨(h4 b hb j u hj).1, (h4 b hb j u hj).2.1, (h4 b hb j u hj).2.2, (h4 b hb j u hj).2.1⟩⟩

theorem held_append (h : Held n X w0 db D) (hn : n ≤ w0.heap.size) (hX : ∀ i, X i → i < w0.heap.size) (hk : Keep (fun _ => False) w0 w) (name : ByteArray) {v : Value} {l : List UInt8} {G : Nat → Prop} (hsrc : BytesIn w v l G) (hG : ∀ i, G i → i < n ∨ X i ∨ w0.heap.size ≤ i) :
    Calls Tryd.prog 24 #[ptr db, .string name, v] w fun e w' => e = .returned (.int .i64 (append D name l).2) ∧ Held n X w' db (append D name l).1 ∧ Keep (fun i => n ≤ i ∧ i < w0.heap.size ∧ ¬ X i) w w' := by
  have hsrc' := bytes_here hsrc
  obtain ⟨bo, cb, rfl, -⟩ := hsrc.read
  refine (append_any w (IsDisk.keep h hk (fun _ _ h => h)) name hsrc' (fun i hi => ⟨hi.2, fun hf => ?_⟩)).mono ?_
  · rcases hG i hi.1 with h | h | h
    · omega
    · exact hf.2.2 h
    · omega
  · rintro e w' hop
    have hs := hk.size
    exact ⟨hop.1, Held.after (fun i hi => ⟨hi.1, hi.2.2⟩) (by omega) (fun i hi => by have := hX i hi; omega) hop, hop.2.2.mono fun i _ hf => hf.elim (fun h => h) (fun h => h.elim)⟩
theorem held_sync (h : Held n X w db D) (hn : n ≤ w.heap.size) (hX : ∀ i, X i → i < w.heap.size) (name : ByteArray) :
    Calls Tryd.prog 25 #[ptr db, .string name] w fun e w' => e = .returned (.int .i64 (sync D name).2) ∧ Held n X w' db (sync D name).1 ∧ Keep (fun i => n ≤ i ∧ i < w.heap.size ∧ ¬ X i) w w' := by
  refine (sync_any w h name).mono ?_
  rintro e w' hop
  exact ⟨hop.1, Held.after (fun i hi => ⟨hi.1, hi.2.2⟩) hn hX hop, hop.2.2.mono fun i _ hf => hf.elim (fun h => h) (fun h => h.elim)⟩
theorem held_shorten (h : Held n X w db D) (hn : n ≤ w.heap.size) (hX : ∀ i, X i → i < w.heap.size) (name : ByteArray) (k : Int) (hk : k < 9223372036854775808) :
    Calls Tryd.prog 56 #[ptr db, .string name, .int .i64 k] w fun e w' => e = .returned (.int .i64 (shorten D name k).2) ∧ Held n X w' db (shorten D name k).1 ∧ Keep (fun i => n ≤ i ∧ i < w.heap.size ∧ ¬ X i) w w' := by
  refine (shorten_any w h name k hk).mono ?_
  rintro e w' hop
  exact ⟨hop.1, Held.after (fun i hi => ⟨hi.1, hi.2.2⟩) hn hX hop, hop.2.2.mono fun i _ hf => hf.elim (fun h => h) (fun h => h.elim)⟩
theorem held_cut (h : Held n X w db D) (hn : n ≤ w.heap.size) (hX : ∀ i, X i → i < w.heap.size) (o p k : Int) (ho : o < 9223372036854775808) (hp : p < 9223372036854775808) (hk : k < 9223372036854775808) :
    Calls Tryd.prog 26 #[ptr db, .int .i64 o, .int .i64 p, .int .i64 k] w fun e w' => e = .returned (.int .i64 (cutTo D o p k).2) ∧ Held n X w' db (cutTo D o p k).1 ∧ Keep (fun i => n ≤ i ∧ i < w.heap.size ∧ ¬ X i) w w' := by
  obtain ⟨mr, gs, cv, h⟩ := h
  refine (cut_any w h o p k ho hp hk).mono ?_
  rintro e w' ⟨he, hI, hK⟩
  obtain ⟨mr, gs, cv, hI⟩ := hI
  exact ⟨he, ⟨mr, gs, cv, hI.here.mono fun i hi => ⟨hi.1.elim (fun h => h.1) (fun h => by omega), hi.2, hi.1.elim (fun h => h.2.2) (fun h hx => by have := hX i hx; omega)⟩⟩, hK⟩
theorem held_on (h : Held n X w db D) :
    Calls Tryd.prog 28 #[ptr db] w fun e w' => e = .returned (.tuple #[]) ∧ Held n X w' db (on D) ∧ Keep (fun i => n ≤ i ∧ i < w.heap.size ∧ ¬ X i) w w' := by
  obtain ⟨mr, gs, cv, h⟩ := h
  refine (on_any w h).mono ?_
  rintro e w' ⟨he, hI, hK⟩
  obtain ⟨mr, gs, cv, hI⟩ := hI
  exact ⟨he, ⟨mr, gs, cv, hI.here.mono fun i hi => ⟨hi.1.1, hi.2, hi.1.2.2⟩⟩, hK⟩
theorem held_off (h : Held n X w db D) : Calls Tryd.prog 27 #[ptr db] w fun e w' => e = .returned (.bool D.off) ∧ w' = w := by
  obtain ⟨mr, gs, cv, h⟩ := h
  exact off_any w h
theorem held_room (h : Held n X w db D) : Calls Tryd.prog 38 #[ptr db] w fun e w' => e = .returned (.int .i64 ((D.room : Int) - (total D.files : Int))) ∧ Keep (fun _ => False) w w' := by
  obtain ⟨mr, gs, cv, h⟩ := h
  exact room_any w h
theorem held_read (h : Held n X w db D) (name : ByteArray) : Calls Tryd.prog 29 #[ptr db, .string name] w fun e w' => ∃ v', e = .returned (.tuple #[v', .int .i64 (read D name).2]) ∧ FB w' v' (read D name).1 (fun i => w.heap.size ≤ i) ∧ Keep (fun _ => False) w w' := read_any w h name
end held

/-- A log. -/
structure LogM where
  e : Int
  name : ByteArray
  count : Nat
  sure : Nat

/-- Block lb is the log L on the disk at db. -/
def LogAt (w : World) (lb db : Nat) (L : LogM) : Prop := w.heap[lb]? = some (.cells #[.int .i64 L.e, ptr db, .string L.name, .int .i64 (L.count : Int), .int .i64 (L.sure : Int)] 82 (0, 0))
theorem LogAt.keep {w w' : World} {lb db : Nat} {L : LogM} {F : Nat → Prop} (h : LogAt w lb db L) (k : Keep F w w') (hF : ¬ F lb) : LogAt w' lb db L := k.at h hF

def keepE (L : LogM) (e : Int) : LogM := if e = 72 then L else { L with e := e }
def walAppend (D : DiskM) (L : LogM) (l : List UInt8) : DiskM × LogM × Int :=
  if L.e = 0 then
    if maxBody < l.length then (D, L, 81)
    else if (append D L.name (frame l)).2 = 0 then ((append D L.name (frame l)).1, { L with count := L.count + 1 }, 0)
    else ((append D L.name (frame l)).1, keepE L (append D L.name (frame l)).2, (append D L.name (frame l)).2)
  else (D, L, L.e)
def walSync (D : DiskM) (L : LogM) : DiskM × LogM × Int :=
  if L.e = 0 then
    if L.count = 0 then (D, L, 0)
    else if (sync D L.name).2 = 0 then ((sync D L.name).1, { L with sure := L.count }, 0)
    else ((sync D L.name).1, keepE L (sync D L.name).2, (sync D L.name).2)
  else (D, L, L.e)
structure Opened where
  D : DiskM
  log : Option LogM
  bodies : List (List UInt8)
  e : Int
def walOpen (D : DiskM) (name : ByteArray) : Opened :=
  if isName name.toList then
    if (read D name).2 = 71 then ⟨D, none, [], 71⟩
    else if (Frm.split (read D name).1).2 < (read D name).1.length then
      if (shorten D name ((Frm.split (read D name).1).2 : Int)).2 = 0 then ⟨(shorten D name ((Frm.split (read D name).1).2 : Int)).1, some ⟨0, name, (Frm.split (read D name).1).1.length, 0⟩, (Frm.split (read D name).1).1, 0⟩
      else ⟨(shorten D name ((Frm.split (read D name).1).2 : Int)).1, none, [], (shorten D name ((Frm.split (read D name).1).2 : Int)).2⟩
    else ⟨D, some ⟨0, name, (Frm.split (read D name).1).1.length, 0⟩, (Frm.split (read D name).1).1, 0⟩
  else ⟨D, none, [], 61⟩

set_option maxRecDepth 100000 in
set_option maxHeartbeats 1000000 in
theorem keep_any (w : World) {lb db : Nat} {L : LogM} (h : LogAt w lb db L) (e : Int) :
    Calls Tryd.prog 59 #[ptr lb, .int .i64 e] w fun e' w' => e' = .returned (.int .i64 e) ∧ LogAt w' lb db (keepE L e) ∧ Keep (fun i => i = lb) w w' := by
  have c0 : w.cell? ⟨lb, 0, none⟩ = some (.int .i64 L.e) := by rw [cell_at h]; rfl
  have f0 : w.frozen? ⟨lb, 0, none⟩ = false := frozen_at h 0
  have H := hid h
  clear h
  unfold ptr keepE
  by_cases he : e = 72
  · subst he
    rw [if_pos rfl]
    go_enter Tryd.func59, Tryd.ntmps59
    go_wp2_with fail
    all_goals go_ret
    all_goals exact ⟨rfl, H.out, Keep.refl _ _⟩
  · rw [if_neg he]
    go_enter Tryd.func59, Tryd.ntmps59
    go_wp2_with fail
    all_goals go_ret
    all_goals exact ⟨rfl, heap_setCell_self H.out _, keep_setCell _ _ _ _⟩

set_option maxRecDepth 100000 in
set_option maxHeartbeats 1000000 in
theorem count_any (w : World) {lb db : Nat} {L : LogM} (h : LogAt w lb db L) :
    Calls Tryd.prog 35 #[ptr lb] w fun e' w' => e' = .returned (.int .i64 (L.count : Int)) ∧ w' = w := by
  have c0 : w.cell? ⟨lb, 3, none⟩ = some (.int .i64 (L.count : Int)) := by rw [cell_at h]; rfl
  clear h
  unfold ptr
  go_enter Tryd.func35, Tryd.ntmps35
  go_wp2_with fail
  all_goals go_ret
  all_goals exact ⟨rfl, rfl⟩
set_option maxRecDepth 100000 in
set_option maxHeartbeats 1000000 in
theorem sure_any (w : World) {lb db : Nat} {L : LogM} (h : LogAt w lb db L) :
    Calls Tryd.prog 36 #[ptr lb] w fun e' w' => e' = .returned (.int .i64 (L.sure : Int)) ∧ w' = w := by
  have c0 : w.cell? ⟨lb, 4, none⟩ = some (.int .i64 (L.sure : Int)) := by rw [cell_at h]; rfl
  clear h
  unfold ptr
  go_enter Tryd.func36, Tryd.ntmps36
  go_wp2_with fail
  all_goals go_ret
  all_goals exact ⟨rfl, rfl⟩

set_option maxRecDepth 100000 in
set_option maxHeartbeats 1000000 in
theorem wmay_any (w : World) (name : ByteArray) :
    Calls Tryd.prog 54 #[.string name] w fun e' w' => e' = .returned (.bool (isName name.toList)) ∧ Keep (fun _ => False) w w' := by
  go_enter Tryd.func54, Tryd.ntmps54
  go_wp2_with fail
  refine (new_any 0 w (by decide)).mono ?_
  rintro e w1 ⟨db, rfl, hdb, hI, hK⟩
  have HI := hid (show Held w.heap.size (fun _ => False) w1 db (new 0) from by obtain ⟨mr, gs, cv, h⟩ := hI; exact ⟨mr, gs, cv, h.here.mono fun i hi => ⟨hi.1, hi.2, fun h => h⟩⟩)
  have HK := hid hK
  clear hI
  unfold ptr
  go_wp2_with fail
  refine (held_append HI.out hK.size (fun _ h => h.elim) (Keep.refl _ _) name (l := []) (G := fun _ => False) ⟨none, 0, rfl, Nat.le_refl _, Nat.zero_le _, fun _ => rfl, fun b hb => by cases hb⟩ (fun _ h => h.elim)).mono ?_
  rintro e w2 ⟨rfl, -, hK2⟩
  have HK2 := hid (Frm.keep_old HK.out hK2 (fun _ _ h => h) (fun i hi h => by omega))
  clear hK2
  have he : (append (new 0) name []).2 = if isName name.toList then 0 else 61 := by
    unfold append appendE new operate
    cases isName name.toList <;> simp [total]
  rw [he]
  cases hm : isName name.toList with
  | true =>
    go_wp2_with fail
    all_goals go_ret
    all_goals exact ⟨by rw [hm]; rfl, HK2.out⟩
  | false =>
    go_wp2_with fail
    all_goals go_ret
    all_goals exact ⟨by rw [hm]; rfl, HK2.out⟩

end Go.Proofs.YtbjjohfpdphpfaaDoor.Wal
