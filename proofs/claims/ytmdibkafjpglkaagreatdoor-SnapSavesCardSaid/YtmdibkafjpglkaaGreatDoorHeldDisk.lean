/- A disk apart from other blocks of one's own; a law's own disk: the calls, as a law makes them. -/
import Derived.Test.YtmdibkafjpglkaaGreatDoorDiskMove
import Derived.Test.YtmdibkafjpglkaaGreatDoorHeldI
import Derived.Test.YtmdibkafjpglkaaGreatDoorDiskAwake
namespace Go.Proofs.YtmdibkafjpglkaaGreatDoor.Wal
open Go Go.RowKit Go.Lib Go.Proofs.YtmdibkafjpglkaaGreatDoor.Dsk

/-- The disk hangs on blocks at or beyond n that are none of X's. -/
def Held (n : Nat) (X : Nat → Prop) (w : World) (db : Nat) (D : DiskM) : Prop := IsDisk w db D (fun i => n ≤ i ∧ i < w.heap.size ∧ ¬ X i)

section held
variable {n db : Nat} {X : Nat → Prop} {w w0 w' : World} {D : DiskM}

theorem Held.mono {Y : Nat → Prop} (h : Held n X w db D) (hY : ∀ i, i < w.heap.size → Y i → X i) : Held n Y w db D := by
  obtain ⟨mr, gs, cv, h⟩ := h
  exact ⟨mr, gs, cv, h.mono fun i hi => ⟨hi.1, hi.2.1, fun hy => hi.2.2 (hY i hi.2.1 hy)⟩⟩
theorem Held.keep {G : Nat → Prop} (h : Held n X w db D) (k : Keep G w w') (hG : ∀ i, G i → n ≤ i → i < w.heap.size → X i) : Held n X w' db D := by
  obtain ⟨mr, gs, cv, h⟩ := h
  refine ⟨mr, gs, cv, (h.keep k fun i hi hg => hi.2.2 (hG i hg hi.1 hi.2.1)).mono fun i hi => ⟨hi.1, Nat.lt_of_lt_of_le hi.2.1 k.size, hi.2.2⟩⟩
/-- What is new since is apart, too. -/
theorem Held.grow {G : Nat → Prop} (h : Held n X w0 db D) (k : Keep G w0 w) (hG : ∀ i, G i → n ≤ i → i < w0.heap.size → X i) : Held n (fun i => X i ∨ w0.heap.size ≤ i) w db D := by
  obtain ⟨mr, gs, cv, h⟩ := h
  refine ⟨mr, gs, cv, (h.keep k fun i hi hg => hi.2.2 (hG i hg hi.1 hi.2.1)).mono fun i hi => ⟨hi.1, Nat.lt_of_lt_of_le hi.2.1 k.size, fun hx => hx.elim hi.2.2 (fun h => by omega)⟩⟩

theorem Held.after {r : DiskM × Int} {e : Ending} {F : Nat → Prop} (hF : ∀ i, F i → n ≤ i ∧ ¬ X i) (hn : n ≤ w.heap.size) (hX : ∀ i, X i → i < w.heap.size) (h : Operated w db F (fun _ => False) r e w') : Held n X w' db r.1 := by
  obtain ⟨-, ⟨mr, gs, cv, h⟩, -⟩ := h
  exact ⟨mr, gs, cv, h.here.mono fun i hi => ⟨hi.1.elim (fun h => (hF i h).1) (fun h => by omega), hi.2, hi.1.elim (fun h => (hF i h).2) (fun h hx => by have := hX i hx; omega)⟩⟩

theorem bytes_here {v : Value} {l : List UInt8} {G : Nat → Prop} (h : BytesIn w v l G) : BytesIn w v l (fun i => G i ∧ i < w.heap.size) := by
  obtain ⟨ao, cap, e, h1, h2, h3, h4⟩ := h.read
  exact ⟨ao, cap, e, h1, h2, h3, fun b hb j u hj => ⟨(h4 b hb j u hj).1, (h4 b hb j u hj).2.1, (h4 b hb j u hj).2.2, (h4 b hb j u hj).2.1⟩⟩

theorem held_append (h : Held n X w0 db D) (hn : n ≤ w0.heap.size) (hX : ∀ i, X i → i < w0.heap.size) (hk : Keep (fun _ => False) w0 w) (name : ByteArray) {v : Value} {l : List UInt8} {G : Nat → Prop} (hsrc : BytesIn w v l G) (hG : ∀ i, G i → i < n ∨ X i ∨ w0.heap.size ≤ i) :
    Calls Tryz.prog 9 #[ptr db, .string name, v] w fun e w' => e = .returned (.int .i64 (append D name l).2) ∧ Held n X w' db (append D name l).1 ∧ Keep (fun i => n ≤ i ∧ i < w0.heap.size ∧ ¬ X i) w w' := by
  have hsrc' := bytes_here hsrc
  obtain ⟨bo, cb, rfl, -⟩ := hsrc.read
  refine (append_any w (IsDisk.keep h hk (fun _ _ h => h)) name hsrc' (fun i hi => ⟨hi.2, fun hf => ?_⟩)).mono ?_
  · rcases hG i hi.1 with h | h | h
    · omega
    · exact hf.2.2 h
    · omega
  · rintro e w' hop
    have hs := hk.size
    exact ⟨hop.1, Held.after (fun i hi => ⟨hi.1, hi.2.2⟩) (by omega) (fun i hi => by have := hX i hi; omega) hop, hop.2.2.mono fun i _ hf => hf.elim (fun h => h) (fun h => h.elim)⟩
theorem held_sync (h : Held n X w db D) (hn : n ≤ w.heap.size) (hX : ∀ i, X i → i < w.heap.size) (name : ByteArray) :
    Calls Tryz.prog 12 #[ptr db, .string name] w fun e w' => e = .returned (.int .i64 (sync D name).2) ∧ Held n X w' db (sync D name).1 ∧ Keep (fun i => n ≤ i ∧ i < w.heap.size ∧ ¬ X i) w w' := by
  refine (sync_any w h name).mono ?_
  rintro e w' hop
  exact ⟨hop.1, Held.after (fun i hi => ⟨hi.1, hi.2.2⟩) hn hX hop, hop.2.2.mono fun i _ hf => hf.elim (fun h => h) (fun h => h.elim)⟩
theorem held_cut (h : Held n X w db D) (hn : n ≤ w.heap.size) (hX : ∀ i, X i → i < w.heap.size) (o p k : Int) (ho : o < 9223372036854775808) (hp : p < 9223372036854775808) (hk : k < 9223372036854775808) :
    Calls Tryz.prog 13 #[ptr db, .int .i64 o, .int .i64 p, .int .i64 k] w fun e w' => e = .returned (.int .i64 (cutTo D o p k).2) ∧ Held n X w' db (cutTo D o p k).1 ∧ Keep (fun i => n ≤ i ∧ i < w.heap.size ∧ ¬ X i) w w' := by
  obtain ⟨mr, gs, cv, h⟩ := h
  refine (cut_any w h o p k ho hp hk).mono ?_
  rintro e w' ⟨he, hI, hK⟩
  obtain ⟨mr, gs, cv, hI⟩ := hI
  exact ⟨he, ⟨mr, gs, cv, hI.here.mono fun i hi => ⟨hi.1.elim (fun h => h.1) (fun h => by omega), hi.2, hi.1.elim (fun h => h.2.2) (fun h hx => by have := hX i hx; omega)⟩⟩, hK⟩
theorem held_on (h : Held n X w db D) :
    Calls Tryz.prog 16 #[ptr db] w fun e w' => e = .returned (.tuple #[]) ∧ Held n X w' db (on D) ∧ Keep (fun i => n ≤ i ∧ i < w.heap.size ∧ ¬ X i) w w' := by
  obtain ⟨mr, gs, cv, h⟩ := h
  refine (on_any w h).mono ?_
  rintro e w' ⟨he, hI, hK⟩
  obtain ⟨mr, gs, cv, hI⟩ := hI
  exact ⟨he, ⟨mr, gs, cv, hI.here.mono fun i hi => ⟨hi.1.1, hi.2, hi.1.2.2⟩⟩, hK⟩
theorem held_off (h : Held n X w db D) : Calls Tryz.prog 15 #[ptr db] w fun e w' => e = .returned (.bool D.off) ∧ w' = w := by
  obtain ⟨mr, gs, cv, h⟩ := h
  exact off_any w h
theorem held_room (h : Held n X w db D) : Calls Tryz.prog 28 #[ptr db] w fun e w' => e = .returned (.int .i64 ((D.room : Int) - (total D.files : Int))) ∧ Keep (fun _ => False) w w' := by
  obtain ⟨mr, gs, cv, h⟩ := h
  exact room_any w h
theorem held_read (h : Held n X w db D) (name : ByteArray) : Calls Tryz.prog 17 #[ptr db, .string name] w fun e w' => ∃ v', e = .returned (.tuple #[v', .int .i64 (read D name).2]) ∧ FB w' v' (read D name).1 (fun i => w.heap.size ≤ i) ∧ Keep (fun _ => False) w w' := read_any w h name
end held

theorem keep_new' {w w' : World} (h : Keep (fun i => w.heap.size ≤ i) w w') : Keep (fun _ => False) w w' :=
  ⟨h.os, h.tape, h.output, h.size, fun k hk _ => h.block k hk (by omega)⟩

/-- All of it is new since W; the disk apart from X's blocks. -/
structure St (W w : World) (db : Nat) (D : DiskM) (X : Nat → Prop) : Prop where
  held : Held W.heap.size X w db D
  sub : ∀ i, X i → i < w.heap.size
  kept : Keep (fun i => W.heap.size ≤ i) W w

section
variable {W w w' : World} {db : Nat} {D : DiskM} {X : Nat → Prop}
theorem St.size (S : St W w db D X) : W.heap.size ≤ w.heap.size := S.kept.size
theorem St.keep (S : St W w db D X) (k : Keep (fun _ => False) w w') : St W w' db D X :=
  ⟨S.held.keep k (fun _ h => h.elim), fun i hi => Nat.lt_of_lt_of_le (S.sub i hi) k.size, S.kept.trans k (fun _ _ h => h.elim)⟩
/-- What is new since w is apart, too. -/
theorem St.more (S : St W w db D X) (k : Keep (fun _ => False) w w') : St W w' db D (fun i => X i ∨ (w.heap.size ≤ i ∧ i < w'.heap.size)) :=
  ⟨(S.held.grow k (fun _ h => h.elim)).mono (fun _ _ hi => hi.imp id (fun h => h.1)), fun i hi => hi.elim (fun h => Nat.lt_of_lt_of_le (S.sub i h) k.size) (fun h => h.2), S.kept.trans k (fun _ _ h => h.elim)⟩
/-- A change of one's own blocks. -/
theorem St.own {G : Nat → Prop} (S : St W w db D X) (k : Keep G w w') (hG : ∀ i, G i → X i ∧ W.heap.size ≤ i) : St W w' db D X :=
  ⟨S.held.keep k (fun _ hi _ _ => (hG _ hi).1), fun i hi => Nat.lt_of_lt_of_le (S.sub i hi) k.size, S.kept.trans k (fun i _ hi => (hG i hi).2)⟩
theorem St.fewer {Y : Nat → Prop} (S : St W w db D X) (hY : ∀ i, Y i → X i) : St W w db D Y :=
  ⟨S.held.mono (fun i _ h => hY i h), fun i hi => S.sub i (hY i hi), S.kept⟩

theorem st_new (W : World) {w : World} (k : Keep (fun _ => False) W w) (room : Int) (hr : room ≤ 2147483648) :
    Calls Tryz.prog 7 #[.int .i64 room] w fun e w' => ∃ db, e = .returned (ptr db) ∧ St W w' db (new room) (fun _ => False) := by
  refine (new_any room w hr).mono ?_
  rintro e w1 ⟨db, rfl, hdb, hI, hK⟩
  have hs := k.size
  obtain ⟨mr, gs, cv, h⟩ := hI
  exact ⟨db, rfl, ⟨mr, gs, cv, h.here.mono fun i hi => ⟨by omega, hi.2, fun h => h⟩⟩, fun _ h => h.elim, (k.mono fun _ _ h => h.elim).trans hK (fun _ _ h => h.elim)⟩
theorem st_dappend (S : St W w db D X) (name : ByteArray) {v : Value} {l : List UInt8} {G : Nat → Prop} (hB : BytesIn w v l G) (hG : ∀ i, G i → i < W.heap.size ∨ X i) :
    Calls Tryz.prog 9 #[ptr db, .string name, v] w fun e w' => e = .returned (.int .i64 (append D name l).2) ∧ St W w' db (append D name l).1 X ∧ Keep (fun i => ¬ X i) w w' := by
  refine (held_append S.held S.size S.sub (Keep.refl _ _) name hB (fun i hi => (hG i hi).imp id .inl)).mono ?_
  rintro e w' ⟨rfl, h1, h3⟩
  exact ⟨rfl, ⟨h1, fun i hi => Nat.lt_of_lt_of_le (S.sub i hi) h3.size, S.kept.trans h3 (fun i _ h => h.1)⟩, h3.mono fun i _ h => h.2.2⟩
theorem st_cut (S : St W w db D X) (o p k : Int) (ho : o < 9223372036854775808) (hp : p < 9223372036854775808) (hk : k < 9223372036854775808) :
    Calls Tryz.prog 13 #[ptr db, .int .i64 o, .int .i64 p, .int .i64 k] w fun e w' => e = .returned (.int .i64 (cutTo D o p k).2) ∧ St W w' db (cutTo D o p k).1 X ∧ Keep (fun i => ¬ X i) w w' := by
  refine (held_cut S.held S.size S.sub o p k ho hp hk).mono ?_
  rintro e w' ⟨rfl, h1, h3⟩
  exact ⟨rfl, ⟨h1, fun i hi => Nat.lt_of_lt_of_le (S.sub i hi) h3.size, S.kept.trans h3 (fun i _ h => h.1)⟩, h3.mono fun i _ h => h.2.2⟩
theorem st_on (S : St W w db D X) :
    Calls Tryz.prog 16 #[ptr db] w fun e w' => e = .returned (.tuple #[]) ∧ St W w' db (on D) X ∧ Keep (fun i => ¬ X i) w w' := by
  refine (held_on S.held).mono ?_
  rintro e w' ⟨rfl, h1, h3⟩
  exact ⟨rfl, ⟨h1, fun i hi => Nat.lt_of_lt_of_le (S.sub i hi) h3.size, S.kept.trans h3 (fun i _ h => h.1)⟩, h3.mono fun i _ h => h.2.2⟩
theorem st_read (S : St W w db D X) (name : ByteArray) : Calls Tryz.prog 17 #[ptr db, .string name] w fun e w' => ∃ v', e = .returned (.tuple #[v', .int .i64 (read D name).2]) ∧ FB w' v' (read D name).1 (fun i => w.heap.size ≤ i) ∧ Keep (fun _ => False) w w' := held_read S.held name
theorem st_room (S : St W w db D X) : Calls Tryz.prog 28 #[ptr db] w fun e w' => e = .returned (.int .i64 ((D.room : Int) - (total D.files : Int))) ∧ Keep (fun _ => False) w w' := held_room S.held
theorem St.done (S : St W w db D X) : Keep (fun _ => False) W w := keep_new' S.kept
end
end Go.Proofs.YtmdibkafjpglkaaGreatDoor.Wal
