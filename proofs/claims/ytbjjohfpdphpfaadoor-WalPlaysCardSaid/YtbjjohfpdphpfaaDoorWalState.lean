/- A law's own disk with logs on it: the calls, as a law makes them. -/
import Derived.Test.YtbjjohfpdphpfaaDoorWalOpen
import Derived.Test.YtbjjohfpdphpfaaDoorDiskSurePure
namespace Go.Proofs.YtbjjohfpdphpfaaDoor.Wal
open Go Go.RowKit Go.Lib Go.Proofs.YtbjjohfpdphpfaaDoor.Dsk Go.Proofs.YtbjjohfpdphpfaaDoor.Frm

theorem keep_new' {w w' : World} (h : Keep (fun i => w.heap.size ≤ i) w w') : Keep (fun _ => False) w w' :=
  ⟨h.os, h.tape, h.output, h.size, fun k hk _ => h.block k hk (by omega)⟩

/-- All of it is new since W; the disk apart from X's blocks. -/
structure St (W w : World) (db : Nat) (D : DiskM) (X : Nat → Prop) : Prop where
  held : Held W.heap.size X w db D
  sub : ∀ i, X i → i < w.heap.size
  kept : Keep (fun i => W.heap.size ≤ i) W w

section
variable {W w w' : World} {db : Nat} {D : DiskM} {X : Nat → Prop}
theorem St.size (S : St W w db D X) : W.heap.size ≤ w.heap.size := S.kept.size
theorem St.keep (S : St W w db D X) (k : Keep (fun _ => False) w w') : St W w' db D X :=
  ⟨S.held.keep k (fun _ h => h.elim), fun i hi => Nat.lt_of_lt_of_le (S.sub i hi) k.size, S.kept.trans k (fun _ _ h => h.elim)⟩
/-- What is new since w is apart, too. -/
theorem St.more (S : St W w db D X) (k : Keep (fun _ => False) w w') : St W w' db D (fun i => X i ∨ (w.heap.size ≤ i ∧ i < w'.heap.size)) :=
  ⟨(S.held.grow k (fun _ h => h.elim)).mono (fun _ _ hi => hi.imp id (fun h => h.1)), fun i hi => hi.elim (fun h => Nat.lt_of_lt_of_le (S.sub i h) k.size) (fun h => h.2), S.kept.trans k (fun _ _ h => h.elim)⟩
/-- A change of one's own blocks. -/
theorem St.own {G : Nat → Prop} (S : St W w db D X) (k : Keep G w w') (hG : ∀ i, G i → X i ∧ W.heap.size ≤ i) : St W w' db D X :=
  ⟨S.held.keep k (fun _ hi _ _ => (hG _ hi).1), fun i hi => Nat.lt_of_lt_of_le (S.sub i hi) k.size, S.kept.trans k (fun i _ hi => (hG i hi).2)⟩
theorem St.fewer {Y : Nat → Prop} (S : St W w db D X) (hY : ∀ i, Y i → X i) : St W w db D Y :=
  ⟨S.held.mono (fun i _ h => hY i h), fun i hi => S.sub i (hY i hi), S.kept⟩

theorem st_new (W : World) {w : World} (k : Keep (fun _ => False) W w) (room : Int) (hr : room ≤ 2147483648) :
    Calls Tryd.prog 23 #[.int .i64 room] w fun e w' => ∃ db, e = .returned (ptr db) ∧ St W w' db (new room) (fun _ => False) := by
  refine (new_any room w hr).mono ?_
  rintro e w1 ⟨db, rfl, hdb, hI, hK⟩
  have hs := k.size
  obtain ⟨mr, gs, cv, h⟩ := hI
  exact ⟨db, rfl, ⟨mr, gs, cv, h.here.mono fun i hi => ⟨by omega, hi.2, fun h => h⟩⟩, fun _ h => h.elim, (k.mono fun _ _ h => h.elim).trans hK (fun _ _ h => h.elim)⟩
theorem st_open (S : St W w db D X) (name : ByteArray) :
    Calls Tryd.prog 32 #[ptr db, .string name] w fun e w' => ∃ lv o Y, e = .returned (.tuple #[lv, o, .int .i64 (walOpen D name).e]) ∧ St W w' db (walOpen D name).D Y ∧ (∀ i, X i → Y i) ∧ LogV w' db Y w.heap.size lv (walOpen D name).log ∧ RowsG w' o (walOpen D name).bodies Y ∧ Keep (fun i => ¬ X i) w w' := by
  refine (wal_open S.held S.size S.sub name).mono ?_
  rintro e w' ⟨lv, o, Y, rfl, h1, h2, h3, h4, h5, h6, h7⟩
  exact ⟨lv, o, Y, rfl, ⟨h4, h2, S.kept.trans h7 (fun i _ h => h.1)⟩, h1, h5, h6, h7.mono fun i _ h => h.2.2⟩
theorem st_append (S : St W w db D X) {lb : Nat} {L : LogM} (hL : LogAt w lb db L) (hlb : X lb) (hn : W.heap.size ≤ lb) (hc : L.count ≤ 4294967296) {v : Value} {l : List UInt8} {G : Nat → Prop} (hB : BytesIn w v l G) :
    Calls Tryd.prog 39 #[ptr lb, v] w fun e w' => e = .returned (.int .i64 (walAppend D L l).2.2) ∧ St W w' db (walAppend D L l).1 X ∧ LogAt w' lb db (walAppend D L l).2.1 ∧ Keep (fun i => ¬ X i ∨ i = lb) w w' := by
  refine (wal_append S.held S.size S.sub hL hlb hc hB).mono ?_
  rintro e w' ⟨rfl, h1, h2, h3⟩
  exact ⟨rfl, ⟨h1, fun i hi => Nat.lt_of_lt_of_le (S.sub i hi) h3.size, S.kept.trans h3 (fun i _ h => h.elim (fun h => h.1) (fun h => h ▸ hn))⟩, h2, h3.mono fun i _ h => h.imp (fun h => h.2.2) id⟩
theorem st_sync (S : St W w db D X) {lb : Nat} {L : LogM} (hL : LogAt w lb db L) (hlb : X lb) (hn : W.heap.size ≤ lb) :
    Calls Tryd.prog 37 #[ptr lb] w fun e w' => e = .returned (.int .i64 (walSync D L).2.2) ∧ St W w' db (walSync D L).1 X ∧ LogAt w' lb db (walSync D L).2.1 ∧ Keep (fun i => ¬ X i ∨ i = lb) w w' := by
  refine (wal_sync S.held S.size S.sub hL hlb).mono ?_
  rintro e w' ⟨rfl, h1, h2, h3⟩
  exact ⟨rfl, ⟨h1, fun i hi => Nat.lt_of_lt_of_le (S.sub i hi) h3.size, S.kept.trans h3 (fun i _ h => h.elim (fun h => h.1) (fun h => h ▸ hn))⟩, h2, h3.mono fun i _ h => h.imp (fun h => h.2.2) id⟩
theorem st_dappend (S : St W w db D X) (name : ByteArray) {v : Value} {l : List UInt8} {G : Nat → Prop} (hB : BytesIn w v l G) (hG : ∀ i, G i → i < W.heap.size ∨ X i) :
    Calls Tryd.prog 24 #[ptr db, .string name, v] w fun e w' => e = .returned (.int .i64 (append D name l).2) ∧ St W w' db (append D name l).1 X ∧ Keep (fun i => ¬ X i) w w' := by
  refine (held_append S.held S.size S.sub (Keep.refl _ _) name hB (fun i hi => (hG i hi).imp id .inl)).mono ?_
  rintro e w' ⟨rfl, h1, h3⟩
  exact ⟨rfl, ⟨h1, fun i hi => Nat.lt_of_lt_of_le (S.sub i hi) h3.size, S.kept.trans h3 (fun i _ h => h.1)⟩, h3.mono fun i _ h => h.2.2⟩
theorem st_cut (S : St W w db D X) (o p k : Int) (ho : o < 9223372036854775808) (hp : p < 9223372036854775808) (hk : k < 9223372036854775808) :
    Calls Tryd.prog 26 #[ptr db, .int .i64 o, .int .i64 p, .int .i64 k] w fun e w' => e = .returned (.int .i64 (cutTo D o p k).2) ∧ St W w' db (cutTo D o p k).1 X ∧ Keep (fun i => ¬ X i) w w' := by
  refine (held_cut S.held S.size S.sub o p k ho hp hk).mono ?_
  rintro e w' ⟨rfl, h1, h3⟩
  exact ⟨rfl, ⟨h1, fun i hi => Nat.lt_of_lt_of_le (S.sub i hi) h3.size, S.kept.trans h3 (fun i _ h => h.1)⟩, h3.mono fun i _ h => h.2.2⟩
theorem st_on (S : St W w db D X) :
    Calls Tryd.prog 28 #[ptr db] w fun e w' => e = .returned (.tuple #[]) ∧ St W w' db (on D) X ∧ Keep (fun i => ¬ X i) w w' := by
  refine (held_on S.held).mono ?_
  rintro e w' ⟨rfl, h1, h3⟩
  exact ⟨rfl, ⟨h1, fun i hi => Nat.lt_of_lt_of_le (S.sub i hi) h3.size, S.kept.trans h3 (fun i _ h => h.1)⟩, h3.mono fun i _ h => h.2.2⟩
theorem st_read (S : St W w db D X) (name : ByteArray) : Calls Tryd.prog 29 #[ptr db, .string name] w fun e w' => ∃ v', e = .returned (.tuple #[v', .int .i64 (read D name).2]) ∧ FB w' v' (read D name).1 (fun i => w.heap.size ≤ i) ∧ Keep (fun _ => False) w w' := held_read S.held name
theorem st_room (S : St W w db D X) : Calls Tryd.prog 38 #[ptr db] w fun e w' => e = .returned (.int .i64 ((D.room : Int) - (total D.files : Int))) ∧ Keep (fun _ => False) w w' := held_room S.held
theorem St.done (S : St W w db D X) : Keep (fun _ => False) W w := keep_new' S.kept
end
end Go.Proofs.YtbjjohfpdphpfaaDoor.Wal
