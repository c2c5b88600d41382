/- What a call leaves as it was: all blocks that were there but those of a footprint. -/
import Derived.Test.YtmdibkafjpglkaaGreatDoorBase
import Derived.Deep.Draws
import Derived.BigQuiet
namespace Go.Proofs.YtmdibkafjpglkaaGreatDoor
open Go.RowKit

/-- All blocks of w but those of F are in w' as they were. -/
structure Keep (F : Nat → Prop) (w w' : World) : Prop where
  os : w'.os = w.os
  tape : w'.tape = w.tape
  output : w'.output = w.output
  size : w.heap.size ≤ w'.heap.size
  block : ∀ k, k < w.heap.size → ¬ F k → w'.heap[k]? = w.heap[k]?

theorem Keep.refl (F : Nat → Prop) (w : World) : Keep F w w := ⟨rfl, rfl, rfl, Nat.le_refl _, fun _ _ _ => rfl⟩

theorem Keep.trans {F G : Nat → Prop} {a b c : World} (h : Keep F a b) (k : Keep G b c) (hG : ∀ i, i < a.heap.size → G i → F i) : Keep F a c :=
  ⟨k.os.trans h.os, k.tape.trans h.tape, k.output.trans h.output, Nat.le_trans h.size k.size,
   fun i hi hf => (k.block i (Nat.lt_of_lt_of_le hi h.size) (fun hg => hf (hG i hi hg))).trans (h.block i hi hf)⟩

theorem Keep.mono {F G : Nat → Prop} {a b : World} (h : Keep F a b) (hG : ∀ i, i < a.heap.size → F i → G i) : Keep G a b :=
  ⟨h.os, h.tape, h.output, h.size, fun i hi hg => h.block i hi (fun hf => hg (hG i hi hf))⟩

theorem Keep.below {F : Nat → Prop} {B : Nat} {a b : World} (h : Keep F a b) (hF : ∀ i, i < a.heap.size → F i → B ≤ i) (hB : B ≤ a.heap.size) : Below B a b :=
  ⟨h.os, h.tape, h.output, h.size, fun k hk => h.block k (by omega) (fun hf => by have := hF k (by omega) hf; omega)⟩

theorem Keep.of_below {F : Nat → Prop} {B : Nat} {a b : World} (h : Below B a b) (hF : ∀ i, i < a.heap.size → B ≤ i → F i) : Keep F a b :=
  ⟨h.os, h.tape, h.output, h.size, fun k hk hf => h.block k (Nat.lt_of_not_le (fun hb => hf (hF k hk hb)))⟩

theorem Keep.drew {F : Nat → Prop} {a w : World} (h : Keep F a w) : Keep F a w.drew := ⟨h.os, h.tape, h.output, h.size, h.block⟩
theorem Keep.drewN {F : Nat → Prop} {a w : World} (h : Keep F a w) (n : Nat) : Keep F a (w.drewN n) := ⟨h.os, h.tape, h.output, h.size, h.block⟩

theorem Keep.alloc {F : Nat → Prop} {a w : World} (h : Keep F a w) (o : Obj) : Keep F a (w.alloc o) :=
  ⟨h.os, h.tape, h.output, by have := h.size; simp; omega, fun k hk hf => by have := h.size; rw [Below.heap_alloc _ _ _ (by omega)]; exact h.block k hk hf⟩

theorem Keep.setCell {F : Nat → Prop} {a w : World} (h : Keep F a w) {p : Addr} (hp : p.block < a.heap.size → F p.block) (u : Value) : Keep F a (w.setCell p u) :=
  ⟨h.os, h.tape, h.output, by have := h.size; simp [World.setCell]; omega, fun k hk hf => by
    rw [Below.heap_setCell _ _ _ _ (fun e => hf (by subst e; exact hp hk))]; exact h.block k hk hf⟩

theorem Keep.cell {F : Nat → Prop} {w w' : World} (h : Keep F w w') {p : Addr} (hp : p.block < w.heap.size) (hf : ¬ F p.block) : w'.cell? p = w.cell? p := World.cell?_of_block (w := w) (h.block p.block hp hf)
theorem Keep.frozen {F : Nat → Prop} {w w' : World} (h : Keep F w w') {p : Addr} (hp : p.block < w.heap.size) (hf : ¬ F p.block) : w'.frozen? p = w.frozen? p := World.frozen?_of_block (w := w) (h.block p.block hp hf)

theorem lt_of_block {w : World} {g : Nat} {o : Obj} (h : w.heap[g]? = some o) : g < w.heap.size := by
  by_cases hlt : g < w.heap.size
  · exact hlt
  · rw [Array.getElem?_eq_none (by omega)] at h; cases h

theorem Keep.at {F : Nat → Prop} {w w' : World} (h : Keep F w w') {g : Nat} {o : Obj} (hg : w.heap[g]? = some o) (hf : ¬ F g) : w'.heap[g]? = some o := (h.block g (lt_of_block hg) hf).trans hg

/-- A change of one block alone. -/
theorem keep_one {w w' : World} {r : Nat} (hos : w'.os = w.os) (ht : w'.tape = w.tape) (ho : w'.output = w.output) (hs : w'.heap.size = w.heap.size) (hb : ∀ k, k ≠ r → w'.heap[k]? = w.heap[k]?) : Keep (fun k => k = r) w w' :=
  ⟨hos, ht, ho, Nat.le_of_eq hs.symm, fun k _ hk => hb k hk⟩

theorem keep_drawn' (w : World) (d : Nat) : Keep (fun _ => False) w { heap := w.heap, tape := w.tape, drawn := d, os := w.os, output := w.output } := ⟨rfl, rfl, rfl, Nat.le_refl _, fun _ _ _ => rfl⟩
end Go.Proofs.YtmdibkafjpglkaaGreatDoor
