/- How a disk lies in memory. -/
import Derived.Test.YtmdibkafjpglkaaGreatDoorDiskPure
import Derived.Test.YtmdibkafjpglkaaGreatDoorSlices
import Derived.Deep.Heap
namespace Go.Proofs.YtmdibkafjpglkaaGreatDoor.Dsk
open Go Go.RowKit

/-- The address of a block. -/
def ptr (g : Nat) : Value := .pointer (some ⟨g, 0, none⟩)
theorem ptr_inj {a b : Nat} (h : ptr a = ptr b) : a = b := by unfold ptr at h; injection h with h; injection h with h; injection h

/-- The slice v reads as the bytes l; what it hangs on lies in F. -/
def FB (w : World) (v : Value) (l : List UInt8) (F : Nat → Prop) : Prop :=
  ∃ ao cap, v = .slice ao l.length cap ∧ l.length ≤ cap ∧ cap ≤ maxLen ∧
    ((ao = none ∧ cap = 0) ∨ ∃ g cs fr, ao = some ⟨g, 0, none⟩ ∧ w.heap[g]? = some (.cells cs 5 fr) ∧ cap ≤ cs.size ∧ cs.toList.take l.length = l.map byteV ∧ F g)

/-- Block g is the file f. -/
def FileAt (w : World) (g : Nat) (f : FileM) (F : Nat → Prop) : Prop :=
  ∃ v, w.heap[g]? = some (.cells #[v, .int .i64 (f.sure : Int)] 65 (0, 0)) ∧ FB w v f.b F ∧ F g

/-- What a Cut said. -/
def CutAt (w : World) (cv : Value) (F : Nat → Prop) : Option (Nat × Nat × Nat) → Prop
  | none => cv = .pointer none
  | some (o, p, k) => ∃ g, cv = ptr g ∧ w.heap[g]? = some (.cells #[.int .i64 (o : Int), .int .i64 (p : Int), .int .i64 (k : Int)] 73 (0, 0)) ∧ F g ∧ o < 9223372036854775808 ∧ p < 9223372036854775808 ∧ k < 9223372036854775808

/-- The map's entries. -/
def ptrs (gs : ByteArray → Nat) (fs : Files) : List (ByteArray × Value) := fs.map (fun p => (p.1, ptr (gs p.1)))

/-- Block db is the disk D: its map mr, its files' blocks gs, its cut cv; all lies in F. -/
structure DiskAt (w : World) (db mr : Nat) (gs : ByteArray → Nat) (cv : Value) (D : DiskM) (F : Nat → Prop) : Prop where
  disk : w.heap[db]? = some (.cells #[.int .i64 (D.room : Int), .map (some mr), .bool D.off, cv] 55 (0, 0))
  map : ∃ es clock, MapIs w mr Value.string (ptrs gs D.files) es clock
  cut : CutAt w cv F D.cut
  files : ∀ p ∈ D.files, FileAt w (gs p.1) p.2 F
  inj : ∀ p ∈ D.files, ∀ q ∈ D.files, gs p.1 = gs q.1 → p.1 = q.1
  ok : Ok D
  fdb : F db
  fmr : F mr

def IsDisk (w : World) (db : Nat) (D : DiskM) (F : Nat → Prop) : Prop := ∃ mr gs cv, DiskAt w db mr gs cv D F

theorem FB.keep {w w' : World} {v : Value} {l : List UInt8} {F G : Nat → Prop} (h : FB w v l F) (k : Keep G w w') (hd : ∀ i, F i → ¬ G i) : FB w' v l F := by
  obtain ⟨ao, cap, hv, h1, h2, h3⟩ := h
  refine ⟨ao, cap, hv, h1, h2, ?_⟩
  rcases h3 with h3 | ⟨g, cs, fr, e, hg, r1, r2, hf⟩
  · exact .inl h3
  · exact .inr ⟨g, cs, fr, e, k.at hg (hd _ hf), r1, r2, hf⟩
theorem FB.mono {w : World} {v : Value} {l : List UInt8} {F G : Nat → Prop} (h : FB w v l F) (hd : ∀ i, F i → G i) : FB w v l G := by
  obtain ⟨ao, cap, hv, h1, h2, h3⟩ := h
  refine ⟨ao, cap, hv, h1, h2, ?_⟩
  rcases h3 with h3 | ⟨g, cs, fr, e, hg, r1, r2, hf⟩
  · exact .inl h3
  · exact .inr ⟨g, cs, fr, e, hg, r1, r2, hd _ hf⟩
theorem FB.nil (w : World) (F : Nat → Prop) : FB w (.slice none 0 0) [] F := ⟨none, 0, rfl, Nat.le_refl _, Nat.zero_le _, .inl ⟨rfl, rfl⟩⟩
theorem FB.slice {w : World} {v : Value} {l : List UInt8} {F : Nat → Prop} (h : FB w v l F) : ∃ ao cap, v = .slice ao l.length cap ∧ l.length ≤ cap ∧ cap ≤ maxLen := by
  obtain ⟨ao, cap, hv, h1, h2, -⟩ := h
  exact ⟨ao, cap, hv, h1, h2⟩
/-- The first k bytes. -/
theorem FB.first {w : World} {ao : Option Addr} {n cap : Nat} {l : List UInt8} {F : Nat → Prop} (h : FB w (.slice ao n cap) l F) (k : Nat) (hk : k ≤ l.length) : FB w (.slice ao k cap) (l.take k) F := by
  obtain ⟨ao', cap', hv, h1, h2, h3⟩ := h
  injection hv with e1 e2 e3
  subst e1; subst e3
  refine ⟨ao, cap, by simp [Nat.min_eq_left hk], by simp; omega, h2, ?_⟩
  rcases h3 with h3 | ⟨g, cs, fr, e, hg, r1, r2, hf⟩
  · exact .inl h3
  · refine .inr ⟨g, cs, fr, e, hg, r1, ?_, hf⟩
    rw [List.length_take, Nat.min_eq_left hk, List.map_take, ← r2, List.take_take, Nat.min_eq_left hk]
/-- A slice of bytes, cell by cell. -/
theorem FB.cells {w : World} {ao : Option Addr} {n cap : Nat} {l : List UInt8} {F : Nat → Prop} (h : FB w (.slice ao n cap) l F) : n = l.length ∧ (ao = none → l = [] ∧ cap = 0) ∧ ∀ b, ao = some b → ∀ j u, (l.map byteV)[j]? = some u → w.cell? (b.add j) = some u := by
  obtain ⟨ao', cap', hv, h1, h2, h3⟩ := h
  injection hv with e1 e2 e3
  subst e1; subst e3
  refine ⟨e2, ?_, ?_⟩
  · rintro rfl
    rcases h3 with ⟨-, h3⟩ | ⟨g, cs, fr, e, -⟩
    · exact ⟨List.eq_nil_of_length_eq_zero (by omega), h3⟩
    · cases e
  · rintro b rfl j u hj
    rcases h3 with ⟨e, -⟩ | ⟨g, cs, fr, e, hg, r1, r2, hf⟩
    · cases e
    · obtain rfl := Option.some.inj e
      rw [addr_add0, cell_of_row _ _ _ _ _ _ hg]
      rw [← r2] at hj
      rw [List.getElem?_take] at hj
      split at hj
      · simpa using hj
      · cases hj

theorem FileAt.keep {w w' : World} {g : Nat} {f : FileM} {F G : Nat → Prop} (h : FileAt w g f F) (k : Keep G w w') (hd : ∀ i, F i → ¬ G i) : FileAt w' g f F := by
  obtain ⟨v, h1, h2, h3⟩ := h
  exact ⟨v, k.at h1 (hd _ h3), h2.keep k hd, h3⟩
theorem FileAt.mono {w : World} {g : Nat} {f : FileM} {F G : Nat → Prop} (h : FileAt w g f F) (hd : ∀ i, F i → G i) : FileAt w g f G := by
  obtain ⟨v, h1, h2, h3⟩ := h
  exact ⟨v, h1, h2.mono hd, hd _ h3⟩
theorem CutAt.keep {w w' : World} {cv : Value} {c : Option (Nat × Nat × Nat)} {F G : Nat → Prop} (h : CutAt w cv F c) (k : Keep G w w') (hd : ∀ i, F i → ¬ G i) : CutAt w' cv F c := by
  rcases c with _ | ⟨o, p, q⟩
  · exact h
  · obtain ⟨g, h1, h2, h3, h4⟩ := h
    exact ⟨g, h1, k.at h2 (hd _ h3), h3, h4⟩
theorem CutAt.mono {w : World} {cv : Value} {c : Option (Nat × Nat × Nat)} {F G : Nat → Prop} (h : CutAt w cv F c) (hd : ∀ i, F i → G i) : CutAt w cv G c := by
  rcases c with _ | ⟨o, p, q⟩
  · exact h
  · obtain ⟨g, h1, h2, h3, h4⟩ := h
    exact ⟨g, h1, h2, hd _ h3, h4⟩

theorem mapIs_block {w w' : World} {r : Nat} {m : List (ByteArray × Value)} {es : Array MapEntry} {clock : Nat} (h : MapIs w r Value.string m es clock) (hb : w'.heap[r]? = w.heap[r]?) : MapIs w' r Value.string m es clock :=
  ⟨hb.trans h.block, h.keys, h.vals, h.nodup, h.born, h.bornNodup⟩

theorem DiskAt.keep {w w' : World} {db mr : Nat} {gs : ByteArray → Nat} {cv : Value} {D : DiskM} {F G : Nat → Prop} (h : DiskAt w db mr gs cv D F) (k : Keep G w w') (hd : ∀ i, F i → ¬ G i) : DiskAt w' db mr gs cv D F := by
  obtain ⟨es, clock, hm⟩ := h.map
  exact ⟨k.at h.disk (hd _ h.fdb), ⟨es, clock, mapIs_block hm (k.block _ (lt_of_block hm.block) (hd _ h.fmr))⟩, h.cut.keep k hd, fun p hp => (h.files p hp).keep k hd, h.inj, h.ok, h.fdb, h.fmr⟩
theorem DiskAt.mono {w : World} {db mr : Nat} {gs : ByteArray → Nat} {cv : Value} {D : DiskM} {F G : Nat → Prop} (h : DiskAt w db mr gs cv D F) (hd : ∀ i, F i → G i) : DiskAt w db mr gs cv D G :=
  ⟨h.disk, h.map, h.cut.mono hd, fun p hp => (h.files p hp).mono hd, h.inj, h.ok, hd _ h.fdb, hd _ h.fmr⟩

/-- The map's entries and the files. -/
theorem mget_ptrs (gs : ByteArray → Nat) (fs : Files) (n : ByteArray) : mget (ptrs gs fs) n = (mget fs n).map (fun _ => ptr (gs n)) := by
  induction fs with
  | nil => rfl
  | cons p fs ih =>
    unfold ptrs at ih ⊢
    rw [List.map_cons, mget_cons, mget_cons, ih]
    by_cases e : p.1 = n
    · simp [e]
    · simp [e]
theorem mhas_ptrs (gs : ByteArray → Nat) (fs : Files) (n : ByteArray) : mhas (ptrs gs fs) n = mhas fs n := by
  unfold mhas; rw [mget_ptrs, Option.isSome_map]
theorem ptrs_congr {gs gs' : ByteArray → Nat} {fs : Files} (h : ∀ p ∈ fs, gs p.1 = gs' p.1) : ptrs gs fs = ptrs gs' fs := List.map_congr_left fun p hp => by rw [h p hp]
theorem mput_ptrs (gs : ByteArray → Nat) (fs : Files) (n : ByteArray) (f : FileM) : mput (ptrs gs fs) n (ptr (gs n)) = ptrs gs (mput fs n f) := by
  unfold mput
  rw [mhas_ptrs]
  split
  · unfold ptrs
    rw [List.map_map, List.map_map]
    refine List.map_congr_left fun p _ => ?_
    simp only [Function.comp]
    by_cases e : p.1 = n <;> simp [e]
  · simp [ptrs]
theorem ptrs_put_in (gs : ByteArray → Nat) (fs : Files) (n : ByteArray) (f : FileM) (h : mhas fs n = true) : ptrs gs (mput fs n f) = ptrs gs fs := by
  unfold mput ptrs
  rw [if_pos h, List.map_map]
  refine List.map_congr_left fun p _ => ?_
  simp only [Function.comp]
  by_cases e : p.1 = n <;> simp [e]
theorem mdel_ptrs (gs : ByteArray → Nat) (fs : Files) (n : ByteArray) : mdel (ptrs gs fs) n = ptrs gs (mdel fs n) := by
  unfold mdel ptrs
  rw [List.filter_map]
  rfl
theorem ptrs_map_snd (gs : ByteArray → Nat) (fs : Files) (g : ByteArray × FileM → FileM) : ptrs gs (fs.map fun p => (p.1, g p)) = ptrs gs fs := by
  unfold ptrs; rw [List.map_map]; rfl
theorem ptrs_length (gs : ByteArray → Nat) (fs : Files) : (ptrs gs fs).length = fs.length := by simp [ptrs]

/-- A block behind a store into it. -/
theorem heap_setCell_self {w : World} {g i : Nat} {cs : Array Value} {t : TypeId} {fr : Nat × Nat} (h : w.heap[g]? = some (.cells cs t fr)) (u : Value) : (w.setCell ⟨g, i, none⟩ u).heap[g]? = some (.cells (cs.setIfInBounds i u) t fr) := by
  simp only [World.setCell, Array.getElem?_modify, if_true, h, Option.map_some, Option.isSome_none, Bool.false_eq_true, if_false]
theorem keep_setCell (w : World) (g i : Nat) (u : Value) : Keep (fun k => k = g) w (w.setCell ⟨g, i, none⟩ u) := (Keep.refl (fun k => k = g) w).setCell (p := ⟨g, i, none⟩) (fun _ => rfl) u

/-! A change of one block alone. -/
/-- Block x is no array of that type. -/
def NotOf (w : World) (x : Nat) (T : TypeId) : Prop := ∀ cs fr, w.heap[x]? ≠ some (.cells cs T fr)
theorem notOf_cells {w : World} {x : Nat} {cs : Array Value} {T U : TypeId} {fr : Nat × Nat} (h : w.heap[x]? = some (.cells cs T fr)) (hne : T ≠ U) : NotOf w x U := by
  intro cs' fr' h'
  rw [h] at h'
  injection h' with h'
  injection h' with _ h' _
  exact hne h'
theorem notOf_map {w : World} {x : Nat} {es : Array MapEntry} {c : Nat} {U : TypeId} (h : w.heap[x]? = some (.map es c)) : NotOf w x U := by
  intro cs' fr' h'
  rw [h] at h'
  cases h'
theorem FB.other {w w' : World} {x : Nat} {v : Value} {l : List UInt8} {F : Nat → Prop} (h : FB w v l F) (hx : NotOf w x 5) (hb : ∀ k, k ≠ x → w'.heap[k]? = w.heap[k]?) : FB w' v l F := by
  obtain ⟨ao, cap, hv, h1, h2, h3⟩ := h
  refine ⟨ao, cap, hv, h1, h2, ?_⟩
  rcases h3 with h3 | ⟨g, cs, fr, e, hg, r⟩
  · exact .inl h3
  · exact .inr ⟨g, cs, fr, e, by rw [hb g (fun e => hx _ _ (e ▸ hg))]; exact hg, r⟩
theorem FileAt.other {w w' : World} {x g : Nat} {f : FileM} {F : Nat → Prop} (h : FileAt w g f F) (hx : NotOf w x 5) (hg : g ≠ x) (hb : ∀ k, k ≠ x → w'.heap[k]? = w.heap[k]?) : FileAt w' g f F := by
  obtain ⟨v, h1, h2, h3⟩ := h
  exact ⟨v, by rw [hb g hg]; exact h1, h2.other hx hb, h3⟩
theorem FileAt.ne {w : World} {x g : Nat} {f : FileM} {F : Nat → Prop} (h : FileAt w g f F) (hx : NotOf w x 65) : g ≠ x := by
  rintro rfl
  obtain ⟨v, h1, -⟩ := h
  exact hx _ _ h1
theorem CutAt.other {w w' : World} {x : Nat} {cv : Value} {c : Option (Nat × Nat × Nat)} {F : Nat → Prop} (h : CutAt w cv F c) (hx : NotOf w x 73) (hb : ∀ k, k ≠ x → w'.heap[k]? = w.heap[k]?) : CutAt w' cv F c := by
  rcases c with _ | ⟨o, p, q⟩
  · exact h
  · obtain ⟨g, h1, h2, h3⟩ := h
    exact ⟨g, h1, by rw [hb g (fun e => hx _ _ (e ▸ h2))]; exact h2, h3⟩

section pokes
variable {w : World} {db mr : Nat} {gs : ByteArray → Nat} {cv : Value} {D : DiskM} {F : Nat → Prop}

/-- A store into the disk's own block. -/
theorem DiskAt.poke (h : DiskAt w db mr gs cv D F) (i : Nat) (u : Value) (D' : DiskM) (cv' : Value)
    (hc : (#[.int .i64 (D.room : Int), .map (some mr), .bool D.off, cv] : Array Value).setIfInBounds i u = #[.int .i64 (D'.room : Int), .map (some mr), .bool D'.off, cv'])
    (hf : D'.files = D.files) (hr : D'.room = D.room) (hcut : CutAt w cv' F D'.cut) : DiskAt (w.setCell ⟨db, i, none⟩ u) db mr gs cv' D' F := by
  have hb : ∀ k, k ≠ db → (w.setCell ⟨db, i, none⟩ u).heap[k]? = w.heap[k]? := fun k hk => by rw [Below.heap_setCell _ _ _ _ hk]
  obtain ⟨es, clock, hm⟩ := h.map
  refine ⟨?_, ⟨es, clock, ?_⟩, hcut.other (notOf_cells h.disk (by decide)) hb, ?_, ?_, ⟨?_, ?_, ?_, ?_⟩, h.fdb, h.fmr⟩
  · rw [heap_setCell_self h.disk, hc]
  · rw [hf]
    exact mapIs_block hm (hb mr (fun e => by have := h.disk; rw [← e, hm.block] at this; cases this))
  · intro p hp
    rw [hf] at hp
    have := h.files p hp
    exact this.other (notOf_cells h.disk (by decide)) (this.ne (notOf_cells h.disk (by decide))) hb
  · rw [hf]; exact h.inj
  · rw [hf]; exact h.ok.nodup
  · rw [hf]; exact h.ok.sure
  · rw [hf, hr]; exact h.ok.room
  · rw [hr]; exact h.ok.small

/-- A store into the cut. -/
theorem DiskAt.tick (h : DiskAt w db mr gs cv D F) {o p k : Nat} (hc : D.cut = some (o + 1, p, k)) {g : Nat} (hg : cv = ptr g) :
    DiskAt (w.setCell ⟨g, 0, none⟩ (.int .i64 (o : Int))) db mr gs cv { D with cut := some (o, p, k) } F := by
  have hb : ∀ k, k ≠ g → (w.setCell ⟨g, 0, none⟩ (.int .i64 (o : Int))).heap[k]? = w.heap[k]? := fun k hk => by rw [Below.heap_setCell _ _ _ _ hk]
  obtain ⟨es, clock, hm⟩ := h.map
  have hcut := h.cut
  rw [hc] at hcut
  obtain ⟨g', hg', hh, hF, hl⟩ := hcut
  obtain rfl : g = g' := ptr_inj (hg.symm.trans hg')
  refine ⟨?_, ⟨es, clock, ?_⟩, ⟨g, hg, ?_, hF, by omega, hl.2⟩, ?_, h.inj, ⟨h.ok.nodup, h.ok.sure, h.ok.room, h.ok.small⟩, h.fdb, h.fmr⟩
  · rw [hb db (fun e => notOf_cells hh (by decide) _ _ (e ▸ h.disk))]; exact h.disk
  · exact mapIs_block hm (hb mr (fun e => by rw [← e, hm.block] at hh; cases hh))
  · rw [heap_setCell_self hh]; rfl
  · intro p hp
    have := h.files p hp
    exact this.other (notOf_cells hh (by decide)) (this.ne (notOf_cells hh (by decide))) hb

/-- The map, changed. -/
theorem DiskAt.remap (h : DiskAt w db mr gs cv D F) {es' : Array MapEntry} {clock' : Nat} (fs : Files) (gs' : ByteArray → Nat) (hm : MapIs (setMap w mr es' clock') mr Value.string (ptrs gs' fs) es' clock')
    (hfs : ∀ p ∈ fs, FileAt w (gs' p.1) p.2 F) (hinj : ∀ p ∈ fs, ∀ q ∈ fs, gs' p.1 = gs' q.1 → p.1 = q.1) (hok : Ok { D with files := fs }) : DiskAt (setMap w mr es' clock') db mr gs' cv { D with files := fs } F := by
  obtain ⟨es, clock, hm0⟩ := h.map
  have hb : ∀ k, k ≠ mr → (setMap w mr es' clock').heap[k]? = w.heap[k]? := by
    intro k hk; simp [setMap, Ne.symm hk]
  refine ⟨?_, ⟨es', clock', hm⟩, h.cut.other (notOf_map hm0.block) hb, ?_, hinj, hok, h.fdb, h.fmr⟩
  · rw [hb db (fun e => by have := h.disk; rw [e, hm0.block] at this; cases this)]; exact h.disk
  · intro p hp
    have := hfs p hp
    exact this.other (notOf_map hm0.block) (this.ne (notOf_map hm0.block)) hb

/-- A store into a file. -/
theorem DiskAt.write (h : DiskAt w db mr gs cv D F) {n : ByteArray} (hn : mhas D.files n = true) (i : Nat) (u : Value) (f' : FileM) {v : Value}
    (hv : w.heap[gs n]? = some (.cells #[v, .int .i64 ((fileOf D.files n).sure : Int)] 65 (0, 0)))
    (hf' : ∃ v', (#[v, .int .i64 ((fileOf D.files n).sure : Int)] : Array Value).setIfInBounds i u = #[v', .int .i64 (f'.sure : Int)] ∧ FB w v' f'.b F)
    (hok : Ok { D with files := mput D.files n f' }) : DiskAt (w.setCell ⟨gs n, i, none⟩ u) db mr gs cv { D with files := mput D.files n f' } F := by
  have hb : ∀ k, k ≠ gs n → (w.setCell ⟨gs n, i, none⟩ u).heap[k]? = w.heap[k]? := fun k hk => by rw [Below.heap_setCell _ _ _ _ hk]
  obtain ⟨es, clock, hm⟩ := h.map
  obtain ⟨f0, hf0⟩ := Option.isSome_iff_exists.1 (show (mget D.files n).isSome = true from hn)
  have hmem := mget_mem hf0
  have hFn : F (gs n) := by obtain ⟨_, _, _, h3⟩ := h.files _ hmem; exact h3
  obtain ⟨v', hc, hfb⟩ := hf'
  have hname : ∀ p ∈ mput D.files n f', ∃ q ∈ D.files, q.1 = p.1 := by
    intro p hp
    rcases mem_mput hp with hp | rfl
    · exact ⟨p, hp, rfl⟩
    · exact ⟨_, hmem, rfl⟩
  refine ⟨?_, ⟨es, clock, ?_⟩, h.cut.other (notOf_cells hv (by decide)) hb, ?_, ?_, hok, h.fdb, h.fmr⟩
  · rw [hb db (fun e => notOf_cells hv (by decide) _ _ (e ▸ h.disk))]; exact h.disk
  · simp only [ptrs_put_in gs D.files n f' hn]
    exact mapIs_block hm (hb mr (fun e => by rw [← e, hm.block] at hv; cases hv))
  · intro p hp
    by_cases e : p.1 = n
    · have hp2 : p.2 = f' := by
        have h1 := mget_of_mem hok.nodup (k := p.1) (v := p.2) (by simpa using hp)
        rw [mget_mput, if_pos e] at h1
        exact (Option.some.inj h1).symm
      rw [e, hp2]
      exact ⟨v', by rw [heap_setCell_self hv, hc], hfb.other (notOf_cells hv (by decide)) hb, hFn⟩
    · rcases mem_mput hp with hp | rfl
      · exact (h.files p hp).other (notOf_cells hv (by decide)) (fun e2 => e (h.inj p hp (n, f0) hmem e2)) hb
      · exact absurd rfl e
  · intro p hp q hq he
    obtain ⟨p', hp', e1⟩ := hname p hp
    obtain ⟨q', hq', e2⟩ := hname q hq
    rw [← e1, ← e2] at he ⊢
    exact h.inj p' hp' q' hq' he

/-- A file, by its name. -/
theorem DiskAt.file (h : DiskAt w db mr gs cv D F) {n : ByteArray} (hn : mhas D.files n = true) : FileAt w (gs n) (fileOf D.files n) F := by
  obtain ⟨f0, hf0⟩ := Option.isSome_iff_exists.1 (show (mget D.files n).isSome = true from hn)
  have := h.files _ (mget_mem hf0)
  unfold fileOf
  rw [hf0]; exact this
end pokes

end Go.Proofs.YtmdibkafjpglkaaGreatDoor.Dsk
