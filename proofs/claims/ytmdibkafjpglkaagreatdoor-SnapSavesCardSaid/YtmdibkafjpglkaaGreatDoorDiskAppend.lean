/- Append's part, walked. -/
import Derived.Test.YtmdibkafjpglkaaGreatDoorDiskBytes
import Derived.Test.YtmdibkafjpglkaaGreatDoorHeldI
namespace Go.Proofs.YtmdibkafjpglkaaGreatDoor.Dsk
open Go Go.RowKit Go.Lib

theorem fileOf_mput (fs : Files) (n : ByteArray) (f : FileM) : fileOf (mput fs n f) n = f := by
  unfold fileOf; rw [mget_mput, if_pos rfl]; rfl
theorem mhas_mput (fs : Files) (n : ByteArray) (f : FileM) : mhas (mput fs n f) n = true := by
  unfold mhas; rw [mget_mput, if_pos rfl]; rfl
theorem fileOf_none {fs : Files} {n : ByteArray} (h : mhas fs n = false) : fileOf fs n = ⟨[], 0⟩ := by
  unfold fileOf; unfold mhas at h
  cases hg : mget fs n with
  | none => rfl
  | some f => rw [hg] at h; cases h
theorem mput_mput (fs : Files) (n : ByteArray) (f f' : FileM) : mput (mput fs n f) n f' = mput fs n f' := by
  have h0 : mput (mput fs n f) n f' = (mput fs n f).map (fun p => if p.1 = n then (n, f') else p) := by
    conv => lhs; rw [mput]
    rw [if_pos (mhas_mput fs n f)]
  rw [h0]
  unfold mput
  split
  · rw [List.map_map]
    refine List.map_congr_left fun p _ => ?_
    simp only [Function.comp]
    by_cases e : p.1 = n <;> simp [e]
  · rename_i hh
    rw [List.map_append]
    congr 1
    · refine (List.map_congr_left fun p hp => ?_).trans (List.map_id fs)
      rw [if_neg (fun (e : p.1 = n) => hh (e ▸ (mhas_iff _ _).2 (List.mem_map_of_mem (f := (·.1)) hp)))]; rfl
    · simp

/-- The end of an append: the file's slice is stored. -/
theorem append_end {w W w' : World} {db mr : Nat} {gs : ByteArray → Nat} {cv : Value} {D : DiskM} {F F2 : Nat → Prop} {bf : Nat} {name : ByteArray} {l : List UInt8} {v' : Value} {part : Nat}
    (hD : DiskAt W db mr gs cv D F2) (hn : mhas D.files name = true) (hK0 : Keep (fun i => F i ∨ i = bf) w W) (hF2 : ∀ i, F2 i → F i ∨ w.heap.size ≤ i)
    (hfb : FB w' v' ((fileOf D.files name).b ++ l.take part) (fun i => F2 i ∨ W.heap.size ≤ i)) (hk : Keep (fun _ => False) W w') (hroom : total D.files + (l.take part).length ≤ D.room) :
    DiskAt (w'.setCell ⟨gs name, 0, none⟩ v') db mr gs cv { D with files := appendP name l part D.files } (fun i => F i ∨ w.heap.size ≤ i) ∧ Keep (fun i => F i ∨ i = bf) w (w'.setCell ⟨gs name, 0, none⟩ v') := by
  obtain ⟨v, hblk, hfb0, hF⟩ := hD.file hn
  have hlt := lt_of_block hblk
  have hD' := hD.keep hk (fun _ _ h => h)
  have hs0 := hK0.size
  have hD2 := hD'.mono (G := fun i => F i ∨ w.heap.size ≤ i) hF2
  refine ⟨hD2.write hn 0 v' ⟨(fileOf D.files name).b ++ l.take part, (fileOf D.files name).sure⟩ (hk.at hblk (by simp)) ⟨v', rfl, hfb.mono fun i hi => ?_⟩ (ok_mput hD.ok _ _ ?_ ?_), ?_⟩
  · rcases hi with hi | hi
    · exact hF2 i hi
    · exact .inr (by omega)
  · have := hD.ok.fileOf_sure name
    simp only [List.length_append]; omega
  · simp only [List.length_append]; omega
  · exact (hK0.trans hk (fun _ _ h => h.elim)).setCell (fun hlt2 => (hF2 _ hF).elim .inl (fun h => by simp only at hlt2; omega)) _

set_option maxRecDepth 100000 in
set_option maxHeartbeats 4000000 in
/-- Append's, where there is the file. -/
theorem append_do_has (w : World) {db mr : Nat} {gs : ByteArray → Nat} {cv : Value} {D : DiskM} {F : Nat → Prop} (h : DiskAt w db mr gs cv D F) (name : ByteArray) (hn : mhas D.files name = true) (part : Nat) {l : List UInt8} {G : Nat → Prop}
    (bf bd bn bb : Nat) (hcf : w.cell? ⟨bf, 0, none⟩ = some (ptr (gs name))) (hbf : bf < w.heap.size) (hbb : bb < w.heap.size) (hcfF : ¬ F bf) (hcbF : ¬ F bb) (hcb0 : ∃ bo cb, w.cell? ⟨bb, 0, none⟩ = some (.slice bo l.length cb) ∧ BytesIn w (.slice bo l.length cb) l G)
    (hroom : total D.files + l.length ≤ D.room) :
    Calls Tryz.prog 30 #[.int .i64 (part : Int), ptr bf, ptr bd, ptr bn, ptr bb] w fun e w' => e = .returned (.tuple #[]) ∧
      DiskAt w' db mr gs cv { D with files := appendP name l part D.files } (fun i => F i ∨ w.heap.size ≤ i) ∧ Keep (fun i => F i ∨ i = bf) w w' := by
  obtain ⟨bo, cb, hcb, hsrc⟩ := hcb0
  obtain ⟨v, hblk, hfb, hF⟩ := h.file hn
  obtain ⟨ao, cap, rfl, hcap, hmax⟩ := hfb.slice
  have c0 : w.cell? ⟨gs name, 0, none⟩ = some (.slice ao (fileOf D.files name).b.length cap) := by rw [cell_at hblk]; rfl
  have f0 : w.frozen? ⟨gs name, 0, none⟩ = false := frozen_at hblk 0
  have hlt := lt_of_block hblk
  have hsm := h.ok.small
  have hle : l.length ≤ 2147483648 := by omega
  obtain ⟨ao2, cb2, e2, hlc, hcm, -, -⟩ := hsrc.read
  injection e2 with e3 e4 e5
  subst e3; subst e5
  have hbl : (fileOf D.files name).b.length ≤ 2147483648 := by
    obtain ⟨f, hf⟩ := Option.isSome_iff_exists.1 (show (mget D.files name).isSome = true from hn)
    have := total_mem (mget_mem hf)
    have := h.ok.room
    unfold fileOf; rw [hf]; simp only [Option.getD_some] at *; omega
  have H := hid h
  have HFB := hid (hfb.keep ((Keep.refl (fun _ => False) w).drew) (fun _ _ h => h))
  have HS := hid (show BytesIn w.drew (.slice bo (min part l.length) cb) (l.take part) G by
    have := (hsrc.first (min part l.length) (Nat.min_le_right _ _)).keep ((Keep.refl (fun _ => False) w).drew) (fun _ _ h => h)
    rwa [show l.take (min part l.length) = l.take part from by rw [List.take_eq_take_iff]; omega] at this)
  have hmc : min part l.length ≤ cb := by omega
  have HB := hid hblk
  have HL : Hid (∀ w' v', FB w' v' ((fileOf D.files name).b ++ l.take part) (fun i => F i ∨ w.drew.heap.size ≤ i) → Keep (fun _ => False) w.drew w' → DiskAt (w'.setCell ⟨gs name, 0, none⟩ v') db mr gs cv { D with files := appendP name l part D.files } (fun i => F i ∨ w.heap.size ≤ i) ∧ Keep (fun i => F i ∨ i = bf) w (w'.setCell ⟨gs name, 0, none⟩ v')) := fun w' v' h1 h2 =>
    append_end (h.keep ((Keep.refl (fun _ => False) w).drew) (fun _ _ h => h)) hn ((Keep.refl _ w).drew) (fun _ hi => .inl hi) h1 h2 (by rw [List.length_take]; omega)
  clear hfb hsrc hblk
  unfold ptr at *
  have hmin : min (part : Int) (l.length : Int) = ((min part l.length : Nat) : Int) := by omega
  go_enter Tryz.func30, Tryz.ntmps30
  go_wp2_with fail
  clear e4
  have hne1 : bf ≠ gs name := fun e => hcfF (e ▸ hF)
  have hne2 : bb ≠ gs name := fun e => hcbF (e ▸ hF)
  refine wp_region_heldz 22 25 4 (fun w' => w'.cell? ⟨bf, 0, none⟩ = some (.pointer (some ⟨gs name, 0, none⟩)) ∧ (w'.cell? ⟨bb, 0, none⟩ = some (.slice bo l.length cb) ∧ w'.cell? ⟨gs name, 0, none⟩ = some (.slice ao (fileOf D.files name).b.length cap)))
    (by kernel_rfl) (by kernel_rfl) (by kernel_rfl) ⟨hcf, hcb, c0⟩ (fun d _ _ _ _ h => by cases d <;> exact h) ?_
  simp only [List.take_succ_cons, List.take_zero]
  refine held_step rfl (fun w' hSw => by (obtain ⟨s1, s2, s3⟩ := hSw; go_simp; with_reducible rfl)) ?_
  simp only [Act.put, List.setIfInBounds_toArray, List.set_cons_zero, List.set_cons_succ]
  repeat (refine held_step rfl (fun w' hSw => by (obtain ⟨s1, s2, s3⟩ := hSw; go_simp; with_reducible rfl)) ?_; simp only [Act.put, List.setIfInBounds_toArray, List.set_cons_zero, List.set_cons_succ])
  refine held_nil ?_
  refine anyZ_next (j := 22) (by kernel_rfl) rfl rfl ?_
  refine wp_append_bytes _ _ rfl (ao := ao) (cap := cap) (l := (fileOf D.files name).b) (F := F) (l2 := l.take part) (G := G) HFB.out HS.out rfl rfl (by omega) ?_
  intro v' w' hf' hk'
  have hq := hid hf'
  clear hf'
  have hq2 := hid hk'
  clear hk'
  have hcf' := (hq2.out.cell (p := ⟨bf, 0, none⟩) hbf (by simp)).trans hcf
  have hcb' := (hq2.out.cell (p := ⟨bb, 0, none⟩) hbb (by simp)).trans hcb
  have hx1 := (hq2.out.cell (p := ⟨gs name, 0, none⟩) hlt (by simp)).trans c0
  have hx2 := (hq2.out.frozen (p := ⟨gs name, 0, none⟩) hlt (by simp)).trans f0
  obtain ⟨ao', cap', hv', -, -⟩ := hq.out.slice
  subst hv'
  refine ⟨fun _ => ⟨hcf', hcb', hx1⟩, ?_⟩
  refine anyZ_read (j := 23) (by kernel_rfl) rfl rfl ⟨hcf', hcb', hx1⟩ (by go_simp; with_reducible rfl) ?_
  refine anyZ_read (j := 24) (by kernel_rfl) rfl rfl ⟨hcf', hcb', hx1⟩ (by go_simp; with_reducible rfl) ?_
  refine anyZ_last (by kernel_rfl) rfl rfl (by kernel_rfl) ?_
  go_simp
  have HR := HL.out w' _ hq.out hq2.out
  simp only [List.length_append, List.length_take] at HR
  refine bodyPost_end (results_none rfl _ _ _) rfl ?_
  exact ⟨rfl, HR⟩

theorem mput_new {α : Type} {m : List (ByteArray × α)} {k : ByteArray} {v : α} (h : mhas m k = false) : mput m k v = m ++ [(k, v)] := by
  unfold mput; rw [h]; rfl

theorem ptrs_append (gs : ByteArray → Nat) (a b : Files) : ptrs gs (a ++ b) = ptrs gs a ++ ptrs gs b := List.map_append

/-- A new file in the map. -/
theorem DiskAt.addFile {w : World} {db mr : Nat} {gs : ByteArray → Nat} {cv : Value} {D : DiskM} {F : Nat → Prop} (h : DiskAt w db mr gs cv D F) (name : ByteArray) (hn : mhas D.files name = false) {g : Nat} (hg : FileAt w g ⟨[], 0⟩ F) (hnew : ∀ p ∈ D.files, gs p.1 ≠ g) :
    ∃ es' clock', (Instr.mapUpdate 52 (.map (some mr)) (.string name) (ptr g)).run Tryz.prog w = .ok () (setMap w mr es' clock') ∧
      DiskAt (setMap w mr es' clock') db mr (fun n => if n = name then g else gs n) cv { D with files := mput D.files name ⟨[], 0⟩ } F := by
  obtain ⟨es, clock, hm⟩ := h.map
  obtain ⟨es', clock', hr, hm'⟩ := run_mapUpdate_map (P := Tryz.prog) mkey_name 52 61 under_map hm name (ptr g)
  have hne : ∀ p ∈ D.files, p.1 ≠ name := fun p hp e => by
    have : mhas D.files name = true := (mhas_iff _ _).2 (e ▸ List.mem_map_of_mem (f := (·.1)) hp)
    rw [hn] at this; cases this
  have hput : mput D.files name ⟨[], 0⟩ = D.files ++ [(name, ⟨[], 0⟩)] := mput_new hn
  have hpt : mput (ptrs gs D.files) name (ptr g) = ptrs (fun n => if n = name then g else gs n) (mput D.files name ⟨[], 0⟩) := by
    rw [hput, mput_new (m := ptrs gs D.files) (k := name) (v := ptr g) (by rw [mhas_ptrs]; exact hn)]
    rw [ptrs_append, ptrs_congr (gs := gs) (gs' := fun n => if n = name then g else gs n) (fs := D.files) (fun p hp => by simp [hne p hp])]
    simp [ptrs]
  rw [hpt] at hm'
  refine ⟨es', clock', hr, h.remap _ _ hm' ?_ ?_ (ok_mput h.ok _ _ (Nat.le_refl _) (by have := h.ok.room; simp only [List.length_nil]; omega))⟩
  · intro p hp
    rcases mem_mput hp with hp | rfl
    · simp only [hne p hp, if_false]; exact h.files p hp
    · simp only [if_true]; exact hg
  · intro p hp q hq e
    rcases mem_mput hp with hp | rfl <;> rcases mem_mput hq with hq | rfl
    · simp only [hne p hp, hne q hq, if_false] at e; exact h.inj p hp q hq e
    · simp only [hne p hp, if_false, if_true] at e; exact absurd e (hnew p hp)
    · simp only [hne q hq, if_false, if_true] at e; exact absurd e.symm (hnew q hq)
    · rfl

set_option maxRecDepth 100000 in
set_option maxHeartbeats 4000000 in
/-- Append's, where there is no file yet. -/
theorem append_do_new (w : World) {db mr : Nat} {gs : ByteArray → Nat} {cv : Value} {D : DiskM} {F : Nat → Prop} (h : DiskAt w db mr gs cv D F) (name : ByteArray) (hn : mhas D.files name = false) (part : Nat) {l : List UInt8} {G : Nat → Prop}
    (bf bd bn bb : Nat) (hcf : w.cell? ⟨bf, 0, none⟩ = some (.pointer none)) (hff : w.frozen? ⟨bf, 0, none⟩ = false) (hbf : bf < w.heap.size) (hbb : bb < w.heap.size) (hcfF : ¬ F bf) (hcbF : ¬ F bb) (hbfb : bf ≠ bb) (hbfd : bf ≠ bd) (hbfn : bf ≠ bn)
    (hcd : w.cell? ⟨bd, 0, none⟩ = some (ptr db)) (hcn : w.cell? ⟨bn, 0, none⟩ = some (.string name)) (hGf : ¬ G bf) (hGm : ¬ G mr) (hbd : bd < w.heap.size) (hbn : bn < w.heap.size)
    (hcb0 : ∃ bo cb, w.cell? ⟨bb, 0, none⟩ = some (.slice bo l.length cb) ∧ BytesIn w (.slice bo l.length cb) l G)
    (hroom : total D.files + l.length ≤ D.room) :
    Calls Tryz.prog 30 #[.int .i64 (part : Int), ptr bf, ptr bd, ptr bn, ptr bb] w fun e w' => e = .returned (.tuple #[]) ∧
      ∃ gs', DiskAt w' db mr gs' cv { D with files := appendP name l part D.files } (fun i => F i ∨ w.heap.size ≤ i) ∧ Keep (fun i => F i ∨ i = bf) w w' := by
  obtain ⟨bo, cb, hcb, hsrc⟩ := hcb0
  have hK1 : Keep (fun i => i = bf) w (((w.setCell ⟨bf, 0, none⟩ (ptr w.heap.size)).alloc (.cells #[.slice none 0 0, .int .i64 0] 65)).drew) := ((keep_setCell w bf 0 _).alloc _).drew
  generalize hw1 : ((w.setCell ⟨bf, 0, none⟩ (ptr w.heap.size)).alloc (.cells #[.slice none 0 0, .int .i64 0] 65)).drew = w1 at hK1
  have hF1 : FileAt w1 w.heap.size ⟨[], 0⟩ (fun i => F i ∨ w.heap.size ≤ i) := by
    refine ⟨.slice none 0 0, ?_, FB.nil _ _, .inr (Nat.le_refl _)⟩
    rw [← hw1]
    have := heap_alloc_new (w.setCell ⟨bf, 0, none⟩ (ptr w.heap.size)) (.cells #[.slice none 0 0, .int .i64 0] 65)
    have hsz : (w.setCell ⟨bf, 0, none⟩ (ptr w.heap.size)).heap.size = w.heap.size := by simp [World.setCell]
    rw [hsz] at this
    exact this
  have hD1 := (h.keep hK1 (fun i hi e => hcfF (e ▸ hi))).mono (G := fun i => F i ∨ w.heap.size ≤ i) (fun i hi => .inl hi)
  obtain ⟨es', clock', hup, hD2⟩ := hD1.addFile name hn hF1 (fun p hp e => by
    obtain ⟨v, hb, -⟩ := h.files p hp
    have := lt_of_block hb
    omega)
  have hK2 := setMap_keep w1 mr es' clock'
  have hKW : Keep (fun i => F i ∨ i = bf) w (setMap w1 mr es' clock') := (hK1.mono (fun i _ hi => .inr hi)).trans hK2 (fun i _ hi => .inl (hi ▸ h.fmr))
  have hmrlt := lt_of_block (h.map.choose_spec.choose_spec).block
  have hs1 := hK1.size
  have hc1 := h.c1
  have hmrF := h.fmr
  have hdbF := h.fdb
  have hne0 : bf ≠ db := fun e => hcfF (e ▸ hdbF)
  have hnm : bf ≠ mr := fun e => hcfF (e ▸ hmrF)
  have hnm2 : bb ≠ mr := fun e => hcbF (e ▸ hmrF)
  have hsz1 : w1.heap.size = w.heap.size + 1 := by rw [← hw1]; simp [World.setCell]
  -- behind the map's change
  have xcf : (setMap w1 mr es' clock').cell? ⟨bf, 0, none⟩ = some (ptr w.heap.size) := by
    rw [hK2.cell (by simp only; omega) hnm, ← hw1]
    have h1 : (w.setCell ⟨bf, 0, none⟩ (ptr w.heap.size)).cell? ⟨bf, 0, none⟩ = some (ptr w.heap.size) := World.cell?_setCell_same w _ _ hcf
    have h2 := ((Keep.refl (fun _ => False) (w.setCell ⟨bf, 0, none⟩ (ptr w.heap.size))).alloc (.cells #[.slice none 0 0, .int .i64 0] 65)).drew
    rw [h2.cell (by simp [World.setCell]; omega) (by simp)]; exact h1
  have xcb : (setMap w1 mr es' clock').cell? ⟨bb, 0, none⟩ = some (.slice bo l.length cb) := by
    rw [hK2.cell (by simp only; omega) hnm2, hK1.cell hbb (Ne.symm hbfb)]; exact hcb
  obtain ⟨v0, hb0, -, -⟩ := hD2.file (mhas_mput _ _ _)
  simp only [if_true] at hb0
  have hF2 : FileAt w1 w.heap.size ⟨[], 0⟩ (fun i => F i ∨ w.heap.size ≤ i) := hF1
  have hb1 : (setMap w1 mr es' clock').heap[w.heap.size]? = some (.cells #[.slice none 0 0, .int .i64 0] 65 (0, 0)) := by
    rw [hK2.block _ (by omega) (by omega), ← hw1]
    have := heap_alloc_new (w.setCell ⟨bf, 0, none⟩ (ptr w.heap.size)) (.cells #[.slice none 0 0, .int .i64 0] 65)
    have hsz : (w.setCell ⟨bf, 0, none⟩ (ptr w.heap.size)).heap.size = w.heap.size := by simp [World.setCell]
    rw [hsz] at this
    exact this
  have xc0 : (setMap w1 mr es' clock').cell? ⟨w.heap.size, 0, none⟩ = some (.slice none 0 0) := by rw [cell_at hb1]; rfl
  have xf0 : (setMap w1 mr es' clock').frozen? ⟨w.heap.size, 0, none⟩ = false := frozen_at hb1 0
  have hsW : (setMap w1 mr es' clock').heap.size = w.heap.size + 1 := by rw [setMap_size, hsz1]
  have hWf : bf < (setMap w1 mr es' clock').heap.size := by omega
  have hWb : bb < (setMap w1 mr es' clock').heap.size := by omega
  have hWg : w.heap.size < (setMap w1 mr es' clock').heap.size := by omega
  have hsm := h.ok.small
  have hle : l.length ≤ 2147483648 := by omega
  obtain ⟨ao2, cb2, e2, hlc, hcm, -, -⟩ := hsrc.read
  injection e2 with e3 e4 e5
  subst e3; subst e5
  clear e4
  have hmc : min part l.length ≤ cb := by omega
  have hmin : min (part : Int) (l.length : Int) = ((min part l.length : Nat) : Int) := by omega
  have hsrcW : BytesIn (setMap w1 mr es' clock') (.slice bo l.length cb) l G := (hsrc.keep hK1 (fun i hi e => hGf (e ▸ hi))).keep hK2 (fun i hi e => hGm (e ▸ hi))
  generalize hW : setMap w1 mr es' clock' = W at *
  have HS := hid (show BytesIn W.drew (.slice bo (min part l.length) cb) (l.take part) G by
    have := (hsrcW.first (min part l.length) (Nat.min_le_right _ _)).keep ((Keep.refl (fun _ => False) W).drew) (fun _ _ h => h)
    rwa [show l.take (min part l.length) = l.take part from by rw [List.take_eq_take_iff]; omega] at this)
  have HFB := hid (FB.nil W.drew (fun i => F i ∨ w.heap.size ≤ i))
  have HL : Hid (∀ w' v', FB w' v' ([] ++ l.take part) (fun i => (F i ∨ w.heap.size ≤ i) ∨ W.drew.heap.size ≤ i) → Keep (fun _ => False) W.drew w' →
      DiskAt (w'.setCell ⟨w.heap.size, 0, none⟩ v') db mr (fun n => if n = name then w.heap.size else gs n) cv { D with files := appendP name l part D.files } (fun i => F i ∨ w.heap.size ≤ i) ∧ Keep (fun i => F i ∨ i = bf) w (w'.setCell ⟨w.heap.size, 0, none⟩ v')) := by
    intro w' v' h1 h2
    have := append_end (l := l) (part := part) (v' := v') (hD2.keep ((Keep.refl (fun _ => False) W).drew) (fun _ _ h => h)) (mhas_mput _ _ _) (hKW.drew) (fun _ hi => hi) (by simp only [fileOf_mput]; exact h1) h2 (by
      have h3 := total_mput D.files name ⟨[], 0⟩ h.ok.nodup
      have h4 : total (mput D.files name ⟨[], 0⟩) ≤ total D.files := by simp only [List.length_nil] at h3; omega
      show total (mput D.files name ⟨[], 0⟩) + (l.take part).length ≤ D.room
      rw [List.length_take]; omega)
    simp only [if_true, appendP, fileOf_mput, mput_mput] at this
    simp only [appendP, fileOf_none hn]
    exact this
  have ycd : w1.cell? ⟨bd, 0, none⟩ = some (ptr db) := by rw [hK1.cell hbd (Ne.symm hbfd)]; exact hcd
  have ycn : w1.cell? ⟨bn, 0, none⟩ = some (.string name) := by rw [hK1.cell hbn (Ne.symm hbfn)]; exact hcn
  have yc1 : w1.cell? ⟨db, 1, none⟩ = some (.map (some mr)) := by rw [hK1.cell (lt_of_block h.disk) (Ne.symm hne0)]; exact hc1
  have ycf : w1.cell? ⟨bf, 0, none⟩ = some (ptr w.heap.size) := by rw [← hK2.cell (p := ⟨bf, 0, none⟩) (by simp only; omega) hnm]; exact xcf
  have HW1 := hid hw1
  have HUP := hid hup
  have HD2 := hid hD2
  clear hw1 hup hD2 hD1 hF1 hF2 hb1 hb0 hsrc hsrcW hW hKW hK1 hK2 h
  unfold ptr at *
  go_enter Tryz.func30, Tryz.ntmps30
  go_wp2_with fail
  refine wp_region_heldz 6 6 1 (fun w' => w'.cell? ⟨bd, 0, none⟩ = some (.pointer (some ⟨db, 0, none⟩)) ∧ (w'.cell? ⟨db, 1, none⟩ = some (.map (some mr)) ∧ (w'.cell? ⟨bn, 0, none⟩ = some (.string name) ∧ w'.cell? ⟨bf, 0, none⟩ = some (.pointer (some ⟨w.heap.size, 0, none⟩)))))
    (by kernel_rfl) (by kernel_rfl) (by kernel_rfl) ?_ (fun d _ _ _ _ h => by cases d <;> exact h) ?_
  · rw [HW1.out]; exact ⟨ycd, yc1, ycn, ycf⟩
  rw [HW1.out]
  simp only [List.take_succ_cons, List.take_zero]
  repeat (refine held_step rfl (fun w' hSw => by (obtain ⟨s1, s2, s3, s4⟩ := hSw; go_simp; with_reducible rfl)) ?_; simp only [Act.put, List.setIfInBounds_toArray, List.set_cons_zero, List.set_cons_succ])
  refine held_nil ?_
  refine anyZ_last (by kernel_rfl) rfl rfl (by kernel_rfl) ?_
  refine wp_mapUpdate _ _ _ _ rfl rfl rfl rfl HUP.out ?_
  dsimp only [Act.put]
  go_wp2_with fail
  have hne1 : bf ≠ w.heap.size := by omega
  have hne2 : bb ≠ w.heap.size := by omega
  refine wp_region_heldz 22 25 4 (fun w' => w'.cell? ⟨bf, 0, none⟩ = some (.pointer (some ⟨w.heap.size, 0, none⟩)) ∧ (w'.cell? ⟨bb, 0, none⟩ = some (.slice bo l.length cb) ∧ w'.cell? ⟨w.heap.size, 0, none⟩ = some (.slice none 0 0)))
    (by kernel_rfl) (by kernel_rfl) (by kernel_rfl) ⟨xcf, xcb, xc0⟩ (fun d _ _ _ _ h => by cases d <;> exact h) ?_
  simp only [List.take_succ_cons, List.take_zero]
  refine held_step rfl (fun w' hSw => by (obtain ⟨s1, s2, s3⟩ := hSw; go_simp; with_reducible rfl)) ?_
  simp only [Act.put, List.setIfInBounds_toArray, List.set_cons_zero, List.set_cons_succ]
  repeat (refine held_step rfl (fun w' hSw => by (obtain ⟨s1, s2, s3⟩ := hSw; go_simp; with_reducible rfl)) ?_; simp only [Act.put, List.setIfInBounds_toArray, List.set_cons_zero, List.set_cons_succ])
  refine held_nil ?_
  refine anyZ_next (j := 22) (by kernel_rfl) rfl rfl ?_
  refine wp_append_bytes _ _ rfl (ao := none) (cap := 0) (l := []) (F := fun i => F i ∨ w.heap.size ≤ i) (l2 := l.take part) (G := G) HFB.out HS.out rfl rfl (by omega) ?_
  intro v' w' hf' hk'
  have hq := hid hf'
  clear hf'
  have hq2 := hid hk'
  clear hk'
  have hcf' := (hq2.out.cell (p := ⟨bf, 0, none⟩) hWf (by simp)).trans xcf
  have hcb' := (hq2.out.cell (p := ⟨bb, 0, none⟩) hWb (by simp)).trans xcb
  have hx1 := (hq2.out.cell (p := ⟨w.heap.size, 0, none⟩) hWg (by simp)).trans xc0
  have hx2 := (hq2.out.frozen (p := ⟨w.heap.size, 0, none⟩) hWg (by simp)).trans xf0
  obtain ⟨ao', cap', hv', -, -⟩ := hq.out.slice
  subst hv'
  refine ⟨fun _ => ⟨hcf', hcb', hx1⟩, ?_⟩
  refine anyZ_read (j := 23) (by kernel_rfl) rfl rfl ⟨hcf', hcb', hx1⟩ (by go_simp; with_reducible rfl) ?_
  refine anyZ_read (j := 24) (by kernel_rfl) rfl rfl ⟨hcf', hcb', hx1⟩ (by go_simp; with_reducible rfl) ?_
  refine anyZ_last (by kernel_rfl) rfl rfl (by kernel_rfl) ?_
  go_simp
  have HR := HL.out w' _ hq.out hq2.out
  simp only [List.length_append, List.length_take, List.length_nil, Nat.zero_add] at HR
  refine bodyPost_end (results_none rfl _ _ _) rfl ?_
  exact ⟨rfl, _, HR⟩

end Go.Proofs.YtmdibkafjpglkaaGreatDoor.Dsk
