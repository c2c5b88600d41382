/- Files put into a disk's map, and taken out of it. -/
import Derived.Test.YtmdibkafjpglkaaGreatDoorDiskAppend
namespace Go.Proofs.YtmdibkafjpglkaaGreatDoor.Dsk
open Go Go.RowKit Go.Lib

theorem mput_ptrs_any (gs : ByteArray → Nat) (fs : Files) (n : ByteArray) (g : Nat) (f : FileM) : mput (ptrs gs fs) n (ptr g) = ptrs (fun m => if m = n then g else gs m) (mput fs n f) := by
  have h1 := mput_ptrs (fun m => if m = n then g else gs m) fs n f
  simp only [if_true] at h1
  rw [← h1]
  unfold mput
  rw [mhas_ptrs, mhas_ptrs]
  cases hh : mhas fs n with
  | true =>
    simp only [if_true]
    unfold ptrs
    rw [List.map_map, List.map_map]
    refine List.map_congr_left fun p _ => ?_
    simp only [Function.comp]
    by_cases e : p.1 = n <;> simp [e]
  | false =>
    simp only [Bool.false_eq_true, if_false]
    rw [ptrs_congr (gs := gs) (gs' := fun m => if m = n then g else gs m) (fs := fs) fun p hp => by
      have : p.1 ≠ n := fun e => by
        have h2 : mhas fs n = true := (mhas_iff _ _).2 (e ▸ List.mem_map_of_mem (f := (·.1)) hp)
        rw [hh] at h2; cases h2
      simp [this]]

/-- A file put into the map. -/
theorem DiskAt.putFile {w : World} {db mr : Nat} {gs : ByteArray → Nat} {cv : Value} {D : DiskM} {F : Nat → Prop} (h : DiskAt w db mr gs cv D F) (name : ByteArray) {g : Nat} {f : FileM} (hg : FileAt w g f F) (hnew : ∀ p ∈ D.files, gs p.1 = g → p.1 = name) (hok : Ok { D with files := mput D.files name f }) :
    ∃ es' clock', (Instr.mapUpdate 52 (.map (some mr)) (.string name) (ptr g)).run Tryz.prog w = .ok () (setMap w mr es' clock') ∧
      DiskAt (setMap w mr es' clock') db mr (fun n => if n = name then g else gs n) cv { D with files := mput D.files name f } F := by
  obtain ⟨es, clock, hm⟩ := h.map
  obtain ⟨es', clock', hr, hm'⟩ := run_mapUpdate_map (P := Tryz.prog) mkey_name 52 61 under_map hm name (ptr g)
  rw [mput_ptrs_any gs D.files name g f] at hm'
  have hmem : ∀ p ∈ mput D.files name f, p.1 = name ∧ p.2 = f ∨ p.1 ≠ name ∧ p ∈ D.files := by
    intro p hp
    by_cases e : p.1 = name
    · have h1 := mget_of_mem hok.nodup (k := p.1) (v := p.2) (by simpa using hp)
      rw [mget_mput, if_pos e] at h1
      exact .inl ⟨e, (Option.some.inj h1).symm⟩
    · rcases mem_mput hp with hp | rfl
      · exact .inr ⟨e, hp⟩
      · exact absurd rfl e
  refine ⟨es', clock', hr, h.remap _ _ hm' ?_ ?_ hok⟩
  · intro p hp
    rcases hmem p hp with ⟨e1, e2⟩ | ⟨e1, hp⟩
    · simp only [e1, e2, if_true]; exact hg
    · simp only [e1, if_false]; exact h.files p hp
  · intro p hp q hq e
    rcases hmem p hp with ⟨e1, e2⟩ | ⟨e1, hp⟩ <;> rcases hmem q hq with ⟨e3, e4⟩ | ⟨e3, hq⟩
    · rw [e1, e3]
    · simp only [e1, e3, if_false, if_true] at e; exact absurd (hnew q hq e.symm) e3
    · simp only [e1, e3, if_false, if_true] at e; exact absurd (hnew p hp e) e1
    · simp only [e1, e3, if_false] at e; exact h.inj p hp q hq e

/-- A file taken out of the map. -/
theorem DiskAt.delFile {w : World} {db mr : Nat} {gs : ByteArray → Nat} {cv : Value} {D : DiskM} {F : Nat → Prop} (h : DiskAt w db mr gs cv D F) (name : ByteArray) (A2 ty : TypeId) :
    ∃ es' clock', (Builtin.delete_ #[52, A2] ty #[.map (some mr), .string name]).run Tryz.prog w = .ok (.tuple #[]) (setMap w mr es' clock') ∧
      DiskAt (setMap w mr es' clock') db mr gs cv { D with files := mdel D.files name } F := by
  obtain ⟨es, clock, hm⟩ := h.map
  obtain ⟨es', hr, hm'⟩ := run_delete_map (P := Tryz.prog) mkey_name 52 61 ty under_map A2 hm name
  rw [mdel_ptrs] at hm'
  exact ⟨es', clock, hr, h.remap _ _ hm' (fun p hp => h.files p (mem_mdel hp)) (fun p hp q hq => h.inj p (mem_mdel hp) q (mem_mdel hq)) (ok_mdel h.ok name)⟩

theorem wp_delete {P : Program} {o : Oper} {a : Act} {w : World} {Q : Exit → Act → World → Prop} {K : Act → World → Prop} (x k : Operand) (t u : TypeId) (ho : o.op = .call { callee := .builtin .delete, args := #[x, k], argTypes := #[t, u] }) {xv kv v : Value} {w' : World} (hx : a.eval x = xv) (hk : a.eval k = kv)
    (hr : (Builtin.delete_ #[t, u] o.type #[xv, kv]).run P w = .ok v w') (h : K (a.put o.dst v) w') : o.wp P a w K Q := by
  unfold Oper.wp execOp
  simp only [ho, resolve, invoke, builtin, Sem.run_bind, Sem.run_pure, Result.andThen_ok, List.map_toArray, List.map_cons, List.map_nil, hx, hk, hr, Oper.upon_value]
  exact h

theorem ok_rename {D : DiskM} (h : Ok D) {frm to : ByteArray} (hn : mhas D.files frm = true) : Ok { D with files := mput (mdel D.files frm) to (fileOf D.files frm) } := by
  obtain ⟨f, hf⟩ := Option.isSome_iff_exists.1 (show (mget D.files frm).isSome = true from hn)
  have he : fileOf D.files frm = f := by unfold fileOf; rw [hf]; rfl
  have h1 := total_mdel_of D.files frm f hf
  have h2 := h.room
  refine ok_mput (D := { D with files := mdel D.files frm }) (ok_mdel h frm) to _ (h.fileOf_sure frm) ?_
  rw [he]
  simp only
  omega

end Go.Proofs.YtmdibkafjpglkaaGreatDoor.Dsk
