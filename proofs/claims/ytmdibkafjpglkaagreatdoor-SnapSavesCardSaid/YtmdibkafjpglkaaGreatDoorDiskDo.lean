/- What package disk does in parts (its closures), walked. -/
import Derived.Test.YtmdibkafjpglkaaGreatDoorDiskRoom
import Derived.Deep.QuietTactic
import Derived.BigQuiet
import Derived.StillTailTactics
namespace Go.Proofs.YtmdibkafjpglkaaGreatDoor.Dsk
open Go Go.RowKit Go.Lib

theorem DiskAt.drewN {w : World} {db mr : Nat} {gs : ByteArray → Nat} {cv : Value} {D : DiskM} {F : Nat → Prop} (h : DiskAt w db mr gs cv D F) (n : Nat) : DiskAt (w.drewN n) db mr gs cv D F :=
  ⟨h.disk, h.map.imp fun _ h => h.imp fun _ h => ⟨h.block, h.keys, h.vals, h.nodup, h.born, h.bornNodup⟩, (by have := h.cut; rcases hc : D.cut with _ | ⟨o, p, k⟩ <;> rw [hc] at this <;> exact this), h.files, h.inj, h.ok, h.fdb, h.fmr⟩

theorem len_str (s : ByteArray) : s.toList.length = s.size := by rw [toList_data]; simp

set_option maxRecDepth 100000 in
set_option maxHeartbeats 1000000 in
/-- Sync's. -/
theorem sync_do (w : World) {db mr : Nat} {gs : ByteArray → Nat} {cv : Value} {D : DiskM} {F : Nat → Prop} (h : DiskAt w db mr gs cv D F) (name : ByteArray) (hn : mhas D.files name = true) (part : Nat) (hp : part ≤ whole)
    (b1 b2 : Nat) (hb1 : w.cell? ⟨b1, 0, none⟩ = some (ptr db)) (hb2 : w.cell? ⟨b2, 0, none⟩ = some (.string name)) :
    Calls Tryz.prog 35 #[.int .i64 (part : Int), ptr b1, ptr b2] w fun e w' => e = .returned (.tuple #[]) ∧ DiskAt w' db mr gs cv { D with files := syncP name part D.files } F ∧ Keep F w w' := by
  have h1 := h.c1
  have hl : ∀ n, (Instr.lookup 52 (.map (some mr)) (.string name) false).run Tryz.prog (w.drewN n) = .ok (ptr (gs name)) (w.drewN n) := fun n => by
    rw [look_any (h.drewN n) name, hn]; rfl
  obtain ⟨v, hblk, hfb, hF⟩ := h.file hn
  obtain ⟨ao, cap, rfl, hcap, hmax⟩ := hfb.slice
  have c0 : w.cell? ⟨gs name, 0, none⟩ = some (.slice ao (fileOf D.files name).b.length cap) := by rw [cell_at hblk]; rfl
  have c1 : w.cell? ⟨gs name, 1, none⟩ = some (.int .i64 (fileOf D.files name).sure) := by rw [cell_at hblk]; rfl
  have f1 : w.frozen? ⟨gs name, 1, none⟩ = false := frozen_at hblk 1
  have hbs : (fileOf D.files name).b.length ≤ total D.files + 1 := by
    obtain ⟨f, hf⟩ := Option.isSome_iff_exists.1 (show (mget D.files name).isSome = true from hn)
    have := total_mem (mget_mem hf)
    unfold fileOf; rw [hf]; simp only [Option.getD_some] at this ⊢; omega
  have hW : ∀ n, DiskAt ((w.drewN n).setCell ⟨gs name, 1, none⟩ (.int .i64 ((fileOf D.files name).b.length : Int))) db mr gs cv { D with files := mput D.files name ⟨(fileOf D.files name).b, (fileOf D.files name).b.length⟩ } F := fun n =>
    (h.drewN n).write hn 1 _ ⟨(fileOf D.files name).b, (fileOf D.files name).b.length⟩ hblk ⟨_, rfl, hfb⟩ (ok_mput h.ok _ _ (Nat.le_refl _) (by have := h.ok.room; simp only; omega))
  have hK : ∀ n, Keep F w ((w.drewN n).setCell ⟨gs name, 1, none⟩ (.int .i64 ((fileOf D.files name).b.length : Int))) := fun n => ((Keep.refl F w).drewN n).setCell (fun _ => hF) _
  have hD : ∀ n, DiskAt (w.drewN n) db mr gs cv D F := fun n => h.drewN n
  have hKn : ∀ n, Keep F w (w.drewN n) := fun n => (Keep.refl F w).drewN n
  have hWh := hid hW
  have hDh := hid hD
  have hKh := hid hK
  have hKnh := hid hKn
  clear hW hD hK hKn hblk hfb
  unfold ptr at *
  unfold syncP
  by_cases hpw : part = whole
  · subst hpw
    rw [if_pos rfl]
    go_enter Tryz.func35, Tryz.ntmps35
    go_wp2_with (go_quiet (fail))
    refine bodyPost_end (results_none rfl _ _ _) rfl ?_
    exact ⟨rfl, hWh.out _, hKh.out _⟩
  · rw [if_neg hpw]
    have hne : ¬ ((part : Int) = 4611686018427387904) := by unfold whole at hpw; omega
    go_enter Tryz.func35, Tryz.ntmps35
    go_wp2_with (go_quiet (fail))
    refine bodyPost_end (results_none rfl _ _ _) rfl ?_
    exact ⟨rfl, hDh.out _, hKnh.out _⟩

end Go.Proofs.YtmdibkafjpglkaaGreatDoor.Dsk
