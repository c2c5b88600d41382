/- d.Remove, walked. -/
import Derived.Test.YtmdibkafjpglkaaGreatDoorHeldDisk
namespace Go.Proofs.YtmdibkafjpglkaaGreatDoor.Dsk
open Go Go.RowKit Go.Lib

set_option maxRecDepth 100000 in
set_option maxHeartbeats 4000000 in
/-- Remove's closure. -/
theorem remove_do (w : World) {db mr : Nat} {gs : ByteArray → Nat} {cv : Value} {D : DiskM} {F : Nat → Prop} (h : DiskAt w db mr gs cv D F) (name : ByteArray) (part : Nat)
    (b1 b2 : Nat) (hb1 : w.cell? ⟨b1, 0, none⟩ = some (ptr db)) (hb2 : w.cell? ⟨b2, 0, none⟩ = some (.string name)) :
    Calls Tryz.prog 69 #[.int .i64 (part : Int), ptr b1, ptr b2] w fun e w' => e = .returned (.tuple #[]) ∧ DiskAt w' db mr gs cv { D with files := removeP name part D.files } F ∧ Keep F w w' := by
  unfold removeP
  by_cases hp0 : 0 < part
  · rw [if_pos hp0]
    have hgt : (0 : Int) < (part : Int) := by omega
    have HQ := h.drew
    obtain ⟨es1, k1, hdel, hD1⟩ := HQ.delFile name 9 0
    have hKa : Keep F w (setMap w.drew mr es1 k1) := ((Keep.refl F w).drew).trans (setMap_keep _ mr es1 k1) (fun i _ hi => hi ▸ h.fmr)
    have xc1 : w.drew.cell? ⟨db, 1, none⟩ = some (.map (some mr)) := HQ.c1
    have HDEL := hid hdel
    have HR := hid (show DiskAt (setMap w.drew mr es1 k1) db mr gs cv { D with files := mdel D.files name } F ∧ Keep F w (setMap w.drew mr es1 k1) from ⟨hD1, hKa⟩)
    clear hdel hD1 hKa HQ h
    unfold ptr at *
    go_enter Tryz.func69, Tryz.ntmps69
    go_wp2_with fail
    refine wp_region_still_tail 5 (by kernel_rfl) (by kernel_rfl) ?_
    simp only [List.take_succ_cons, List.take_zero, List.drop_succ_cons, List.drop_zero]
    have yb1 : w.drew.cell? ⟨b1, 0, none⟩ = _ := hb1
    have yb2 : w.drew.cell? ⟨b2, 0, none⟩ = _ := hb2
    repeat still_step
    refine wpStill_nil ?_
    change wpList _ _ _ _ _ (World.drew w)
    refine wpList_delete rfl _ _ _ _ rfl rfl rfl HDEL.out ?_
    go_wp2_with fail
    refine bodyPost_end (results_none rfl _ _ _) rfl ?_
    exact ⟨rfl, HR.out.1, HR.out.2⟩
  · rw [if_neg hp0]
    have hne : ¬ ((0 : Int) < (part : Int)) := by omega
    have H := hid h
    clear h
    unfold ptr at *
    go_enter Tryz.func69, Tryz.ntmps69
    go_wp2_with fail
    refine bodyPost_end (results_none rfl _ _ _) rfl ?_
    exact ⟨rfl, H.out, Keep.refl _ _⟩

set_option maxRecDepth 100000 in
set_option maxHeartbeats 4000000 in
theorem remove_in (w : World) {db mr : Nat} {gs : ByteArray → Nat} {cv : Value} {D : DiskM} {F : Nat → Prop} (h : DiskAt w db mr gs cv D F) (hF : ∀ i, F i → i < w.heap.size) (name : ByteArray) :
    Calls Tryz.prog 41 #[ptr db, .string name] w (Operated w db F (fun _ => False) (remove D name)) := by
  have hmf : ∀ (fn : Fn) (first cap : Array Value) (w : World), (Instr.makeFunc fn first cap).run Tryz.prog w = .ok (.func fn first cap) w := fun _ _ _ _ => rfl
  have hen : ∀ (args : Array Value) (w : World), (callFunc 69 args).run Tryz.prog w = .ok (.enter 69 args) w := fun args w => by go_simp
  generalize hW : (w.alloc (.cells #[ptr db] 24)).alloc (.cells #[.string name] 9) = W
  have hKW : Keep (fun _ => False) w W := by rw [← hW]; exact ((Keep.refl _ w).alloc _).alloc _
  have hD : DiskAt W db mr gs cv D F := h.keep hKW (fun _ _ h => h)
  have hc0 : W.cell? ⟨w.heap.size, 0, none⟩ = some (ptr db) := by rw [← hW, World.cell?_alloc_past _ _ _ (by simp), World.cell?_alloc_at _ _ _ _ rfl]; rfl
  have hc1 : W.cell? ⟨w.heap.size + 1, 0, none⟩ = some (.string name) := by rw [← hW, World.cell?_alloc_at _ _ _ _ (by simp)]; rfl
  have hsz : W.heap.size = w.heap.size + 2 := by rw [← hW]; simp
  have HW := hid hW
  unfold remove
  unfold ptr at *
  go_enter Tryz.func41, Tryz.ntmps41
  go_wp2_with fail
  refine (down_any W hD).mono ?_
  intro e w1 hh
  obtain ⟨he, hw⟩ := hh
  rw [he, hw]
  clear he hw w1 e
  cases hoff : D.off with
  | true =>
    simp only [if_true]
    go_wp2_with fail
    go_ret
    exact ⟨rfl, ⟨_, _, _, hD.mono fun i hi => .inl hi⟩, hKW.mono fun _ _ h => h.elim⟩
  | false =>
    simp only [Bool.false_eq_true, if_false]
    have hdo : noneE D name = 0 → DoesPart W.drew db mr gs D F (fun _ => False) 69 [ptr w.heap.size, ptr (w.heap.size + 1)] (removeP name) := by
      intro hn part u cv1 D1 hp hf hr hD1 hK
      refine (remove_do u hD1 name part w.heap.size (w.heap.size + 1) ?_ ?_).mono ?_
      · rw [hK.cell (by simp only [World.size_drew]; omega) (fun h => by have := hF _ h; simp only at this; omega)]; exact hc0
      · rw [hK.cell (by simp only [World.size_drew]; omega) (fun h => by have := hF _ h; simp only at this; omega)]; exact hc1
      · rintro e' w' ⟨he, h1, h2⟩
        exact ⟨he, _, h1.mono fun i hi => .inl hi, h2.mono fun i _ hi => .inl hi⟩
    have hop := operate_any W.drew hD.drew (noneE D name) 69 [ptr w.heap.size, ptr (w.heap.size + 1)] (removeP name) hen hdo
    have HOP := hid hop
    have HN := hid (none_any W.drew hD.drew name)
    have HKW := hid hKW
    clear hop hdo hD hKW hen h
    go_wp2_with fail
    refine wp_region_still_tail 5 (by kernel_rfl) (by kernel_rfl) ?_
    simp only [List.take_succ_cons, List.take_zero, List.drop_succ_cons, List.drop_zero]
    repeat still_step
    still_call HN.out
    repeat still_step
    refine wpStill_nil ?_
    change wpList _ _ _ _ _ (World.drew W)
    go_wp2_with fail
    refine HOP.out.mono ?_
    rintro e w1 ⟨rfl, hI, hK⟩
    have HI := hid hI
    have HK := hid hK
    clear hI hK HOP
    obtain ⟨mr', gs', cv', hI⟩ := HI.out
    have HI' := hid hI
    clear hI HI
    go_wp2_with fail
    all_goals go_ret
    all_goals exact ⟨rfl, ⟨mr', gs', cv', HI'.out.mono fun i hi => hi.elim .inl (fun h => .inr (by simp only [World.size_drew] at h; omega))⟩, ((HKW.out.mono fun _ _ h => h.elim).drew).trans HK.out (fun i _ hi => hi)⟩

/-- d.Remove(name). -/
theorem remove_any (w : World) {db : Nat} {D : DiskM} {F : Nat → Prop} (h : IsDisk w db D F) (name : ByteArray) :
    Calls Tryz.prog 41 #[ptr db, .string name] w (Operated w db F (fun _ => False) (remove D name)) := by
  obtain ⟨mr, gs, cv, h⟩ := h
  refine (remove_in w h.here (fun i hi => hi.2) name).mono ?_
  rintro e w' ⟨he, ⟨mr', gs', cv', hI⟩, hK⟩
  exact ⟨he, ⟨mr', gs', cv', hI.mono fun i hi => hi.elim (fun h => .inl h.1) .inr⟩, hK.mono fun i _ hi => hi.elim (fun h => .inl h.1) .inr⟩

end Go.Proofs.YtmdibkafjpglkaaGreatDoor.Dsk
namespace Go.Proofs.YtmdibkafjpglkaaGreatDoor.Wal
open Go Go.RowKit Go.Lib Go.Proofs.YtmdibkafjpglkaaGreatDoor.Dsk

section
variable {W w w' : World} {db n : Nat} {D : DiskM} {X : Nat → Prop}
theorem held_of_op {f : FuncId} {args : Array Value} {r : DiskM × Int} (hn : n ≤ w.heap.size) (hX : ∀ i, X i → i < w.heap.size)
    (h : Calls Tryz.prog f args w (Operated w db (fun i => n ≤ i ∧ i < w.heap.size ∧ ¬ X i) (fun _ => False) r)) :
    Calls Tryz.prog f args w fun e w' => e = .returned (.int .i64 r.2) ∧ Held n X w' db r.1 ∧ Keep (fun i => n ≤ i ∧ i < w.heap.size ∧ ¬ X i) w w' :=
  h.mono fun _ _ hop => ⟨hop.1, Held.after (fun _ hi => ⟨hi.1, hi.2.2⟩) hn hX hop, hop.2.2.mono fun _ _ hf => hf.elim (fun h => h) (fun h => h.elim)⟩
theorem st_of_op {f : FuncId} {args : Array Value} {r : DiskM × Int} (S : St W w db D X)
    (h : Calls Tryz.prog f args w (Operated w db (fun i => W.heap.size ≤ i ∧ i < w.heap.size ∧ ¬ X i) (fun _ => False) r)) :
    Calls Tryz.prog f args w fun e w' => e = .returned (.int .i64 r.2) ∧ St W w' db r.1 X ∧ Keep (fun i => W.heap.size ≤ i ∧ ¬ X i) w w' :=
  (held_of_op S.size S.sub h).mono fun _ _ hh => ⟨hh.1, ⟨hh.2.1, fun i hi => Nat.lt_of_lt_of_le (S.sub i hi) hh.2.2.size, S.kept.trans hh.2.2 (fun _ _ h => h.1)⟩, hh.2.2.mono fun _ _ h => ⟨h.1, h.2.2⟩⟩
theorem st_rename (S : St W w db D X) (frm to : ByteArray) :
    Calls Tryz.prog 42 #[ptr db, .string frm, .string to] w fun e w' => e = .returned (.int .i64 (rename D frm to).2) ∧ St W w' db (rename D frm to).1 X ∧ Keep (fun i => W.heap.size ≤ i ∧ ¬ X i) w w' := st_of_op S (rename_any w S.held frm to)
theorem st_remove (S : St W w db D X) (name : ByteArray) :
    Calls Tryz.prog 41 #[ptr db, .string name] w fun e w' => e = .returned (.int .i64 (remove D name).2) ∧ St W w' db (remove D name).1 X ∧ Keep (fun i => W.heap.size ≤ i ∧ ¬ X i) w w' := st_of_op S (remove_any w S.held name)
theorem st_dsync (S : St W w db D X) (name : ByteArray) :
    Calls Tryz.prog 12 #[ptr db, .string name] w fun e w' => e = .returned (.int .i64 (sync D name).2) ∧ St W w' db (sync D name).1 X ∧ Keep (fun i => W.heap.size ≤ i ∧ ¬ X i) w w' := st_of_op S (sync_any w S.held name)
end
end Go.Proofs.YtmdibkafjpglkaaGreatDoor.Wal
