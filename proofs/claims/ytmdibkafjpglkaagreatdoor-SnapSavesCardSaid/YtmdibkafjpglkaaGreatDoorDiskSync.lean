/- d.operate in all cases; d.Sync, walked. -/
import Derived.Test.YtmdibkafjpglkaaGreatDoorDiskCut
namespace Go.Proofs.YtmdibkafjpglkaaGreatDoor.Dsk
open Go Go.RowKit Go.Lib

theorem operate_any (w : World) {db mr : Nat} {gs : ByteArray → Nat} {cv : Value} {D : DiskM} {F G : Nat → Prop} (h : DiskAt w db mr gs cv D F) (e : Int) (fn : FuncId) (caps : List Value) (doP : Nat → Files → Files)
    (hen : ∀ (args : Array Value) (w : World), (callFunc fn args).run Tryz.prog w = .ok (.enter fn args) w) (hdo : e = 0 → DoesPart w db mr gs D F G fn caps doP) :
    Calls Tryz.prog 29 #[ptr db, .int .i64 e, .func (.func fn) #[] caps.toArray] w (Operated w db F G (operate D e doP)) := by
  rcases hc : D.cut with _ | ⟨_ | o, p, k⟩
  · exact operate_none w h e fn caps doP hen hdo hc
  · exact operate_cut w h e fn caps doP hen hdo hc
  · exact operate_later w h e fn caps doP hen hdo hc

theorem DiskAt.drew {w : World} {db mr : Nat} {gs : ByteArray → Nat} {cv : Value} {D : DiskM} {F : Nat → Prop} (h : DiskAt w db mr gs cv D F) : DiskAt w.drew db mr gs cv D F := h.keep ((Keep.refl (fun _ => False) w).drew) (fun _ _ h => h)
theorem DiskAt.alloc {w : World} {db mr : Nat} {gs : ByteArray → Nat} {cv : Value} {D : DiskM} {F : Nat → Prop} (h : DiskAt w db mr gs cv D F) (o : Obj) : DiskAt (w.alloc o) db mr gs cv D F := h.keep ((Keep.refl (fun _ => False) w).alloc o) (fun _ _ h => h)

set_option maxRecDepth 100000 in
set_option maxHeartbeats 4000000 in
theorem sync_in (w : World) {db mr : Nat} {gs : ByteArray → Nat} {cv : Value} {D : DiskM} {F : Nat → Prop} (h : DiskAt w db mr gs cv D F) (hF : ∀ i, F i → i < w.heap.size) (name : ByteArray) :
    Calls Tryz.prog 12 #[ptr db, .string name] w (Operated w db F (fun _ => False) (sync D name)) := by
  have hmf : ∀ (fn : Fn) (first cap : Array Value) (w : World), (Instr.makeFunc fn first cap).run Tryz.prog w = .ok (.func fn first cap) w := fun _ _ _ _ => rfl
  have hen : ∀ (args : Array Value) (w : World), (callFunc 35 args).run Tryz.prog w = .ok (.enter 35 args) w := fun args w => by go_simp
  generalize hW : (w.alloc (.cells #[ptr db] 24)).alloc (.cells #[.string name] 9) = W
  have hKW : Keep (fun _ => False) w W := by rw [← hW]; exact ((Keep.refl _ w).alloc _).alloc _
  have hD : DiskAt W db mr gs cv D F := h.keep hKW (fun _ _ h => h)
  have hc0 : W.cell? ⟨w.heap.size, 0, none⟩ = some (ptr db) := by rw [← hW, World.cell?_alloc_past _ _ _ (by simp), World.cell?_alloc_at _ _ _ _ rfl]; rfl
  have hc1 : W.cell? ⟨w.heap.size + 1, 0, none⟩ = some (.string name) := by rw [← hW, World.cell?_alloc_at _ _ _ _ (by simp)]; rfl
  have hsz : W.heap.size = w.heap.size + 2 := by rw [← hW]; simp
  have HW := hid hW
  unfold sync
  unfold ptr at *
  go_enter Tryz.func12, Tryz.ntmps12
  go_wp2_with fail
  refine (down_any W hD).mono ?_
  intro e w1 hh
  obtain ⟨he, hw⟩ := hh
  rw [he, hw]
  clear he hw w1 e
  cases hoff : D.off with
  | true =>
    simp only [if_true]
    go_wp2_with fail
    go_ret
    exact ⟨rfl, ⟨_, _, _, hD.mono fun i hi => .inl hi⟩, hKW.mono fun _ _ h => h.elim⟩
  | false =>
    simp only [Bool.false_eq_true, if_false]
    have hdo : noneE D name = 0 → DoesPart W.drew db mr gs D F (fun _ => False) 35 [ptr w.heap.size, ptr (w.heap.size + 1)] (syncP name) := by
      intro hn part u cv1 D1 hp hf hr hD1 hK
      have hn1 : mhas D1.files name = true := by
        rw [hf]; unfold noneE at hn
        cases hm : mhas D.files name with
        | true => rfl
        | false => rw [hm] at hn; simp at hn
      refine (sync_do u hD1 name hn1 part hp w.heap.size (w.heap.size + 1) ?_ ?_).mono ?_
      · rw [hK.cell (by simp only [World.size_drew]; omega) (fun h => by have := hF _ h; simp only at this; omega)]; exact hc0
      · rw [hK.cell (by simp only [World.size_drew]; omega) (fun h => by have := hF _ h; simp only at this; omega)]; exact hc1
      · rintro e' w' ⟨he, h1, h2⟩
        exact ⟨he, _, h1.mono fun i hi => .inl hi, h2.mono fun i _ hi => .inl hi⟩
    have hop := operate_any W.drew hD.drew (noneE D name) 35 [ptr w.heap.size, ptr (w.heap.size + 1)] (syncP name) hen hdo
    have HOP := hid hop
    have HN := hid (none_any W.drew hD.drew name)
    have HKW := hid hKW
    clear hop hdo hD hKW hen h
    go_wp2_with fail
    refine wp_region_still_tail 5 (by kernel_rfl) (by kernel_rfl) ?_
    simp only [List.take_succ_cons, List.take_zero, List.drop_succ_cons, List.drop_zero]
    repeat still_step
    still_call HN.out
    repeat still_step
    refine wpStill_nil ?_
    change wpList _ _ _ _ _ (World.drew W)
    go_wp2_with fail
    refine HOP.out.mono ?_
    rintro e w1 ⟨rfl, hI, hK⟩
    have HI := hid hI
    have HK := hid hK
    clear hI hK HOP
    obtain ⟨mr', gs', cv', hI⟩ := HI.out
    have HI' := hid hI
    clear hI HI
    go_wp2_with fail
    all_goals go_ret
    all_goals exact ⟨rfl, ⟨mr', gs', cv', HI'.out.mono fun i hi => hi.elim .inl (fun h => .inr (by simp only [World.size_drew] at h; omega))⟩, ((HKW.out.mono fun _ _ h => h.elim).drew).trans HK.out (fun i _ hi => hi)⟩

/-- d.Sync(name). -/
theorem sync_any (w : World) {db : Nat} {D : DiskM} {F : Nat → Prop} (h : IsDisk w db D F) (name : ByteArray) :
    Calls Tryz.prog 12 #[ptr db, .string name] w (Operated w db F (fun _ => False) (sync D name)) := by
  obtain ⟨mr, gs, cv, h⟩ := h
  refine (sync_in w h.here (fun i hi => hi.2) name).mono ?_
  rintro e w' ⟨he, ⟨mr', gs', cv', hI⟩, hK⟩
  exact ⟨he, ⟨mr', gs', cv', hI.mono fun i hi => hi.elim (fun h => .inl h.1) .inr⟩, hK.mono fun i _ hi => hi.elim (fun h => .inl h.1) .inr⟩

end Go.Proofs.YtmdibkafjpglkaaGreatDoor.Dsk
