/- d.Rename and d.Shorten, walked: their closures. -/
import Derived.Test.YtmdibkafjpglkaaGreatDoorDiskPut
import Derived.Test.YtmdibkafjpglkaaGreatDoorDiskAppend2
namespace Go.Proofs.YtmdibkafjpglkaaGreatDoor.Dsk
open Go Go.RowKit Go.Lib

set_option maxRecDepth 100000 in
set_option maxHeartbeats 4000000 in
/-- Rename's. -/
theorem rename_do (w : World) {db mr : Nat} {gs : ByteArray → Nat} {cv : Value} {D : DiskM} {F : Nat → Prop} (h : DiskAt w db mr gs cv D F) (frm to : ByteArray) (hn : mhas D.files frm = true) (part : Nat)
    (b1 b2 b3 : Nat) (hb1 : w.cell? ⟨b1, 0, none⟩ = some (ptr db)) (hb2 : w.cell? ⟨b2, 0, none⟩ = some (.string frm)) (hb3 : w.cell? ⟨b3, 0, none⟩ = some (.string to))
    (hF1 : ¬ F b1) (hF3 : ¬ F b3) (hs1 : b1 < w.heap.size) (hs3 : b3 < w.heap.size) :
    Calls Tryz.prog 70 #[.int .i64 (part : Int), ptr b1, ptr b2, ptr b3] w fun e w' => e = .returned (.tuple #[]) ∧ ∃ gs', DiskAt w' db mr gs' cv { D with files := renameP frm to part D.files } F ∧ Keep F w w' := by
  have h1 := h.c1
  have hl : ∀ n, (Instr.lookup 52 (.map (some mr)) (.string frm) false).run Tryz.prog (w.drewN n) = .ok (ptr (gs frm)) (w.drewN n) := fun n => by
    rw [look_any (h.drewN n) frm, hn]; rfl
  have hKn : ∀ n, Keep F w (w.drewN n) := fun n => (Keep.refl F w).drewN n
  unfold renameP
  by_cases hp0 : 0 < part
  · rw [if_pos hp0]
    have hgt : (0 : Int) < (part : Int) := by omega
    have Hh := hid h
    have HKn := hid hKn
    clear h hKn
    unfold ptr at *
    go_enter Tryz.func70, Tryz.ntmps70
    go_wp2_with (go_quiet (fail))
    have vb1 : (w.drewN nq).cell? ⟨b1, 0, none⟩ = _ := hb1
    have vb2 : (w.drewN nq).cell? ⟨b2, 0, none⟩ = _ := hb2
    have vc1 : (w.drewN nq).cell? ⟨db, 1, none⟩ = _ := h1
    have HQ := (Hh.out.drewN nq).keep ((Keep.refl (fun _ => False) (w.drewN nq)).drew) (fun _ _ h => h)
    have hKq : Keep F w (w.drewN nq).drew := (HKn.out nq).drew
    have hbq : ∀ a, (w.drewN nq).drew.cell? a = w.cell? a := fun a => rfl
    generalize hV : w.drewN nq = V at *
    generalize hWq : V.drew = Wq at *
    have HV := hid hV
    clear hV
    have h := Hh.out
    obtain ⟨es1, k1, hdel, hD1⟩ := HQ.delFile frm 9 0
    have hKa : Keep F w (setMap Wq mr es1 k1) := (hKq).trans (setMap_keep _ mr es1 k1) (fun i _ hi => hi ▸ h.fmr)
    obtain ⟨es0, k0, hm0⟩ := HQ.map
    have hf0 := HQ.file hn
    have hf1 : FileAt (setMap Wq mr es1 k1) (gs frm) (fileOf D.files frm) F := hf0.other (notOf_map hm0.block) (hf0.ne (notOf_map hm0.block)) (fun k hk => by simp [setMap, Ne.symm hk])
    generalize hW1 : setMap Wq mr es1 k1 = W1 at *
    have k2 : Keep (fun _ => False) W1 W1.drew := (Keep.refl _ W1).drew
    obtain ⟨es2, k2', hup, hD2⟩ := (hD1.keep k2 (fun _ _ h => h)).putFile to (hf1.keep k2 (fun _ _ h => h)) (by
      intro p hp e
      obtain ⟨f0, hf0⟩ := Option.isSome_iff_exists.1 (show (mget D.files frm).isSome = true from hn)
      have := h.inj p (mem_mdel hp) _ (mget_mem hf0) e
      unfold mdel at hp
      have h2 := (List.mem_filter.1 hp).2
      simp [this] at h2) (ok_rename h.ok hn)
    have hKb : Keep F w (setMap W1.drew mr es2 k2') := (hKa.trans k2 (fun _ _ h => h.elim)).trans (setMap_keep _ mr es2 k2') (fun i _ hi => hi ▸ h.fmr)
    have xb1 : W1.drew.cell? ⟨b1, 0, none⟩ = some (ptr db) := by rw [show W1.drew.cell? ⟨b1, 0, none⟩ = W1.cell? ⟨b1, 0, none⟩ from rfl, hKa.cell hs1 hF1]; exact hb1
    have xb3 : W1.drew.cell? ⟨b3, 0, none⟩ = some (.string to) := by rw [show W1.drew.cell? ⟨b3, 0, none⟩ = W1.cell? ⟨b3, 0, none⟩ from rfl, hKa.cell hs3 hF3]; exact hb3
    have xc1 : W1.drew.cell? ⟨db, 1, none⟩ = some (.map (some mr)) := hD1.c1
    have HDEL := hid hdel
    have HUP := hid hup
    have HW1 := hid hW1
    have HWq := hid hWq
    have HR := hid (show DiskAt (setMap W1.drew mr es2 k2') db mr (fun n => if n = to then gs frm else gs n) cv { D with files := mput (mdel D.files frm) to (fileOf D.files frm) } F ∧ Keep F w (setMap W1.drew mr es2 k2') from ⟨hD2, hKb⟩)
    clear hdel hup hW1 hWq hD1 hD2 hKa hKb hm0 hf0 hf1 h HQ hKq
    unfold ptr at *
    refine wp_region_still_tail 5 (by kernel_rfl) (by kernel_rfl) ?_
    simp only [List.take_succ_cons, List.take_zero, List.drop_succ_cons, List.drop_zero]
    repeat still_step
    refine wpStill_nil ?_
    change wpList _ _ _ _ _ (World.drew V)
    rw [HWq.out]
    refine wpList_delete rfl _ _ _ _ rfl rfl rfl HDEL.out ?_
    go_wp2_with fail
    refine wp_region_heldz 6 6 1 (fun w' => w'.cell? ⟨b1, 0, none⟩ = some (.pointer (some ⟨db, 0, none⟩)) ∧ (w'.cell? ⟨db, 1, none⟩ = some (.map (some mr)) ∧ w'.cell? ⟨b3, 0, none⟩ = some (.string to)))
      (by kernel_rfl) (by kernel_rfl) (by kernel_rfl) ?_ (fun d _ _ _ _ h => by cases d <;> exact h) ?_
    · exact ⟨xb1, xc1, xb3⟩
    simp only [List.take_succ_cons, List.take_zero]
    repeat (refine held_step rfl (fun w' hSw => by (obtain ⟨s1, s2, s3⟩ := hSw; go_simp; with_reducible rfl)) ?_; simp only [Act.put, List.setIfInBounds_toArray, List.set_cons_zero, List.set_cons_succ])
    refine held_nil ?_
    refine anyZ_last (by kernel_rfl) rfl rfl (by kernel_rfl) ?_
    refine wp_mapUpdate _ _ _ _ rfl rfl rfl rfl HUP.out ?_
    dsimp only [Act.put]
    go_simp
    refine bodyPost_end (results_none rfl _ _ _) rfl ?_
    exact ⟨rfl, _, HR.out.1, HR.out.2⟩
  · rw [if_neg hp0]
    have hne : ¬ ((0 : Int) < (part : Int)) := by omega
    have hDh := hid (fun n => h.drewN n)
    have hKnh := hid hKn
    clear hKn h
    unfold ptr at *
    go_enter Tryz.func70, Tryz.ntmps70
    go_wp2_with (go_quiet (fail))
    refine bodyPost_end (results_none rfl _ _ _) rfl ?_
    exact ⟨rfl, ⟨gs, hDh.out _⟩, hKnh.out _⟩

set_option maxRecDepth 100000 in
set_option maxHeartbeats 4000000 in
theorem rename_in (w : World) {db mr : Nat} {gs : ByteArray → Nat} {cv : Value} {D : DiskM} {F : Nat → Prop} (h : DiskAt w db mr gs cv D F) (hF : ∀ i, F i → i < w.heap.size) (frm to : ByteArray) :
    Calls Tryz.prog 42 #[ptr db, .string frm, .string to] w (Operated w db F (fun _ => False) (rename D frm to)) := by
  have hmf : ∀ (fn : Fn) (first cap : Array Value) (w : World), (Instr.makeFunc fn first cap).run Tryz.prog w = .ok (.func fn first cap) w := fun _ _ _ _ => rfl
  have hen : ∀ (args : Array Value) (w : World), (callFunc 70 args).run Tryz.prog w = .ok (.enter 70 args) w := fun args w => by go_simp
  generalize hW : ((w.alloc (.cells #[ptr db] 24)).alloc (.cells #[.string frm] 9)).alloc (.cells #[.string to] 9) = W
  have hKW : Keep (fun _ => False) w W := by rw [← hW]; exact (((Keep.refl _ w).alloc _).alloc _).alloc _
  have hD : DiskAt W db mr gs cv D F := h.keep hKW (fun _ _ h => h)
  have hc0 : W.cell? ⟨w.heap.size, 0, none⟩ = some (ptr db) := by rw [← hW, World.cell?_alloc_past _ _ _ (by simp; try omega), World.cell?_alloc_past _ _ _ (by simp; try omega), World.cell?_alloc_at _ _ _ _ rfl]; rfl
  have hc1 : W.cell? ⟨w.heap.size + 1, 0, none⟩ = some (.string frm) := by rw [← hW, World.cell?_alloc_past _ _ _ (by simp), World.cell?_alloc_at _ _ _ _ (by simp)]; rfl
  have hc2 : W.cell? ⟨w.heap.size + 2, 0, none⟩ = some (.string to) := by rw [← hW, World.cell?_alloc_at _ _ _ _ (by simp)]; rfl
  have hc2' : W.cell? ⟨w.heap.size + 1 + 1, 0, none⟩ = some (.string to) := hc2
  have hsz : W.heap.size = w.heap.size + 3 := by rw [← hW]; simp
  have HW := hid hW
  unfold rename
  unfold ptr at *
  go_enter Tryz.func42, Tryz.ntmps42
  go_wp2_with fail
  refine (down_any W hD).mono ?_
  intro e w1 hh
  obtain ⟨he, hw⟩ := hh
  rw [he, hw]
  clear he hw w1 e
  cases hoff : D.off with
  | true =>
    simp only [if_true]
    go_wp2_with fail
    go_ret
    exact ⟨rfl, ⟨_, _, _, hD.mono fun i hi => .inl hi⟩, hKW.mono fun _ _ h => h.elim⟩
  | false =>
    simp only [Bool.false_eq_true, if_false]
    go_wp2_with fail
    refine (none_any W hD frm).mono ?_
    intro e w1 hh
    obtain ⟨he, hw⟩ := hh
    rw [he, hw]
    clear he hw w1 e
    go_wp2_with fail
    refine (dmay_any to W).mono ?_
    rintro e w1 ⟨rfl, hb⟩
    have hK1 := keep_of_below hb
    have hD1 := hD.keep hK1 (fun _ _ h => h)
    have hs1 := hK1.size
    have x0 := (hK1.cell (p := ⟨w.heap.size, 0, none⟩) (by simp only; omega) (by simp)).trans hc0
    have x1 := (hK1.cell (p := ⟨w.heap.size + 1, 0, none⟩) (by simp only; omega) (by simp)).trans hc1
    have x2 := (hK1.cell (p := ⟨w.heap.size + 2, 0, none⟩) (by simp only; omega) (by simp)).trans hc2
    have hdo : renameE D frm to = 0 → DoesPart w1 db mr gs D F (fun _ => False) 70 [ptr w.heap.size, ptr (w.heap.size + 1), ptr (w.heap.size + 2)] (renameP frm to) := by
      intro hn part u cv1 D1 hp hf hr hD1 hK
      have hn1 : mhas D1.files frm = true := by
        rw [hf]
        unfold renameE at hn
        split at hn
        · unfold noneE at hn
          cases hm : mhas D.files frm with
          | true => rfl
          | false => rw [hm] at hn; simp at hn
        · omega
      have hnF : ∀ i, w.heap.size ≤ i → ¬ F i := fun i hi hf => by have := hF i hf; omega
      have hsu := hK.size
      refine (rename_do u hD1 frm to hn1 part w.heap.size (w.heap.size + 1) (w.heap.size + 2) ?_ ?_ ?_ (hnF _ (by omega)) (hnF _ (by omega)) (by omega) (by omega)).mono ?_
      · rw [hK.cell (by simp only; omega) (hnF _ (by simp only; omega))]; exact x0
      · rw [hK.cell (by simp only; omega) (hnF _ (by simp only; omega))]; exact x1
      · rw [hK.cell (by simp only; omega) (hnF _ (by simp only; omega))]; exact x2
      · rintro e' w' ⟨he, gs', h1, h2⟩
        exact ⟨he, gs', h1.mono fun i hi => .inl hi, h2.mono fun i _ hi => .inl hi⟩
    have HOP := hid (operate_any w1 hD1 (renameE D frm to) 70 [ptr w.heap.size, ptr (w.heap.size + 1), ptr (w.heap.size + 2)] (renameP frm to) hen hdo)
    have HKW := hid (hKW.trans hK1 (fun _ _ h => h))
    clear hdo hD1 hb hK1 hKW hen h hD
    have hE : renameE D frm to = if isName to.toList then noneE D frm else 61 := rfl
    cases hname : isName to.toList with
    | true =>
      rw [hname, if_pos rfl] at hE
      have HE := hid hE
      clear hE
      go_wp2_with fail
      rw [HE.out] at HOP
      refine HOP.out.mono ?_
      rintro e w2 ⟨rfl, hI, hK⟩
      rw [← HE.out] at *
      obtain ⟨mr', gs', cv', hI⟩ := hI
      have HI := hid hI
      have HK := hid hK
      clear hI hK HOP
      go_wp2_with fail
      all_goals go_ret
      all_goals exact ⟨rfl, ⟨mr', gs', cv', HI.out.mono fun i hi => hi.elim .inl (fun h => .inr (by omega))⟩, (HKW.out.mono fun _ _ h => h.elim).trans HK.out (fun i _ hi => hi)⟩
    | false =>
      rw [hname, if_neg (by simp)] at hE
      have HE := hid hE
      clear hE
      go_wp2_with fail
      rw [HE.out] at HOP
      refine HOP.out.mono ?_
      rintro e w2 ⟨rfl, hI, hK⟩
      rw [← HE.out] at *
      obtain ⟨mr', gs', cv', hI⟩ := hI
      have HI := hid hI
      have HK := hid hK
      clear hI hK HOP
      go_wp2_with fail
      all_goals go_ret
      all_goals exact ⟨rfl, ⟨mr', gs', cv', HI.out.mono fun i hi => hi.elim .inl (fun h => .inr (by omega))⟩, (HKW.out.mono fun _ _ h => h.elim).trans HK.out (fun i _ hi => hi)⟩

/-- d.Rename(from, to). -/
theorem rename_any (w : World) {db : Nat} {D : DiskM} {F : Nat → Prop} (h : IsDisk w db D F) (frm to : ByteArray) :
    Calls Tryz.prog 42 #[ptr db, .string frm, .string to] w (Operated w db F (fun _ => False) (rename D frm to)) := by
  obtain ⟨mr, gs, cv, h⟩ := h
  refine (rename_in w h.here (fun i hi => hi.2) frm to).mono ?_
  rintro e w' ⟨he, ⟨mr', gs', cv', hI⟩, hK⟩
  exact ⟨he, ⟨mr', gs', cv', hI.mono fun i hi => hi.elim (fun h => .inl h.1) .inr⟩, hK.mono fun i _ hi => hi.elim (fun h => .inl h.1) .inr⟩

end Go.Proofs.YtmdibkafjpglkaaGreatDoor.Dsk
