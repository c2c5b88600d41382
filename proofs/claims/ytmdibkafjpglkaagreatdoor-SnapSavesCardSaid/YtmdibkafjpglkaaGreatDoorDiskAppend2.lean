/- d.Append, walked. -/
import Derived.Test.YtmdibkafjpglkaaGreatDoorDiskSync
import Derived.Deep.RegionHeld3
namespace Go.Proofs.YtmdibkafjpglkaaGreatDoor.Dsk
open Go Go.RowKit Go.Lib

theorem keep_of_below {w w' : World} (h : Below w.heap.size w w') : Keep (fun _ => False) w w' := Keep.of_below h fun i hi h2 => by omega

/-- What stands in memory within Append. -/
structure AEnv (w Y : World) (db mr : Nat) (gs : ByteArray → Nat) (cv : Value) (D : DiskM) (F G : Nat → Prop) (name : ByteArray) (bo : Option Addr) (cb : Nat) (l : List UInt8) (pa : Option Addr) : Prop where
  c0 : Y.cell? ⟨w.heap.size, 0, none⟩ = some (.pointer (some ⟨db, 0, none⟩))
  c1 : Y.cell? ⟨w.heap.size + 1, 0, none⟩ = some (.string name)
  c2 : Y.cell? ⟨w.heap.size + 1 + 1, 0, none⟩ = some (.slice bo l.length cb)
  c3 : Y.cell? ⟨w.heap.size + 3, 0, none⟩ = some (.pointer pa)
  f3 : Y.frozen? ⟨w.heap.size + 3, 0, none⟩ = false
  disk : DiskAt Y db mr gs cv D F
  src : BytesIn Y (.slice bo l.length cb) l G
  kept : Keep (fun _ => False) w Y
  size : w.heap.size + 4 ≤ Y.heap.size

theorem AEnv.keep {w Y Y' : World} {db mr : Nat} {gs : ByteArray → Nat} {cv : Value} {D : DiskM} {F G : Nat → Prop} {name : ByteArray} {bo : Option Addr} {cb : Nat} {l : List UInt8} {pa : Option Addr} (h : AEnv w Y db mr gs cv D F G name bo cb l pa) (k : Keep (fun _ => False) Y Y') : AEnv w Y' db mr gs cv D F G name bo cb l pa := by
  have hs := h.size
  refine ⟨?_, ?_, ?_, ?_, ?_, h.disk.keep k (fun _ _ h => h), h.src.keep k (fun _ _ h => h), h.kept.trans k (fun _ _ h => h), Nat.le_trans hs k.size⟩
  · rw [k.cell (by simp only; omega) (by simp)]; exact h.c0
  · rw [k.cell (by simp only; omega) (by simp)]; exact h.c1
  · rw [k.cell (by simp only; omega) (by simp)]; exact h.c2
  · rw [k.cell (by simp only; omega) (by simp)]; exact h.c3
  · rw [k.frozen (by simp only; omega) (by simp)]; exact h.f3

/-- Append's call of operate. -/
theorem AEnv.operates {w Y : World} {db mr : Nat} {gs : ByteArray → Nat} {cv : Value} {D : DiskM} {F G : Nat → Prop} {name : ByteArray} {bo : Option Addr} {cb : Nat} {l : List UInt8} {pa : Option Addr} (E : AEnv w Y db mr gs cv D F G name bo cb l pa)
    (hF : ∀ i, F i → i < w.heap.size) (hG : ∀ i, G i → i < w.heap.size ∧ ¬ F i) (hpa : (if mhas D.files name then ptr (gs name) else .pointer none) = .pointer pa) (e : Int) (hroom : e = 0 → total D.files + l.length ≤ D.room)
    (hen : ∀ (args : Array Value) (w : World), (callFunc 30 args).run Tryz.prog w = .ok (.enter 30 args) w) :
    Calls Tryz.prog 29 #[ptr db, .int .i64 e, .func (.func 30) #[] #[ptr (w.heap.size + 3), ptr w.heap.size, ptr (w.heap.size + 1), ptr (w.heap.size + 1 + 1)]] Y
      (fun e' w' => e' = .returned (.int .i64 (operate D e (appendP name l)).2) ∧ IsDisk w' db (operate D e (appendP name l)).1 (fun i => F i ∨ w.heap.size ≤ i) ∧ Keep (fun i => F i ∨ w.heap.size ≤ i) w w') := by
  have hsz := E.size
  have h := operate_any (G := fun i => i = w.heap.size + 3) Y E.disk e 30 [ptr (w.heap.size + 3), ptr w.heap.size, ptr (w.heap.size + 1), ptr (w.heap.size + 1 + 1)] (appendP name l) hen (by
    intro he part u cv1 D1 hp hf hr hD1 hK
    have hroom' := hroom he
    have hnF : ∀ i, w.heap.size ≤ i → ¬ F i := fun i hi hf => by have := hF i hf; omega
    have k1 := hK.size
    have c0 : u.cell? ⟨w.heap.size, 0, none⟩ = _ := (hK.cell (by simp only; omega) (hnF _ (Nat.le_refl _))).trans E.c0
    have c1 : u.cell? ⟨w.heap.size + 1, 0, none⟩ = _ := (hK.cell (by simp only; omega) (hnF _ (by simp only; omega))).trans E.c1
    have c2 : u.cell? ⟨w.heap.size + 1 + 1, 0, none⟩ = _ := (hK.cell (by simp only; omega) (hnF _ (by simp only; omega))).trans E.c2
    have c3 : u.cell? ⟨w.heap.size + 3, 0, none⟩ = _ := (hK.cell (by simp only; omega) (hnF _ (by simp only; omega))).trans E.c3
    have f3 : u.frozen? ⟨w.heap.size + 3, 0, none⟩ = _ := (hK.frozen (by simp only; omega) (hnF _ (by simp only; omega))).trans E.f3
    have hs : BytesIn u (.slice bo l.length cb) l G := E.src.keep hK (fun i hi => (hG i hi).2)
    have hroom1 : total D1.files + l.length ≤ D1.room := by rw [hf, hr]; exact hroom'
    cases hm : mhas D.files name with
    | true =>
      rw [hm] at hpa
      refine (append_do_has (l := l) (G := G) u hD1 name (by rw [hf]; exact hm) part (w.heap.size + 3) w.heap.size (w.heap.size + 1) (w.heap.size + 1 + 1) (by rw [c3, ← hpa]; rfl) (by omega) (by omega) (hnF _ (by omega)) (hnF _ (by omega)) ⟨bo, cb, c2, hs⟩ hroom1).mono ?_
      rintro e' w' ⟨he, h1, h2⟩
      exact ⟨he, _, h1, h2⟩
    | false =>
      rw [hm] at hpa
      refine (append_do_new (l := l) (G := G) u hD1 name (by rw [hf]; exact hm) part (w.heap.size + 3) w.heap.size (w.heap.size + 1) (w.heap.size + 1 + 1) (by rw [c3, ← hpa]; rfl) f3 (by omega) (by omega) (hnF _ (by omega)) (hnF _ (by omega)) (by omega) (by omega) (by omega) c0 c1
        (fun h => by have := (hG _ h).1; omega) (fun h => (hG _ h).2 hD1.fmr) (by omega) (by omega) ⟨bo, cb, c2, hs⟩ hroom1).mono ?_
      rintro e' w' ⟨he, gs', h1, h2⟩
      exact ⟨he, gs', h1, h2⟩)
  refine h.mono ?_
  rintro e' w' ⟨he, ⟨mr', gs', cv', hI⟩, hK⟩
  refine ⟨he, ⟨mr', gs', cv', hI.mono fun i hi => hi.elim .inl (fun h => .inr (by omega))⟩, ?_⟩
  exact (E.kept.mono fun _ _ h => h.elim).trans hK (fun i _ hi => hi.elim .inl (fun h => .inr (by omega)))

set_option maxRecDepth 100000 in
set_option maxHeartbeats 4000000 in
theorem append_in (w : World) {db mr : Nat} {gs : ByteArray → Nat} {cv : Value} {D : DiskM} {F G : Nat → Prop} (h : DiskAt w db mr gs cv D F) (hF : ∀ i, F i → i < w.heap.size) (name : ByteArray) {bo : Option Addr} {cb : Nat} {l : List UInt8}
    (hsrc : BytesIn w (.slice bo l.length cb) l G) (hG : ∀ i, G i → i < w.heap.size ∧ ¬ F i) :
    Calls Tryz.prog 9 #[ptr db, .string name, .slice bo l.length cb] w (Operated w db F (fun i => w.heap.size ≤ i) (append D name l)) := by
  have hmf : ∀ (fn : Fn) (first cap : Array Value) (w : World), (Instr.makeFunc fn first cap).run Tryz.prog w = .ok (.func fn first cap) w := fun _ _ _ _ => rfl
  have hen : ∀ (args : Array Value) (w : World), (callFunc 30 args).run Tryz.prog w = .ok (.enter 30 args) w := fun args w => by go_simp
  generalize hW : ((w.alloc (.cells #[ptr db] 24)).alloc (.cells #[.string name] 9)).alloc (.cells #[.slice bo l.length cb] 22) = W
  have hKW : Keep (fun _ => False) w W := by rw [← hW]; exact (((Keep.refl _ w).alloc _).alloc _).alloc _
  have hD : DiskAt W db mr gs cv D F := h.keep hKW (fun _ _ h => h)
  have hc0 : W.cell? ⟨w.heap.size, 0, none⟩ = some (ptr db) := by rw [← hW, World.cell?_alloc_past _ _ _ (by simp; omega), World.cell?_alloc_past _ _ _ (by simp), World.cell?_alloc_at _ _ _ _ rfl]; rfl
  have hc1 : W.cell? ⟨w.heap.size + 1, 0, none⟩ = some (.string name) := by rw [← hW, World.cell?_alloc_past _ _ _ (by simp), World.cell?_alloc_at _ _ _ _ (by simp)]; rfl
  have hc2 : W.cell? ⟨w.heap.size + 1 + 1, 0, none⟩ = some (.slice bo l.length cb) := by rw [← hW, World.cell?_alloc_at _ _ _ _ (by simp)]; rfl
  have hsz : W.heap.size = w.heap.size + 3 := by rw [← hW]; simp
  have hm1 := hD.c1
  have hlk : Hid ((Instr.lookup 52 (.map (some mr)) (.string name) false).run Tryz.prog W.drew = .ok (if mhas D.files name then ptr (gs name) else .pointer none) W.drew) := look_any hD.drew name
  obtain ⟨pa, hfv⟩ : ∃ pa : Option Addr, (if mhas D.files name then ptr (gs name) else .pointer none) = .pointer pa := by
    split
    · exact ⟨_, rfl⟩
    · exact ⟨_, rfl⟩
  rw [hfv] at hlk
  have hlkA : ∀ o, (Instr.lookup 52 (.map (some mr)) (.string name) false).run Tryz.prog (W.drew.alloc o) = .ok (.pointer pa) (W.drew.alloc o) := fun o => by rw [← hfv]; exact look_any (hD.drew.alloc o) name
  have HLK := hid hlkA
  have HW := hid hW
  have HFV := hid hfv
  clear hlkA hfv
  unfold append
  unfold ptr at hc0 hW ⊢
  go_enter Tryz.func9, Tryz.ntmps9
  go_wp2_with fail
  refine (down_any W hD).mono ?_
  intro e w1 hh
  obtain ⟨he, hw⟩ := hh
  rw [he, hw]
  clear he hw w1 e
  cases hoff : D.off with
  | true =>
    simp only [if_true]
    go_wp2_with fail
    go_ret
    exact ⟨rfl, ⟨_, _, _, hD.mono fun i hi => .inl hi⟩, hKW.mono fun _ _ h => h.elim⟩
  | false =>
    simp only [Bool.false_eq_true, if_false]
    go_wp2_with fail
    refine wp_region_heldz 6 7 2 (fun w' => w'.cell? ⟨w.heap.size, 0, none⟩ = some (.pointer (some ⟨db, 0, none⟩)) ∧ (w'.cell? ⟨w.heap.size + 1, 0, none⟩ = some (.string name) ∧ (w'.cell? ⟨db, 1, none⟩ = some (.map (some mr)) ∧ (Instr.lookup 52 (.map (some mr)) (.string name) false).run Tryz.prog w' = .ok (.pointer pa) w')))
      (by kernel_rfl) (by kernel_rfl) (by kernel_rfl) ⟨hc0, hc1, hm1, hlk.out⟩ (fun d _ _ _ _ h => by cases d <;> exact h) ?_
    simp only [List.take_succ_cons, List.take_zero]
    repeat (refine held_step rfl (fun w' hSw => by (obtain ⟨s1, s2, s3, s4⟩ := hSw; go_simp; with_reducible rfl)) ?_; simp only [Act.put, List.setIfInBounds_toArray, List.set_cons_zero, List.set_cons_succ])
    refine held_nil ?_
    have hKX : Keep (fun _ => False) W (W.alloc (.cells #[.pointer none] 61)).drew := ((Keep.refl _ W).alloc _).drew
    have hS6 : (W.alloc (.cells #[.pointer none] 61)).drew.cell? ⟨w.heap.size, 0, none⟩ = some (.pointer (some ⟨db, 0, none⟩)) ∧ ((W.alloc (.cells #[.pointer none] 61)).drew.cell? ⟨w.heap.size + 1, 0, none⟩ = some (.string name) ∧ ((W.alloc (.cells #[.pointer none] 61)).drew.cell? ⟨db, 1, none⟩ = some (.map (some mr)) ∧
        (Instr.lookup 52 (.map (some mr)) (.string name) false).run Tryz.prog (W.alloc (.cells #[.pointer none] 61)).drew = .ok (.pointer pa) (W.alloc (.cells #[.pointer none] 61)).drew)) := by
      refine ⟨?_, ?_, (hD.keep hKX (fun _ _ h => h)).c1, ?_⟩
      · rw [hKX.cell (by simp only; omega) (by simp)]; exact hc0
      · rw [hKX.cell (by simp only; omega) (by simp)]; exact hc1
      · rw [look_any (hD.keep hKX (fun _ _ h => h)) name, HFV.out]
    refine anyZ_value (j := 6) (by kernel_rfl) rfl rfl (by go_simp; with_reducible rfl) hS6 ?_
    refine anyZ_last (by kernel_rfl) rfl rfl (by kernel_rfl) ?_
    go_simp
    -- in X: f's variable
    obtain ⟨X, hX⟩ : ∃ X, X = (W.alloc (.cells #[.pointer pa] 61)).drew := ⟨_, rfl⟩
    have hKX2 : Keep (fun _ => False) W X := by rw [hX]; exact ((Keep.refl _ W).alloc _).drew
    have hbf : X.cell? ⟨w.heap.size + 3, 0, none⟩ = some (.pointer pa) := by
      rw [hX]
      have h1 : (W.alloc (.cells #[.pointer pa] 61)).cell? ⟨w.heap.size + 3, 0, none⟩ = some (.pointer pa) := by rw [World.cell?_alloc_at _ _ _ _ (by omega)]; rfl
      exact h1
    have hfr : X.frozen? ⟨w.heap.size + 3, 0, none⟩ = false := by
      rw [hX]
      have h1 : (W.alloc (.cells #[.pointer pa] 61)).heap[w.heap.size + 3]? = some (.cells #[.pointer pa] 61 (0, 0)) := by rw [← hsz]; exact heap_alloc_new _ _
      exact frozen_at h1 0
    have E1 : AEnv w X db mr gs cv D F G name bo cb l pa := by
      refine ⟨?_, ?_, ?_, hbf, hfr, hD.keep hKX2 (fun _ _ h => h), (hsrc.keep hKW (fun _ _ h => h)).keep hKX2 (fun _ _ h => h), hKW.trans hKX2 (fun _ _ h => h), ?_⟩
      · rw [hKX2.cell (by simp only; omega) (by simp)]; exact hc0
      · rw [hKX2.cell (by simp only; omega) (by simp)]; exact hc1
      · rw [hKX2.cell (by simp only; omega) (by simp)]; exact hc2
      · rw [hX]; show w.heap.size + 4 ≤ (W.alloc (.cells #[.pointer pa] 61)).heap.size; simp; omega
    rw [← hX]
    have HE1 := hid E1
    have x1 := E1.c1
    clear E1 hX hKX2 hbf hfr hS6 hKX hc0 hc1 hc2 hm1 hlk HLK
    go_wp2_with fail
    refine (dmay_any name X).mono ?_
    rintro e X2 ⟨rfl, hB⟩
    have E2 := HE1.out.keep (keep_of_below hB)
    clear hB x1
    have HE2 := hid E2
    have y0 := E2.c0
    have y2 := E2.c2
    have y3 := E2.c3
    clear E2
    cases hmay : isName name.toList with
    | false =>
      have hap : appendE D name l = 61 := by unfold appendE; rw [hmay]; rfl
      go_wp2_with fail
      refine (HE2.out.operates hF hG HFV.out 61 (by simp) hen).mono ?_
      rintro e w' ⟨rfl, ⟨mr', gs', cv', hI⟩, hK⟩
      have HI := hid hI
      have HK := hid hK
      clear hI hK
      go_wp2_with fail
      all_goals go_ret
      all_goals exact ⟨rfl, ⟨mr', gs', cv', HI.out⟩, HK.out⟩
    | true =>
      go_wp2_with fail
      have hE3 : AEnv w X2.drew db mr gs cv D F G name bo cb l pa := HE2.out.keep ((Keep.refl _ X2).drew)
      have HE3 := hid hE3
      clear hE3
      by_cases hgt : D.room < total D.files + l.length
      · have hap : appendE D name l = 72 := by unfold appendE; rw [hmay]; simp [hgt]
        have hgtI : (D.room : Int) - (total D.files : Int) < (l.length : Int) := by omega
        have hd : decide ((D.room : Int) - (total D.files : Int) < (l.length : Int)) = true := decide_eq_true hgtI
        refine wp_region_heldt 3 18 (fun w' => w'.cell? ⟨w.heap.size, 0, none⟩ = some (.pointer (some ⟨db, 0, none⟩)) ∧ (w'.cell? ⟨w.heap.size + 1 + 1, 0, none⟩ = some (.slice bo l.length cb) ∧ (w'.cell? ⟨w.heap.size + 3, 0, none⟩ = some (.pointer pa) ∧ w'.cell? ⟨db, 1, none⟩ = some (.map (some mr)))))
          (by kernel_rfl) (by kernel_rfl) (by kernel_rfl) (by kernel_rfl) ⟨y0, y2, y3, HE3.out.disk.c1⟩ (fun d _ _ _ _ h => by cases d <;> exact h) ?_
        simp only [List.take_succ_cons, List.take_zero, List.drop_succ_cons, List.drop_zero]
        repeat (refine held_step rfl (fun w' hSw => by (obtain ⟨s1, s2, s3, s4⟩ := hSw; go_simp; with_reducible rfl)) ?_; simp only [Act.put, List.setIfInBounds_toArray, List.set_cons_zero, List.set_cons_succ])
        refine held_nil ?_
        refine tail_wp (by kernel_rfl) ?_
        go_simp
        refine (room_any X2.drew HE3.out.disk).mono ?_
        rintro e X3 ⟨rfl, hK3⟩
        have E3 := hid (HE3.out.keep hK3)
        clear hK3
        have z0 := E3.out.c0
        have z2 := E3.out.c2
        have z3 := E3.out.c3
        have z1 := E3.out.disk.c1
        refine ⟨⟨z0, z2, z3, z1⟩, ?_⟩
        refine tail_want (by kernel_rfl) ⟨z0, z2, z3, z1⟩ (by go_simp; with_reducible rfl) ?_
        simp only [Act.put, List.setIfInBounds_toArray, List.set_cons_zero, List.set_cons_succ]
        refine tail_want (by kernel_rfl) ⟨z0, z2, z3, z1⟩ (by go_simp; with_reducible rfl) ?_
        simp only [Act.put, List.setIfInBounds_toArray, List.set_cons_zero, List.set_cons_succ]
        refine tail_skip (by kernel_rfl) ⟨z0, z2, z3, z1⟩ ?_
        try simp only [Act.put, List.setIfInBounds_toArray, List.set_cons_zero, List.set_cons_succ]
        refine tail_skip (by kernel_rfl) ⟨z0, z2, z3, z1⟩ ?_
        try simp only [Act.put, List.setIfInBounds_toArray, List.set_cons_zero, List.set_cons_succ]
        refine tail_skip (by kernel_rfl) ⟨z0, z2, z3, z1⟩ ?_
        try simp only [Act.put, List.setIfInBounds_toArray, List.set_cons_zero, List.set_cons_succ]
        refine tail_skip (by kernel_rfl) ⟨z0, z2, z3, z1⟩ ?_
        try simp only [Act.put, List.setIfInBounds_toArray, List.set_cons_zero, List.set_cons_succ]
        refine tail_skip (by kernel_rfl) ⟨z0, z2, z3, z1⟩ ?_
        try simp only [Act.put, List.setIfInBounds_toArray, List.set_cons_zero, List.set_cons_succ]
        refine tail_skip (by kernel_rfl) ⟨z0, z2, z3, z1⟩ ?_
        try simp only [Act.put, List.setIfInBounds_toArray, List.set_cons_zero, List.set_cons_succ]
        refine tail_skip (by kernel_rfl) ⟨z0, z2, z3, z1⟩ ?_
        try simp only [Act.put, List.setIfInBounds_toArray, List.set_cons_zero, List.set_cons_succ]
        refine tail_skip (by kernel_rfl) ⟨z0, z2, z3, z1⟩ ?_
        try simp only [Act.put, List.setIfInBounds_toArray, List.set_cons_zero, List.set_cons_succ]
        refine tail_skip (by kernel_rfl) ⟨z0, z2, z3, z1⟩ ?_
        try simp only [Act.put, List.setIfInBounds_toArray, List.set_cons_zero, List.set_cons_succ]
        refine tail_skip (by kernel_rfl) ⟨z0, z2, z3, z1⟩ ?_
        try simp only [Act.put, List.setIfInBounds_toArray, List.set_cons_zero, List.set_cons_succ]
        refine tail_want (by kernel_rfl) ⟨z0, z2, z3, z1⟩ (by go_simp; with_reducible rfl) ?_
        simp only [Act.put, List.setIfInBounds_toArray, List.set_cons_zero, List.set_cons_succ]
        refine tail_want (by kernel_rfl) ⟨z0, z2, z3, z1⟩ (by go_simp; with_reducible rfl) ?_
        simp only [Act.put, List.setIfInBounds_toArray, List.set_cons_zero, List.set_cons_succ]
        refine tail_nil ?_
        go_wp2_with fail
        refine (E3.out.operates hF hG HFV.out 72 (by simp) hen).mono ?_
        rintro e w' ⟨rfl, ⟨mr', gs', cv', hI⟩, hK⟩
        have HI := hid hI
        have HK := hid hK
        clear hI hK
        go_wp2_with fail
        all_goals go_ret
        all_goals exact ⟨rfl, ⟨mr', gs', cv', HI.out⟩, HK.out⟩
      · have hngtI : ¬ ((D.room : Int) - (total D.files : Int) < (l.length : Int)) := by omega
        have hd : decide ((D.room : Int) - (total D.files : Int) < (l.length : Int)) = false := decide_eq_false hngtI
        cases hm : mhas D.files name with
        | true =>
          have hap : appendE D name l = 0 := by unfold appendE; rw [hmay, hm]; simp [hgt]
          have hpa : pa = some ⟨gs name, 0, none⟩ := by
            have := HFV.out
            rw [hm, if_pos rfl] at this
            unfold ptr at this
            injection this with this
            exact this.symm
          rw [hpa] at HE2 HFV
          have hE3 : AEnv w X2.drew db mr gs cv D F G name bo cb l (some ⟨gs name, 0, none⟩) := HE2.out.keep ((Keep.refl _ X2).drew)
          have HE3 := hid hE3
          clear hE3
          have y3 := HE2.out.c3
          refine wp_region_heldt 3 18 (fun w' => w'.cell? ⟨w.heap.size, 0, none⟩ = some (.pointer (some ⟨db, 0, none⟩)) ∧ (w'.cell? ⟨w.heap.size + 1 + 1, 0, none⟩ = some (.slice bo l.length cb) ∧ (w'.cell? ⟨w.heap.size + 3, 0, none⟩ = some (.pointer (some ⟨gs name, 0, none⟩)) ∧ w'.cell? ⟨db, 1, none⟩ = some (.map (some mr)))))
            (by kernel_rfl) (by kernel_rfl) (by kernel_rfl) (by kernel_rfl) ⟨y0, y2, y3, HE3.out.disk.c1⟩ (fun d _ _ _ _ h => by cases d <;> exact h) ?_
          simp only [List.take_succ_cons, List.take_zero, List.drop_succ_cons, List.drop_zero]
          repeat (refine held_step rfl (fun w' hSw => by (obtain ⟨s1, s2, s3, s4⟩ := hSw; go_simp; with_reducible rfl)) ?_; simp only [Act.put, List.setIfInBounds_toArray, List.set_cons_zero, List.set_cons_succ])
          refine held_nil ?_
          refine tail_wp (by kernel_rfl) ?_
          go_simp
          refine (room_any X2.drew HE3.out.disk).mono ?_
          rintro e X3 ⟨rfl, hK3⟩
          have E3 := hid (HE3.out.keep hK3)
          clear hK3
          have z0 := E3.out.c0
          have z2 := E3.out.c2
          have z3 := E3.out.c3
          have z1 := E3.out.disk.c1
          refine ⟨⟨z0, z2, z3, z1⟩, ?_⟩
          refine tail_want (by kernel_rfl) ⟨z0, z2, z3, z1⟩ (by go_simp; with_reducible rfl) ?_
          simp only [Act.put, List.setIfInBounds_toArray, List.set_cons_zero, List.set_cons_succ]
          refine tail_want (by kernel_rfl) ⟨z0, z2, z3, z1⟩ (by go_simp; with_reducible rfl) ?_
          simp only [Act.put, List.setIfInBounds_toArray, List.set_cons_zero, List.set_cons_succ]
          refine tail_want (by kernel_rfl) ⟨z0, z2, z3, z1⟩ (by go_simp; with_reducible rfl) ?_
          simp only [Act.put, List.setIfInBounds_toArray, List.set_cons_zero, List.set_cons_succ]
          refine tail_want (by kernel_rfl) ⟨z0, z2, z3, z1⟩ (by go_simp; with_reducible rfl) ?_
          simp only [Act.put, List.setIfInBounds_toArray, List.set_cons_zero, List.set_cons_succ]
          refine tail_want (by kernel_rfl) ⟨z0, z2, z3, z1⟩ (by go_simp; with_reducible rfl) ?_
          simp only [Act.put, List.setIfInBounds_toArray, List.set_cons_zero, List.set_cons_succ]
          refine tail_skip (by kernel_rfl) ⟨z0, z2, z3, z1⟩ ?_
          try simp only [Act.put, List.setIfInBounds_toArray, List.set_cons_zero, List.set_cons_succ]
          refine tail_skip (by kernel_rfl) ⟨z0, z2, z3, z1⟩ ?_
          try simp only [Act.put, List.setIfInBounds_toArray, List.set_cons_zero, List.set_cons_succ]
          refine tail_skip (by kernel_rfl) ⟨z0, z2, z3, z1⟩ ?_
          try simp only [Act.put, List.setIfInBounds_toArray, List.set_cons_zero, List.set_cons_succ]
          refine tail_skip (by kernel_rfl) ⟨z0, z2, z3, z1⟩ ?_
          try simp only [Act.put, List.setIfInBounds_toArray, List.set_cons_zero, List.set_cons_succ]
          refine tail_skip (by kernel_rfl) ⟨z0, z2, z3, z1⟩ ?_
          try simp only [Act.put, List.setIfInBounds_toArray, List.set_cons_zero, List.set_cons_succ]
          refine tail_skip (by kernel_rfl) ⟨z0, z2, z3, z1⟩ ?_
          try simp only [Act.put, List.setIfInBounds_toArray, List.set_cons_zero, List.set_cons_succ]
          refine tail_want (by kernel_rfl) ⟨z0, z2, z3, z1⟩ (by go_simp; with_reducible rfl) ?_
          simp only [Act.put, List.setIfInBounds_toArray, List.set_cons_zero, List.set_cons_succ]
          refine tail_want (by kernel_rfl) ⟨z0, z2, z3, z1⟩ (by go_simp; with_reducible rfl) ?_
          simp only [Act.put, List.setIfInBounds_toArray, List.set_cons_zero, List.set_cons_succ]
          refine tail_want (by kernel_rfl) ⟨z0, z2, z3, z1⟩ (by go_simp; with_reducible rfl) ?_
          simp only [Act.put, List.setIfInBounds_toArray, List.set_cons_zero, List.set_cons_succ]
          refine tail_nil ?_
          go_wp2_with fail
          refine (E3.out.operates hF hG HFV.out 0 (by intro _; omega) hen).mono ?_
          rintro e w' ⟨rfl, ⟨mr', gs', cv', hI⟩, hK⟩
          have HI := hid hI
          have HK := hid hK
          clear hI hK
          go_wp2_with fail
          all_goals go_ret
          all_goals exact ⟨rfl, ⟨mr', gs', cv', HI.out⟩, HK.out⟩
        | false =>
          have hpa : pa = none := by
            have := HFV.out
            rw [hm, if_neg (by simp)] at this
            injection this with this
            exact this.symm
          rw [hpa] at HE2 HFV
          have hE3 : AEnv w X2.drew db mr gs cv D F G name bo cb l none := HE2.out.keep ((Keep.refl _ X2).drew)
          have HE3 := hid hE3
          clear hE3
          have y3 := HE2.out.c3
          refine wp_region_heldt 3 18 (fun w' => w'.cell? ⟨w.heap.size, 0, none⟩ = some (.pointer (some ⟨db, 0, none⟩)) ∧ (w'.cell? ⟨w.heap.size + 1 + 1, 0, none⟩ = some (.slice bo l.length cb) ∧ (w'.cell? ⟨w.heap.size + 3, 0, none⟩ = some (.pointer none) ∧ w'.cell? ⟨db, 1, none⟩ = some (.map (some mr)))))
            (by kernel_rfl) (by kernel_rfl) (by kernel_rfl) (by kernel_rfl) ⟨y0, y2, y3, HE3.out.disk.c1⟩ (fun d _ _ _ _ h => by cases d <;> exact h) ?_
          simp only [List.take_succ_cons, List.take_zero, List.drop_succ_cons, List.drop_zero]
          repeat (refine held_step rfl (fun w' hSw => by (obtain ⟨s1, s2, s3, s4⟩ := hSw; go_simp; with_reducible rfl)) ?_; simp only [Act.put, List.setIfInBounds_toArray, List.set_cons_zero, List.set_cons_succ])
          refine held_nil ?_
          refine tail_wp (by kernel_rfl) ?_
          go_simp
          refine (room_any X2.drew HE3.out.disk).mono ?_
          rintro e X3 ⟨rfl, hK3⟩
          have E3 := hid (HE3.out.keep hK3)
          clear hK3
          have z0 := E3.out.c0
          have z2 := E3.out.c2
          have z3 := E3.out.c3
          have z1 := E3.out.disk.c1
          refine ⟨⟨z0, z2, z3, z1⟩, ?_⟩
          refine tail_want (by kernel_rfl) ⟨z0, z2, z3, z1⟩ (by go_simp; with_reducible rfl) ?_
          simp only [Act.put, List.setIfInBounds_toArray, List.set_cons_zero, List.set_cons_succ]
          refine tail_want (by kernel_rfl) ⟨z0, z2, z3, z1⟩ (by go_simp; with_reducible rfl) ?_
          simp only [Act.put, List.setIfInBounds_toArray, List.set_cons_zero, List.set_cons_succ]
          refine tail_want (by kernel_rfl) ⟨z0, z2, z3, z1⟩ (by go_simp; with_reducible rfl) ?_
          simp only [Act.put, List.setIfInBounds_toArray, List.set_cons_zero, List.set_cons_succ]
          refine tail_want (by kernel_rfl) ⟨z0, z2, z3, z1⟩ (by go_simp; with_reducible rfl) ?_
          simp only [Act.put, List.setIfInBounds_toArray, List.set_cons_zero, List.set_cons_succ]
          refine tail_want (by kernel_rfl) ⟨z0, z2, z3, z1⟩ (by go_simp; with_reducible rfl) ?_
          simp only [Act.put, List.setIfInBounds_toArray, List.set_cons_zero, List.set_cons_succ]
          refine tail_want (by kernel_rfl) ⟨z0, z2, z3, z1⟩ (by go_simp; with_reducible rfl) ?_
          simp only [Act.put, List.setIfInBounds_toArray, List.set_cons_zero, List.set_cons_succ]
          refine tail_want (by kernel_rfl) ⟨z0, z2, z3, z1⟩ (by go_simp; with_reducible rfl) ?_
          simp only [Act.put, List.setIfInBounds_toArray, List.set_cons_zero, List.set_cons_succ]
          refine tail_want (by kernel_rfl) ⟨z0, z2, z3, z1⟩ (by go_simp; with_reducible rfl) ?_
          simp only [Act.put, List.setIfInBounds_toArray, List.set_cons_zero, List.set_cons_succ]
          refine tail_want (by kernel_rfl) ⟨z0, z2, z3, z1⟩ (by go_simp; with_reducible rfl) ?_
          simp only [Act.put, List.setIfInBounds_toArray, List.set_cons_zero, List.set_cons_succ]
          obtain ⟨es, clock, hmap⟩ := E3.out.disk.map
          have hlen := run_len_mapis (P := Tryz.prog) 52 61 3 under_map hmap
          rw [ptrs_length] at hlen
          clear hmap
          refine tail_wp (by kernel_rfl) ?_
          refine wp_lenmap _ _ rfl rfl hlen ?_
          refine ⟨fun _ => ⟨z0, z2, z3, z1⟩, ?_⟩
          clear hlen
          simp only [Act.put, List.setIfInBounds_toArray, List.set_cons_zero, List.set_cons_succ]
          by_cases h100 : 100 ≤ D.files.length
          · have hap : appendE D name l = 72 := by unfold appendE; rw [hmay, hm]; simp [h100]
            have hd2 : decide ((100 : Int) ≤ (D.files.length : Int)) = true := decide_eq_true (by omega)
            refine tail_want (by kernel_rfl) ⟨z0, z2, z3, z1⟩ (by go_simp; with_reducible rfl) ?_
            simp only [Act.put, List.setIfInBounds_toArray, List.set_cons_zero, List.set_cons_succ]
            refine tail_want (by kernel_rfl) ⟨z0, z2, z3, z1⟩ (by go_simp; with_reducible rfl) ?_
            simp only [Act.put, List.setIfInBounds_toArray, List.set_cons_zero, List.set_cons_succ]
            refine tail_want (by kernel_rfl) ⟨z0, z2, z3, z1⟩ (by go_simp; with_reducible rfl) ?_
            simp only [Act.put, List.setIfInBounds_toArray, List.set_cons_zero, List.set_cons_succ]
            refine tail_want (by kernel_rfl) ⟨z0, z2, z3, z1⟩ (by go_simp; with_reducible rfl) ?_
            simp only [Act.put, List.setIfInBounds_toArray, List.set_cons_zero, List.set_cons_succ]
            refine tail_nil ?_
            go_wp2_with fail
            refine (E3.out.operates hF hG HFV.out 72 (by simp) hen).mono ?_
            rintro e w' ⟨rfl, ⟨mr', gs', cv', hI⟩, hK⟩
            have HI := hid hI
            have HK := hid hK
            clear hI hK
            go_wp2_with fail
            all_goals go_ret
            all_goals exact ⟨rfl, ⟨mr', gs', cv', HI.out⟩, HK.out⟩
          · have hap : appendE D name l = 0 := by unfold appendE; rw [hmay, hm]; simp [hgt, h100]
            have hd2 : decide ((100 : Int) ≤ (D.files.length : Int)) = false := decide_eq_false (by omega)
            refine tail_want (by kernel_rfl) ⟨z0, z2, z3, z1⟩ (by go_simp; with_reducible rfl) ?_
            simp only [Act.put, List.setIfInBounds_toArray, List.set_cons_zero, List.set_cons_succ]
            refine tail_want (by kernel_rfl) ⟨z0, z2, z3, z1⟩ (by go_simp; with_reducible rfl) ?_
            simp only [Act.put, List.setIfInBounds_toArray, List.set_cons_zero, List.set_cons_succ]
            refine tail_want (by kernel_rfl) ⟨z0, z2, z3, z1⟩ (by go_simp; with_reducible rfl) ?_
            simp only [Act.put, List.setIfInBounds_toArray, List.set_cons_zero, List.set_cons_succ]
            refine tail_want (by kernel_rfl) ⟨z0, z2, z3, z1⟩ (by go_simp; with_reducible rfl) ?_
            simp only [Act.put, List.setIfInBounds_toArray, List.set_cons_zero, List.set_cons_succ]
            refine tail_nil ?_
            go_wp2_with fail
            refine (E3.out.operates hF hG HFV.out 0 (by intro _; omega) hen).mono ?_
            rintro e w' ⟨rfl, ⟨mr', gs', cv', hI⟩, hK⟩
            have HI := hid hI
            have HK := hid hK
            clear hI hK
            go_wp2_with fail
            all_goals go_ret
            all_goals exact ⟨rfl, ⟨mr', gs', cv', HI.out⟩, HK.out⟩

/-- d.Append(name, b). -/
theorem append_any (w : World) {db : Nat} {D : DiskM} {F G : Nat → Prop} (h : IsDisk w db D F) (name : ByteArray) {bo : Option Addr} {cb : Nat} {l : List UInt8}
    (hsrc : BytesIn w (.slice bo l.length cb) l G) (hG : ∀ i, G i → i < w.heap.size ∧ ¬ F i) :
    Calls Tryz.prog 9 #[ptr db, .string name, .slice bo l.length cb] w (Operated w db F (fun _ => False) (append D name l)) := by
  obtain ⟨mr, gs, cv, h⟩ := h
  refine (append_in w h.here (fun i hi => hi.2) name hsrc (fun i hi => ⟨(hG i hi).1, fun h => (hG i hi).2 h.1⟩)).mono ?_
  rintro e w' ⟨he, ⟨mr', gs', cv', hI⟩, hK⟩
  exact ⟨he, ⟨mr', gs', cv', hI.mono fun i hi => hi.elim (fun h => .inl h.1) .inr⟩, hK.mono fun i hi hf => hf.elim (fun h => .inl h.1) (fun h => by omega)⟩

end Go.Proofs.YtmdibkafjpglkaaGreatDoor.Dsk
