/- d.Shorten, walked. -/
import Derived.Test.YtlabpmmcmejpmaaDoorDiskMove
import Derived.Test.YtlabpmmcmejpmaaDoorHeldI
namespace Go.Proofs.YtlabpmmcmejpmaaDoor.Dsk
open Go Go.RowKit Go.Lib

/-- A file's block, changed. -/
theorem DiskAt.rewrite {w w' : World} {db mr : Nat} {gs : ByteArray → Nat} {cv : Value} {D : DiskM} {F : Nat → Prop} (h : DiskAt w db mr gs cv D F) {n : ByteArray} (hn : mhas D.files n = true) (f' : FileM)
    (hb : ∀ k, k ≠ gs n → w'.heap[k]? = w.heap[k]?) {v' : Value} (hv' : w'.heap[gs n]? = some (.cells #[v', .int .i64 (f'.sure : Int)] 63 (0, 0))) (hfb : FB w v' f'.b F)
    (hok : Ok { D with files := mput D.files n f' }) : DiskAt w' db mr gs cv { D with files := mput D.files n f' } F := by
  obtain ⟨es, clock, hm⟩ := h.map
  obtain ⟨f0, hf0⟩ := Option.isSome_iff_exists.1 (show (mget D.files n).isSome = true from hn)
  have hmem := mget_mem hf0
  obtain ⟨v, hv, -, hFn⟩ := h.file hn
  have hname : ∀ p ∈ mput D.files n f', ∃ q ∈ D.files, q.1 = p.1 := by
    intro p hp
    rcases mem_mput hp with hp | rfl
    · exact ⟨p, hp, rfl⟩
    · exact ⟨_, hmem, rfl⟩
  refine ⟨?_, ⟨es, clock, ?_⟩, h.cut.other (notOf_cells hv (by decide)) hb, ?_, ?_, hok, h.fdb, h.fmr⟩
  · rw [hb db (fun e => notOf_cells hv (by decide) _ _ (e ▸ h.disk))]; exact h.disk
  · simp only [ptrs_put_in gs D.files n f' hn]
    exact mapIs_block hm (hb mr (fun e => by rw [← e, hm.block] at hv; cases hv))
  · intro p hp
    by_cases e : p.1 = n
    · have hp2 : p.2 = f' := by
        have h1 := mget_of_mem hok.nodup (k := p.1) (v := p.2) (by simpa using hp)
        rw [mget_mput, if_pos e] at h1
        exact (Option.some.inj h1).symm
      rw [e, hp2]
      exact ⟨v', hv', hfb.other (notOf_cells hv (by decide)) hb, hFn⟩
    · rcases mem_mput hp with hp | rfl
      · exact (h.files p hp).other (notOf_cells hv (by decide)) (fun e2 => e (h.inj p hp (n, f0) hmem e2)) hb
      · exact absurd rfl e
  · intro p hp q hq he
    obtain ⟨p', hp', e1⟩ := hname p hp
    obtain ⟨q', hq', e2⟩ := hname q hq
    rw [← e1, ← e2] at he ⊢
    exact h.inj p' hp' q' hq' he

theorem slice_to (ao : Option Addr) {len cap m : Nat} (hm : m ≤ cap) (hn : ao = none → cap = 0) (w : World) : (Instr.slice 31 (.slice ao len cap) none (some (.int .i64 (m : Int))) none).run Tryd.prog w = .ok (.slice ao m cap) w := by
  cases ao with
  | none =>
    obtain rfl := hn rfl
    obtain rfl : m = 0 := by omega
    go_simp
  | some a => go_simp

set_option maxRecDepth 100000 in
set_option maxHeartbeats 4000000 in
/-- Shorten's. -/
theorem shorten_do (w : World) {db mr : Nat} {gs : ByteArray → Nat} {cv : Value} {D : DiskM} {F : Nat → Prop} (h : DiskAt w db mr gs cv D F) (name : ByteArray) (n : Nat) (hn : mhas D.files name = true) (part : Nat) (_hn63 : n < 9223372036854775808)
    (b1 b2 b3 : Nat) (hb1 : w.cell? ⟨b1, 0, none⟩ = some (ptr db)) (hb2 : w.cell? ⟨b2, 0, none⟩ = some (.string name)) (hb3 : w.cell? ⟨b3, 0, none⟩ = some (.int .i64 (n : Int))) (hF3 : ¬ F b3) (_hs3 : b3 < w.heap.size) :
    Calls Tryd.prog 36 #[.int .i64 (part : Int), ptr b1, ptr b2, ptr b3] w fun e w' => e = .returned (.tuple #[]) ∧ ∃ gs', DiskAt w' db mr gs' cv { D with files := shortenP name n part D.files } F ∧ Keep F w w' := by
  have h1 := h.c1
  have hl : ∀ n, (Instr.lookup 49 (.map (some mr)) (.string name) false).run Tryd.prog (w.drewN n) = .ok (ptr (gs name)) (w.drewN n) := fun n => by
    rw [look_any (h.drewN n) name, hn]; rfl
  have hKn : ∀ n, Keep F w (w.drewN n) := fun n => (Keep.refl F w).drewN n
  unfold shortenP
  by_cases hp0 : 0 < part
  · rw [if_pos hp0]
    have hgt : (0 : Int) < (part : Int) := by omega
    have hfile := h.file hn
    obtain ⟨v, hblk, hfb, hFg⟩ := hfile
    obtain ⟨ao, cap, rfl, hlc, hmax⟩ := hfb.slice
    have hsure := h.ok.fileOf_sure name
    have hlen : (fileOf D.files name).b.length ≤ 2147483648 := by
      obtain ⟨f, hf⟩ := Option.isSome_iff_exists.1 (show (mget D.files name).isSome = true from hn)
      have := total_mem (mget_mem hf)
      have := h.ok.room
      have := h.ok.small
      unfold fileOf; rw [hf]; simp only [Option.getD_some] at *; omega
    have hcap0 : ao = none → cap = 0 := by
      obtain ⟨ao', cap', hv, -, -, h3⟩ := hfb
      injection hv with e1 _ e3
      subst e1; subst e3
      rintro rfl
      rcases h3 with h3 | ⟨g, cs, fr, e, -⟩
      · exact h3.2
      · cases e
    have hne3 : b3 ≠ gs name := fun e => hF3 (e ▸ hFg)
    have HFB := hid (hfb.first (min n (fileOf D.files name).b.length) (Nat.min_le_right _ _))
    have HOK := hid (show Ok { D with files := mput D.files name ⟨(fileOf D.files name).b.take n, min (fileOf D.files name).sure (min n (fileOf D.files name).b.length)⟩ } from ok_mput h.ok _ _ (by simp only [List.length_take]; omega) (by have := h.ok.room; simp only [List.length_take]; omega))
    generalize hf : fileOf D.files name = f at *
    have c0 : w.cell? ⟨gs name, 0, none⟩ = some (.slice ao f.b.length cap) := by rw [cell_at hblk]; rfl
    have c1 : w.cell? ⟨gs name, 1, none⟩ = some (.int .i64 (f.sure : Int)) := by rw [cell_at hblk]; rfl
    have f0 : w.frozen? ⟨gs name, 0, none⟩ = false := frozen_at hblk 0
    have f1 : w.frozen? ⟨gs name, 1, none⟩ = false := frozen_at hblk 1
    have Hh := hid h
    have HKn := hid hKn
    have HBLK := hid hblk
    have HF' := hid hf
    clear h hKn hblk hfb hf
    unfold ptr at *
    go_enter Tryd.func36, Tryd.ntmps36
    go_wp2_with (go_quiet (fail))
    have hmin : min (n : Int) (f.b.length : Int) = ((min n f.b.length : Nat) : Int) := by omega
    obtain ⟨m, hm⟩ : ∃ m, min n f.b.length = m := ⟨_, rfl⟩
    have hml : m ≤ f.b.length := by omega
    rw [hm] at hmin
    have hsl := fun w => slice_to ao (len := f.b.length) (m := m) (by omega) hcap0 w
    have d0 : (w.drewN nq).cell? ⟨gs name, 0, none⟩ = _ := c0
    have d1 : (w.drewN nq).cell? ⟨gs name, 1, none⟩ = _ := c1
    have d3 : (w.drewN nq).cell? ⟨b3, 0, none⟩ = _ := hb3
    have e0 : (w.drewN nq).frozen? ⟨gs name, 0, none⟩ = _ := f0
    have e1 : (w.drewN nq).frozen? ⟨gs name, 1, none⟩ = _ := f1
    refine wp_region_heldi [0, 1, 2, 3, 4, 5, 6, 7, 8, 9, 10, 11, 12] 15 3 (fun w' => w'.cell? ⟨b3, 0, none⟩ = some (.int .i64 (n : Int)) ∧ w'.cell? ⟨gs name, 0, none⟩ = some (.slice ao f.b.length cap)) (by kernel_rfl) (by kernel_rfl) (by kernel_rfl) ⟨d3, d0⟩ (fun d _ _ _ _ h => by cases d <;> exact h) ?_
    repeat (refine heldI_step rfl rfl (fun w' hSw => by (obtain ⟨s1, s2⟩ := hSw; go_simp; with_reducible rfl)) ?_; simp only [Act.put, List.setIfInBounds_toArray, List.set_cons_zero, List.set_cons_succ])
    refine heldI_nil ?_
    refine anyZ_read (j := 13) (by kernel_rfl) rfl rfl ⟨d3, d0⟩ (by go_simp; with_reducible rfl) ?_
    refine anyZ_read (j := 14) (by kernel_rfl) rfl rfl ⟨d3, d0⟩ (by go_simp; with_reducible rfl) ?_
    refine anyZ_last (by kernel_rfl) rfl rfl (by kernel_rfl) ?_
    go_simp
    have hblk : (w.drewN (nq + 1)).heap[gs name]? = some (.cells #[.slice ao f.b.length cap, .int .i64 (f.sure : Int)] 63 (0, 0)) := HBLK.out
    have g0 : ((w.drewN (nq + 1)).setCell ⟨gs name, 0, none⟩ (.slice ao m cap)).heap[gs name]? = some (.cells #[.slice ao m cap, .int .i64 (f.sure : Int)] 63 (0, 0)) := heap_setCell_self hblk _
    obtain ⟨V, hV⟩ : ∃ V, (w.drewN (nq + 1)).setCell ⟨gs name, 0, none⟩ (.slice ao m cap) = V := ⟨_, rfl⟩
    rw [hV] at g0 ⊢
    have p0 : V.cell? ⟨gs name, 0, none⟩ = some (.slice ao m cap) := by rw [cell_at g0]; rfl
    have p1 : V.cell? ⟨gs name, 1, none⟩ = some (.int .i64 (f.sure : Int)) := by rw [cell_at g0]; rfl
    have q1 : V.frozen? ⟨gs name, 1, none⟩ = false := frozen_at g0 1
    have hmin2 : min (f.sure : Int) (m : Int) = ((min f.sure m : Nat) : Int) := by omega
    have hbV : ∀ k, k ≠ gs name → V.heap[k]? = w.heap[k]? := fun k hk => by rw [← hV, Below.heap_setCell _ _ _ _ hk]; rfl
    have hKV : Keep F w V := by rw [← hV]; exact (HKn.out (nq + 1)).setCell (fun _ => hFg) _
    have HV := hid (And.intro hbV hKV)
    have HG0 := hid g0
    clear hblk hV g0 hbV hKV c0 c1 f0 f1 d0 d1 d3 e0 e1 hl hb1 hb2
    go_wp2_with fail
    refine wp_region_heldi [0, 1, 2, 3, 4, 5, 6, 7, 8, 9, 10] 13 3 (fun w' => w'.cell? ⟨gs name, 0, none⟩ = some (.slice ao m cap) ∧ w'.cell? ⟨gs name, 1, none⟩ = some (.int .i64 (f.sure : Int))) (by kernel_rfl) (by kernel_rfl) (by kernel_rfl) ⟨p0, p1⟩ (fun d _ _ _ _ h => by cases d <;> exact h) ?_
    repeat (refine heldI_step rfl rfl (fun w' hSw => by (obtain ⟨s1, s2⟩ := hSw; go_simp; with_reducible rfl)) ?_; simp only [Act.put, List.setIfInBounds_toArray, List.set_cons_zero, List.set_cons_succ])
    refine heldI_nil ?_
    refine anyZ_read (j := 11) (by kernel_rfl) rfl rfl ⟨p0, p1⟩ (by go_simp; with_reducible rfl) ?_
    refine anyZ_read (j := 12) (by kernel_rfl) rfl rfl ⟨p0, p1⟩ (by go_simp; with_reducible rfl) ?_
    refine anyZ_last (by kernel_rfl) rfl rfl (by kernel_rfl) ?_
    go_simp
    refine bodyPost_end (results_none rfl _ _ _) rfl ?_
    refine ⟨rfl, gs, ?_, (HV.out.2.setCell (p := ⟨gs name, 1, none⟩) (fun _ => hFg) _).drew⟩
    have hrw := Hh.out.rewrite (w' := (V.setCell ⟨gs name, 1, none⟩ (.int .i64 ((min f.sure m : Nat) : Int))).drew) hn ⟨f.b.take n, min f.sure m⟩ (v' := .slice ao m cap) (fun k hk => (Below.heap_setCell _ _ _ _ hk).trans (HV.out.1 k hk)) (heap_setCell_self (w := V) (i := 1) HG0.out _) (by
      have := HFB.out
      rw [hm] at this
      rwa [show f.b.take m = f.b.take n from by rw [← hm, ← List.take_take, List.take_length]] at this) (by
      have := HOK.out
      rwa [hm] at this)
    rw [hm]
    exact hrw
  · rw [if_neg hp0]
    have hne : ¬ ((0 : Int) < (part : Int)) := by omega
    have hDh := hid (fun n => h.drewN n)
    have hKnh := hid hKn
    clear hKn h
    unfold ptr at *
    go_enter Tryd.func36, Tryd.ntmps36
    go_wp2_with (go_quiet (fail))
    refine bodyPost_end (results_none rfl _ _ _) rfl ?_
    exact ⟨rfl, ⟨gs, hDh.out _⟩, hKnh.out _⟩

set_option maxRecDepth 100000 in
set_option maxHeartbeats 4000000 in
theorem shorten_in (w : World) {db mr : Nat} {gs : ByteArray → Nat} {cv : Value} {D : DiskM} {F : Nat → Prop} (h : DiskAt w db mr gs cv D F) (hF : ∀ i, F i → i < w.heap.size) (name : ByteArray) (n : Int) (hn63 : n < 9223372036854775808) :
    Calls Tryd.prog 17 #[ptr db, .string name, .int .i64 n] w (Operated w db F (fun _ => False) (shorten D name n)) := by
  have hmf : ∀ (fn : Fn) (first cap : Array Value) (w : World), (Instr.makeFunc fn first cap).run Tryd.prog w = .ok (.func fn first cap) w := fun _ _ _ _ => rfl
  have hen : ∀ (args : Array Value) (w : World), (callFunc 36 args).run Tryd.prog w = .ok (.enter 36 args) w := fun args w => by go_simp
  generalize hW : ((w.alloc (.cells #[ptr db] 24)).alloc (.cells #[.string name] 9)).alloc (.cells #[.int .i64 n] 3) = W
  have hKW : Keep (fun _ => False) w W := by rw [← hW]; exact (((Keep.refl _ w).alloc _).alloc _).alloc _
  have hD : DiskAt W db mr gs cv D F := h.keep hKW (fun _ _ h => h)
  have hc0 : W.cell? ⟨w.heap.size, 0, none⟩ = some (ptr db) := by rw [← hW, World.cell?_alloc_past _ _ _ (by simp; try omega), World.cell?_alloc_past _ _ _ (by simp; try omega), World.cell?_alloc_at _ _ _ _ rfl]; rfl
  have hc1 : W.cell? ⟨w.heap.size + 1, 0, none⟩ = some (.string name) := by rw [← hW, World.cell?_alloc_past _ _ _ (by simp), World.cell?_alloc_at _ _ _ _ (by simp)]; rfl
  have hc2 : W.cell? ⟨w.heap.size + 2, 0, none⟩ = some (.int .i64 n) := by rw [← hW, World.cell?_alloc_at _ _ _ _ (by simp)]; rfl
  have hc2' : W.cell? ⟨w.heap.size + 1 + 1, 0, none⟩ = some (.int .i64 n) := hc2
  have hsz : W.heap.size = w.heap.size + 3 := by rw [← hW]; simp
  have HW := hid hW
  unfold shorten
  unfold ptr at *
  go_enter Tryd.func17, Tryd.ntmps17
  go_wp2_with fail
  refine (down_any W hD).mono ?_
  intro e w1 hh
  obtain ⟨he, hw⟩ := hh
  rw [he, hw]
  clear he hw w1 e
  cases hoff : D.off with
  | true =>
    simp only [if_true]
    go_wp2_with fail
    go_ret
    exact ⟨rfl, ⟨_, _, _, hD.mono fun i hi => .inl hi⟩, hKW.mono fun _ _ h => h.elim⟩
  | false =>
    simp only [Bool.false_eq_true, if_false]
    go_wp2_with fail
    refine (none_any W hD name).mono ?_
    intro e w1 hh
    obtain ⟨he, hw⟩ := hh
    rw [he, hw]
    clear he hw w1 e
    have hdo : shortenE D name n = 0 → DoesPart W db mr gs D F (fun _ => False) 36 [ptr w.heap.size, ptr (w.heap.size + 1), ptr (w.heap.size + 2)] (shortenP name n.toNat) := by
      intro hn part u cv1 D1 hp hf hr hD1 hK
      unfold shortenE noneE at hn
      have hm : mhas D.files name = true := by
        cases hm : mhas D.files name with
        | true => rfl
        | false => rw [hm] at hn; simp at hn
      have hn0 : 0 ≤ n := by
        rw [hm] at hn
        by_cases h0 : n < 0
        · simp [h0] at hn
        · omega
      have hn1 : mhas D1.files name = true := by rw [hf]; exact hm
      have hnF : ∀ i, w.heap.size ≤ i → ¬ F i := fun i hi hf => by have := hF i hf; omega
      have hsu := hK.size
      refine (shorten_do u hD1 name n.toNat hn1 part (by omega) w.heap.size (w.heap.size + 1) (w.heap.size + 2) ?_ ?_ ?_ (hnF _ (by omega)) (by omega)).mono ?_
      · rw [hK.cell (by simp only; omega) (hnF _ (by simp only; omega))]; exact hc0
      · rw [hK.cell (by simp only; omega) (hnF _ (by simp only; omega))]; exact hc1
      · rw [hK.cell (by simp only; omega) (hnF _ (by simp only; omega)), Int.toNat_of_nonneg hn0]; exact hc2
      · rintro e' w' ⟨he, gs', h1, h2⟩
        exact ⟨he, gs', h1.mono fun i hi => .inl hi, h2.mono fun i _ hi => .inl hi⟩
    have HOP := hid (operate_any W hD (shortenE D name n) 36 [ptr w.heap.size, ptr (w.heap.size + 1), ptr (w.heap.size + 2)] (shortenP name n.toNat) hen hdo)
    have HKW := hid hKW
    clear hdo hKW hen h hD
    by_cases hcase : noneE D name = 0 ∧ n < 0
    · have hE : shortenE D name n = 1 := by unfold shortenE; rw [if_pos hcase]
      obtain ⟨hz, hneg⟩ := hcase
      have HE := hid hE
      clear hE
      rw [hz]
      go_wp2_with fail
      rw [HE.out] at HOP
      refine HOP.out.mono ?_
      rintro e w2 ⟨rfl, hI, hK⟩
      rw [← HE.out] at *
      obtain ⟨mr', gs', cv', hI⟩ := hI
      have HI := hid hI
      have HK := hid hK
      clear hI hK HOP
      go_wp2_with fail
      all_goals go_ret
      all_goals exact ⟨rfl, ⟨mr', gs', cv', HI.out.mono fun i hi => hi.elim .inl (fun h => .inr (by omega))⟩, (HKW.out.mono fun _ _ h => h.elim).trans HK.out (fun i _ hi => hi)⟩
    · have hE : shortenE D name n = noneE D name := by unfold shortenE; rw [if_neg hcase]
      have HE := hid hE
      clear hE
      by_cases hz : noneE D name = 0
      · have hneg : ¬ n < 0 := fun h => hcase ⟨hz, h⟩
        clear hcase
        rw [hz] at HE ⊢
        go_wp2_with fail
        rw [HE.out] at HOP
        refine HOP.out.mono ?_
        rintro e w2 ⟨rfl, hI, hK⟩
        rw [← HE.out] at *
        obtain ⟨mr', gs', cv', hI⟩ := hI
        have HI := hid hI
        have HK := hid hK
        clear hI hK HOP
        go_wp2_with fail
        all_goals go_ret
        all_goals exact ⟨rfl, ⟨mr', gs', cv', HI.out.mono fun i hi => hi.elim .inl (fun h => .inr (by omega))⟩, (HKW.out.mono fun _ _ h => h.elim).trans HK.out (fun i _ hi => hi)⟩
      · have hzb : (noneE D name == 0) = false := by rw [beq_eq_false_iff_ne]; exact hz
        clear hcase
        go_wp2_with fail
        rw [HE.out] at HOP
        refine HOP.out.mono ?_
        rintro e w2 ⟨rfl, hI, hK⟩
        rw [← HE.out] at *
        obtain ⟨mr', gs', cv', hI⟩ := hI
        have HI := hid hI
        have HK := hid hK
        clear hI hK HOP
        go_wp2_with fail
        all_goals go_ret
        all_goals exact ⟨rfl, ⟨mr', gs', cv', HI.out.mono fun i hi => hi.elim .inl (fun h => .inr (by omega))⟩, (HKW.out.mono fun _ _ h => h.elim).trans HK.out (fun i _ hi => hi)⟩

/-- d.Shorten(name, n). -/
theorem shorten_any (w : World) {db : Nat} {D : DiskM} {F : Nat → Prop} (h : IsDisk w db D F) (name : ByteArray) (n : Int) (hn63 : n < 9223372036854775808) :
    Calls Tryd.prog 17 #[ptr db, .string name, .int .i64 n] w (Operated w db F (fun _ => False) (shorten D name n)) := by
  obtain ⟨mr, gs, cv, h⟩ := h
  refine (shorten_in w h.here (fun i hi => hi.2) name n hn63).mono ?_
  rintro e w' ⟨he, ⟨mr', gs', cv', hI⟩, hK⟩
  exact ⟨he, ⟨mr', gs', cv', hI.mono fun i hi => hi.elim (fun h => .inl h.1) .inr⟩, hK.mono fun i _ hi => hi.elim (fun h => .inl h.1) .inr⟩

end Go.Proofs.YtlabpmmcmejpmaaDoor.Dsk
