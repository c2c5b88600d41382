/- The reference's disk: put: walked. -/
import Derived.Test.YtlabpmmcmejpmaaDoorRefDisk4
namespace Go.Proofs.YtlabpmmcmejpmaaDoor.Ref
open Go Go.RowKit Go.Lib Go.Proofs.YtlabpmmcmejpmaaDoor.Dsk Go.Proofs.YtlabpmmcmejpmaaDoor.Wal

def leS (a b : ByteArray) : Bool := Op.bytesLess a.toList b.toList || (a.toList == b.toList)
def putStep (f : ByteArray × FileM) (s : Files × Bool) (p : ByteArray × FileM) : Files × Bool :=
  ((if s.2 = false ∧ leS f.1 p.1 = true then s.1 ++ [f] else s.1) ++ (if p.1 = f.1 then [] else [p]), s.2 || leS f.1 p.1)
def putSt (f : ByteArray × FileM) (L : Files) : Files × Bool := L.foldl (putStep f) ([], false)
def putF (f : ByteArray × FileM) (L : Files) : Files := if (putSt f L).2 then (putSt f L).1 else (putSt f L).1 ++ [f]

theorem putSt_len (f : ByteArray × FileM) (L : Files) : ∀ s : Files × Bool, (L.foldl (putStep f) s).1.length ≤ s.1.length + 2 * L.length := by
  induction L with
  | nil => intro s; simp
  | cons p L ih =>
    intro s
    have h := ih (putStep f s p)
    have h2 : (putStep f s p).1.length ≤ s.1.length + 2 := by
      unfold putStep
      simp only [List.length_append]
      split <;> split <;> simp
    simp only [List.foldl_cons, List.length_cons]
    omega
theorem putSt_take {f : ByteArray × FileM} {L : Files} {i : Nat} {p : ByteArray × FileM} (h : L[i]? = some p) : putSt f (L.take (i + 1)) = putStep f (putSt f (L.take i)) p := by
  obtain ⟨h1, h2⟩ := List.getElem?_eq_some_iff.1 h
  unfold putSt
  rw [List.take_succ_eq_append_getElem h1, h2, List.foldl_append]
  rfl

set_option maxRecDepth 100000 in
set_option maxHeartbeats 4000000 in
theorem put_any (w : World) {v : Value} {L : Files} {G : Nat → Prop} (h : FilesAt w v L G) (hl : L.length ≤ 100) (f : ByteArray × FileM) {A0 : Option Addr} {C0 : Nat} (hf : BytesIn w (.slice A0 f.2.b.length C0) f.2.b G) :
    Calls Tryd.prog 48 #[v, .agg #[.string f.1, .slice A0 f.2.b.length C0, .int .i64 (f.2.sure : Int)]] w fun e w' => ∃ v', e = .returned v' ∧ FilesAt w' v' (putF f L) (fun i => G i ∨ w.heap.size ≤ i) ∧ Keep (fun _ => False) w w' := by
  obtain ⟨ao, cap, hv⟩ := h.slice
  subst hv
  have H := hid h
  obtain ⟨fn, fm⟩ := f
  have HF := hid (show ItemIs w (fn, .slice A0 fm.b.length C0, fm.sure) (fn, fm) G from ⟨rfl, rfl, A0, C0, rfl, hf⟩)
  clear h hf
  simp only
  go_enter Tryd.func48, Tryd.ntmps48
  go_wp2_with fail
  obtain ⟨wb, hwb⟩ : ∃ wb, w.alloc (.cells #[.string fn, .slice A0 fm.b.length C0, .int .i64 (fm.sure : Int)] 54) = wb := ⟨_, rfl⟩
  have hkb : Keep (fun _ => False) w wb := hwb ▸ (Keep.refl _ w).alloc _
  have hblk0 : wb.heap[w.heap.size]? = some (.cells #[.string fn, .slice A0 fm.b.length C0, .int .i64 (fm.sure : Int)] 54 (0, 0)) := hwb ▸ heap_alloc_new _ _
  have hszb : wb.heap.size = w.heap.size + 1 := by rw [← hwb]; simp
  rw [hwb]
  have HKB := hid hkb
  have HBLK := hid hblk0
  clear hkb hblk0 hwb
  go_loopw [5, 6, 7] (fun ov dv iv wr => ∃ i : Nat, iv = .int .i64 (i : Int) ∧ i ≤ L.length ∧ dv = .bool (putSt (fn, fm) (L.take i)).2 ∧ Hid (OwnFiles w wr (w.heap.size + 1) ov (putSt (fn, fm) (L.take i)).1 G) ∧ Hid (Keep (fun _ => False) wb wr)) (fun _ _ iv _ => L.length - (RowKit.intOf iv).toNat)
  case atStart => exact ⟨0, rfl, Nat.zero_le _, rfl, hid (OwnFiles.nil _ _ _ _), hid (Keep.refl _ _)⟩
  case round =>
    obtain ⟨i, rfl, hi, rfl, hO, hKr⟩ := hrel
    have hK := hid (HKB.out.trans hKr.out (fun _ _ h => h))
    have hsr := hKr.out.size
    obtain ⟨aoo, capo, hvo⟩ := hO.out.slice
    subst hvo
    have hblk := hKr.out.at HBLK.out (fun h => h)
    have e0 : wr.cell? ⟨w.heap.size, 0, none⟩ = some (.string fn) := by rw [cell_at hblk]; rfl
    have e1 : wr.cell? ⟨w.heap.size, 1, none⟩ = some (.slice A0 fm.b.length C0) := by rw [cell_at hblk]; rfl
    have e2 : wr.cell? ⟨w.heap.size, 2, none⟩ = some (.int .i64 (fm.sure : Int)) := by rw [cell_at hblk]; rfl
    clear hblk
    obtain ⟨os, dn, hst⟩ : ∃ os dn, putSt (fn, fm) (L.take i) = (os, dn) := ⟨_, _, rfl⟩
    rw [hst] at hO ⊢
    have HST := hid hst
    clear hst
    simp only at hO ⊢
    have hos : os.length ≤ 200 := by
      have h := putSt_len (fn, fm) (L.take i) ([], false)
      unfold putSt at HST
      rw [HST.out, List.length_take] at h
      simp only [List.length_nil] at h
      omega
    by_cases hil : i < L.length
    · obtain ⟨a, n, f, A, C, rfl, hp, d0, d1, d2, hB⟩ := H.out.at2 hK.out (fun _ _ h => h) hil
      have HIT := hid (show ItemIs w (n, .slice A f.b.length C, f.sure) (n, f) G from ⟨rfl, rfl, A, C, rfl, hB⟩)
      have hab : a.block < w.heap.size := by
        obtain ⟨ao', cap', e, -, h2⟩ := H.out
        injection e with e1 _ _
        subst e1
        exact (h2 a rfl i _ hp).1
      clear hB
      have hwr1 : w.heap.size + 1 ≤ wr.heap.size := by omega
      cases dn with
      | true =>
        have hst1 : ∀ os' dn', putStep (fn, fm) (os, true) (n, f) = (os', dn') → putSt (fn, fm) (L.take (i + 1)) = (os', dn') := fun os' dn' h => by rw [putSt_take hp, HST.out]; exact h
        by_cases hn : n = fn
        · subst hn
          have hbe : (n.toList == n.toList) = true := by simp
          have HE := hid (hst1 (os) true (by simp [putStep, leS]))
          clear hst1 hp
          go_wp2_with (go_quiet (fail))
          exact ⟨⟨i + 1, by simp, by omega, by rw [HE.out], hid (by rw [HE.out]; simpa using OwnFiles.keep hO.out ((Keep.refl (fun _ => False) wr).drewN _) (fun _ _ h => h)), hid (hKr.out.drewN _)⟩, by simp [RowKit.intOf]; omega⟩
        · have hbe : (n.toList == fn.toList) = false := by rw [beq_eq_false_iff_ne]; exact fun e => hn (ByteArray.ext (Array.toList_inj.mp (by rw [toList_data, toList_data] at e; exact e)))
          have hbe2 : (fn.toList == n.toList) = false := by rw [beq_eq_false_iff_ne]; exact fun e => hn (ByteArray.ext (Array.toList_inj.mp (by rw [toList_data, toList_data] at e; exact e.symm)))
          have HE := hid (hst1 (os ++ [(n, f)]) true (by simp [putStep, leS, hn]))
          clear hst1 hp
          obtain ⟨its, ho1, ho2, ho3⟩ := hO.out
          have HO1 := hid (fun q => ownsRow_keep ho1 ((Keep.refl (fun _ => False) wr).drewN q) (fun _ _ h => h))
          have HO3 := hid ho3
          have hsz : w.heap.size + 1 ≤ wr.heap.size := by omega
          have hml : its.length ≤ 202 := by omega
          clear ho1 ho3
          go_wp2_with (first | (at_builtin; refine wpList_append_one rfl _ _ 26 54 rfl (.agg #[.string ⟨#[]⟩, .slice none 0 0, .int .i64 0]) 3 48 under_files info_file rfl (by decide) rfl (HO1.out _) rfl rfl (by simp [Value.oneCell']) (by simp only [maxLen]; omega) (by omega) hsz ?_; intro v' w2 hown' hB2 hg2; have HON := hid (OwnFiles.snoc ho2 HO3.out HIT.out hown'); have HKN := hid ((hKr.out.drewN _).trans (Keep.of_below (F := fun i => w.heap.size + 1 ≤ i) hB2 (fun i _ h => h)) (fun i hi h => by omega)); have hsn := HKN.out.size; clear hown' hB2 hg2 HO1 HO3; obtain ⟨aon, capn, hvn⟩ := HON.out.slice; rw [List.length_append] at hvn; subst hvn) | go_quiet (fail))
          exact ⟨⟨i + 1, by simp, by omega, by rw [HE.out], hid (by rw [HE.out]; simpa using HON.out), hid (HKN.out)⟩, by simp [RowKit.intOf]; omega⟩
      | false =>
        have hst1 : ∀ os' dn', putStep (fn, fm) (os, false) (n, f) = (os', dn') → putSt (fn, fm) (L.take (i + 1)) = (os', dn') := fun os' dn' h => by rw [putSt_take hp, HST.out]; exact h
        by_cases hn : n = fn
        · subst hn
          have hbe : (n.toList == n.toList) = true := by simp
          have HE := hid (hst1 (os ++ [(n, fm)]) true (by simp [putStep, leS]))
          clear hst1 hp
          obtain ⟨its, ho1, ho2, ho3⟩ := hO.out
          have HO1 := hid (fun q => ownsRow_keep ho1 ((Keep.refl (fun _ => False) wr).drewN q) (fun _ _ h => h))
          have HO3 := hid ho3
          have hsz : w.heap.size + 1 ≤ wr.heap.size := by omega
          have hml : its.length ≤ 202 := by omega
          clear ho1 ho3
          go_wp2_with (first | (at_builtin; refine wpList_append_one rfl _ _ 26 54 rfl (.agg #[.string ⟨#[]⟩, .slice none 0 0, .int .i64 0]) 3 48 under_files info_file rfl (by decide) rfl (HO1.out _) rfl rfl (by simp [Value.oneCell']) (by simp only [maxLen]; omega) (by omega) hsz ?_; intro v' w2 hown' hB2 hg2; have hKw := hid (((Keep.refl (fun i => w.heap.size + 1 ≤ i) wr).drewN _).trans (Keep.of_below (F := fun i => w.heap.size + 1 ≤ i) hB2 (fun i _ h => h)) (fun i hi h => h)); have HON := hid (OwnFiles.snoc ho2 HO3.out HF.out hown'); have HKN := hid ((hKr.out.drewN _).trans (Keep.of_below (F := fun i => w.heap.size + 1 ≤ i) hB2 (fun i _ h => h)) (fun i hi h => by omega)); have hsn := HKN.out.size; clear hown' hB2 hg2 HO1 HO3; obtain ⟨aon, capn, hvn⟩ := HON.out.slice; rw [List.length_append] at hvn; subst hvn; have d0' : w2.cell? (a.add (i * 3)) = some (.string n) := (by rw [hKw.out.cell (p := (a.add (i * 3))) (show (a.add (i * 3)).block < wr.heap.size from by rw [ChangeShapes.block_add]; omega) (show ¬ w.heap.size + 1 ≤ (a.add (i * 3)).block from by rw [ChangeShapes.block_add]; omega)]; exact d0); have d1' : w2.cell? ⟨(a.add (i * 3)).block, (a.add (i * 3)).off + 1, none⟩ = some (.slice A f.b.length C) := (by rw [hKw.out.cell (p := ⟨(a.add (i * 3)).block, (a.add (i * 3)).off + 1, none⟩) (show (a.add (i * 3)).block < wr.heap.size from by rw [ChangeShapes.block_add]; omega) (show ¬ w.heap.size + 1 ≤ (a.add (i * 3)).block from by rw [ChangeShapes.block_add]; omega)]; exact d1); have d2' : w2.cell? ⟨(a.add (i * 3)).block, (a.add (i * 3)).off + 2, none⟩ = some (.int .i64 (f.sure : Int)) := (by rw [hKw.out.cell (p := ⟨(a.add (i * 3)).block, (a.add (i * 3)).off + 2, none⟩) (show (a.add (i * 3)).block < wr.heap.size from by rw [ChangeShapes.block_add]; omega) (show ¬ w.heap.size + 1 ≤ (a.add (i * 3)).block from by rw [ChangeShapes.block_add]; omega)]; exact d2); have e0' : w2.cell? ⟨w.heap.size, 0, none⟩ = some (.string n) := (by rw [hKw.out.cell (p := ⟨w.heap.size, 0, none⟩) (show w.heap.size < wr.heap.size from by omega) (show ¬ w.heap.size + 1 ≤ w.heap.size from by omega)]; exact e0); have e1' : w2.cell? ⟨w.heap.size, 1, none⟩ = some (.slice A0 fm.b.length C0) := (by rw [hKw.out.cell (p := ⟨w.heap.size, 1, none⟩) (show w.heap.size < wr.heap.size from by omega) (show ¬ w.heap.size + 1 ≤ w.heap.size from by omega)]; exact e1); have e2' : w2.cell? ⟨w.heap.size, 2, none⟩ = some (.int .i64 (fm.sure : Int)) := (by rw [hKw.out.cell (p := ⟨w.heap.size, 2, none⟩) (show w.heap.size < wr.heap.size from by omega) (show ¬ w.heap.size + 1 ≤ w.heap.size from by omega)]; exact e2); clear d0 d1 d2 e0 e1 e2; clear hKw) | go_quiet (fail))
          exact ⟨⟨i + 1, by simp, by omega, by rw [HE.out], hid (by rw [HE.out]; simpa using OwnFiles.keep HON.out ((Keep.refl (fun _ => False) w2).drewN _) (fun _ _ h => h)), hid (HKN.out.drewN _)⟩, by simp [RowKit.intOf]; omega⟩
        · cases hlt : Op.bytesLess fn.toList n.toList with
          | true =>
            have hbe : (n.toList == fn.toList) = false := by rw [beq_eq_false_iff_ne]; exact fun e => hn (ByteArray.ext (Array.toList_inj.mp (by rw [toList_data, toList_data] at e; exact e)))
            have hbe2 : (fn.toList == n.toList) = false := by rw [beq_eq_false_iff_ne]; exact fun e => hn (ByteArray.ext (Array.toList_inj.mp (by rw [toList_data, toList_data] at e; exact e.symm)))
            have HE := hid (hst1 (os ++ [(fn, fm)] ++ [(n, f)]) true (by simp [putStep, leS, hlt, hn]))
            clear hst1 hp
            obtain ⟨its, ho1, ho2, ho3⟩ := hO.out
            have HO1 := hid (fun q => ownsRow_keep ho1 ((Keep.refl (fun _ => False) wr).drewN q) (fun _ _ h => h))
            have HO3 := hid ho3
            have hsz : w.heap.size + 1 ≤ wr.heap.size := by omega
            have hml : its.length ≤ 202 := by omega
            clear ho1 ho3
            go_wp2_with (first | (at_builtin; refine wpList_append_one rfl _ _ 26 54 rfl (.agg #[.string ⟨#[]⟩, .slice none 0 0, .int .i64 0]) 3 48 under_files info_file rfl (by decide) rfl (HO1.out _) rfl rfl (by simp [Value.oneCell']) (by simp only [maxLen]; omega) (by omega) hsz ?_; intro v' w2 hown' hB2 hg2; have hKw := hid (((Keep.refl (fun i => w.heap.size + 1 ≤ i) wr).drewN _).trans (Keep.of_below (F := fun i => w.heap.size + 1 ≤ i) hB2 (fun i _ h => h)) (fun i hi h => h)); have HON := hid (OwnFiles.snoc ho2 HO3.out HF.out hown'); have HKN := hid ((hKr.out.drewN _).trans (Keep.of_below (F := fun i => w.heap.size + 1 ≤ i) hB2 (fun i _ h => h)) (fun i hi h => by omega)); have hsn := HKN.out.size; clear hown' hB2 hg2 HO1 HO3; obtain ⟨aon, capn, hvn⟩ := HON.out.slice; rw [List.length_append] at hvn; subst hvn; have d0' : w2.cell? (a.add (i * 3)) = some (.string n) := (by rw [hKw.out.cell (p := (a.add (i * 3))) (show (a.add (i * 3)).block < wr.heap.size from by rw [ChangeShapes.block_add]; omega) (show ¬ w.heap.size + 1 ≤ (a.add (i * 3)).block from by rw [ChangeShapes.block_add]; omega)]; exact d0); have d1' : w2.cell? ⟨(a.add (i * 3)).block, (a.add (i * 3)).off + 1, none⟩ = some (.slice A f.b.length C) := (by rw [hKw.out.cell (p := ⟨(a.add (i * 3)).block, (a.add (i * 3)).off + 1, none⟩) (show (a.add (i * 3)).block < wr.heap.size from by rw [ChangeShapes.block_add]; omega) (show ¬ w.heap.size + 1 ≤ (a.add (i * 3)).block from by rw [ChangeShapes.block_add]; omega)]; exact d1); have d2' : w2.cell? ⟨(a.add (i * 3)).block, (a.add (i * 3)).off + 2, none⟩ = some (.int .i64 (f.sure : Int)) := (by rw [hKw.out.cell (p := ⟨(a.add (i * 3)).block, (a.add (i * 3)).off + 2, none⟩) (show (a.add (i * 3)).block < wr.heap.size from by rw [ChangeShapes.block_add]; omega) (show ¬ w.heap.size + 1 ≤ (a.add (i * 3)).block from by rw [ChangeShapes.block_add]; omega)]; exact d2); have e0' : w2.cell? ⟨w.heap.size, 0, none⟩ = some (.string fn) := (by rw [hKw.out.cell (p := ⟨w.heap.size, 0, none⟩) (show w.heap.size < wr.heap.size from by omega) (show ¬ w.heap.size + 1 ≤ w.heap.size from by omega)]; exact e0); have e1' : w2.cell? ⟨w.heap.size, 1, none⟩ = some (.slice A0 fm.b.length C0) := (by rw [hKw.out.cell (p := ⟨w.heap.size, 1, none⟩) (show w.heap.size < wr.heap.size from by omega) (show ¬ w.heap.size + 1 ≤ w.heap.size from by omega)]; exact e1); have e2' : w2.cell? ⟨w.heap.size, 2, none⟩ = some (.int .i64 (fm.sure : Int)) := (by rw [hKw.out.cell (p := ⟨w.heap.size, 2, none⟩) (show w.heap.size < wr.heap.size from by omega) (show ¬ w.heap.size + 1 ≤ w.heap.size from by omega)]; exact e2); clear d0 d1 d2 e0 e1 e2; clear hKw) | (at_builtin; have hl2 : (os ++ [(fn, fm)]).length = os.length + 1 := (by simp); obtain ⟨its, ho1, ho2, ho3⟩ := HON.out; have HO1 := hid (fun q => ownsRow_keep ho1 ((Keep.refl (fun _ => False) w2).drewN q) (fun _ _ h => h)); have HO3 := hid ho3; have hsz : w.heap.size + 1 ≤ w2.heap.size := (by omega); have hml : its.length ≤ 202 := (by omega); clear ho1 ho3; refine wpList_append_one rfl _ _ 26 54 rfl (.agg #[.string ⟨#[]⟩, .slice none 0 0, .int .i64 0]) 3 48 under_files info_file rfl (by decide) rfl (HO1.out _) rfl rfl (by simp [Value.oneCell']) (by simp only [maxLen]; omega) (by omega) hsz ?_; intro v' w3 hown' hB2 hg2; have HON2 := hid (OwnFiles.snoc ho2 HO3.out HIT.out hown'); have HKN2 := hid ((HKN.out.drewN _).trans (Keep.of_below (F := fun i => w.heap.size + 1 ≤ i) hB2 (fun i _ h => h)) (fun i hi h => by omega)); have hsn := HKN2.out.size; clear hown' hB2 hg2 HO1 HO3; obtain ⟨aon, capn, hvn⟩ := HON2.out.slice; rw [List.length_append] at hvn; subst hvn) | go_quiet (fail))
            exact ⟨⟨i + 1, by simp, by omega, by rw [HE.out], hid (by rw [HE.out]; simpa using HON2.out), hid (HKN2.out)⟩, by simp [RowKit.intOf]; omega⟩
          | false =>
            have hbe : (n.toList == fn.toList) = false := by rw [beq_eq_false_iff_ne]; exact fun e => hn (ByteArray.ext (Array.toList_inj.mp (by rw [toList_data, toList_data] at e; exact e)))
            have hbe2 : (fn.toList == n.toList) = false := by rw [beq_eq_false_iff_ne]; exact fun e => hn (ByteArray.ext (Array.toList_inj.mp (by rw [toList_data, toList_data] at e; exact e.symm)))
            have HE := hid (hst1 (os ++ [(n, f)]) false (by simp [putStep, leS, hlt, hbe2, hn]))
            clear hst1 hp
            obtain ⟨its, ho1, ho2, ho3⟩ := hO.out
            have HO1 := hid (fun q => ownsRow_keep ho1 ((Keep.refl (fun _ => False) wr).drewN q) (fun _ _ h => h))
            have HO3 := hid ho3
            have hsz : w.heap.size + 1 ≤ wr.heap.size := by omega
            have hml : its.length ≤ 202 := by omega
            clear ho1 ho3
            go_wp2_with (first | (at_builtin; refine wpList_append_one rfl _ _ 26 54 rfl (.agg #[.string ⟨#[]⟩, .slice none 0 0, .int .i64 0]) 3 48 under_files info_file rfl (by decide) rfl (HO1.out _) rfl rfl (by simp [Value.oneCell']) (by simp only [maxLen]; omega) (by omega) hsz ?_; intro v' w2 hown' hB2 hg2; have HON := hid (OwnFiles.snoc ho2 HO3.out HIT.out hown'); have HKN := hid ((hKr.out.drewN _).trans (Keep.of_below (F := fun i => w.heap.size + 1 ≤ i) hB2 (fun i _ h => h)) (fun i hi h => by omega)); have hsn := HKN.out.size; clear hown' hB2 hg2 HO1 HO3; obtain ⟨aon, capn, hvn⟩ := HON.out.slice; rw [List.length_append] at hvn; subst hvn) | go_quiet (fail))
            exact ⟨⟨i + 1, by simp, by omega, by rw [HE.out], hid (by rw [HE.out]; simpa using HON.out), hid (HKN.out)⟩, by simp [RowKit.intOf]; omega⟩
    · obtain rfl : i = L.length := by omega
      rw [List.take_length] at HST
      cases dn with
      | true =>
        have HFIN := hid (show putF (fn, fm) L = os by unfold putF; rw [HST.out]; rfl)
        have HFL := hid (hO.out.files hK.out (fun _ _ h => h))
        go_wp2_with fail
        all_goals go_ret
        all_goals exact ⟨_, rfl, by rw [HFIN.out]; exact HFL.out.mono (fun i _ h => h.imp id (fun h => by omega)), hK.out⟩
      | false =>
        have HFIN := hid (show putF (fn, fm) L = os ++ [(fn, fm)] by unfold putF; rw [HST.out]; rfl)
        obtain ⟨its, ho1, ho2, ho3⟩ := hO.out
        have HO1 := hid ho1
        have HO3 := hid ho3
        have hsz : w.heap.size + 1 ≤ wr.heap.size := by omega
        have hml : its.length ≤ 202 := by omega
        clear ho1 ho3
        go_wp2_with (first | (at_builtin; refine wpList_append_one rfl _ _ 26 54 rfl (.agg #[.string ⟨#[]⟩, .slice none 0 0, .int .i64 0]) 3 48 under_files info_file rfl (by decide) rfl HO1.out rfl rfl (by simp [Value.oneCell']) (by simp only [maxLen]; omega) (by omega) hsz ?_; intro v' w2 hown' hB2 hg2; have HON := hid (OwnFiles.snoc ho2 HO3.out HF.out hown'); have HKN := hid (hKr.out.trans (Keep.of_below (F := fun i => w.heap.size + 1 ≤ i) hB2 (fun i _ h => h)) (fun i hi h => by omega)); have hsn := HKN.out.size; clear hown' hB2 hg2 HO1 HO3; obtain ⟨aon, capn, hvn⟩ := HON.out.slice; rw [List.length_append] at hvn; subst hvn) | go_quiet (fail))
        have HK2 := hid (HKB.out.trans (HKN.out) (fun _ _ h => h))
        have HFL := hid (HON.out.files HK2.out (fun _ _ h => h))
        all_goals go_ret
        all_goals exact ⟨_, rfl, by rw [HFIN.out]; have h := HFL.out.mono (fun i _ h => h.imp id (fun h => (by omega : w.heap.size ≤ i))); exact h, HK2.out⟩

end Go.Proofs.YtlabpmmcmejpmaaDoor.Ref
