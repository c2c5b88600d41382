/- The reference's Next and Split, walked. -/
import Derived.Test.YtbjjohfpdphpfaaDoorFrameSum2
import Derived.Test.YtbjjohfpdphpfaaDoorFrameSplit
import Derived.Test.YtbjjohfpdphpfaaDoorWalOpen
namespace Go.Proofs.YtbjjohfpdphpfaaDoor.Frm
open Go Go.RowKit Go.Lib Go.Proofs.YtbjjohfpdphpfaaDoor.Dsk

/-- The first frame's body, or none. -/
def nextV (ao : Option Addr) (cap : Nat) (l : List UInt8) : Value := if (firstE l).2 = 0 then .slice (ao.map (·.add 4)) (num l) (cap - 4) else .slice none 0 0

theorem refNumber_at (w : World) {ao : Option Addr} {n cap : Nat} {l : List UInt8} {G : Nat → Prop} (h : BytesIn w (.slice ao n cap) l G) (h4 : 4 ≤ l.length) :
    Calls Tryd.prog 71 #[.slice ao n cap] w fun e w' => e = .returned (.int .i64 (num l : Int)) ∧ Keep (fun _ => False) w w' := by
  obtain rfl := h.len
  exact refNumber_any w h h4
theorem refSum_at (w : World) {ao : Option Addr} {n cap : Nat} {l : List UInt8} {G : Nat → Prop} (h : BytesIn w (.slice ao n cap) l G) :
    Calls Tryd.prog 72 #[.slice ao n cap] w fun e w' => e = .returned (.int .u32 (crc l : Int)) ∧ w' = w := by
  obtain rfl := h.len
  exact refSum_any w h

set_option maxRecDepth 100000 in
set_option maxHeartbeats 2000000 in
theorem next_any (w : World) {ao : Option Addr} {cap : Nat} {l : List UInt8} {G : Nat → Prop} (h : BytesIn w (.slice ao l.length cap) l G) :
    Calls Tryd.prog 57 #[.slice ao l.length cap] w fun e w' => e = .returned (.tuple #[nextV ao cap l, .int .i64 ((firstE l).1 : Int), .int .i64 (firstE l).2]) ∧ Keep (fun _ => False) w w' := by
  obtain ⟨ao', cap', e0, hlc, hmax, hnil, -⟩ := h.read
  injection e0 with e1 e2 e3
  subst e1; subst e3
  clear e2
  have hmx : maxLen = 9223372036854775807 := rfl
  have H := hid h
  clear h
  by_cases h4 : (l.length : Int) < 4
  · have HE := hid (show firstE l = (0, 10) by unfold firstE; rw [if_pos (by omega)])
    go_enter Tryd.func57, Tryd.ntmps57
    go_wp2_with fail
    all_goals refine bodyPost_ret (results_tmp3 rfl _ _ _) rfl ?_
    all_goals exact ⟨by unfold nextV; rw [HE.out]; rfl, Keep.refl _ _⟩
  cases ao with
  | none => rw [hnil rfl] at h4; simp at h4
  | some a =>
    clear hnil
    go_enter Tryd.func57, Tryd.ntmps57
    go_wp2_with fail
    refine (refNumber_any w H.out (by omega)).mono ?_
    rintro e w1 ⟨rfl, hK⟩
    have HK := hid hK
    have H1 := hid (H.out.keep hK (fun _ _ h => h))
    have hnl := num_lt l
    clear hK H
    by_cases hb : 4194304 < (num l : Int)
    · have HE := hid (show firstE l = (0, 11) by unfold firstE maxBody; rw [if_neg (by omega), if_pos (by omega)])
      go_wp2_with fail
      all_goals refine bodyPost_ret (results_tmp3 rfl _ _ _) rfl ?_
      all_goals exact ⟨by unfold nextV; rw [HE.out]; rfl, HK.out⟩
    by_cases hs : (l.length : Int) < (num l : Int) + 8
    · have HE := hid (show firstE l = (0, 10) by unfold firstE maxBody; rw [if_neg (by omega), if_neg (by omega), if_pos (by omega)])
      go_wp2_with fail
      all_goals refine bodyPost_ret (results_tmp3 rfl _ _ _) rfl ?_
      all_goals exact ⟨by unfold nextV; rw [HE.out]; rfl, HK.out⟩
    go_wp2_with fail
    refine wp_region_heldi [0, 1, 2, 3, 6, 7, 8, 9] 12 4 (fun _ => True) (by kernel_rfl) (by kernel_rfl) (by kernel_rfl) trivial (fun d _ _ _ _ h => by cases d <;> exact h) ?_
    have hle : (num l : Int) + 4 ≤ (l.length : Int) := by omega
    have hwp : IntKind.i64.wrap ((num l : Int) + 4) = (num l : Int) + 4 := IntWalk.i64_in _ (by omega)
    have hle2 : (num l : Int) + 4 ≤ (cap : Int) := by omega
    have hN : ((num l : Int) + 4).toNat = num l + 4 := by omega
    have hcn : ¬ cap = num l + 4 := by omega
    have hpos : (0 : Int) ≤ (num l : Int) + 4 := by omega
    repeat (refine heldI_step rfl rfl (fun w' _ => by (go_simp; with_reducible rfl)) ?_; simp only [Act.put, List.setIfInBounds_toArray, List.set_cons_zero, List.set_cons_succ])
    refine heldI_nil ?_
    refine anyZ_next (j := 4) (by kernel_rfl) rfl rfl ?_
    go_simp
    have HA := hid (H1.out.later a rfl (num l + 4) (by omega))
    have HB := hid (H1.out.first (num l + 4) (by omega))
    have kd := keep_drawn' w1 (w1.drawn + 1)
    refine (refNumber_at w1.drew (HA.out.keep kd (fun _ _ h => h)) (by simp; omega)).mono ?_
    rintro e w2 ⟨rfl, hK⟩
    have hK2 := kd.trans hK (fun _ _ h => h)
    have HK2 := hid (HK.out.trans hK2 (fun _ _ h => h))
    have HB2 := hid (HB.out.keep hK2 (fun _ _ h => h))
    clear hK hK2 kd
    have hnl2 := num_lt (l.drop (num l + 4))
    have hwr : IntKind.u32.wrap (num (l.drop (num l + 4)) : Int) = (num (l.drop (num l + 4)) : Int) := by rw [IntKind.wrap_u32']; omega
    refine heldI_run (t := 2) (by kernel_rfl) (fun d _ _ _ _ h => by cases d <;> exact h) w2 trivial [5] _ _ (by kernel_rfl) ?_
    refine heldI_step rfl rfl (fun w' _ => by (go_simp; with_reducible rfl)) ?_
    simp only [Act.put, List.setIfInBounds_toArray, List.set_cons_zero, List.set_cons_succ]
    refine heldI_nil ?_
    refine anyZ_next (j := 10) (by kernel_rfl) rfl rfl ?_
    go_simp
    refine (refSum_at w2 HB2.out).mono ?_
    rintro e w3 ⟨rfl, rfl⟩
    have hcl := crc_lt (l.take (num l + 4))
    by_cases hsum : num (l.drop (num l + 4)) = crc (l.take (num l + 4))
    · have HE := hid (show firstE l = (num l + 8, 0) by unfold firstE maxBody; rw [if_neg (by omega), if_neg (by omega), if_neg (by omega), if_pos hsum])
      rw [hsum]
      refine anyZ_next (j := 11) (by kernel_rfl) rfl rfl ?_
      go_simp
      refine anyZ_done (by kernel_rfl) ?_
      go_wp2_with fail
      all_goals refine bodyPost_ret (results_tmp3 rfl _ _ _) rfl ?_
      all_goals exact ⟨by unfold nextV; rw [HE.out]; rfl, HK2.out⟩
    · have HE := hid (show firstE l = (0, 12) by unfold firstE maxBody; rw [if_neg (by omega), if_neg (by omega), if_neg (by omega), if_neg hsum])
      have hbn : ((num (l.drop (num l + 4)) : Int) != (crc (l.take (num l + 4)) : Int)) = true := by rw [bne_iff_ne]; omega
      refine anyZ_next (j := 11) (by kernel_rfl) rfl rfl ?_
      go_simp
      refine anyZ_done (by kernel_rfl) ?_
      go_wp2_with fail
      all_goals refine bodyPost_ret (results_tmp3 rfl _ _ _) rfl ?_
      all_goals exact ⟨by unfold nextV; rw [HE.out]; rfl, HK2.out⟩


theorem next_at (w : World) {ao : Option Addr} {n cap : Nat} {l : List UInt8} {G : Nat → Prop} (h : BytesIn w (.slice ao n cap) l G) :
    Calls Tryd.prog 57 #[.slice ao n cap] w fun e w' => e = .returned (.tuple #[nextV ao cap l, .int .i64 ((firstE l).1 : Int), .int .i64 (firstE l).2]) ∧ Keep (fun _ => False) w w' := by
  obtain rfl := h.len
  exact next_any w h

/-- A body, where it lies. -/
def spotV (a : Addr) (cap : Nat) (s : Nat × Nat) : Value := .slice (some (a.add s.1)) s.2 (cap - s.1)
theorem IsRun.spots {b : List UInt8} {xs : List (Nat × Nat)} {p : Nat} (h : IsRun b xs p) : ∀ s ∈ xs, s.1 + s.2 ≤ b.length := by
  induction h with
  | nil => simp
  | snoc _ hf ih =>
    intro s hs
    rcases List.mem_append.1 hs with hs | hs
    · exact ih s hs
    · have := (firstE_ok hf).2.2
      rw [List.length_drop] at this
      obtain rfl : s = _ := by simpa using hs
      simp only
      omega
theorem rows_of_spots {w : World} {base : Nat} {o : Value} {a : Addr} {cap : Nat} {b : List UInt8} {xs : List (Nat × Nat)} {G : Nat → Prop} (h : w.ownsRow base 33 1 o xs.length (xs.map (spotV a cap))) (hB : BytesIn w (.slice (some a) b.length cap) b G) (hx : ∀ s ∈ xs, s.1 + s.2 ≤ b.length) :
    Wal.RowsG w o (xs.map (bodyAt b)) (fun i => G i ∨ base ≤ i) := by
  rcases own_cell h with ⟨rfl, h0, -⟩ | ⟨g, c2, rfl, hg, hn, -, hlt, hl, hc⟩
  · obtain rfl : xs = [] := List.eq_nil_of_length_eq_zero h0
    exact Wal.RowsG.nil _ _
  · refine ⟨some ⟨g, 0, none⟩, c2, by rw [List.length_map], (fun e => by cases e), fun a' ha r l hr => ?_⟩
    obtain rfl := Option.some.inj ha
    rw [List.getElem?_map] at hr
    obtain ⟨s, hs, hsl⟩ := Option.map_eq_some_iff.1 hr
    have hrx : r < xs.length := (List.getElem?_eq_some_iff.1 hs).1
    have hbd := hx s (List.mem_of_getElem? hs)
    have hBs := (hB.later a rfl s.1 (by omega)).first s.2 (by simp; omega)
    have hll : l.length = s.2 := by rw [← hsl]; unfold bodyAt; simp; omega
    refine ⟨.inr hg, hlt, some (a.add s.1), cap - s.1, ?_, ?_⟩
    · rw [addr_add0, hc r (by simpa using hrx), List.getElem_map, hll]
      have : xs[r] = s := (List.getElem?_eq_some_iff.1 hs).2
      rw [this]; rfl
    · rw [hll, ← hsl]
      exact Wal.bytes_mono hBs (fun i _ h => .inl h)

set_option maxRecDepth 100000 in
set_option maxHeartbeats 4000000 in
theorem refsplit_some (w : World) {a : Addr} {cap : Nat} {b : List UInt8} {G : Nat → Prop} (hB : BytesIn w (.slice (some a) b.length cap) b G) (hsz : b.length ≤ 4294967296) :
    Calls Tryd.prog 33 #[.slice (some a) b.length cap] w fun e w' => ∃ o, e = .returned (.tuple #[o, .int .i64 ((split b).2 : Int)]) ∧ Wal.RowsG w' o (split b).1 (fun i => G i ∨ w.heap.size ≤ i) ∧ Keep (fun _ => False) w w' := by
  obtain ⟨ao', cap', e0, hlc, hmax, -, -⟩ := hB.read
  injection e0 with e1 e2 e3
  subst e3
  clear e1 e2
  have HB := hid hB
  clear hB
  go_enter Tryd.func33, Tryd.ntmps33
  go_wp2_with fail
  go_loopw [4, 5] (fun ov iv wr => ∃ (xs : List (Nat × Nat)) (p : Nat), iv = .int .i64 (p : Int) ∧ IsRun b xs p ∧ Hid (wr.ownsRow w.heap.size 33 1 ov xs.length (xs.map (spotV a cap))) ∧ Hid (Keep (fun _ => False) w wr)) (fun _ iv _ => b.length - (RowKit.intOf iv).toNat)
  case atStart => exact ⟨[], 0, rfl, .nil, hid (World.ownsRow_nil _ _ _ 1), hid (Keep.refl _ _)⟩
  case round =>
    obtain ⟨xs, p, rfl, hrun, hown, hK⟩ := hrel
    have hple := hrun.le
    have hcnt := hrun.count
    obtain ⟨a', ha', hsl⟩ := slice_from a hple hlc hmax
    have hBr := HB.out.keep hK.out (fun _ _ h => h)
    have HBr := hid (later_any hBr p hple ha')
    have HRUN := hid hrun
    obtain ⟨aov, capv, hov⟩ := own_slice hown.out
    subst hov
    clear hBr hrun
    go_wp2_with fail
    refine (next_at wr HBr.out).mono ?_
    rintro e w2 ⟨rfl, hk2⟩
    have HK2 := hid (hK.out.trans hk2 (fun _ _ h => h))
    have hs2 := HK2.out.size
    by_cases hf : (firstE (b.drop p)).2 = 0
    · have hok := firstE_ok hf
      rw [List.length_drop] at hok
      have hbody : nextV (some a') (cap - p) (b.drop p) = spotV a cap (p + 4, num (b.drop p)) := by
        unfold nextV spotV
        rw [if_pos hf]
        have : a' = a.add p := ha'.resolve_right (by omega)
        subst this
        simp only [Option.map_some, Addr.add_add]
        congr 1
      have HOWN := hid (row_grown (base := w.heap.size) hown.out (grown_of_keep hk2) (fun r e => by cases e))
      have HF := hid hf
      rw [hbody, hok.1, hf]
      unfold spotV
      clear hk2 hbody hf
      obtain ⟨N, hN⟩ : ∃ N, num (b.drop p) = N := ⟨_, rfl⟩
      rw [hN] at hok ⊢
      have HN := hid hN
      clear hN
      go_wp2_with (at_builtin; refine wpList_append_one rfl _ _ 34 33 rfl (.slice none 0 0) 1 24 under_rows info_row rfl (by decide) rfl HOWN.out rfl rfl (by simp [Value.oneCell']) (by simp only [maxLen]; omega) (by omega) hs2 ?_; intro v' w3 hown' hB3 hg3)
      have HO3 := hid (show w3.ownsRow w.heap.size 33 1 v' (xs ++ [(p + 4, N)]).length ((xs ++ [(p + 4, N)]).map (spotV a cap)) by
        rw [List.length_append, List.map_append]
        exact hown')
      have HK3 := hid (keep_old HK2.out (Keep.of_below (F := fun i => w.heap.size ≤ i) hB3 (fun i _ h => h)) (fun _ _ h => h) (fun i hi h => by omega))
      have HS := hid (HRUN.out.snoc HF.out)
      exact ⟨⟨xs ++ [(p + 4, N)], p + (N + 8), by simp, by
        have := HS.out
        rw [HN.out] at this
        exact this, HO3, HK3⟩, by simp [RowKit.intOf]; omega⟩
    · have hne : ((firstE (b.drop p)).2 != 0) = true := by rw [bne_iff_ne]; exact hf
      have HD := hid (HRUN.out.done hf)
      have HROW := hid (rows_of_spots (row_grown hown.out (grown_of_keep hk2) (fun r e => by cases e)) (HB.out.keep HK2.out (fun _ _ h => h)) HRUN.out.spots)
      clear hk2
      go_wp2_with fail
      go_ret2
      exact ⟨_, by rw [HD.out]; rfl, by rw [HD.out]; exact HROW.out, HK2.out⟩

set_option maxRecDepth 100000 in
set_option maxHeartbeats 4000000 in
theorem refsplit_none (w : World) :
    Calls Tryd.prog 33 #[.slice none 0 0] w fun e w' => ∃ o, e = .returned (.tuple #[o, .int .i64 ((split []).2 : Int)]) ∧ Wal.RowsG w' o (split []).1 (fun i => w.heap.size ≤ i) ∧ Keep (fun _ => False) w w' := by
  have hd : split [] = ([], 0) := split_nil (by simp [firstE])
  have hf : firstE [] = (0, 10) := by simp [firstE]
  have hB : BytesIn w (.slice none 0 0) [] (fun _ => False) := ⟨none, 0, rfl, Nat.le_refl _, Nat.zero_le _, fun _ => rfl, fun b hb => by cases hb⟩
  rw [hd]
  go_enter Tryd.func33, Tryd.ntmps33
  go_wp2_with fail
  go_loopw [4, 5] (fun ov iv wr => iv = .int .i64 0 ∧ ov = .slice none 0 0 ∧ wr = w) (fun _ _ _ => 0)
  case atStart => exact ⟨rfl, rfl, rfl⟩
  case round =>
    obtain ⟨rfl, rfl, rfl⟩ := hrel
    go_wp2_with fail
    refine (next_at wr hB).mono ?_
    rintro e w2 ⟨rfl, hk2⟩
    have hn : nextV none 0 [] = .slice none 0 0 := by unfold nextV; rw [hf]; rfl
    rw [hn, hf]
    have HK := hid hk2
    clear hk2
    go_wp2_with fail
    go_ret2
    exact ⟨_, rfl, Wal.RowsG.nil _ _, HK.out⟩

/-- osierref02.Split(b). -/
theorem refsplit_any (w : World) {v : Value} {b : List UInt8} {G : Nat → Prop} (hB : BytesIn w v b G) (hnil : ∀ n c, v = .slice none n c → c = 0) (hsz : b.length ≤ 4294967296) :
    Calls Tryd.prog 33 #[v] w fun e w' => ∃ o, e = .returned (.tuple #[o, .int .i64 ((split b).2 : Int)]) ∧ Wal.RowsG w' o (split b).1 (fun i => G i ∨ w.heap.size ≤ i) ∧ Keep (fun _ => False) w w' := by
  have h0 := hB
  obtain ⟨ao, cap, rfl, h1, h2, h3, h4⟩ := hB.read
  cases ao with
  | none =>
    obtain rfl := h3 rfl
    obtain rfl := hnil _ _ rfl
    refine (refsplit_none w).mono ?_
    rintro e w' ⟨o, rfl, hR, hK⟩
    exact ⟨o, rfl, hR.mono (fun _ _ h => .inr h), hK⟩
  | some a => exact refsplit_some w h0 hsz

end Go.Proofs.YtbjjohfpdphpfaaDoor.Frm
