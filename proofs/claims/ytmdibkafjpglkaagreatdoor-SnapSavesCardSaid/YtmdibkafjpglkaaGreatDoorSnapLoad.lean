/- snap.Load, walked. -/
import Derived.Test.YtmdibkafjpglkaaGreatDoorSnapNext
import Derived.Test.YtmdibkafjpglkaaGreatDoorHeldDisk
namespace Go.Proofs.YtmdibkafjpglkaaGreatDoor.Snp
open Go Go.RowKit Go.Lib Go.Proofs.YtmdibkafjpglkaaGreatDoor.Dsk Go.Proofs.YtmdibkafjpglkaaGreatDoor.Wal Go.Proofs.YtmdibkafjpglkaaGreatDoor.Num Go.Proofs.YtmdibkafjpglkaaGreatDoor.Frm

/-- What is loaded of a file's bytes. -/
def bodyF (body rest : List UInt8) : Int × List UInt8 × Int :=
  if rest.length = 0 then (if (takeU body).1 = 0 then (if zag (takeU body).2.1 < 0 then (0, [], 11) else (zag (takeU body).2.1, body.drop (body.length - (takeU body).2.2.length), 0)) else (0, [], (takeU body).1)) else (0, [], 11)
def fileF (b : List UInt8) : Int × List UInt8 × Int := if (nextF b).2.2 = 0 then bodyF (nextF b).1 (nextF b).2.1 else (0, [], (nextF b).2.2)
def loadF (D : DiskM) (name : ByteArray) : Int × List UInt8 × Int := if (Dsk.read D name).2 = 0 then fileF (Dsk.read D name).1 else (0, [], (Dsk.read D name).2)

section
variable {W w : World} {db : Nat} {D : DiskM} {X : Nat → Prop}
theorem bytes_more' {v : Value} {l : List UInt8} {G : Nat → Prop} (h : BytesIn w v l G) : BytesIn w v l (fun i => G i ∧ i < w.heap.size) := by
  obtain ⟨ao, cap, e, h1, h2, h3, h4⟩ := h.read
  exact ⟨ao, cap, e, h1, h2, h3, fun b hb j u hj => ⟨(h4 b hb j u hj).1, (h4 b hb j u hj).2.1, (h4 b hb j u hj).2.2, (h4 b hb j u hj).2.1⟩⟩
theorem takeU_len (l : List UInt8) : (takeU l).2.2.length ≤ l.length := by
  cases l with
  | nil => exact Nat.le_refl _
  | cons b t =>
    rw [takeU_cons]
    split
    · exact Nat.zero_le _
    · split
      · simp only [List.length_drop, List.length_cons]; omega
      · exact Nat.zero_le _
theorem takeU_pos (l : List UInt8) : (takeU l).1 = 0 → (takeU l).2.2.length < l.length := by
  cases l with
  | nil => intro h; cases h
  | cons b t =>
    rw [takeU_cons]
    split
    · intro h; cases h
    · split
      · intro _; simp only [List.length_drop, List.length_cons]; omega
      · intro h; cases h
theorem bytes_wide {v : Value} {l : List UInt8} {G G' : Nat → Prop} (h : BytesIn w v l G) (hG : ∀ i, i < w.heap.size → G i → G' i) : BytesIn w v l G' := by
  obtain ⟨ao, cap, e, h1, h2, h3, h4⟩ := h.read
  exact ⟨ao, cap, e, h1, h2, h3, fun b hb j u hj => ⟨(h4 b hb j u hj).1, (h4 b hb j u hj).2.1, hG _ (h4 b hb j u hj).2.1 (h4 b hb j u hj).2.2⟩⟩
theorem bytes_full {A : Option Addr} {n C : Nat} {l : List UInt8} {G : Nat → Prop} (h : BytesIn w (.slice A n C) l G) : BytesIn w (.slice A n n) l G := by
  obtain ⟨ao, cap, e, h1, h2, h3, h4⟩ := h.read
  injection e with e1 e2 e3
  subst e1 e2 e3
  exact ⟨A, l.length, rfl, Nat.le_refl _, Nat.le_trans h1 h2, h3, h4⟩
theorem none_in (w : World) (G : Nat → Prop) : BytesIn w (.slice none 0 0) [] G := nil_reader w G
set_option maxRecDepth 100000 in
set_option maxHeartbeats 4000000 in
theorem load_any (S : St W w db D X) (name : ByteArray) (hlen : (Dsk.read D name).1.length ≤ 4294967296) :
    Calls Tryz.prog 8 #[ptr db, .string name] w fun x w' => ∃ v, x = .returned (.tuple #[.int .i64 (loadF D name).1, v, .int .i64 (loadF D name).2.2]) ∧ BytesIn w' v (loadF D name).2.1 (fun i => w.heap.size ≤ i) ∧ Keep (fun _ => False) w w' := by
  have HS := hid S
  clear S
  unfold ptr
  go_enter Tryz.func8, Tryz.ntmps8
  go_wp2_with fail
  refine (st_read HS.out name).mono ?_
  rintro x w1 ⟨v1, rfl, hF1, hK1⟩
  obtain ⟨a1, c1, hv1, hcap1, hmax1, hnil1⟩ := hF1
  subst hv1
  have HB1 := hid (FB.bytesIn ⟨a1, c1, rfl, hcap1, hmax1, hnil1⟩)
  have HK1 := hid hK1
  clear hK1 hnil1
  by_cases he : (Dsk.read D name).2 = 0
  · have HL := hid (show loadF D name = fileF (Dsk.read D name).1 by unfold loadF; rw [if_pos he])
    rw [he]
    obtain ⟨b, hb⟩ : ∃ b, (Dsk.read D name).1 = b := ⟨_, rfl⟩
    rw [hb] at HL HB1 hlen ⊢
    clear hb he
    go_wp2_with fail
    refine (next_walk HB1.out hlen).mono ?_
    rintro x w2 ⟨v2, v3, rfl, hF2, hF3, hK2⟩
    obtain ⟨a2, c2, hv2, hc2, hm2, hn2⟩ := hF2
    obtain ⟨a3, c3, hv3, -, -, -⟩ := hF3
    subst hv2 hv3
    have HB2 := hid (FB.bytesIn ⟨a2, c2, rfl, hc2, hm2, hn2⟩)
    have HK2 := hid (HK1.out.trans hK2 (fun _ _ h => h))
    have hs1 := HK1.out.size
    have hs2 := hK2.size
    clear hK2 hn2
    by_cases hf : (nextF b).2.2 = 0
    · have HL2 := hid (show loadF D name = bodyF (nextF b).1 (nextF b).2.1 by rw [HL.out]; unfold fileF; rw [if_pos hf])
      rw [hf]
      obtain ⟨body, hbody⟩ : ∃ x, (nextF b).1 = x := ⟨_, rfl⟩
      obtain ⟨rest, hrest⟩ : ∃ x, (nextF b).2.1 = x := ⟨_, rfl⟩
      rw [hbody, hrest] at HL2
      rw [hbody] at HB2 hc2 ⊢
      rw [hrest]
      clear hf hbody hrest HL
      have hbm : body.length < 9223372036854775808 := by
        have h : maxLen ≤ 9223372036854775807 := by decide
        omega
      go_wp2_with fail
      refine (read_any w2 (bytes_more' HB2.out) (fun i h => h.2)).mono ?_
      rintro x w3 ⟨rfl, hR, hK3⟩
      have HR3 := hid hR
      have HK3 := hid (HK2.out.trans hK3 (fun _ _ h => h))
      have HB3 := hid (HB2.out.keep hK3 (fun _ _ h => h))
      have HK23 := hid hK3
      clear hR hK3
      unfold ptr
      go_wp2_with fail
      refine (int_any HR3.out hbm).mono ?_
      rintro x w4 ⟨rfl, ⟨A4, C4, hR4⟩, hK4⟩
      have hKx := HK3.out.trans hK4 (fun i hi (h : i = w2.heap.size) => by omega)
      have HK4 := hid hKx
      have HB4 := hid ((bytes_more' HB2.out).keep ((HK23.out.mono (G := fun i => i = w2.heap.size) (fun _ _ h => h.elim)).trans hK4 (fun i _ h => h)) (fun i h (e : i = w2.heap.size) => by have := h.2; omega))
      obtain ⟨e1, he1⟩ : ∃ e1, (takeU body).1 = e1 := ⟨_, rfl⟩
      obtain ⟨z, hz⟩ : ∃ z, zag (takeU body).2.1 = z := ⟨_, rfl⟩
      obtain ⟨left, hleft⟩ : ∃ x, (takeU body).2.2 = x := ⟨_, rfl⟩
      have hll := takeU_len body
      have hpos := takeU_pos body
      rw [he1, hleft] at hR4
      rw [hleft] at hll hpos
      rw [he1] at hpos
      rw [hz]
      have HR4 := hid hR4
      have HE := hid he1
      have HZ := hid hz
      have HLF := hid hleft
      clear hR4 hK4 hKx he1 hz hleft
      by_cases hrs : rest.length = 0
      · by_cases he1 : e1 = 0
        · subst he1
          by_cases hz : z < 0
          · have HL3 := hid (show loadF D name = (0, [], 11) by rw [HL2.out]; unfold bodyF; rw [if_pos hrs, HE.out, if_pos rfl, HZ.out, if_pos hz])
            go_wp2_with fail
            refine (err_any HR4.out).mono ?_
            rintro x w5 ⟨rfl, rfl⟩
            go_wp2_with fail
            refine bodyPost_ret (v := _) (results_tmp3 rfl _ _ _) rfl ?_
            exact ⟨_, by rw [HL3.out]; rfl, by rw [HL3.out]; exact none_in _ _, HK4.out⟩
          · have HL3 := hid (show loadF D name = (z, body.drop (body.length - left.length), 0) by rw [HL2.out]; unfold bodyF; rw [if_pos hrs, HE.out, if_pos rfl, HZ.out, if_neg hz, HLF.out])
            have hpos := hpos rfl
            obtain ⟨a, rfl⟩ : ∃ a, a2 = some a := by
              obtain ⟨ao', cap', e', z1, -, z3, z4⟩ := HB4.out.read
              injection e' with q1 _ q3
              subst q1
              cases a2 with
              | none => have := z3 rfl; rw [this] at hpos; simp at hpos
              | some a => exact ⟨a, rfl⟩
            obtain ⟨N, hN⟩ : ∃ N, body.length = N := ⟨_, rfl⟩
            obtain ⟨q, hq⟩ : ∃ q, left.length = q := ⟨_, rfl⟩
            rw [hN, hq] at hll hpos
            rw [hN] at hc2 hbm ⊢
            have HNN := hid hN
            have HQQ := hid hq
            have HLR := hid (show ReaderAt w4 w2.heap.size A4 C4 left 0 _ from HR4.out)
            have hsub : IntKind.i64.wrap ((N : Int) - (q : Int)) = (N : Int) - (q : Int) := IntWalk.i64_in _ (by omega)
            clear hN
            go_wp2_with fail
            refine (err_any HR4.out).mono ?_
            rintro x w5 ⟨rfl, rfl⟩
            go_wp2_with fail
            have p1 : (N : Int) ≤ (c2 : Int) := by omega
            have p2 : (0 : Int) ≤ (N : Int) - (q : Int) := by omega
            have p3 : (N : Int) - (q : Int) ≤ (N : Int) := by omega
            have p4 : ((N : Int) - (q : Int)).toNat = N - q := by omega
            have p5 : max ((N : Int) - (q : Int)) 0 = (N : Int) - (q : Int) := by omega
            have p6 : N - (N - q) = q := by omega
            refine wp_region_heldi [0, 1, 2, 3, 6, 7] 100 6 (fun _ => True) (by kernel_rfl) (by kernel_rfl) (by kernel_rfl) trivial (fun d _ _ _ _ h => by cases d <;> exact h) ?_
            iterate 6 (refine heldI_step rfl rfl (fun w' _ => by (go_simp; with_reducible rfl)) ?_; simp only [Act.put, List.setIfInBounds_toArray, List.set_cons_zero, List.set_cons_succ])
            refine heldI_nil ?_
            refine anyZ_next' (j := 4) (by kernel_rfl) rfl rfl ?_
            go_simp
            have kd := hid (keep_drawn' w5 (w5.drawn + 1))
            have HRd := hid (HR4.out.keep kd.out (fun h => h) (fun _ _ h => h))
            refine (left_any HRd.out).mono ?_
            rw [HQQ.out]
            rintro x w6 ⟨rfl, rfl⟩
            refine heldI_run (t := 0) (by kernel_rfl) (fun d _ _ _ _ h => by cases d <;> exact h) _ trivial [5, 8, 9, 10, 11] _ _ (by kernel_rfl) ?_
            iterate 1 (refine heldI_step rfl rfl (fun w' _ => by (go_simp; with_reducible rfl)) ?_; simp only [Act.put, List.setIfInBounds_toArray, List.set_cons_zero, List.set_cons_succ])
            by_cases hq0 : q = 0
            · subst hq0
              refine heldI_step rfl rfl (fun w' _ => by (go_simp; with_reducible rfl)) ?_
              simp only [Act.put, List.setIfInBounds_toArray, List.set_cons_zero, List.set_cons_succ]
              iterate 3 (refine heldI_step rfl rfl (fun w' _ => by (go_simp; with_reducible rfl)) ?_; simp only [Act.put, List.setIfInBounds_toArray, List.set_cons_zero, List.set_cons_succ])
              refine heldI_nil ?_
              refine anyZ_done (by kernel_rfl) ?_
              have HBf := hid (show BytesIn w5 (.slice (some a) 0 0) (body.drop (body.length - left.length)) (fun i => w.heap.size ≤ i) by rw [HQQ.out, Nat.sub_zero, List.drop_length]; exact ⟨some a, 0, rfl, Nat.le_refl _, Nat.zero_le _, fun _ => rfl, fun b _ j u hj => by simp at hj⟩)
              go_wp2_with fail
              refine bodyPost_ret (v := _) (results_tmp3 rfl _ _ _) rfl ?_
              exact ⟨_, by rw [HL3.out]; rfl, by rw [HL3.out]; exact (HBf.out.keep kd.out (fun _ _ h => h)), HK4.out.trans kd.out (fun _ _ h => h)⟩
            · have p7 : ¬ N = N - q := by omega
              refine heldI_step rfl rfl (fun w' _ => by (go_simp; with_reducible rfl)) ?_
              simp only [Act.put, List.setIfInBounds_toArray, List.set_cons_zero, List.set_cons_succ]
              iterate 3 (refine heldI_step rfl rfl (fun w' _ => by (go_simp; with_reducible rfl)) ?_; simp only [Act.put, List.setIfInBounds_toArray, List.set_cons_zero, List.set_cons_succ])
              refine heldI_nil ?_
              refine anyZ_done (by kernel_rfl) ?_
              have HBf := hid (show BytesIn w5 (.slice (some (a.add (N - q))) q q) (body.drop (body.length - left.length)) (fun i => w.heap.size ≤ i) by rw [HNN.out, HQQ.out]; have h1 := bytes_full (HB4.out.later a rfl (N - q) (by rw [HNN.out]; omega)); rw [HNN.out, p6] at h1; exact bytes_wide h1 (fun i _ h => by have := h.1; omega))
              go_wp2_with fail
              refine bodyPost_ret (v := _) (results_tmp3 rfl _ _ _) rfl ?_
              exact ⟨_, by rw [HL3.out]; rfl, by rw [HL3.out]; exact (HBf.out.keep kd.out (fun _ _ h => h)), HK4.out.trans kd.out (fun _ _ h => h)⟩
        · have HL3 := hid (show loadF D name = (0, [], e1) by rw [HL2.out]; unfold bodyF; rw [if_pos hrs, HE.out, if_neg he1])
          have hen : (e1 != 0) = true := by rw [bne_iff_ne]; exact he1
          go_wp2_with fail
          refine (err_any HR4.out).mono ?_
          rintro x w5 ⟨rfl, rfl⟩
          go_wp2_with fail
          refine (err_any HR4.out).mono ?_
          rintro x w5 ⟨rfl, rfl⟩
          go_wp2_with fail
          refine bodyPost_ret (v := _) (results_tmp3 rfl _ _ _) rfl ?_
          exact ⟨_, by rw [HL3.out]; rfl, by rw [HL3.out]; exact none_in _ _, HK4.out⟩
      · have HL3 := hid (show loadF D name = (0, [], 11) by rw [HL2.out]; unfold bodyF; rw [if_neg hrs])
        have hrp : 0 < rest.length := by omega
        go_wp2_with fail
        refine bodyPost_ret (v := _) (results_tmp3 rfl _ _ _) rfl ?_
        exact ⟨_, by rw [HL3.out]; rfl, by rw [HL3.out]; exact none_in _ _, HK4.out⟩
    · have HL2 := hid (show loadF D name = (0, [], (nextF b).2.2) by rw [HL.out]; unfold fileF; rw [if_neg hf])
      have hfn : ((nextF b).2.2 != 0) = true := by rw [bne_iff_ne]; exact hf
      obtain ⟨c, hc⟩ : ∃ c, (nextF b).2.2 = c := ⟨_, rfl⟩
      rw [hc] at HL2 hfn hf ⊢
      clear hc
      go_wp2_with fail
      refine bodyPost_ret (v := _) (results_tmp3 rfl _ _ _) rfl ?_
      exact ⟨_, by rw [HL2.out]; rfl, by rw [HL2.out]; exact none_in _ _, HK2.out⟩
  · have HL := hid (show loadF D name = (0, [], (Dsk.read D name).2) by unfold loadF; rw [if_neg he])
    have hen : ((Dsk.read D name).2 != 0) = true := by rw [bne_iff_ne]; exact he
    obtain ⟨c, hc⟩ : ∃ c, (Dsk.read D name).2 = c := ⟨_, rfl⟩
    rw [hc] at HL hen he ⊢
    clear hc
    go_wp2_with fail
    refine bodyPost_ret (v := _) (results_tmp3 rfl _ _ _) rfl ?_
    exact ⟨_, by rw [HL.out]; rfl, by rw [HL.out]; exact none_in _ _, HK1.out⟩
end
end Go.Proofs.YtmdibkafjpglkaaGreatDoor.Snp
