/- wal.Open, walked. -/
import Derived.Test.YtbjjohfpdphpfaaDoorWalOps
namespace Go.Proofs.YtbjjohfpdphpfaaDoor.Wal
open Go Go.RowKit Go.Lib Go.Proofs.YtbjjohfpdphpfaaDoor.Dsk Go.Proofs.YtbjjohfpdphpfaaDoor.Frm

/-- The slice of slices reads as ls; all it hangs on is G's. -/
structure RowsG (w : World) (v : Value) (ls : List (List UInt8)) (G : Nat → Prop) : Prop where
  rows : ∃ ao cap, v = .slice ao ls.length cap ∧ (ao = none → ls = []) ∧ ∀ a, ao = some a → ∀ r l, ls[r]? = some l → G a.block ∧ a.block < w.heap.size ∧ ∃ A C, w.cell? (a.add r) = some (.slice A l.length C) ∧ BytesIn w (.slice A l.length C) l G

theorem add_block (a : Addr) (j : Nat) : (a.add j).block = a.block := by unfold Addr.add; split <;> rfl
theorem RowsG.keep {w w' : World} {v : Value} {ls : List (List UInt8)} {F G : Nat → Prop} (h : RowsG w v ls G) (k : Keep F w w') (hd : ∀ i, G i → ¬ F i) : RowsG w' v ls G := by
  obtain ⟨ao, cap, e, h1, h2⟩ := h.rows
  refine ⟨ao, cap, e, h1, fun a ha r l hr => ?_⟩
  obtain ⟨g1, g2, A, C, hc, hB⟩ := h2 a ha r l hr
  exact ⟨g1, Nat.lt_of_lt_of_le g2 k.size, A, C, by rw [k.cell (by rw [add_block]; exact g2) (by rw [add_block]; exact hd _ g1)]; exact hc, hB.keep k hd⟩
theorem bytes_mono {w : World} {v : Value} {l : List UInt8} {G G' : Nat → Prop} (h : BytesIn w v l G) (hG : ∀ i, i < w.heap.size → G i → G' i) : BytesIn w v l G' := by
  obtain ⟨ao, cap, e, h1, h2, h3, h4⟩ := h.read
  exact ⟨ao, cap, e, h1, h2, h3, fun b hb j u hj => ⟨(h4 b hb j u hj).1, (h4 b hb j u hj).2.1, hG _ (h4 b hb j u hj).2.1 (h4 b hb j u hj).2.2⟩⟩
theorem RowsG.mono {w : World} {v : Value} {ls : List (List UInt8)} {G G' : Nat → Prop} (h : RowsG w v ls G) (hG : ∀ i, i < w.heap.size → G i → G' i) : RowsG w v ls G' := by
  obtain ⟨ao, cap, e, h1, h2⟩ := h.rows
  refine ⟨ao, cap, e, h1, fun a ha r l hr => ?_⟩
  obtain ⟨g1, g2, A, C, hc, hB⟩ := h2 a ha r l hr
  exact ⟨hG _ g2 g1, g2, A, C, hc, bytes_mono hB hG⟩
theorem RowsG.nil (w : World) (G : Nat → Prop) : RowsG w (.slice none 0 0) [] G := ⟨none, 0, rfl, fun _ => rfl, fun a ha => by cases ha⟩
theorem rows_of_own {w : World} {base : Nat} {o : Value} {ls : List (List UInt8)} (h : BodyRows w base o ls) : RowsG w o ls (fun i => base ≤ i) := by
  obtain ⟨cs, hown, hfb⟩ := h
  rcases own_cell hown with ⟨rfl, h0, -⟩ | ⟨g, cap, rfl, hg, hn, -, hlt, hl, hc⟩
  · obtain rfl : ls = [] := List.eq_nil_of_length_eq_zero h0
    exact RowsG.nil _ _
  · refine ⟨some ⟨g, 0, none⟩, cap, rfl, (fun e => by cases e), fun a ha r l hr => ?_⟩
    obtain rfl := Option.some.inj ha
    have hrl : r < cs.length := by have := (List.getElem?_eq_some_iff.1 hr).1; omega
    have hF := hfb r cs[r] l (List.getElem?_eq_getElem hrl) hr
    obtain ⟨A, C, hv, -, -⟩ := hF.slice
    refine ⟨hg, hlt, A, C, ?_, ?_⟩
    · rw [addr_add0, hc r hrl, hv]
    · rw [← hv]; exact hF.bytesIn

/-- The log that a call hands back. -/
def LogV (w : World) (db : Nat) (Y : Nat → Prop) (low : Nat) (lv : Value) : Option LogM → Prop
  | none => lv = .pointer none
  | some L => ∃ lb, lv = ptr lb ∧ LogAt w lb db L ∧ Y lb ∧ low ≤ lb

/-- What an opening leaves. -/
def OpenPost (n db : Nat) (X : Nat → Prop) (w : World) (r : Opened) (e : Ending) (w' : World) : Prop :=
  ∃ lv o Y, e = .returned (.tuple #[lv, o, .int .i64 r.e]) ∧ (∀ i, X i → Y i) ∧ (∀ i, Y i → i < w'.heap.size) ∧ (∀ i, Y i → X i ∨ w.heap.size ≤ i) ∧ Held n Y w' db r.D ∧ LogV w' db Y w.heap.size lv r.log ∧ RowsG w' o r.bodies Y ∧ Keep (fun i => n ≤ i ∧ i < w.heap.size ∧ ¬ X i) w w'

theorem Held.alloc {n db : Nat} {X : Nat → Prop} {w : World} {D : DiskM} (h : Held n X w db D) (o : Obj) : Held n (fun i => X i ∨ i = w.heap.size) (w.alloc o) db D := by
  obtain ⟨mr, gs, cv, h⟩ := h
  exact ⟨mr, gs, cv, (h.alloc o).mono fun i hi => ⟨hi.1, by simp; omega, fun hx => hx.elim hi.2.2 (fun e => by omega)⟩⟩

/-- .. without a log. -/
theorem open_none {n db : Nat} {X : Nat → Prop} {w w' : World} {D : DiskM} {e : Int} (hX : ∀ i, X i → i < w.heap.size) (h : Held n X w' db D) (k : Keep (fun i => n ≤ i ∧ i < w.heap.size ∧ ¬ X i) w w') : OpenPost n db X w ⟨D, none, [], e⟩ (.returned (.tuple #[.pointer none, .slice none 0 0, .int .i64 e])) w' :=
  ⟨_, _, X, rfl, fun _ h => h, fun i hi => Nat.lt_of_lt_of_le (hX i hi) k.size, fun _ h => .inl h, h, rfl, RowsG.nil _ _, k⟩

/-- .. with a log. -/
theorem open_some {n db : Nat} {X X3 : Nat → Prop} {w wk : World} {D : DiskM} {name : ByteArray} {bs : List (List UInt8)} {o : Value} (hs : w.heap.size ≤ wk.heap.size) (hXX : ∀ i, X i → X3 i) (hX3 : ∀ i, X3 i → i < wk.heap.size) (hX3w : ∀ i, X3 i → X i ∨ w.heap.size ≤ i) (h : Held n X3 wk db D) (hr : RowsG wk o bs X3) (k : Keep (fun i => n ≤ i ∧ i < w.heap.size ∧ ¬ X i) w wk) :
    OpenPost n db X w ⟨D, some ⟨0, name, bs.length, 0⟩, bs, 0⟩ (.returned (.tuple #[ptr wk.heap.size, o, .int .i64 0])) (wk.alloc (.cells #[.int .i64 0, ptr db, .string name, .int .i64 (bs.length : Int), .int .i64 0] 82)) := by
  have ka := (Keep.refl (fun _ => False) wk).alloc (.cells #[.int .i64 0, ptr db, .string name, .int .i64 (bs.length : Int), .int .i64 0] 82)
  refine ⟨_, o, fun i => X3 i ∨ i = wk.heap.size, rfl, fun i hi => .inl (hXX i hi), fun i hi => ?_, fun i hi => ?_, h.alloc _, ⟨_, rfl, heap_alloc_new wk _, .inr rfl, hs⟩, (hr.keep ka (fun _ _ h => h)).mono (fun i _ h => .inl h), k.trans ka (fun _ _ h => h.elim)⟩
  · simp only [World.size_alloc]
    rcases hi with hi | hi
    · have := hX3 i hi; omega
    · omega
  · rcases hi with hi | hi
    · exact hX3w i hi
    · exact .inr (by omega)

theorem read_len {n db : Nat} {X : Nat → Prop} {w : World} {D : DiskM} (h : Held n X w db D) (name : ByteArray) : (read D name).1.length ≤ 2147483648 := by
  obtain ⟨mr, gs, cv, h⟩ := h
  unfold Dsk.read
  split
  · simp
  · split
    · rename_i hm
      obtain ⟨f, hf⟩ := Option.isSome_iff_exists.1 (show (mget D.files name).isSome = true from hm)
      have := total_mem (mget_mem hf)
      have := h.ok.room
      have := h.ok.small
      unfold fileOf; rw [hf]; simp only [Option.getD_some] at *; omega
    · simp
theorem split_le (b : List UInt8) : (Frm.split b).2 ≤ b.length ∧ (Frm.split b).1.length ≤ b.length := by
  have : ∀ k b, (splitF k b).2 ≤ b.length ∧ (splitF k b).1.length ≤ b.length := by
    intro k
    induction k with
    | zero => intro b; simp [splitF]
    | succ k ih =>
      intro b
      unfold splitF
      split
      · rename_i hf
        have h2 := firstE_ok hf
        have h3 := ih (b.drop (num b + 8))
        simp only [List.length_drop, List.length_cons] at h3 ⊢
        omega
      · simp
  exact this _ _

theorem fb_here {w : World} {v : Value} {l : List UInt8} {F : Nat → Prop} (h : FB w v l F) : FB w v l (fun i => F i ∧ i < w.heap.size) := by
  obtain ⟨ao, cap, hv, h1, h2, h3⟩ := h
  refine ⟨ao, cap, hv, h1, h2, ?_⟩
  rcases h3 with h3 | ⟨g, cs, fr, e, hg, r1, r2, hf⟩
  · exact .inl h3
  · exact .inr ⟨g, cs, fr, e, hg, r1, r2, hf, lt_of_block hg⟩
theorem rows_slice {w : World} {v : Value} {ls : List (List UInt8)} {G : Nat → Prop} (h : RowsG w v ls G) : ∃ ao cap, v = .slice ao ls.length cap := by
  obtain ⟨ao, cap, e, -⟩ := h.rows
  exact ⟨ao, cap, e⟩

set_option maxRecDepth 100000 in
set_option maxHeartbeats 4000000 in
theorem wal_open {n db : Nat} {X : Nat → Prop} {w : World} {D : DiskM} (h : Held n X w db D) (hn : n ≤ w.heap.size) (hX : ∀ i, X i → i < w.heap.size) (name : ByteArray) :
    Calls Tryd.prog 32 #[ptr db, .string name] w (OpenPost n db X w (walOpen D name)) := by
  have hrl := read_len h name
  have hsl := split_le (read D name).1
  have H := hid h
  clear h
  unfold walOpen
  unfold ptr
  cases hm : isName name.toList with
  | false =>
    rw [if_neg (by simp)]
    go_enter Tryd.func32, Tryd.ntmps32
    go_wp2_with fail
    refine (wmay_any w name).mono ?_
    rintro e w1 ⟨rfl, hK⟩
    rw [hm]
    have HK := hid hK
    clear hK
    go_wp2_with fail
    refine bodyPost_ret (results_tmp3 rfl _ _ _) rfl ?_
    exact open_none hX (H.out.keep HK.out (fun _ h => h.elim)) (HK.out.mono fun _ _ h => h.elim)
  | true =>
    rw [if_pos rfl]
    by_cases hr : (read D name).2 = 71
    · rw [if_pos hr]
      go_enter Tryd.func32, Tryd.ntmps32
      go_wp2_with fail
      refine (wmay_any w name).mono ?_
      rintro e w1 ⟨rfl, hK⟩
      rw [hm]
      have HK := hid hK
      clear hK
      go_wp2_with fail
      refine (held_read (H.out.keep HK.out (fun _ h => h.elim)) name).mono ?_
      rintro e w2 ⟨v', rfl, -, hK2⟩
      rw [hr]
      have HK2 := hid (HK.out.trans hK2 (fun _ _ h => h))
      clear hK2
      go_wp2_with fail
      refine bodyPost_ret (results_tmp3 rfl _ _ _) rfl ?_
      exact open_none hX (H.out.keep HK2.out (fun _ h => h.elim)) (HK2.out.mono fun _ _ h => h.elim)
    · rw [if_neg hr]
      obtain ⟨b, hb⟩ : ∃ b, (Dsk.read D name).1 = b := ⟨_, rfl⟩
      obtain ⟨er, her⟩ : ∃ er, (Dsk.read D name).2 = er := ⟨_, rfl⟩
      rw [hb] at hrl hsl ⊢
      rw [her] at hr
      obtain ⟨bs, p, hsp⟩ : ∃ bs p, Frm.split b = (bs, p) := ⟨_, _, rfl⟩
      rw [hsp] at hsl ⊢
      simp only at hsl ⊢
      have HB := hid hb
      have HER := hid her
      have HSP := hid hsp
      have herb : (er == 71) = false := by rw [beq_eq_false_iff_ne]; exact hr
      clear hb her hsp
      by_cases hlt : p < b.length
      · rw [if_pos hlt]
        by_cases hq : (shorten D name (p : Int)).2 = 0
        · rw [if_pos hq]
          go_enter Tryd.func32, Tryd.ntmps32
          go_wp2_with fail
          refine (wmay_any w name).mono ?_
          rintro e w1 ⟨rfl, hK⟩
          rw [hm]
          have HK := hid hK
          clear hK
          go_wp2_with fail
          refine (held_read (H.out.keep HK.out (fun _ h => h.elim)) name).mono ?_
          rintro e w2 ⟨v', rfl, hF, hK2⟩
          rw [HB.out] at hF
          rw [HER.out]
          have HK2 := hid (HK.out.trans hK2 (fun _ _ h => h))
          have HF := hid hF
          obtain ⟨aob, capb, hv', -, -⟩ := hF.slice
          subst hv'
          clear hF hK2
          go_wp2_with fail
          refine (split_any w2 (fb_here HF.out) (fun i hi => hi.2) (by omega)).mono ?_
          rintro e w3 ⟨o, rfl, hR, hK3⟩
          rw [HSP.out] at hR ⊢
          have HR := hid hR
          have HK3 := hid (HK2.out.trans hK3 (fun _ _ h => h))
          have hs2 := HK2.out.size
          have hs3 := HK3.out.size
          obtain ⟨aoo, capo, hvo⟩ := rows_slice (rows_of_own hR)
          subst hvo
          clear hR hK3
          have HX3 := hid ((H.out.grow HK3.out (fun _ h => h.elim)).mono (Y := fun i => X i ∨ (w.heap.size ≤ i ∧ i < w3.heap.size)) (fun i _ hi => hi.imp id (fun h => h.1)))
          go_wp2_with fail
          refine (held_shorten HX3.out (by omega) (fun i hi => hi.elim (fun h => Nat.lt_of_lt_of_le (hX i h) hs3) (fun h => h.2)) name (p : Int) (by omega)).mono ?_
          rintro e w4 ⟨rfl, hH4, hK4⟩
          have HH4 := hid hH4
          have HK4 := hid (show Keep (fun i => n ≤ i ∧ i < w.heap.size ∧ ¬ X i) w w4 from (HK3.out.mono (fun _ _ h => h.elim)).trans hK4 (fun i hi h => ⟨h.1, hi, fun hx => h.2.2 (.inl hx)⟩))
          have HR4 := hid (((rows_of_own HR.out).mono (G' := fun i => X i ∨ (w.heap.size ≤ i ∧ i < w3.heap.size)) (fun i hi h => .inr ⟨by omega, hi⟩)).keep hK4 (fun i hi h => h.2.2 hi))
          have hs4 := hK4.size
          clear hH4 hK4 HX3
          rw [hq]
          go_wp2_with fail
          refine bodyPost_ret (results_tmp3 rfl _ _ _) rfl ?_
          exact open_some (X3 := fun i => X i ∨ (w.heap.size ≤ i ∧ i < w3.heap.size)) (by omega) (fun _ h => .inl h) (fun i hi => hi.elim (fun h => by have := hX i h; omega) (fun h => by omega)) (fun i hi => hi.imp id (fun h => h.1)) HH4.out HR4.out HK4.out
        · rw [if_neg hq]
          go_enter Tryd.func32, Tryd.ntmps32
          go_wp2_with fail
          refine (wmay_any w name).mono ?_
          rintro e w1 ⟨rfl, hK⟩
          rw [hm]
          have HK := hid hK
          clear hK
          go_wp2_with fail
          refine (held_read (H.out.keep HK.out (fun _ h => h.elim)) name).mono ?_
          rintro e w2 ⟨v', rfl, hF, hK2⟩
          rw [HB.out] at hF
          rw [HER.out]
          have HK2 := hid (HK.out.trans hK2 (fun _ _ h => h))
          have HF := hid hF
          obtain ⟨aob, capb, hv', -, -⟩ := hF.slice
          subst hv'
          clear hF hK2
          go_wp2_with fail
          refine (split_any w2 (fb_here HF.out) (fun i hi => hi.2) (by omega)).mono ?_
          rintro e w3 ⟨o, rfl, hR, hK3⟩
          rw [HSP.out] at hR ⊢
          have HR := hid hR
          have HK3 := hid (HK2.out.trans hK3 (fun _ _ h => h))
          have hs2 := HK2.out.size
          have hs3 := HK3.out.size
          obtain ⟨aoo, capo, hvo⟩ := rows_slice (rows_of_own hR)
          subst hvo
          clear hR hK3
          have HX3 := hid ((H.out.grow HK3.out (fun _ h => h.elim)).mono (Y := fun i => X i ∨ (w.heap.size ≤ i ∧ i < w3.heap.size)) (fun i _ hi => hi.imp id (fun h => h.1)))
          go_wp2_with fail
          refine (held_shorten HX3.out (by omega) (fun i hi => hi.elim (fun h => Nat.lt_of_lt_of_le (hX i h) hs3) (fun h => h.2)) name (p : Int) (by omega)).mono ?_
          rintro e w4 ⟨rfl, hH4, hK4⟩
          have HH4 := hid hH4
          have HK4 := hid (show Keep (fun i => n ≤ i ∧ i < w.heap.size ∧ ¬ X i) w w4 from (HK3.out.mono (fun _ _ h => h.elim)).trans hK4 (fun i hi h => ⟨h.1, hi, fun hx => h.2.2 (.inl hx)⟩))
          have HR4 := hid (((rows_of_own HR.out).mono (G' := fun i => X i ∨ (w.heap.size ≤ i ∧ i < w3.heap.size)) (fun i hi h => .inr ⟨by omega, hi⟩)).keep hK4 (fun i hi h => h.2.2 hi))
          have hs4 := hK4.size
          clear hH4 hK4 HX3
          obtain ⟨c, hcv⟩ : ∃ c, (shorten D name (p : Int)).2 = c := ⟨_, rfl⟩
          rw [hcv] at hq ⊢
          have HCV := hid hcv
          clear hcv
          have hqb : (c != 0) = true := by rw [bne_iff_ne]; exact hq
          go_wp2_with fail
          refine bodyPost_ret (results_tmp3 rfl _ _ _) rfl ?_
          rw [HCV.out]
          exact open_none hX (HH4.out.mono fun i _ h => .inl h) HK4.out
      · rw [if_neg hlt]
        go_enter Tryd.func32, Tryd.ntmps32
        go_wp2_with fail
        refine (wmay_any w name).mono ?_
        rintro e w1 ⟨rfl, hK⟩
        rw [hm]
        have HK := hid hK
        clear hK
        go_wp2_with fail
        refine (held_read (H.out.keep HK.out (fun _ h => h.elim)) name).mono ?_
        rintro e w2 ⟨v', rfl, hF, hK2⟩
        rw [HB.out] at hF
        rw [HER.out]
        have HK2 := hid (HK.out.trans hK2 (fun _ _ h => h))
        have HF := hid hF
        obtain ⟨aob, capb, hv', -, -⟩ := hF.slice
        subst hv'
        clear hF hK2
        go_wp2_with fail
        refine (split_any w2 (fb_here HF.out) (fun i hi => hi.2) (by omega)).mono ?_
        rintro e w3 ⟨o, rfl, hR, hK3⟩
        rw [HSP.out] at hR ⊢
        have HR := hid hR
        have HK3 := hid (HK2.out.trans hK3 (fun _ _ h => h))
        have hs2 := HK2.out.size
        have hs3 := HK3.out.size
        obtain ⟨aoo, capo, hvo⟩ := rows_slice (rows_of_own hR)
        subst hvo
        clear hR hK3
        go_wp2_with fail
        refine bodyPost_ret (results_tmp3 rfl _ _ _) rfl ?_
        exact open_some (X3 := fun i => X i ∨ (w.heap.size ≤ i ∧ i < w3.heap.size)) (by omega) (fun _ h => .inl h) (fun i hi => hi.elim (fun h => by have := hX i h; omega) (fun h => by omega)) (fun i hi => hi.imp id (fun h => h.1)) ((H.out.grow HK3.out (fun _ h => h.elim)).mono (fun i _ hi => hi.imp id (fun h => h.1))) ((rows_of_own HR.out).mono (fun i hi h => .inr ⟨by omega, hi⟩)) (HK3.out.mono fun _ _ h => h.elim)

end Go.Proofs.YtbjjohfpdphpfaaDoor.Wal
