/- slices.Clone of bytes; d.Read, walked. -/
import Derived.Test.YtmdibkafjpglkaaGreatDoorDiskAppend2
namespace Go.Proofs.YtmdibkafjpglkaaGreatDoor.Dsk
open Go Go.RowKit Go.Lib

theorem wpList_append_bytes {ops : Array Oper} {rest : List Oper} {o : Oper} {a : Act} {w : World} {Q : Exit → Act → World → Prop} (hgd : o.guard = none) (s x : Operand)
    (ho : o.op = .call { callee := .builtin .append, args := #[s, x], argTypes := #[22, 22] })
    {ao : Option Addr} {n cap : Nat} {l : List UInt8} {F : Nat → Prop} (hfb : FB w (.slice ao n cap) l F) {bo : Option Addr} {m c : Nat} {l2 : List UInt8} {G : Nat → Prop} (hsrc : BytesIn w (.slice bo m c) l2 G)
    (hs : a.eval s = .slice ao n n) (hx : a.eval x = .slice bo m c) (hsz : n + m ≤ 4294967296)
    (hK : ∀ v' w', FB w' v' (l ++ l2) (fun i => F i ∨ w.heap.size ≤ i) → Keep (fun _ => False) w w' → wpList Tryz.prog ops Q rest (a.put o.dst v') w') : wpList Tryz.prog ops Q (o :: rest) a w :=
  wpList_plain hgd fun _ hK' => wp_append_bytes s x ho hfb hsrc hs hx hsz fun v' w' h1 h2 => hK' _ _ (hK v' w' h1 h2)

set_option maxRecDepth 100000 in
set_option maxHeartbeats 1000000 in
theorem clone_any (w : World) {ao : Option Addr} {cap : Nat} {l : List UInt8} {G : Nat → Prop} (h : BytesIn w (.slice ao l.length cap) l G) (hl : l.length ≤ 4294967296) (hnil : ao = none → cap = 0) :
    Calls Tryz.prog 43 #[.slice ao l.length cap] w fun e w' => ∃ v', e = .returned v' ∧ FB w' v' l (fun i => w.heap.size ≤ i) ∧ Keep (fun _ => False) w w' := by
  obtain ⟨ao', cap', hv, h1, h2, h3, -⟩ := h.read
  injection hv with e1 _ e3
  subst e1; subst e3
  have H := hid h
  have hq : ∀ w : World, (binOp BinOp.eql 22 (.slice ao l.length cap) (.slice none 0 0)).run Tryz.prog w = .ok (.bool ao.isNone) w := by
    intro w
    have hu := under_bytes
    obtain ⟨d, hd⟩ : ∃ d, Op.maxDepth = d + 1 := ⟨_, rfl⟩
    cases ao <;> simp [binOp, Op.equal, hd, Op.equalIn, run_underlying hu]
  cases ao with
  | none =>
    have hl0 : l = [] := h3 rfl
    subst hl0
    have hc := hnil rfl
    subst hc
    clear h
    simp only [List.length_nil, Option.isNone_none] at hq ⊢
    go_enter Tryz.func43, Tryz.ntmps43
    go_wp2_with fail
    go_ret
    exact ⟨_, rfl, FB.nil _ _, Keep.refl _ _⟩
  | some b =>
    clear h
    go_enter Tryz.func43, Tryz.ntmps43
    have hbase : FB (w.alloc (.cells #[] 5)) (.slice (some ⟨w.heap.size, 0, none⟩) 0 0) [] (fun i => w.heap.size ≤ i) :=
      ⟨_, _, rfl, Nat.le_refl _, Nat.zero_le _, .inr ⟨w.heap.size, #[], (0, 0), rfl, heap_alloc_new _ _, Nat.le_refl _, rfl, Nat.le_refl _⟩⟩
    have hsrc2 : BytesIn (w.alloc (.cells #[] 5)) (.slice (some b) l.length cap) l G := H.out.keep ((Keep.refl (fun _ => False) w).alloc _) (fun _ _ h => h)
    have HB := hid hbase
    have HS := hid hsrc2
    clear hbase hsrc2
    go_wp2_with ((with_reducible refine at_append ?_); refine wpList_append_bytes rfl _ _ rfl HB.out HS.out rfl rfl (by omega) ?_; intro v' w' q1 q2; have Q1 := hid q1; clear q1; have Q2 := hid q2; clear q2; dsimp only)
    go_ret
    refine ⟨_, rfl, ?_, ((Keep.refl (fun _ => False) w).alloc _).trans Q2.out (fun _ _ h => h)⟩
    have := Q1.out
    simp only [List.nil_append] at this
    exact this.mono fun i hi => hi.elim id (fun h => by simp only [World.size_alloc] at h; omega)

set_option maxRecDepth 100000 in
set_option maxHeartbeats 1000000 in
theorem read_in (w : World) {db mr : Nat} {gs : ByteArray → Nat} {cv : Value} {D : DiskM} {F : Nat → Prop} (h : DiskAt w db mr gs cv D F) (name : ByteArray) :
    Calls Tryz.prog 17 #[ptr db, .string name] w fun e w' => ∃ v', e = .returned (.tuple #[v', .int .i64 (read D name).2]) ∧ FB w' v' (read D name).1 (fun i => w.heap.size ≤ i) ∧ Keep (fun _ => False) w w' := by
  have h1 := h.c1
  have hl := look_any h name
  have HD := hid h
  unfold ptr
  unfold read
  go_enter Tryz.func17, Tryz.ntmps17
  go_wp2_with fail
  refine (down_any w h).mono ?_
  intro e w1 hh
  obtain ⟨he, hw⟩ := hh
  rw [he, hw]
  clear he hw w1 e
  cases hoff : D.off with
  | true =>
    simp only [if_true]
    go_wp2_with fail
    all_goals go_ret2
    all_goals exact ⟨_, rfl, FB.nil _ _, Keep.refl _ _⟩
  | false =>
    simp only [Bool.false_eq_true, if_false]
    go_wp2_with fail
    refine (none_any w h name).mono ?_
    intro e w1 hh
    obtain ⟨he, hw⟩ := hh
    rw [he, hw]
    clear he hw w1 e
    unfold noneE
    cases hm : mhas D.files name with
    | false =>
      simp only [Bool.false_eq_true, if_false]
      go_wp2_with fail
      all_goals go_ret2
      all_goals exact ⟨_, rfl, FB.nil _ _, Keep.refl _ _⟩
    | true =>
      simp only [if_true]
      rw [hm, if_pos rfl] at hl
      obtain ⟨v, hblk, hfb, -⟩ := h.file hm
      have hfb0 := hfb
      obtain ⟨ao, cap, rfl, hcap, hmax, hsh⟩ := hfb
      have c0 : w.cell? ⟨gs name, 0, none⟩ = some (.slice ao (fileOf D.files name).b.length cap) := by rw [cell_at hblk]; rfl
      have hbl : (fileOf D.files name).b.length ≤ 2147483648 := by
        obtain ⟨f, hf⟩ := Option.isSome_iff_exists.1 (show (mget D.files name).isSome = true from hm)
        have := total_mem (mget_mem hf)
        have := h.ok.room
        have := h.ok.small
        unfold fileOf; rw [hf]; simp only [Option.getD_some] at *; omega
      have hC := hid (clone_any w hfb0.bytesIn (by omega) (fun e => by
        rcases hsh with hs | ⟨g, cs, fr, e2, -⟩
        · exact hs.2
        · rw [e] at e2; cases e2))
      clear hfb0 hsh hblk h
      unfold ptr at hl
      go_wp2_with fail
      refine hC.out.mono ?_
      rintro e w1 ⟨v', rfl, hF, hK⟩
      have HF := hid hF
      have HK := hid hK
      clear hF hK hC
      go_wp2_with fail
      all_goals go_ret2
      all_goals exact ⟨v', rfl, HF.out, HK.out⟩

/-- d.Read(name). -/
theorem read_any (w : World) {db : Nat} {D : DiskM} {F : Nat → Prop} (h : IsDisk w db D F) (name : ByteArray) :
    Calls Tryz.prog 17 #[ptr db, .string name] w fun e w' => ∃ v', e = .returned (.tuple #[v', .int .i64 (read D name).2]) ∧ FB w' v' (read D name).1 (fun i => w.heap.size ≤ i) ∧ Keep (fun _ => False) w w' := by
  obtain ⟨mr, gs, cv, h⟩ := h
  exact read_in w h name

theorem IsDisk.keep {w w' : World} {db : Nat} {D : DiskM} {F G : Nat → Prop} (h : IsDisk w db D F) (k : Keep G w w') (hd : ∀ i, F i → ¬ G i) : IsDisk w' db D F := by
  obtain ⟨mr, gs, cv, h⟩ := h
  exact ⟨mr, gs, cv, h.keep k hd⟩

end Go.Proofs.YtmdibkafjpglkaaGreatDoor.Dsk
