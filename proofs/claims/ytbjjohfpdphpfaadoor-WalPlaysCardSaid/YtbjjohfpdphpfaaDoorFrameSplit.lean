/- frame.Split, walked. -/
import Derived.Test.YtbjjohfpdphpfaaDoorFrameIter
import Derived.Test.YtbjjohfpdphpfaaDoorDiskRead
namespace Go.Proofs.YtbjjohfpdphpfaaDoor.Frm
open Go Go.RowKit Go.Lib Go.Shelf Go.Proofs.YtbjjohfpdphpfaaDoor.Dsk
attribute [local go_sem] Oper.semAt_some

theorem info_row : (Tryd.prog.info? 33).map (fun i => (i.zero, i.size, i.bytes)) = some (some (.slice none 0 0), 1, 24) := by kernel_rfl
theorem under_rows : Tryd.prog.underlying 34 = some (.slice 33) := by kernel_rfl

/-- A row of rows of bytes, all of one's own. -/
def BodyRows (w : World) (base : Nat) (o : Value) (ls : List (List UInt8)) : Prop :=
  ∃ cs : List Value, w.ownsRow base 33 1 o ls.length cs ∧ ∀ (j : Nat) (c : Value) (l : List UInt8), cs[j]? = some c → ls[j]? = some l → FB w c l (fun i => base ≤ i)

def endOf (xs : List (Nat × Nat)) : Nat := match xs.getLast? with | none => 0 | some s => s.1 + s.2 + 4
theorem IsRun.endOf {b : List UInt8} {xs : List (Nat × Nat)} {p : Nat} (h : IsRun b xs p) : endOf xs = p := by
  cases h with
  | nil => rfl
  | snoc _ _ => simp [Frm.endOf]; omega

theorem grown_cells {W W' : World} {row : Option Nat} (hg : W.grownBy W' row) (hr : ∀ r, row = some r → ∃ o : Obj, W.heap[r]? = some o ∧ o.isCells = false) {k : Nat} {cs : Array Value} {t : TypeId} {fr : Nat × Nat} (hk : W.heap[k]? = some (.cells cs t fr)) : W'.heap[k]? = some (.cells cs t fr) :=
  (hg.block k (lt_of_block hk) (fun e => by
    obtain ⟨o, ho, hc⟩ := hr k e.symm
    rw [hk] at ho
    cases ho
    cases hc)).trans hk
theorem _root_.Go.Proofs.YtbjjohfpdphpfaaDoor.Dsk.FB.grown {W W' : World} {row : Option Nat} {v : Value} {l : List UInt8} {F : Nat → Prop} (h : FB W v l F) (hg : W.grownBy W' row) (hr : ∀ r, row = some r → ∃ o : Obj, W.heap[r]? = some o ∧ o.isCells = false) : FB W' v l F := by
  obtain ⟨ao, cap, hv, h1, h2, h3⟩ := h
  refine ⟨ao, cap, hv, h1, h2, ?_⟩
  rcases h3 with h3 | ⟨g, cs, fr, e, hg', r1, r2, hf⟩
  · exact .inl h3
  · exact .inr ⟨g, cs, fr, e, grown_cells hg hr hg', r1, r2, hf⟩
theorem row_grown {W W' : World} {row : Option Nat} {base n : Nat} {e : TypeId} {v : Value} {xs : List Value} (h : W.ownsRow base e 1 v n xs) (hg : W.grownBy W' row) (hr : ∀ r, row = some r → ∃ o : Obj, W.heap[r]? = some o ∧ o.isCells = false) : W'.ownsRow base e 1 v n xs := by
  obtain ⟨h1, h2⟩ := h
  refine ⟨h1, ?_⟩
  rcases h2 with h2 | ⟨g, cap, cur, hv, hb, hh, r⟩
  · exact .inl h2
  · exact .inr ⟨g, cap, cur, hv, hb, grown_cells hg hr hh, r⟩
theorem BodyRows.grown {W W' : World} {row : Option Nat} {base : Nat} {o : Value} {ls : List (List UInt8)} (h : BodyRows W base o ls) (hg : W.grownBy W' row) (hr : ∀ r, row = some r → ∃ o : Obj, W.heap[r]? = some o ∧ o.isCells = false) : BodyRows W' base o ls := by
  obtain ⟨cs, h1, h2⟩ := h
  exact ⟨cs, row_grown h1 hg hr, fun j c l hc hl => (h2 j c l hc hl).grown hg hr⟩
theorem BodyRows.keep {W W' : World} {base : Nat} {o : Value} {ls : List (List UInt8)} {F : Nat → Prop} (h : BodyRows W base o ls) (k : Keep F W W') (hF : ∀ i, base ≤ i → ¬ F i) : BodyRows W' base o ls := by
  obtain ⟨cs, h1, h2⟩ := h
  refine ⟨cs, ?_, fun j c l hc hl => (h2 j c l hc hl).keep k hF⟩
  obtain ⟨q1, q2⟩ := h1
  refine ⟨q1, ?_⟩
  rcases q2 with q2 | ⟨g, cap, cur, hv, hb, hh, r⟩
  · exact .inl q2
  · exact .inr ⟨g, cap, cur, hv, hb, k.at hh (hF g hb), r⟩

theorem BodyRows.low {W : World} {base base' : Nat} {o : Value} {ls : List (List UInt8)} (h : BodyRows W base o ls) (hb : base' ≤ base) : BodyRows W base' o ls := by
  obtain ⟨cs, ⟨q1, q2⟩, h2⟩ := h
  refine ⟨cs, ⟨q1, ?_⟩, fun j c l hc hl => (h2 j c l hc hl).mono fun i hi => Nat.le_trans hb hi⟩
  rcases q2 with q2 | ⟨g, cap, cur, hv, hg, r⟩
  · exact .inl q2
  · exact .inr ⟨g, cap, cur, hv, Nat.le_trans hb hg, r⟩

theorem frames_any (w : World) (ao : Option Addr) (n cap : Nat) : Calls Tryd.prog 69 #[.slice ao n cap] w fun e w' => e = .returned (.func (.func 79) #[] #[ptr w.heap.size]) ∧ w' = w.alloc (.cells #[.slice ao n cap] 33) := by
  have hmf : ∀ (fn : Fn) (first cap : Array Value) (w : World), (Instr.makeFunc fn first cap).run Tryd.prog w = .ok (.func fn first cap) w := fun _ _ _ _ => rfl
  unfold ptr
  go_enter Tryd.func69, Tryd.ntmps69
  go_wp2_with fail
  go_ret
  exact ⟨rfl, rfl⟩

theorem wp_append_run {o : Oper} {a : Act} {w w' : World} {K : Act → World → Prop} {Q : Exit → Act → World → Prop} (s x : Operand) (t u : TypeId)
    (ho : o.op = .call { callee := .builtin .append, args := #[s, x], argTypes := #[t, u] }) {sv xv v' : Value} (hs : a.eval s = sv) (hx : a.eval x = xv) (hr : (Builtin.append_ #[t, u] o.type #[sv, xv]).run Tryd.prog w = .ok v' w') (hK : K (a.put o.dst v') w') : Oper.wp Tryd.prog o a w K Q := by
  unfold Oper.wp execOp
  simp only [ho, resolve, invoke, builtin, Sem.run_bind, Sem.run_pure, Result.andThen_ok, List.map_toArray, List.map_cons, List.map_nil, hs, hx, hr, Oper.upon_value]
  exact hK

/-- What the loop keeps. -/
def Kf (B : Nat) : Nat → Prop := fun i => i = B ∨ i = B + 1 ∨ B + 3 ≤ i
/-- What stands between two rounds. -/
def SplitI (B : Nat) (b : List UInt8) (w0 : World) (pre : List (Spot b)) (W : World) : Prop :=
  (∃ v, W.heap[B]? = some (.cells #[v] 34 (0, 0)) ∧ BodyRows W (B + 3) v (pre.map fun s => bodyAt b s.1)) ∧ W.heap[B + 1]? = some (.cells #[.int .i64 (endOf (pre.map (·.1)) : Int)] 3 (0, 0)) ∧ Keep (Kf B) w0 W

theorem splitI_own {B : Nat} {b : List UInt8} {w0 : World} (hs : w0.heap.size = B + 3) : OwnFrom w0.heap.size (SplitI B b w0) := by
  rintro pre W W' row ⟨⟨v, h1, h2⟩, h3, h4⟩ hg hr
  have hr' : ∀ r, row = some r → ∃ o : Obj, W.heap[r]? = some o ∧ o.isCells = false := fun r e => (hr r e).2
  exact ⟨⟨v, grown_cells hg hr' h1, h2.grown hg hr'⟩, grown_cells hg hr' h3, h4.trans (keep_grown (F := Kf B) hg fun g e => .inr (.inr (by have := (hr g e).1; omega))) (fun _ _ h => h)⟩

theorem fb_grown {W W' : World} {row : Option Nat} {v : Value} {l : List UInt8} {F : Nat → Prop} (h : FB W v l F) (hg : W.grownBy W' row) (hr : ∀ r, row = some r → NotOf W r 5) : FB W' v l F := by
  obtain ⟨ao, cap, hv, h1, h2, h3⟩ := h
  refine ⟨ao, cap, hv, h1, h2, ?_⟩
  rcases h3 with h3 | ⟨g, cs, fr, e, hg', r1, r2, hf⟩
  · exact .inl h3
  · exact .inr ⟨g, cs, fr, e, (hg.block g (lt_of_block hg') (fun e => hr g e.symm _ _ hg')).trans hg', r1, r2, hf⟩

theorem clone_at (w : World) {ao : Option Addr} {n cap : Nat} {l : List UInt8} {G : Nat → Prop} (h : BytesIn w (.slice ao n cap) l G) (hl : l.length ≤ 4294967296) (hnil : ao = none → cap = 0) :
    Calls Tryd.prog 52 #[.slice ao n cap] w fun e w' => ∃ v', e = .returned v' ∧ FB w' v' l (fun i => w.heap.size ≤ i) ∧ Keep (fun _ => False) w w' := by
  obtain rfl := h.len
  exact clone_any w h hl hnil

theorem others_keep {W W' : World} (h : Keep (fun _ => False) W W') : KeepsOthers W W' := ⟨h.size, fun _ _ hk _ => h.at hk (fun h => h)⟩
theorem others_grown {W W' : World} {row : Option Nat} (hg : W.grownBy W' row) (hr : ∀ r, row = some r → ∃ cs t fr, W.heap[r]? = some (.cells cs t fr)) : KeepsOthers W W' :=
  ⟨hg.size, fun k o hk ho => (hg.block k (lt_of_block hk) (fun e => by
    obtain ⟨cs, t, fr, h⟩ := hr k e.symm
    rw [hk] at h
    cases h
    cases ho)).trans hk⟩

theorem round_end {B : Nat} {b : List UInt8} {w0 W w2 w4 : World} {pre : List (Spot b)} {x : Spot b} {v v' c : Value} {cs : List Value} {e e' : Int} {n : Nat} (hs0 : w0.heap.size = B + 3)
    (h1 : W.heap[B]? = some (.cells #[v] 34 (0, 0))) (hn : n = pre.length) (hown : W.ownsRow (B + 3) 33 1 v n cs) (hfb : ∀ (j : Nat) (c : Value) (l : List UInt8), cs[j]? = some c → (pre.map fun s => bodyAt b s.1)[j]? = some l → FB W c l (fun i => B + 3 ≤ i))
    (h3 : W.heap[B + 1]? = some (.cells #[.int .i64 e] 3 (0, 0))) (h4 : Keep (Kf B) w0 W) (k2 : Keep (fun _ => False) W w2) (hF : FB w2 c (bodyAt b x.1) (fun i => W.heap.size ≤ i))
    (hown' : w4.ownsRow (B + 3) 33 1 v' (n + 1) (cs ++ [c])) (hg : (w2.alloc (.cells #[c] 33)).grownBy w4 v.ownBlock) (he : e' = (x.1.1 : Int) + (x.1.2 : Int) + 4) :
    KeepsOthers W ((w4.setCell ⟨B, 0, none⟩ v').setCell ⟨B + 1, 0, none⟩ (.int .i64 e')) ∧ Keep (Kf B) W ((w4.setCell ⟨B, 0, none⟩ v').setCell ⟨B + 1, 0, none⟩ (.int .i64 e')) ∧ SplitI B b w0 (pre ++ [x]) ((w4.setCell ⟨B, 0, none⟩ v').setCell ⟨B + 1, 0, none⟩ (.int .i64 e')) := by
  have hsW := h4.size
  have hob : ∀ g, v.ownBlock = some g → B + 3 ≤ g ∧ ∃ cs t fr, W.heap[g]? = some (.cells cs t fr) := by
    intro g hgv
    rcases hown.2 with ⟨rfl, -⟩ | ⟨g', cap, cur, rfl, hb, hh, -⟩
    · cases hgv
    · obtain rfl := Option.some.inj hgv
      exact ⟨hb, _, _, _, hh⟩
  have hnot : ∀ r, v.ownBlock = some r → NotOf (w2.alloc (.cells #[c] 33)) r 5 := by
    intro r hr
    rcases hown.2 with ⟨rfl, -⟩ | ⟨g', cap, cur, rfl, hb, hh, -⟩
    · cases hr
    · obtain rfl := Option.some.inj hr
      exact notOf_cells ((k2.alloc (.cells #[c] 33)).at hh (fun h => h)) (by decide)
  have ka : Keep (fun _ => False) W (w2.alloc (.cells #[c] 33)) := k2.alloc _
  have k4 : Keep (fun i => B + 3 ≤ i) W w4 := (ka.mono (fun _ _ h => h.elim)).trans (keep_grown (F := fun i => B + 3 ≤ i) hg fun g hgv => (hob g hgv).1) (fun _ _ h => h)
  have o4 : KeepsOthers W w4 := (others_keep ka).trans (others_grown hg fun g hgv => by
    obtain ⟨-, cs, t, fr, hh⟩ := hob g hgv
    exact ⟨cs, t, fr, ka.at hh (fun h => h)⟩)
  have h14 : w4.heap[B]? = some (.cells #[v] 34 (0, 0)) := k4.at h1 (by omega)
  have h34 : w4.heap[B + 1]? = some (.cells #[.int .i64 e] 3 (0, 0)) := k4.at h3 (by omega)
  have k5 : Keep (Kf B) W (w4.setCell ⟨B, 0, none⟩ v') := (k4.mono (G := Kf B) fun i _ h => .inr (.inr h)).setCell (fun _ => .inl rfl) v'
  have k6 : Keep (Kf B) W ((w4.setCell ⟨B, 0, none⟩ v').setCell ⟨B + 1, 0, none⟩ (.int .i64 e')) := k5.setCell (fun _ => .inr (.inl rfl)) _
  have kk : Keep (fun i => i = B ∨ i = B + 1) w4 ((w4.setCell ⟨B, 0, none⟩ v').setCell ⟨B + 1, 0, none⟩ (.int .i64 e')) := ((Keep.refl _ w4).setCell (fun _ => .inl rfl) v').setCell (fun _ => .inr rfl) _
  have f5 : (w4.setCell ⟨B, 0, none⟩ v').heap[B]? = some (.cells #[v'] 34 (0, 0)) := heap_setCell_self h14 v'
  have f6 : (w4.setCell ⟨B, 0, none⟩ v').heap[B + 1]? = some (.cells #[.int .i64 e] 3 (0, 0)) := by rw [Below.heap_setCell _ _ _ _ (by simp)]; exact h34
  refine ⟨(o4.trans (KeepsOthers.setCell _ _ _)).trans (KeepsOthers.setCell _ _ _), k6, ⟨v', ?_, ⟨cs ++ [c], ?_, ?_⟩⟩, ?_, h4.trans k6 (fun _ _ h => h)⟩
  · rw [Below.heap_setCell _ _ _ _ (by simp)]; exact f5
  · have hl : (List.map (fun s => bodyAt b s.1) (pre ++ [x])).length = n + 1 := by simp [hn]
    rw [hl]
    obtain ⟨q1, q2⟩ := hown'
    refine ⟨q1, ?_⟩
    rcases q2 with q2 | ⟨g, cap, cur, hv, hb, hh, r⟩
    · exact .inl q2
    · exact .inr ⟨g, cap, cur, hv, hb, kk.at hh (by omega), r⟩
  · intro j c' l hc hl
    have hcl : cs.length = n := by simpa using hown.1
    by_cases hj : j < n
    · rw [List.getElem?_append_left (by omega)] at hc
      rw [List.map_append, List.getElem?_append_left (by simp; omega)] at hl
      exact (fb_grown ((hfb j c' l hc hl).keep ka (fun _ _ h => h)) hg hnot).keep kk (by omega)
    · obtain rfl : j = n := by
        have := (List.getElem?_eq_some_iff.1 hc).1
        simp at this; omega
      rw [List.getElem?_append_right (by omega), hcl, Nat.sub_self] at hc
      rw [List.map_append, List.getElem?_append_right (by simp [hn]), List.length_map, ← hn, Nat.sub_self] at hl
      obtain rfl := Option.some.inj hc
      obtain rfl := Option.some.inj hl
      exact ((fb_grown (hF.keep ((Keep.refl (fun _ => False) w2).alloc _) (fun _ _ h => h)) hg hnot).keep kk (by omega)).mono (by omega)
  · have := heap_setCell_self (i := 0) f6 (.int .i64 e')
    have he2 : ((endOf (List.map (fun s => s.1) (pre ++ [x])) : Nat) : Int) = e' := by
      rw [he, List.map_append]
      unfold endOf
      simp
    rw [he2]
    exact this

set_option maxRecDepth 100000 in
set_option maxHeartbeats 2000000 in
theorem split_some (w : World) {a : Addr} {cap : Nat} {b : List UInt8} {F : Nat → Prop} (hB : BytesIn w (.slice (some a) b.length cap) b F) (hF : ∀ i, F i → i < w.heap.size) (hsz : b.length ≤ 4294967296) :
    Calls Tryd.prog 55 #[.slice (some a) b.length cap] w fun e w' => ∃ o, e = .returned (.tuple #[o, .int .i64 ((split b).2 : Int)]) ∧ BodyRows w' w.heap.size o (split b).1 ∧ Keep (fun _ => False) w w' := by
  have HB := hid hB
  clear hB
  refine (callsIn_wide (n := 3)).1 ?_
  refine callsIn_of_wp_marks Tryd.func55 rfl trivial ?_ rfl
  simp only [Tryd.ntmps55, List.size_toArray, List.length_cons, List.length_nil, Nat.reduceAdd, Nat.reduceSub, Array.replicate_succ, Array.replicate_zero, List.push_toArray, List.append_toArray, List.nil_append, List.cons_append]
  gi_wp2_with (refine ⟨trivial, ?_⟩; gi_at_call 69; refine (callsIn_wide.2 (frames_any _ _ _ _)).mono ?_; rintro e w' ⟨rfl, rfl⟩)
  obtain ⟨w0, hw0⟩ : ∃ w0, ((w.alloc (.cells #[.slice none 0 0] 34)).alloc (.cells #[.int .i64 0] 3)).alloc (.cells #[.slice (some a) b.length cap] 33) = w0 := ⟨_, rfl⟩
  rw [hw0]
  have hK0 : Keep (fun _ => False) w w0 := by rw [← hw0]; exact (((Keep.refl _ w).alloc _).alloc _).alloc _
  have hs0 : w0.heap.size = w.heap.size + 3 := by rw [← hw0]; simp
  have hb0 : w0.heap[w.heap.size]? = some (.cells #[.slice none 0 0] 34 (0, 0)) := by
    rw [← hw0, Below.heap_alloc _ _ _ (by simp; omega), Below.heap_alloc _ _ _ (by simp)]
    exact heap_alloc_new w _
  have hb1 : w0.heap[w.heap.size + 1]? = some (.cells #[.int .i64 0] 3 (0, 0)) := by
    rw [← hw0, Below.heap_alloc _ _ _ (by simp)]
    have := heap_alloc_new (w.alloc (.cells #[.slice none 0 0] 34)) (.cells #[.int .i64 0] 3)
    rwa [World.size_alloc] at this
  have hb2 : w0.cell? ⟨w.heap.size + 1 + 1, 0, none⟩ = some (.slice (some a) b.length cap) := by
    rw [← hw0, World.cell?_alloc_at _ _ _ _ (by simp)]; rfl
  have HB0 := HB.out.keep hK0 (fun _ _ h => h)
  refine wpIn_rangeFunc_ownF rfl (by omega) (gf := 79) (lb := #[ptr (w.heap.size + 1 + 1)]) rfl trivial (enters_of Tryd.func79 (by kernel_rfl) rfl)
    (frames_stops (3 - 1) (by omega) (w.heap.size + 1 + 1) (F0 := Kf w.heap.size) HB0 hb2 (by omega) (by unfold Kf; omega) (fun i hi => by have := hF i hi; unfold Kf; omega))
    (fun h k => h.trans k (fun _ _ h => h)) (fun W l o o' hl _ _ _ => keep_grown (grownBy_putObj' W l o') (fun g e => by cases e; unfold Kf; omega)) (Below.refl _ _) (fun _ => rfl)
    (SplitI w.heap.size b w0) (fun _ _ _ => False) (splitI_own hs0) (fun _ _ _ _ _ hs _ _ => hs)
    ⟨⟨_, hb0, ⟨[], World.ownsRow_nil _ _ _ 1, fun j c l h => by simp at h⟩⟩, hb1, Keep.refl _ _⟩
    (fun x => { tmps := #[.slice (some a) b.length cap, undef, .slice none 0 0, .int .i64 0, ptr w.heap.size, ptr (w.heap.size + 1), .int .i64 ((x.1.1 : Int) + (x.1.2 : Int) + 4), .slice (some (a.add x.1.1)) x.1.2 (cap - x.1.1), .slice (some a) b.length cap, .func (.func 79) #[] #[ptr (w.heap.size + 1 + 1)], .int .i64 ((x.1.1 : Int) + (x.1.2 : Int) + 4), .slice (some (a.add x.1.1)) x.1.2 (cap - x.1.1), undef, undef, undef, undef, undef, undef, undef, undef], defers := [] }) ?assign ?body ?done ?stop
  case assign =>
    intro l x W K hK
    unfold encS
    gi_wp2
    exact hK
  case body =>
    rintro l pre x W ⟨⟨v, h1, ⟨cs, hown, hfb⟩⟩, h3, h4⟩ hlt
    have hB1 := ((HB0.keep h4 (fun i hi => by have := hF i hi; unfold Kf; omega)).later a rfl x.1.1 (by have := x.2.1; omega)).first x.1.2 (by have := x.2.1; simp; omega)
    obtain ⟨bl, hbl⟩ : ∃ bl, bodyAt b x.1 = bl := ⟨_, rfl⟩
    rw [show (b.drop x.1.1).take x.1.2 = bl from hbl] at hB1
    have hl2 : bl.length ≤ 4294967296 := by rw [← hbl]; unfold bodyAt; simp; omega
    have HBL := hid hbl
    clear hbl
    have HB1 := hid hB1
    have HOWN := hid hown
    have HFB := hid hfb
    have H1 := hid h1
    have H3 := hid h3
    have H4 := hid h4
    have hc0 : W.cell? ⟨w.heap.size, 0, none⟩ = some v := by rw [cell_at h1]; rfl
    have hsW := h4.size
    clear hB1 hown hfb h1 h3 h4
    unfold ptr
    gi_wp2
    refine wpIn_region_heldi [0, 1] 5 4 (fun w' => w'.cell? ⟨w.heap.size, 0, none⟩ = some v) (by kernel_rfl) (by kernel_rfl) (by rintro ⟨_, _, h⟩; exact h) (by kernel_rfl) (by kernel_rfl) hc0 (fun d _ _ _ _ h => by cases d <;> exact h) ?_
    repeat (refine heldI_step rfl rfl (fun w' hSw => by (go_simp; with_reducible rfl)) ?_; simp only [Act.put, List.setIfInBounds_toArray, List.set_cons_zero, List.set_cons_succ])
    refine heldI_nil ?_
    refine anyZ_next (j := 2) (by kernel_rfl) rfl rfl ?_
    go_simp
    refine (clone_at W.drew (HB1.out.keep (keep_drawn' W _) (fun _ _ h => h)) hl2 (fun e => by cases e)).mono ?_
    rintro e w2 ⟨c, rfl, hFc, hk2⟩
    have k2 : Keep (fun _ => False) W w2 := (keep_drawn' W _).trans hk2 (fun _ _ h => h)
    have HK2 := hid k2
    have HFc := hid (show FB w2 c bl (fun i => W.heap.size ≤ i) from hFc)
    obtain ⟨aoc, capc, hcv, -, -⟩ := hFc.slice
    subst hcv
    clear hFc hk2
    refine ⟨(k2.cell (p := ⟨w.heap.size, 0, none⟩) (by simp only; omega) (fun h => h)).trans hc0, ?_⟩
    refine anyZ_next (j := 3) (by kernel_rfl) rfl rfl ?_
    go_simp
    have k3 : Keep (fun _ => False) W (w2.alloc (.cells #[.slice aoc bl.length capc] 33)) := k2.alloc _
    refine ⟨(k3.cell (p := ⟨w.heap.size, 0, none⟩) (by simp only; omega) (fun h => h)).trans hc0, ?_⟩
    refine anyZ_next (j := 4) (by kernel_rfl) rfl rfl ?_
    obtain ⟨i0, hi0, hz0, hsz0, hby0⟩ := info_parts info_row
    obtain ⟨v', w4, hr4, hown', hg4, -⟩ := run_append_own (P := Tryd.prog) (w2.alloc (.cells #[.slice aoc bl.length capc] 33)) (w.heap.size + 3) 34 34 33 i0 (.slice none 0 0) 1 24 under_rows hi0 hz0 hsz0 hby0 rfl (by decide) v _ cs ((row_grown HOWN.out (grown_of_keep k2) (fun r e => by cases e)).alloc _) ⟨w2.heap.size, 0, none⟩ 1 1 [.slice aoc bl.length capc] (by simp)
      (fun j u hu => by rw [addr_add0, cell_at (heap_alloc_new w2 _)]; simpa using hu) (by simp [Value.oneCell']) (by simp only [maxLen, List.length_map]; omega) (by simp only [List.length_map]; omega) (by have := k2.size; simp; omega)
    refine wp_append_run _ _ _ _ rfl rfl rfl hr4 ?_
    have HRE := hid (fun e' he => round_end (x := x) (e' := e') hs0 H1.out (List.length_map _) HOWN.out HFB.out H3.out H4.out HK2.out (by rw [HBL.out]; exact HFc.out) hown' hg4 he)
    have hv4 : w4.heap[w.heap.size]? = some (.cells #[v] 34 (0, 0)) := (hg4.block _ (by have := k3.size; omega) (fun e => by
      rcases HOWN.out.2 with ⟨rfl, -⟩ | ⟨g', cp, cur, rfl, hb, -⟩
      · cases e
      · injection e with e; simp at e; omega)).trans (k3.at H1.out (fun h => h))
    have H34 := hid ((hg4.block (w.heap.size + 1) (by have := k3.size; omega) (fun e => by
      rcases HOWN.out.2 with ⟨rfl, -⟩ | ⟨g', cp, cur, rfl, hb, -⟩
      · cases e
      · injection e with e; simp at e; omega)).trans (k3.at H3.out (fun h => h)))
    have hc4 : w4.cell? ⟨w.heap.size, 0, none⟩ = some v := by rw [cell_at hv4]; rfl
    have hf4 : w4.frozen? ⟨w.heap.size, 0, none⟩ = false := frozen_at hv4 0
    obtain ⟨ao4, cap4, hv'⟩ := own_slice hown'
    subst hv'
    clear hr4 hown' hg4 hv4
    refine ⟨fun _ => hc4, ?_⟩
    refine anyZ_last (by kernel_rfl) rfl rfl (by kernel_rfl) ?_
    go_simp
    have k5 : (w4.setCell ⟨w.heap.size, 0, none⟩ (.slice ao4 (pre.length + 1) cap4)).heap[w.heap.size + 1]? = some (.cells #[.int .i64 (endOf (pre.map (·.1)) : Int)] 3 (0, 0)) := by
      rw [Below.heap_setCell _ _ _ _ (by simp)]; exact H34.out
    have hc5 : (w4.setCell ⟨w.heap.size, 0, none⟩ (.slice ao4 (pre.length + 1) cap4)).cell? ⟨w.heap.size + 1, 0, none⟩ = some (.int .i64 (endOf (pre.map (·.1)) : Int)) := by rw [cell_at k5]; rfl
    have hf5 : (w4.setCell ⟨w.heap.size, 0, none⟩ (.slice ao4 (pre.length + 1) cap4)).frozen? ⟨w.heap.size + 1, 0, none⟩ = false := frozen_at k5 0
    generalize hw5 : w4.setCell ⟨w.heap.size, 0, none⟩ (.slice ao4 (pre.length + 1) cap4) = w5 at *
    clear k5 hc4 hf4
    have HW5 := hid hw5
    clear hw5
    gi_wp2
    rw [← HW5.out]
    have hre := HRE.out _ rfl
    simp only [List.length_map] at hre
    exact hre
  case done =>
    rintro D xs W hD ⟨p, hrun, hnf⟩ ⟨⟨v, h1, h2⟩, h3, h4⟩ hK
    have hdone := hrun.done hnf
    have hend := hrun.endOf
    rw [hend] at h3
    have hc0 : W.cell? ⟨w.heap.size, 0, none⟩ = some v := by rw [cell_at h1]; rfl
    have hc1 : W.cell? ⟨w.heap.size + 1, 0, none⟩ = some (.int .i64 (p : Int)) := by rw [cell_at h3]; rfl
    have H2 := hid h2
    have H4 := hid h4
    have HD := hid hdone
    clear h1 h2 h3 h4 hend hdone hrun hnf
    unfold ptr
    gi_wp2
    refine wpIn_wide.2 ?_
    refine wp_region_still_lit (by kernel_rfl) (by kernel_rfl) ?_
    repeat still_step
    refine wpStill_nil ?_
    gi_wp2
    have hKd : W.drew.heap[D]? = some (.deferred (some [])) := hK
    refine ⟨by simp, .inl ⟨_, _, rfl, run_takeDeferred (w := W.drew) hKd, ?_⟩⟩
    have hg := grownBy_putObj' W.drew D (.deferred none)
    have hrow : BodyRows W.drew (w.heap.size + 3) v (xs.map fun s => bodyAt b s.1) := H2.out.keep (keep_drawn' W _) (fun _ _ h => h)
    refine ⟨_, results_tmp2 rfl _ _ _, v, by rw [HD.out]; rfl, ?_, ?_⟩
    · rw [HD.out]
      simp only [List.map_map]
      exact (hrow.grown hg (fun r e => by cases e; exact ⟨_, hKd, rfl⟩)).low (by omega)
    · exact keep_old (F := fun i => w.heap.size ≤ i) (G := fun i => i = D) (w' := W.drew) ((hK0.mono (fun _ _ h => h.elim)).trans ((H4.out.trans (keep_drawn' W _) (fun _ _ h => h.elim))) (fun i hi h => by unfold Kf at h; omega)) (keep_grown hg (fun g e => by cases e; rfl)) (fun i hi h => by omega) (fun i hi h => by omega)
  case stop =>
    rintro D c pre W _ _ h _
    exact h.elim

set_option maxRecDepth 100000 in
set_option maxHeartbeats 2000000 in
theorem frames_nil (n : Nat) (hn : 1 ≤ n) (Bs : Nat) {w : World} {F0 : Nat → Prop} (hc : w.cell? ⟨Bs, 0, none⟩ = some (.slice none 0 0)) (hBs : Bs < w.heap.size) :
    SeqStopsK Fence.wide n Tryd.prog 79 #[ptr Bs] (encS [] none 0) (Keep F0) (fun xs => xs = []) (fun _ => True) 1 w := fun l J Jx W hW hJ _ _ h0 => by
  have kW : Keep (fun _ => False) w W := Keep.of_below hW fun i hi h2 => by omega
  have hcW : W.cell? ⟨Bs, 0, none⟩ = some (.slice none 0 0) := (kW.cell hBs (fun h => h)).trans hc
  have hB : BytesIn W (.slice none 0 0) [] (fun _ => False) := ⟨none, 0, rfl, Nat.le_refl _, Nat.zero_le _, fun _ => rfl, fun b hb => by cases hb⟩
  have hf : firstE [] = (0, 10) := by simp [firstE]
  have HW := hid hW
  have HJ := hid hJ
  clear hW hJ kW
  unfold ptr
  refine callsIn_of_wp Tryd.func79 rfl trivial ?_ rfl
  simp only [Tryd.ntmps79, List.size_toArray, List.length_cons, List.length_nil, Nat.reduceAdd, Nat.reduceSub, Array.replicate_succ, Array.replicate_zero, List.push_toArray, List.append_toArray, List.nil_append, List.cons_append]
  gi_wp2
  gi_loopw [3] (fun iv wr => iv = .int .i64 0 ∧ wr = W) (fun _ _ => 0)
  case atStart => exact ⟨rfl, rfl⟩
  case round =>
    obtain ⟨rfl, rfl⟩ := hrel
    gi_wp2
    refine ⟨trivial, ?_⟩
    refine (callsIn_wide.2 (first_at wr hB)).mono ?_
    rintro e w2 ⟨rfl, hk2⟩
    have hJ2 := HJ.out [] wr w2 none h0 (grown_of_keep hk2) (fun r e => by cases e)
    clear hk2
    rw [hf]
    gi_wp2
    refine ⟨fun _ h => (by cases h), ?_⟩
    gi_wp2
    refine bodyPost_ret (results_none rfl _ _ _) rfl ?_
    exact ⟨⟨_, rfl⟩, .inl ⟨_, rfl, hJ2⟩⟩

set_option maxRecDepth 100000 in
set_option maxHeartbeats 2000000 in
theorem split_none (w : World) :
    Calls Tryd.prog 55 #[.slice none 0 0] w fun e w' => ∃ o, e = .returned (.tuple #[o, .int .i64 ((split []).2 : Int)]) ∧ BodyRows w' w.heap.size o (split []).1 ∧ Keep (fun _ => False) w w' := by
  refine (callsIn_wide (n := 3)).1 ?_
  refine callsIn_of_wp_marks Tryd.func55 rfl trivial ?_ rfl
  simp only [Tryd.ntmps55, List.size_toArray, List.length_cons, List.length_nil, Nat.reduceAdd, Nat.reduceSub, Array.replicate_succ, Array.replicate_zero, List.push_toArray, List.append_toArray, List.nil_append, List.cons_append]
  gi_wp2_with (refine ⟨trivial, ?_⟩; gi_at_call 69; refine (callsIn_wide.2 (frames_any _ _ _ _)).mono ?_; rintro e w' ⟨rfl, rfl⟩)
  obtain ⟨w0, hw0⟩ : ∃ w0, ((w.alloc (.cells #[.slice none 0 0] 34)).alloc (.cells #[.int .i64 0] 3)).alloc (.cells #[.slice none 0 0] 33) = w0 := ⟨_, rfl⟩
  rw [hw0]
  have hK0 : Keep (fun _ => False) w w0 := by rw [← hw0]; exact (((Keep.refl _ w).alloc _).alloc _).alloc _
  have hs0 : w0.heap.size = w.heap.size + 3 := by rw [← hw0]; simp
  have hb0 : w0.heap[w.heap.size]? = some (.cells #[.slice none 0 0] 34 (0, 0)) := by
    rw [← hw0, Below.heap_alloc _ _ _ (by simp; omega), Below.heap_alloc _ _ _ (by simp)]
    exact heap_alloc_new w _
  have hb1 : w0.heap[w.heap.size + 1]? = some (.cells #[.int .i64 0] 3 (0, 0)) := by
    rw [← hw0, Below.heap_alloc _ _ _ (by simp)]
    have := heap_alloc_new (w.alloc (.cells #[.slice none 0 0] 34)) (.cells #[.int .i64 0] 3)
    rwa [World.size_alloc] at this
  have hb2 : w0.cell? ⟨w.heap.size + 1 + 1, 0, none⟩ = some (.slice none 0 0) := by
    rw [← hw0, World.cell?_alloc_at _ _ _ _ (by simp)]; rfl
  refine wpIn_rangeFunc_ownF rfl (by omega) (gf := 79) (lb := #[ptr (w.heap.size + 1 + 1)]) rfl trivial (enters_of Tryd.func79 (by kernel_rfl) rfl)
    (frames_nil (3 - 1) (by omega) (w.heap.size + 1 + 1) (F0 := Kf w.heap.size) hb2 (by omega))
    (fun h k => h.trans k (fun _ _ h => h)) (fun W l o o' hl _ _ _ => keep_grown (grownBy_putObj' W l o') (fun g e => by cases e; unfold Kf; omega)) (Below.refl _ _) (fun _ => rfl)
    (SplitI w.heap.size [] w0) (fun _ _ _ => False) (splitI_own hs0) (fun _ _ _ _ _ hs _ _ => hs)
    ⟨⟨_, hb0, ⟨[], World.ownsRow_nil _ _ _ 1, fun j c l h => by simp at h⟩⟩, hb1, Keep.refl _ _⟩
    (fun x => { tmps := #[.slice none 0 0, undef, .slice none 0 0, .int .i64 0, ptr w.heap.size, ptr (w.heap.size + 1), .int .i64 ((x.1.1 : Int) + (x.1.2 : Int) + 4), .slice none x.1.2 0, .slice none 0 0, .func (.func 79) #[] #[ptr (w.heap.size + 1 + 1)], .int .i64 ((x.1.1 : Int) + (x.1.2 : Int) + 4), .slice none x.1.2 0, undef, undef, undef, undef, undef, undef, undef, undef], defers := [] }) ?assign ?body ?done ?stop
  case assign =>
    intro l x W K hK
    unfold encS
    gi_wp2
    exact hK
  case body =>
    intro l pre x W _ _
    exact absurd x.2 (by simp; omega)
  case done =>
    rintro D xs W hD hxs ⟨⟨v, h1, h2⟩, h3, h4⟩ hK
    subst hxs
    have hdone : split [] = ([], 0) := split_nil (by simp [firstE])
    have hc0 : W.cell? ⟨w.heap.size, 0, none⟩ = some v := by rw [cell_at h1]; rfl
    have hc1 : W.cell? ⟨w.heap.size + 1, 0, none⟩ = some (.int .i64 0) := by rw [cell_at h3]; rfl
    have H2 := hid h2
    have H4 := hid h4
    have HD := hid hdone
    clear h1 h2 h3 h4 hdone
    unfold ptr
    gi_wp2
    refine wpIn_wide.2 ?_
    refine wp_region_still_lit (by kernel_rfl) (by kernel_rfl) ?_
    repeat still_step
    refine wpStill_nil ?_
    gi_wp2
    have hKd : W.drew.heap[D]? = some (.deferred (some [])) := hK
    refine ⟨by simp, .inl ⟨_, _, rfl, run_takeDeferred (w := W.drew) hKd, ?_⟩⟩
    have hg := grownBy_putObj' W.drew D (.deferred none)
    have hrow : BodyRows W.drew (w.heap.size + 3) v [] := H2.out.keep (keep_drawn' W _) (fun _ _ h => h)
    refine ⟨_, results_tmp2 rfl _ _ _, v, by rw [HD.out]; rfl, ?_, ?_⟩
    · rw [HD.out]
      exact (hrow.grown hg (fun r e => by cases e; exact ⟨_, hKd, rfl⟩)).low (by omega)
    · exact keep_old (F := fun i => w.heap.size ≤ i) (G := fun i => i = D) (w' := W.drew) ((hK0.mono (fun _ _ h => h.elim)).trans ((H4.out.trans (keep_drawn' W _) (fun _ _ h => h.elim))) (fun i hi h => by unfold Kf at h; omega)) (keep_grown hg (fun g e => by cases e; rfl)) (fun i hi h => by omega) (fun i hi h => by omega)
  case stop =>
    rintro D c pre W _ _ h _
    exact h.elim


/-- frame.Split(b), whatever b. -/
theorem split_any (w : World) {v : Value} {b : List UInt8} {F : Nat → Prop} (hB : FB w v b F) (hF : ∀ i, F i → i < w.heap.size) (hsz : b.length ≤ 4294967296) :
    Calls Tryd.prog 55 #[v] w fun e w' => ∃ o, e = .returned (.tuple #[o, .int .i64 ((split b).2 : Int)]) ∧ BodyRows w' w.heap.size o (split b).1 ∧ Keep (fun _ => False) w w' := by
  have h := hB.bytesIn
  obtain ⟨ao, cap, rfl, h1, h2, h3⟩ := hB
  rcases h3 with ⟨rfl, rfl⟩ | ⟨g, cs, fr, rfl, -⟩
  · obtain rfl : b = [] := List.eq_nil_of_length_eq_zero (by omega)
    exact split_none w
  · exact split_some w h hF hsz

end Go.Proofs.YtbjjohfpdphpfaaDoor.Frm
