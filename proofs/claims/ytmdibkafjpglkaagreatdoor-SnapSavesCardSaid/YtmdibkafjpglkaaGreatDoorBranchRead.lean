/- Fresh branches: clock.Actor of the main branch: walked. A new entry of a map, made first and stored to later (m[k], x = v, y). Over any program. branch.New, walked: one branch, main, with a fresh document. Fresh branches are read: names, documents, operations: walked. -/
import Derived.Test.YtmdibkafjpglkaaGreatDoorSnapNil
import Derived.Test.YtmdibkafjpglkaaGreatDoorMapTodo
import Derived.Test.YtmdibkafjpglkaaGreatDoorNumPut
namespace Go.Proofs.YtmdibkafjpglkaaGreatDoor.Snp
open Go Go.RowKit Go.Lib Go.Proofs.YtmdibkafjpglkaaGreatDoor.Dsk

set_option maxRecDepth 100000 in
theorem actor_one (w : World) : Calls Tryz.prog 78 #[.int .i64 1, .int .i64 0] w fun x w' => x = .returned (.tuple #[.int .i64 256, .int .i64 0]) ∧ w' = w := by
  have ho : bits BinOp.or IntKind.u32 256 0 = 256 := by decide
  go_enter Tryz.func78, Tryz.ntmps78
  go_wp2_with fail
  refine bodyPost_ret (v := _) (results_tmp2 rfl _ _ _) rfl ?_
  exact ⟨rfl, rfl⟩
set_option maxRecDepth 100000 in
theorem actor_two (w : World) : Calls Tryz.prog 78 #[.int .i64 2, .int .i64 0] w fun x w' => x = .returned (.tuple #[.int .i64 512, .int .i64 0]) ∧ w' = w := by
  have ho : bits BinOp.or IntKind.u32 512 0 = 512 := by decide
  go_enter Tryz.func78, Tryz.ntmps78
  go_wp2_with fail
  refine bodyPost_ret (v := _) (results_tmp2 rfl _ _ _) rfl ?_
  exact ⟨rfl, rfl⟩
set_option maxRecDepth 100000 in
theorem tree_new (w : World) : Calls Tryz.prog 140 #[] w fun x w' => x = .returned (ptr (w.heap.size + 2)) ∧ w'.heap[w.heap.size + 2]? = some (.cells #[.slice none 0 0, .map (some w.heap.size), .map (some (w.heap.size + 1))] 223 (0, 0)) ∧ w'.heap[w.heap.size]? = some (.map #[] 0) ∧ w'.heap[w.heap.size + 1]? = some (.map #[] 0) ∧ Keep (fun _ => False) w w' := by
  have hmm : ∀ w : World, (Instr.makeMap 219 none).run Tryz.prog w = .ok (.map (some w.heap.size)) (w.alloc (.map #[] 0)) := fun _ => rfl
  have hmk : ∀ w : World, (Instr.makeMap 220 none).run Tryz.prog w = .ok (.map (some w.heap.size)) (w.alloc (.map #[] 0)) := fun _ => rfl
  go_enter Tryz.func140, Tryz.ntmps140
  go_wp2_with fail
  go_ret
  refine ⟨rfl, ?_, ?_, ?_, (((Keep.refl _ w).alloc _).alloc _).alloc _⟩
  · have h := heap_alloc_new ((w.alloc (.map #[] 0)).alloc (.map #[] 0)) (.cells #[.slice none 0 0, .map (some w.heap.size), .map (some (w.heap.size + 1))] 223)
    rw [World.size_alloc, World.size_alloc] at h
    exact h
  · rw [Below.heap_alloc _ _ _ (by simp; omega), Below.heap_alloc _ _ _ (by simp)]; exact heap_alloc_new w _
  · rw [Below.heap_alloc _ _ _ (by simp)]
    have h := heap_alloc_new (w.alloc (.map #[] 0)) (.map #[] 0)
    rw [World.size_alloc] at h
    exact h
set_option maxRecDepth 100000 in
/-- A fresh state of the view hangs on new blocks alone. -/
theorem view_new (w : World) : Calls Tryz.prog 106 #[] w fun x w' => ∃ g, x = .returned (ptr g) ∧ Keep (fun _ => False) w w' := by
  have hmm : ∀ w : World, (Instr.makeMap 191 none).run Tryz.prog w = .ok (.map (some w.heap.size)) (w.alloc (.map #[] 0)) := fun _ => rfl
  go_enter Tryz.func106, Tryz.ntmps106
  go_wp2_with fail
  refine (tree_new w).mono ?_
  rintro x w1 ⟨rfl, -, -, -, hK⟩
  have HK := hid hK
  clear hK
  unfold ptr
  go_wp2_with fail
  go_ret
  exact ⟨_, rfl, (HK.out.alloc _).alloc _⟩
/-- A fresh document: block g, its map of operations m. -/
def DocNew (w : World) (g m : Nat) : Prop := ∃ s, w.heap[g]? = some (.cells #[.map (some m), .slice none 0 0, .slice none 0 0, .int .i64 0, .pointer s] 128 (0, 0)) ∧ w.heap[m]? = some (.map #[] 0)
set_option maxRecDepth 100000 in
theorem doc_new (w : World) : Calls Tryz.prog 79 #[] w fun x w' => ∃ g m, x = .returned (ptr g) ∧ DocNew w' g m ∧ w.heap.size ≤ g ∧ w.heap.size ≤ m ∧ Keep (fun _ => False) w w' := by
  have hmm : ∀ w : World, (Instr.makeMap 125 none).run Tryz.prog w = .ok (.map (some w.heap.size)) (w.alloc (.map #[] 0)) := fun _ => rfl
  go_enter Tryz.func79, Tryz.ntmps79
  go_wp2_with fail
  refine (view_new _).mono ?_
  rintro x w1 ⟨s, rfl, hK⟩
  have hs := hK.size
  have hm := hK.at (heap_alloc_new w (.map #[] 0)) (fun h => h)
  have HM := hid hm
  have HK := hid ((((Keep.refl (fun _ => False) w).alloc (.map #[] 0))).trans hK (fun _ _ h => h))
  clear hK hm
  unfold ptr
  go_wp2_with fail
  go_ret
  refine ⟨w1.heap.size, w.heap.size, rfl, ⟨some ⟨s, 0, none⟩, heap_alloc_new w1 _, ?_⟩, HK.out.size, Nat.le_refl _, HK.out.alloc _⟩
  rw [Below.heap_alloc _ _ _ (lt_of_block HM.out)]
  exact HM.out
end Go.Proofs.YtmdibkafjpglkaaGreatDoor.Snp

namespace Go.Proofs.YtmdibkafjpglkaaGreatDoor
open Go.RowKit
section
variable {P : Program} {K : TypeId} {κ : Type} [DecidableEq κ] {enc : κ → Value}

theorem findE_none_of (m : List (κ × Value)) (es : List MapEntry) (k : κ) (hv : es.map (·.val) = m.map (·.2)) (h : mhas m k = false) : findE (m.map (·.1)) es k 0 = none := by
  cases hf : findE (m.map (·.1)) es k 0 with
  | none => rfl
  | some p => rw [findE_some_has m es k hv hf] at h; cases h

theorem run_mapEntry_new (hK : MKey P K enc) (T E : TypeId) (hT : P.underlying T = some (.map K E)) (z : Value) (hz : ∀ w, (zeroValue E).run P w = .ok z w)
    {w : World} {r : Nat} {m : List (κ × Value)} {es : Array MapEntry} {clock : Nat} (h : MapIs w r enc m es clock) (k : κ) (hh : mhas m k = false) :
    (Instr.mapEntry T (.map (some r)) (enc k)).run P w = .ok (.tuple #[z, .int .i64 (clock : Int)]) (setMap w r (es.push { key := enc k, val := z, born := clock }) (clock + 1)) := by
  have hgo := run_getObj_map (P := P) w r es clock h.block
  have hf := findE_none_of m es.toList k h.vals hh
  simp only [Instr.mapEntry, Sem.run_bind, run_underlying hT, Result.andThen_ok, hgo, hK.check, run_findKey_map hK h, hf, hz, run_setObj_map h.block, Sem.run_pure]
  rfl

theorem findIdx_last (es : Array MapEntry) (e : MapEntry) (clock : Nat) (hb : ∀ x ∈ es.toList, x.born < clock) (he : e.born = clock) : (es.push e).findIdx? (fun x => (x.born : Int) == (clock : Int)) = some es.size := by
  rw [Array.findIdx?_eq_some_iff_getElem]
  refine ⟨by simp, by simp [he], fun j hj => ?_⟩
  have h1 : j < es.size := hj
  rw [Array.getElem_push_lt h1]
  have := hb es[j] (Array.getElem_mem_toList h1)
  simp only [Bool.not_eq_true, beq_eq_false_iff_ne]
  omega

theorem run_entryStore_new (T : TypeId) {w : World} {r : Nat} {es : Array MapEntry} {clock : Nat} (key z v : Value) (hb : ∀ x ∈ es.toList, x.born < clock)
    (hw : w.heap[r]? = some (.map (es.push { key := key, val := z, born := clock }) (clock + 1))) :
    (Instr.entryStore T (.map (some r)) (.int .i64 (clock : Int)) v).run P w = .ok () (setMap w r (es.push { key := key, val := v, born := clock }) (clock + 1)) := by
  have hgo := run_getObj_map (P := P) w r _ _ hw
  have hf := findIdx_last es { key := key, val := z, born := clock } clock hb rfl
  have hm : (es.push { key := key, val := z, born := clock }).modify es.size (fun e => { e with val := v }) = es.push { key := key, val := v, born := clock } := by
    apply Array.ext
    · simp
    · intro j h1 h2
      rw [Array.getElem_modify]
      by_cases hj : j = es.size
      · subst hj; simp
      · rw [if_neg (Ne.symm hj)]
        have h3 : j < es.size := by simp at h2; omega
        rw [Array.getElem_push_lt h3, Array.getElem_push_lt h3]
  simp only [Instr.entryStore, Sem.run_bind, hgo, Result.andThen_ok, asInt, asIntOf, Sem.run_pure, hf, hm, run_setObj_map hw]

theorem map_with_new {w w' : World} {r : Nat} {m : List (κ × Value)} {es : Array MapEntry} {clock : Nat} (h : MapIs w r enc m es clock) (k : κ) (v : Value) (hh : mhas m k = false) (hw : w'.heap[r]? = some (.map (es.push { key := enc k, val := v, born := clock }) (clock + 1))) : MapIs w' r enc (m ++ [(k, v)]) (es.push { key := enc k, val := v, born := clock }) (clock + 1) := by
  refine ⟨hw, by simp [h.keys], by simp [h.vals], ?_, ?_, ?_⟩
  · have := nodup_mput h.nodup k v
    unfold mput at this
    rwa [hh] at this
  · intro e he
    simp only [Array.toList_push, List.mem_append, List.mem_singleton] at he
    rcases he with he | rfl
    · have := h.born e he; omega
    · exact Nat.lt_succ_self _
  · rw [Array.toList_push, List.map_append, List.nodup_append]
    refine ⟨h.bornNodup, by simp, ?_⟩
    intro a ha b hb
    obtain ⟨e, he, rfl⟩ := List.mem_map.1 ha
    have := h.born e he
    obtain rfl : b = clock := by simpa using hb
    omega
end
section
variable {P : Program} {o : Oper} {a : Act} {w w' : World} {Q : Exit → Act → World → Prop} {K : Act → World → Prop}
theorem wp_mapEntry (T : TypeId) (x k : Operand) (ho : o.op = .mapEntry T x k) {xv kv v : Value} (hx : a.eval x = xv) (hk : a.eval k = kv)
    (hr : (Instr.mapEntry T xv kv).run P w = .ok v w') (h : K (a.put o.dst v) w') : o.wp P a w K Q := by
  unfold Oper.wp execOp
  simp only [ho, hx, hk, Sem.run_bind, hr, Result.andThen_ok, Sem.run_pure, Oper.upon_value]
  exact h
theorem wp_entryStore (T : TypeId) (x k e : Operand) (ho : o.op = .entryStore T x k e) {xv kv ev : Value} (hx : a.eval x = xv) (hk : a.eval k = kv) (he : a.eval e = ev)
    (hr : (Instr.entryStore T xv kv ev).run P w = .ok () w') (h : K (a.put o.dst undef) w') : o.wp P a w K Q := by
  unfold Oper.wp execOp
  simp only [ho, hx, hk, he, Sem.run_bind, hr, Result.andThen_ok, Sem.run_pure, Oper.upon_skip]
  exact h
theorem wp_append_run (x y : Operand) (t u : TypeId) (ho : o.op = .call { callee := .builtin .append, args := #[x, y], argTypes := #[t, u] }) {xv yv v : Value} (hx : a.eval x = xv) (hy : a.eval y = yv)
    (hr : (Builtin.append_ #[t, u] o.type #[xv, yv]).run P w = .ok v w') (h : K (a.put o.dst v) w') : o.wp P a w K Q := by
  unfold Oper.wp execOp
  simp only [ho, resolve, invoke, builtin, Sem.run_bind, Sem.run_pure, Result.andThen_ok, List.map_toArray, List.map_cons, List.map_nil, hx, hy, hr, Oper.upon_value]
  exact h
end
end Go.Proofs.YtmdibkafjpglkaaGreatDoor

namespace Go.Proofs.YtmdibkafjpglkaaGreatDoor.Snp
open Go Go.RowKit Go.Lib Go.Proofs.YtmdibkafjpglkaaGreatDoor.Dsk

def nmMain : ByteArray := ⟨#[109, 97, 105, 110]⟩
/-- A branch, as a map holds it. -/
def oneV (g : Nat) (actor : Int) : Value := .agg #[ptr g, .int .i64 actor]
theorem DocNew.keep {w w' : World} {g m : Nat} {F : Nat → Prop} (h : DocNew w g m) (k : Keep F w w') (hg : ¬ F g) (hm : ¬ F m) : DocNew w' g m := by
  obtain ⟨s, h1, h2⟩ := h
  exact ⟨s, k.at h1 hg, k.at h2 hm⟩
/-- Branches with main alone, fresh. -/
structure OneBr (w : World) (bb g m : Nat) (r actor : Int) : Prop where
  blk : ∃ nb cap by_ st es clock, w.heap[bb]? = some (.cells #[.int .i64 r, .slice (some ⟨nb, 0, none⟩) 1 cap, .map (some by_), .map (some st)] 91 (0, 0)) ∧ 1 ≤ cap ∧ cap ≤ maxLen ∧ w.cell? ⟨nb, 0, none⟩ = some (.string nmMain) ∧ MapIs w by_ Value.string [(nmMain, oneV g actor)] es clock
  doc : DocNew w g m
theorem lt_of_cell {w : World} {p : Addr} {v : Value} (h : w.cell? p = some v) : p.block < w.heap.size := by
  by_cases hlt : p.block < w.heap.size
  · exact hlt
  · unfold World.cell? at h
    rw [Array.getElem?_eq_none (by omega)] at h
    cases h
theorem OneBr.keep {w w' : World} {bb g m : Nat} {r actor : Int} (h : OneBr w bb g m r actor) (k : Keep (fun _ => False) w w') : OneBr w' bb g m r actor := by
  obtain ⟨nb, cap, by_, st, es, clock, h1, h2, h3, h4, h5⟩ := h.blk
  exact ⟨⟨nb, cap, by_, st, es, clock, k.at h1 (fun h => h), h2, h3, by rw [k.cell (lt_of_cell h4) (fun h => h)]; exact h4, ⟨k.at h5.block (fun h => h), h5.keys, h5.vals, h5.nodup, h5.born, h5.bornNodup⟩⟩, h.doc.keep k (fun h => h) (fun h => h)⟩
set_option maxRecDepth 100000 in
set_option maxHeartbeats 1000000 in
theorem add_main (w : World) (bb by_ st : Nat) (r actor : Int) (hb : w.heap[bb]? = some (.cells #[.int .i64 r, .slice none 0 0, .map (some by_), .map (some st)] 91 (0, 0))) (hby : w.heap[by_]? = some (.map #[] 0)) (hne : bb ≠ by_)
    (hact : ∀ w, Calls Tryz.prog 78 #[.int .i64 r, .int .i64 0] w fun x w' => x = .returned (.tuple #[.int .i64 actor, .int .i64 0]) ∧ w' = w) :
    Calls Tryz.prog 51 #[ptr bb, .string nmMain, .slice none 0 0] w fun e w' => e = .returned (.int .i64 0) ∧ Keep (fun i => i = bb ∨ i = by_) w w' ∧ ∃ g m, OneBr w' bb g m r actor := by
  have b0 : w.cell? ⟨bb, 0, none⟩ = some (.int .i64 r) := by rw [cell_at hb]; rfl
  have b1 : w.cell? ⟨bb, 1, none⟩ = some (.slice none 0 0) := by rw [cell_at hb]; rfl
  have b2 : w.cell? ⟨bb, 2, none⟩ = some (.map (some by_)) := by rw [cell_at hb]; rfl
  have HB := hid hb
  have HBY := hid hby
  have hbl0 := lt_of_block hb
  have hyl0 := lt_of_block hby
  clear hb hby
  unfold ptr
  go_enter Tryz.func51, Tryz.ntmps51
  go_wp2_with fail
  refine wp_region_heldi [0, 1, 2, 3, 4, 5, 6, 7, 8] 100 6 (fun w' => w'.cell? ⟨bb, 0, none⟩ = some (.int .i64 r) ∧ w'.cell? ⟨bb, 1, none⟩ = some (.slice none 0 0)) (by kernel_rfl) (by kernel_rfl) (by kernel_rfl) ⟨b0, b1⟩ (fun d _ _ _ _ h => by cases d <;> exact h) ?_
  iterate 9 (refine heldI_step rfl rfl (fun w' hS => by (obtain ⟨s0, s1⟩ := hS; go_simp; with_reducible rfl)) ?_; simp only [Act.put, List.setIfInBounds_toArray, List.set_cons_zero, List.set_cons_succ])
  refine heldI_nil ?_
  refine anyZ_next' (j := 9) (by kernel_rfl) rfl rfl ?_
  go_simp
  refine (hact _).mono ?_
  rintro x w1 ⟨rfl, rfl⟩
  refine ⟨⟨b0, b1⟩, ?_⟩
  refine heldI_run (t := 0) (by kernel_rfl) (fun d _ _ _ _ h => by cases d <;> exact h) _ ⟨b0, b1⟩ [10, 11, 12, 13, 14] _ _ (by kernel_rfl) ?_
  iterate 5 (refine heldI_step rfl rfl (fun w' _ => by (go_simp; with_reducible rfl)) ?_; simp only [Act.put, List.setIfInBounds_toArray, List.set_cons_zero, List.set_cons_succ])
  refine heldI_nil ?_
  refine anyZ_done (by kernel_rfl) ?_
  have kd := hid (keep_drawn' w (w.drawn + 1))
  go_wp2_with fail
  refine (doc_new _).mono ?_
  rintro x w1 ⟨g, m, rfl, hD, hg, hm, hK⟩
  have hk0 := (keep_drawn' w (w.drawn + 1)).trans hK (fun _ _ h => h)
  have hbb := hk0.at HB.out (fun h => h)
  have hbm := hk0.at HBY.out (fun h => h)
  have b1 : w1.cell? ⟨bb, 1, none⟩ = some (.slice none 0 0) := by rw [cell_at hbb]; rfl
  have b2 : w1.cell? ⟨bb, 2, none⟩ = some (.map (some by_)) := by rw [cell_at hbb]; rfl
  have HB1 := hid hbb
  have HM1 := hid hbm
  have HK1 := hid hk0
  have HD1 := hid hD
  clear hK hk0 hbb hbm hD b0 b1 b2 kd
  have b1 : w1.cell? ⟨bb, 1, none⟩ = some (.slice none 0 0) := by rw [cell_at HB1.out]; rfl
  have b2 : w1.cell? ⟨bb, 2, none⟩ = some (.map (some by_)) := by rw [cell_at HB1.out]; rfl
  unfold ptr
  go_wp2_with fail
  refine wp_loop_rounds 1 ?_
  rw [rounds_succ]
  go_wp2_with fail
  refine wp_region_heldi [0, 1, 2, 3, 4, 5, 6, 7, 8, 9, 10, 11, 12, 13] 21 8 (fun w' => w'.cell? ⟨bb, 1, none⟩ = some (.slice none 0 0) ∧ w'.cell? ⟨bb, 2, none⟩ = some (.map (some by_))) (by kernel_rfl) (by kernel_rfl) (by kernel_rfl) ⟨b1, b2⟩ (fun d _ _ _ _ h => by cases d <;> exact h) ?_
  iterate 14 (refine heldI_step rfl rfl (fun w' hS => by (obtain ⟨s0, s1⟩ := hS; go_simp; with_reducible rfl)) ?_; simp only [Act.put, List.setIfInBounds_toArray, List.set_cons_zero, List.set_cons_succ])
  refine heldI_nil ?_
  refine anyZ_next' (j := 14) (by kernel_rfl) rfl rfl ?_
  go_simp
  have k2 := ((Keep.refl (fun _ => False) w1).alloc (.cells #[.string nmMain] 9)).drew
  have HB2 := hid (k2.at HB1.out (fun h => h))
  have HM2 := hid (k2.at HM1.out (fun h => h))
  have HK2 := hid (HK1.out.trans k2 (fun _ _ h => h))
  have hsm : (w1.alloc (.cells #[.string nmMain] 9)).drew.heap.size = w1.heap.size + 1 := by
    show (w1.alloc (.cells #[.string nmMain] 9)).heap.size = _
    simp
  have hrow : (w1.alloc (.cells #[.string nmMain] 9)).drew.heap[w1.heap.size]? = some (.cells #[.string nmMain] 9 (0, 0)) := heap_alloc_new w1 (.cells #[.string nmMain] 9)
  have HD2 := hid (HD1.out.keep k2 (fun h => h) (fun h => h))
  have hbl := lt_of_block HB1.out
  have hml := lt_of_block HM1.out
  clear k2
  refine ⟨⟨by rw [show (w1.alloc (.cells #[.string nmMain] 9)).cell? ⟨bb, 1, none⟩ = (w1.alloc (.cells #[.string nmMain] 9)).drew.cell? ⟨bb, 1, none⟩ from rfl, cell_at HB2.out]; rfl, by rw [show (w1.alloc (.cells #[.string nmMain] 9)).cell? ⟨bb, 2, none⟩ = (w1.alloc (.cells #[.string nmMain] 9)).drew.cell? ⟨bb, 2, none⟩ from rfl, cell_at HB2.out]; rfl⟩, ?_⟩
  generalize (w1.alloc (.cells #[.string nmMain] 9)).drew = w2 at *
  have hb21 : w2.cell? ⟨bb, 1, none⟩ = some (.slice none 0 0) := by rw [cell_at HB2.out]; rfl
  have hb22 : w2.cell? ⟨bb, 2, none⟩ = some (.map (some by_)) := by rw [cell_at HB2.out]; rfl
  obtain ⟨i, hi, hz, hsz, hby⟩ := info_parts (P := Tryz.prog) (e := 9) (z := .string ⟨#[]⟩) (size := 1) (bytes := 16) (by kernel_rfl)
  obtain ⟨v3, w3, hr3, ho3, hg3, -⟩ := run_append_own (P := Tryz.prog) w2 (w1.heap.size + 1) 77 77 9 i (.string ⟨#[]⟩) 1 16 Tryz.underlying77 hi hz hsz hby rfl (by decide) (.slice none 0 0) 0 [] (World.ownsRow_nil _ _ _ _) ⟨w1.heap.size, 0, none⟩ 1 1 [.string nmMain] rfl (by
    intro j u hj
    rw [addr_add0, cell_at hrow]
    match j with
    | 0 => simpa using hj
    | j + 1 => simp at hj) (by intro u hu; obtain rfl : u = .string nmMain := by simpa using hu
                               rfl) (by decide) (by decide) (by omega)
  refine anyZ_next (j := 15) (by kernel_rfl) rfl rfl ?_
  refine wp_append_run _ _ _ _ rfl rfl rfl hr3 ?_
  have k3 : Keep (fun _ => False) w2 w3 := ⟨hg3.os, hg3.tape, hg3.output, hg3.size, fun j hj _ => hg3.block j hj (by simp [Value.ownBlock])⟩
  have HB3 := hid (k3.at HB2.out (fun h => h))
  have hm3 := k3.at HM2.out (fun h => h)
  have HK3 := hid (HK2.out.trans k3 (fun _ _ h => h))
  have HD3 := hid (HD2.out.keep k3 (fun h => h) (fun h => h))
  rcases own_cell ho3 with ⟨-, h, -⟩ | ⟨nb, ncap, rfl, hnb, hn1, hnm, hnl, -, hnc⟩
  · exact absurd h (by decide)
  have hn0 : w3.cell? ⟨nb, 0, none⟩ = some (.string nmMain) := hnc 0 (by simp)
  have HO3 := hid ho3
  have hs3 := k3.size
  clear ho3 hg3 hr3 HB2 HM2 HK2 HD2 k3 hb21 hb22 hrow
  have hb31 : w3.cell? ⟨bb, 1, none⟩ = some (.slice none 0 0) := by rw [cell_at HB3.out]; rfl
  have hb32 : w3.cell? ⟨bb, 2, none⟩ = some (.map (some by_)) := by rw [cell_at HB3.out]; rfl
  refine ⟨fun _ => ⟨hb31, hb32⟩, ?_⟩
  have hmis : MapIs w3 by_ Value.string [] #[] 0 := ⟨hm3, rfl, rfl, List.nodup_nil, fun e he => by simp at he, List.nodup_nil⟩
  obtain ⟨z, hz⟩ : ∃ z, ∀ w, (zeroValue 123).run Tryz.prog w = .ok z w := ⟨_, fun _ => rfl⟩
  have hE := run_mapEntry_new mkey_name 88 123 (by kernel_rfl) z hz hmis nmMain rfl
  refine anyZ_next (j := 16) (by kernel_rfl) rfl rfl ?_
  refine wp_mapEntry _ _ _ rfl rfl rfl hE ?_
  have k4 := setMap_keep w3 by_ (#[].push { key := Value.string nmMain, val := z, born := 0 }) (0 + 1)
  have hB4 := k4.at HB3.out hne
  have hm4 := setMap_block hm3 (#[].push { key := Value.string nmMain, val := z, born := 0 }) (0 + 1)
  have hb41 := (show (setMap w3 by_ (#[].push { key := Value.string nmMain, val := z, born := 0 }) (0 + 1)).cell? ⟨bb, 1, none⟩ = some (.slice none 0 0) by rw [cell_at hB4]; rfl)
  have hb42 := (show (setMap w3 by_ (#[].push { key := Value.string nmMain, val := z, born := 0 }) (0 + 1)).cell? ⟨bb, 2, none⟩ = some (.map (some by_)) by rw [cell_at hB4]; rfl)
  have hwith := fun (v : Value) (w' : World) => map_with_new (w' := w') hmis nmMain v rfl
  refine ⟨fun _ => ⟨hb41, hb42⟩, ?_⟩
  refine anyZ_read (j := 17) (by kernel_rfl) rfl rfl ⟨hb41, hb42⟩ (by go_simp; with_reducible rfl) ?_
  refine anyZ_next (j := 18) (by kernel_rfl) rfl rfl ?_
  refine wp_entryStore _ _ _ _ rfl rfl rfl rfl (run_entryStore_new _ (es := #[]) (clock := 0) (.string nmMain) z (oneV g actor) (fun x hx => by simp at hx) hm4) ?_
  have k5 := setMap_keep (setMap w3 by_ (#[].push { key := Value.string nmMain, val := z, born := 0 }) (0 + 1)) by_ (#[].push { key := Value.string nmMain, val := oneV g actor, born := 0 }) (0 + 1)
  have hB5 := k5.at hB4 hne
  have hm5 := setMap_block hm4 (#[].push { key := Value.string nmMain, val := oneV g actor, born := 0 }) (0 + 1)
  have k35 := k4.trans k5 (fun _ _ h => h)
  clear k4 k5 hB4 hb41 hb42
  generalize setMap (setMap w3 by_ (#[].push { key := Value.string nmMain, val := z, born := 0 }) (0 + 1)) by_ (#[].push { key := Value.string nmMain, val := oneV g actor, born := 0 }) (0 + 1) = w5 at *
  have hb51 : w5.cell? ⟨bb, 1, none⟩ = some (.slice none 0 0) := by rw [cell_at hB5]; rfl
  have hb52 : w5.cell? ⟨bb, 2, none⟩ = some (.map (some by_)) := by rw [cell_at hB5]; rfl
  have hf51 : w5.frozen? ⟨bb, 1, none⟩ = false := frozen_at hB5 1
  have HW := hid (hwith (oneV g actor) w5 hm5)
  have HB5 := hid hB5
  have HK35 := hid k35
  have hn5 : w5.cell? ⟨nb, 0, none⟩ = some (.string nmMain) := by rw [k35.cell hnl (fun (h : nb = by_) => by omega)]; exact hn0
  have HN5 := hid hn5
  clear hwith hm5 hB5 k35 hn5 hn0 hmis hm3 hm4 hE hz
  refine ⟨fun _ => ⟨hb51, hb52⟩, ?_⟩
  refine anyZ_read (j := 19) (by kernel_rfl) rfl rfl ⟨hb51, hb52⟩ (by go_simp; with_reducible rfl) ?_
  refine anyZ_read (j := 20) (by kernel_rfl) rfl rfl ⟨hb51, hb52⟩ (by go_simp; with_reducible rfl) ?_
  refine anyZ_last (by kernel_rfl) rfl rfl (by kernel_rfl) ?_
  go_simp
  go_wp2_with fail
  go_ret
  have hbk : (w5.setCell ⟨bb, 1, none⟩ (.slice (some ⟨nb, 0, none⟩) 1 ncap)).heap[bb]? = some (.cells #[.int .i64 r, .slice (some ⟨nb, 0, none⟩) 1 ncap, .map (some by_), .map (some st)] 91 (0, 0)) := by
    rw [setCell_eq_setRow w5 bb 1 _ _ _ _ HB5.out]
    exact setRow_heap _ _ _ _ _ _ HB5.out
  have k6 := (Keep.refl (fun i => i = bb) w5).setCell (p := ⟨bb, 1, none⟩) (fun _ => rfl) (.slice (some ⟨nb, 0, none⟩) 1 ncap)
  have k36 := (HK35.out.mono (G := fun i => i = bb ∨ i = by_) (fun _ _ h => .inr h)).trans k6 (fun _ _ h => .inl h)
  have hg2 : w.heap.size ≤ g := hg
  have hm2 : w.heap.size ≤ m := hm
  have hcl : (w5.setCell ⟨bb, 1, none⟩ (.slice (some ⟨nb, 0, none⟩) 1 ncap)).cell? ⟨nb, 0, none⟩ = some (.string nmMain) := by
    rw [World.cell?_setCell_other _ _ _ _ (by intro h; injection h with h1; omega)]; exact HN5.out
  have hmp : MapIs (w5.setCell ⟨bb, 1, none⟩ (.slice (some ⟨nb, 0, none⟩) 1 ncap)) by_ Value.string [(nmMain, oneV g actor)] (#[].push { key := Value.string nmMain, val := oneV g actor, born := 0 }) (0 + 1) := ⟨k6.at HW.out.block (fun h => hne h.symm), HW.out.keys, HW.out.vals, HW.out.nodup, HW.out.born, HW.out.bornNodup⟩
  exact ⟨rfl, (HK3.out.mono (G := fun i => i = bb ∨ i = by_) (fun _ _ h => h.elim)).trans k36 (fun _ _ h => h), g, m, ⟨⟨nb, ncap, by_, st, _, _, hbk, hn1, hnm, hcl, hmp⟩, HD3.out.keep k36 (fun h => by omega) (fun h => by omega)⟩⟩
end Go.Proofs.YtmdibkafjpglkaaGreatDoor.Snp

namespace Go.Proofs.YtmdibkafjpglkaaGreatDoor.Snp
open Go Go.RowKit Go.Lib Go.Proofs.YtmdibkafjpglkaaGreatDoor.Dsk Go.Proofs.YtmdibkafjpglkaaGreatDoor.Num

set_option maxRecDepth 100000 in
set_option maxHeartbeats 1000000 in
theorem new_main (w : World) (r actor : Int) (hact : ∀ w, Calls Tryz.prog 78 #[.int .i64 r, .int .i64 0] w fun x w' => x = .returned (.tuple #[.int .i64 actor, .int .i64 0]) ∧ w' = w) :
    Calls Tryz.prog 19 #[.int .i64 r] w fun e w' => ∃ bb g m, e = .returned (.tuple #[ptr bb, .int .i64 0]) ∧ OneBr w' bb g m r actor ∧ Keep (fun _ => False) w w' := by
  have hmm : ∀ w : World, (Instr.makeMap 88 none).run Tryz.prog w = .ok (.map (some w.heap.size)) (w.alloc (.map #[] 0)) := fun _ => rfl
  have hmk : ∀ w : World, (Instr.makeMap 89 none).run Tryz.prog w = .ok (.map (some w.heap.size)) (w.alloc (.map #[] 0)) := fun _ => rfl
  have h0 := heap_alloc_new w (.map #[] 0)
  have h1 : ((w.alloc (.map #[] 0)).alloc (.map #[] 0)).heap[w.heap.size]? = some (.map #[] 0) := by
    rw [Below.heap_alloc _ _ _ (by simp)]; exact h0
  have k2 := ((Keep.refl (fun _ => False) w).alloc (.map #[] 0)).alloc (.map #[] 0)
  have hs2 : ((w.alloc (.map #[] 0)).alloc (.map #[] 0)).heap.size = w.heap.size + 2 := by simp
  have h3 := heap_alloc_new ((w.alloc (.map #[] 0)).alloc (.map #[] 0)) (.cells #[.int .i64 r, .slice none 0 0, .map (some w.heap.size), .map (some (w.heap.size + 1))] 91)
  have h4 : (((w.alloc (.map #[] 0)).alloc (.map #[] 0)).alloc (.cells #[.int .i64 r, .slice none 0 0, .map (some w.heap.size), .map (some (w.heap.size + 1))] 91)).heap[w.heap.size]? = some (.map #[] 0) := by
    rw [Below.heap_alloc _ _ _ (by simp; omega)]; exact h1
  rw [hs2] at h3
  have k3 := k2.alloc (.cells #[.int .i64 r, .slice none 0 0, .map (some w.heap.size), .map (some (w.heap.size + 1))] 91)
  have H3 := hid h3
  have H4 := hid h4
  have K3 := hid k3
  clear h0 h1 k2 hs2 h3 h4 k3
  go_enter Tryz.func19, Tryz.ntmps19
  go_wp2_with fail
  refine (add_main _ (w.heap.size + 2) w.heap.size (w.heap.size + 1) r actor H3.out H4.out (by omega) hact).mono ?_
  rintro e w1 ⟨rfl, hK, g, m, hO⟩
  have HK := hid hK
  have HO := hid hO
  clear hK hO
  go_wp2_with fail
  refine bodyPost_ret (v := _) (results_tmp2 rfl _ _ _) rfl ?_
  exact ⟨_, g, m, rfl, HO.out, K3.out.trans HK.out (fun i hi h => by omega)⟩
set_option maxRecDepth 100000 in
set_option maxHeartbeats 1000000 in
theorem clone_one (w : World) (nb cap : Nat) (s : ByteArray) (hn : w.cell? ⟨nb, 0, none⟩ = some (.string s)) :
    Calls Tryz.prog 71 #[.slice (some ⟨nb, 0, none⟩) 1 cap] w fun e w' => ∃ v, e = .returned v ∧ w'.ownsRow w.heap.size 9 1 v 1 [.string s] ∧ Keep (fun _ => False) w w' := by
  have hq : ∀ w : World, (binOp BinOp.eql 77 (.slice (some ⟨nb, 0, none⟩) 1 cap) (.slice none 0 0)).run Tryz.prog w = .ok (.bool false) w := by
    intro w
    have hu := Tryz.underlying77
    obtain ⟨d, hd⟩ : ∃ d, Op.maxDepth = d + 1 := ⟨_, rfl⟩
    simp [binOp, Op.equal, hd, Op.equalIn, run_underlying hu]
  obtain ⟨i, hi, hz, hsz, hby⟩ := info_parts (P := Tryz.prog) (e := 9) (z := .string ⟨#[]⟩) (size := 1) (bytes := 16) (by kernel_rfl)
  have ka := (Keep.refl (fun _ => False) w).alloc (.cells #[] 9)
  have hc : (w.alloc (.cells #[] 9)).cell? ⟨nb, 0, none⟩ = some (.string s) := by rw [ka.cell (lt_of_cell hn) (fun h => h)]; exact hn
  have hbase : (w.alloc (.cells #[] 9)).ownsRow w.heap.size 9 1 (.slice (some ⟨w.heap.size, 0, none⟩) 0 0) 0 [] := ⟨rfl, .inr ⟨w.heap.size, 0, #[], rfl, Nat.le_refl _, heap_alloc_new _ _, Nat.le_refl _, Nat.zero_le _, rfl, rfl⟩⟩
  obtain ⟨v3, w3, hr3, ho3, hg3, -⟩ := run_append_own (P := Tryz.prog) (w.alloc (.cells #[] 9)) w.heap.size 77 77 9 i (.string ⟨#[]⟩) 1 16 Tryz.underlying77 hi hz hsz hby rfl (by decide) (.slice (some ⟨w.heap.size, 0, none⟩) 0 0) 0 [] hbase ⟨nb, 0, none⟩ 1 cap [.string s] rfl (by
    intro j u hj
    rw [addr_add0]
    match j with
    | 0 => rw [hc]; simpa using hj
    | j + 1 => simp at hj) (by intro u hu; obtain rfl : u = .string s := by simpa using hu
                               rfl) (by decide) (by decide) (by simp)
  have HO := hid ho3
  have HK := hid (ka.trans (keep_grown (F := fun i => i = w.heap.size) hg3 (fun g h => by simpa [Value.ownBlock] using h.symm)) (fun i hi h => by omega))
  clear ho3 hg3 hbase ka hc
  go_enter Tryz.func71, Tryz.ntmps71
  go_wp2_with ((with_reducible refine at_append ?_); refine wpList_plain rfl fun _ hk => ?_; refine wp_append_run _ _ _ _ rfl rfl rfl hr3 ?_; refine hk _ _ ?_; dsimp only)
  all_goals go_ret
  all_goals exact ⟨_, rfl, HO.out, HK.out⟩
section
variable {w : World} {bb g m : Nat} {r actor : Int}
set_option maxRecDepth 100000 in
theorem names_main (h : OneBr w bb g m r actor) : Calls Tryz.prog 44 #[ptr bb] w fun e w' => ∃ v, e = .returned v ∧ w'.ownsRow w.heap.size 9 1 v 1 [.string nmMain] ∧ Keep (fun _ => False) w w' := by
  obtain ⟨nb, cap, by_, st, es, clock, h1, -, -, h4, -⟩ := h.blk
  have b1 : w.cell? ⟨bb, 1, none⟩ = some (.slice (some ⟨nb, 0, none⟩) 1 cap) := by rw [cell_at h1]; rfl
  have HC := hid (clone_one w nb cap nmMain h4)
  clear h h1 h4
  unfold ptr
  go_enter Tryz.func44, Tryz.ntmps44
  go_wp2_with fail
  refine HC.out.mono ?_
  rintro e w1 ⟨v, rfl, hO, hK⟩
  have HO := hid hO
  have HK := hid hK
  clear hO hK
  go_wp2_with fail
  all_goals go_ret
  all_goals exact ⟨_, rfl, HO.out, HK.out⟩
set_option maxRecDepth 100000 in
theorem doc_main (h : OneBr w bb g m r actor) : Calls Tryz.prog 46 #[ptr bb, .string nmMain] w fun e w' => e = .returned (ptr g) ∧ w' = w := by
  obtain ⟨nb, cap, by_, st, es, clock, h1, -, -, -, h5⟩ := h.blk
  have b2 : w.cell? ⟨bb, 2, none⟩ = some (.map (some by_)) := by rw [cell_at h1]; rfl
  obtain ⟨z, hz⟩ : ∃ z, ∀ w, (zeroValue 123).run Tryz.prog w = .ok z w := ⟨_, fun _ => rfl⟩
  have hL := run_lookup_map mkey_name 88 123 (by kernel_rfl) z hz h5 nmMain false
  have hg : (mget [(nmMain, oneV g actor)] nmMain).getD z = oneV g actor := rfl
  rw [hg, if_neg (by decide)] at hL
  unfold oneV at hL
  have hfd : ∀ w : World, (Instr.field 123 (.agg #[.pointer (some ⟨g, 0, none⟩), .int .i64 actor]) 0).run Tryz.prog w = .ok (.pointer (some ⟨g, 0, none⟩)) w := fun _ => rfl
  clear h h1 h5 hg hz
  unfold ptr at hL ⊢
  go_enter Tryz.func46, Tryz.ntmps46
  go_wp2_with fail
  all_goals go_ret
  all_goals exact ⟨rfl, rfl⟩
end
set_option maxRecDepth 100000 in
theorem insert_none (c : Value) (w : World) : Calls Tryz.prog 130 #[.slice none 0 0, .int .i64 0, .int .i64 0, c] w fun e w' => e = .returned (.tuple #[]) ∧ w' = w := by
  go_enter Tryz.func130, Tryz.ntmps130
  go_wp2_with fail
  refine wp_loop_rounds 1 ?_
  rw [rounds_succ]
  go_wp2_with fail
  refine bodyPost_end (results_none rfl _ _ _) rfl ?_
  exact ⟨rfl, rfl⟩
set_option maxRecDepth 100000 in
theorem pdq_none (c : Value) (k : Int) (w : World) : Calls Tryz.prog 103 #[.slice none 0 0, .int .i64 0, .int .i64 0, .int .i64 k, c] w fun e w' => e = .returned (.tuple #[]) ∧ w' = w := by
  go_enter Tryz.func103, Tryz.ntmps103
  go_wp2_with fail
  refine wp_loop_rounds 1 ?_
  rw [rounds_succ]
  go_wp2_with fail
  refine (insert_none _ _).mono ?_
  rintro e w' ⟨rfl, rfl⟩
  go_wp2_with fail
  refine bodyPost_ret (v := _) (results_none rfl _ _ _) rfl ?_
  exact ⟨rfl, rfl⟩
set_option maxRecDepth 100000 in
theorem len_zero (w : World) : Calls Tryz.prog 104 #[.int .u64 0] w fun e w' => e = .returned (.int .i64 0) ∧ w' = w := by
  have h0 := len64_any 0 (by decide)
  go_enter Tryz.func104, Tryz.ntmps104
  go_wp2_with fail
  refine (h0 w).mono ?_
  rintro e w' ⟨rfl, rfl⟩
  go_wp2_with fail
  all_goals go_ret
  all_goals exact ⟨rfl, rfl⟩
set_option maxRecDepth 100000 in
theorem sort_none (c : Value) (w : World) : Calls Tryz.prog 76 #[.slice none 0 0, c] w fun e w' => e = .returned (.tuple #[]) ∧ w' = w := by
  go_enter Tryz.func76, Tryz.ntmps76
  go_wp2_with fail
  refine (len_zero _).mono ?_
  rintro e w' ⟨rfl, rfl⟩
  go_wp2_with fail
  refine (pdq_none _ _ _).mono ?_
  rintro e w' ⟨rfl, rfl⟩
  go_wp2_with fail
  refine bodyPost_end (results_none rfl _ _ _) rfl ?_
  exact ⟨rfl, rfl⟩
end Go.Proofs.YtmdibkafjpglkaaGreatDoor.Snp
