/- Maps as the model has them, read as lists of keys and values. Over any program. -/
import Derived.Test.YtmdibkafjpglkaaGreatDoorKeep
import Derived.Tactics
import Derived.WideLaws
import Derived.MapKept
namespace Go.Proofs.YtmdibkafjpglkaaGreatDoor
open Go.RowKit

section pure_maps
variable {κ : Type} [DecidableEq κ] {α : Type}

def mget (m : List (κ × α)) (k : κ) : Option α := (m.find? (fun p => decide (p.1 = k))).map (·.2)
def mhas (m : List (κ × α)) (k : κ) : Bool := (mget m k).isSome
def mput (m : List (κ × α)) (k : κ) (v : α) : List (κ × α) :=
  if mhas m k then m.map (fun p => if p.1 = k then (k, v) else p) else m ++ [(k, v)]
def mdel (m : List (κ × α)) (k : κ) : List (κ × α) := m.filter (fun p => decide (p.1 ≠ k))

theorem mget_nil (k : κ) : mget ([] : List (κ × α)) k = none := rfl
theorem mget_cons (p : κ × α) (m : List (κ × α)) (k : κ) : mget (p :: m) k = if p.1 = k then some p.2 else mget m k := by
  unfold mget
  rw [List.find?_cons]
  by_cases h : p.1 = k
  · simp [h]
  · simp [h]
theorem mhas_iff (m : List (κ × α)) (k : κ) : mhas m k = true ↔ k ∈ m.map (·.1) := by
  induction m with
  | nil => simp [mhas, mget_nil]
  | cons p m ih =>
    unfold mhas at ih ⊢
    rw [mget_cons]
    by_cases h : p.1 = k
    · simp [h]
    · rw [if_neg h]; simp only [List.map_cons, List.mem_cons]
      rw [ih]
      constructor
      · exact .inr
      · rintro (e | e)
        · exact absurd e.symm h
        · exact e
theorem mget_mem {m : List (κ × α)} {k : κ} {v : α} (h : mget m k = some v) : (k, v) ∈ m := by
  induction m with
  | nil => cases h
  | cons p m ih =>
    rw [mget_cons] at h
    by_cases e : p.1 = k
    · rw [if_pos e] at h
      obtain rfl := Option.some.inj h
      rw [← e]; exact List.mem_cons_self
    · rw [if_neg e] at h; exact List.mem_cons_of_mem _ (ih h)
theorem mget_of_mem {m : List (κ × α)} (hn : (m.map (·.1)).Nodup) {k : κ} {v : α} (h : (k, v) ∈ m) : mget m k = some v := by
  induction m with
  | nil => cases h
  | cons p m ih =>
    rw [mget_cons]
    simp only [List.map_cons, List.nodup_cons] at hn
    rcases List.mem_cons.1 h with e | e
    · subst e; rw [if_pos rfl]
    · rw [if_neg (fun e2 => hn.1 (by rw [e2]; exact List.mem_map_of_mem (f := (·.1)) e))]; exact ih hn.2 e
theorem mget_append (m : List (κ × α)) (q : List (κ × α)) (k : κ) : mget (m ++ q) k = (mget m k).or (mget q k) := by
  induction m with
  | nil => simp [mget_nil]
  | cons p m ih =>
    rw [List.cons_append, mget_cons, mget_cons, ih]
    by_cases e : p.1 = k <;> simp [e]
theorem mget_map (m : List (κ × α)) (k j : κ) (v : α) : mget (m.map (fun p => if p.1 = k then (k, v) else p)) j = if j = k then (mget m j).map (fun _ => v) else mget m j := by
  induction m with
  | nil => simp [mget_nil]
  | cons p m ih =>
    rw [List.map_cons, mget_cons, mget_cons, ih]
    by_cases e : p.1 = k
    · simp only [if_pos e]
      by_cases e2 : k = j
      · subst e2; simp [e]
      · rw [if_neg e2, if_neg (fun h => e2 h.symm), if_neg (fun h => e2 (e.symm.trans h)), if_neg (fun h => e2 h.symm)]
    · simp only [if_neg e]
      by_cases e2 : p.1 = j
      · subst e2; simp [e]
      · simp [e2]
theorem mget_mput (m : List (κ × α)) (k j : κ) (v : α) : mget (mput m k v) j = if j = k then some v else mget m j := by
  unfold mput
  by_cases h : mhas m k = true
  · rw [if_pos h, mget_map]
    by_cases e : j = k
    · subst e
      rw [if_pos rfl, if_pos rfl]
      unfold mhas at h
      cases hm : mget m j with
      | none => rw [hm] at h; cases h
      | some u => rfl
    · rw [if_neg e, if_neg e]
  · rw [if_neg h, mget_append, mget_cons, mget_nil]
    unfold mhas at h
    cases hm : mget m k with
    | some u => rw [hm] at h; exact absurd rfl h
    | none =>
      by_cases e : j = k
      · subst e; simp [hm]
      · rw [if_neg e, if_neg (fun h => e h.symm)]; simp
theorem keys_mput (m : List (κ × α)) (k : κ) (v : α) : (mput m k v).map (·.1) = if mhas m k then m.map (·.1) else m.map (·.1) ++ [k] := by
  unfold mput
  by_cases h : mhas m k = true
  · rw [if_pos h, if_pos h, List.map_map]
    apply List.map_congr_left
    intro p _
    simp only [Function.comp]
    split
    · rename_i e; exact e.symm
    · rfl
  · rw [if_neg h, if_neg h]; simp
theorem nodup_mput {m : List (κ × α)} (hn : (m.map (·.1)).Nodup) (k : κ) (v : α) : ((mput m k v).map (·.1)).Nodup := by
  rw [keys_mput]
  by_cases h : mhas m k = true
  · rw [if_pos h]; exact hn
  · rw [if_neg h]
    rw [mhas_iff] at h
    rw [List.nodup_append]
    refine ⟨hn, by simp, ?_⟩
    intro a ha b hb
    obtain rfl : b = k := by simpa using hb
    intro e; subst e; exact h ha
theorem nodup_mdel {m : List (κ × α)} (hn : (m.map (·.1)).Nodup) (k : κ) : ((mdel m k).map (·.1)).Nodup := by
  unfold mdel
  exact hn.sublist ((List.filter_sublist).map _)
theorem mget_mdel (m : List (κ × α)) (k j : κ) : mget (mdel m k) j = if j = k then none else mget m j := by
  unfold mdel
  induction m with
  | nil => simp [mget_nil]
  | cons p m ih =>
    by_cases e : p.1 = k
    · rw [List.filter_cons_of_neg (by simp [e]), ih, mget_cons]
      by_cases e2 : j = k
      · simp [e2]
      · rw [if_neg e2, if_neg e2, if_neg (fun h => e2 (h.symm.trans e))]
    · rw [List.filter_cons_of_pos (by simp [e]), mget_cons, mget_cons, ih]
      by_cases e2 : p.1 = j
      · rw [if_pos e2, if_pos e2, if_neg (fun h => e (e2.trans h))]
      · rw [if_neg e2, if_neg e2]

/-- Where a key stands. -/
def findE (ks : List κ) (es : List MapEntry) (k : κ) (i : Nat) : Option (Nat × Value) :=
  match ks, es with
  | k' :: ks, e :: es => if k = k' then some (i, e.val) else findE ks es k (i + 1)
  | _, _ => none
end pure_maps

/-- A type of keys: its values, what compares them. -/
structure MKey (P : Program) (K : TypeId) {κ : Type} [DecidableEq κ] (enc : κ → Value) : Prop where
  check : ∀ w em k, (Instr.checkKey em 10000 K (enc k)).run P w = .ok () w
  find : ∀ w (es : List MapEntry) (ks : List κ) (k : κ), es.map (·.key) = ks.map enc → (Instr.findKey K (enc k) es).run P w = .ok (findE ks es k 0) w
  same : ∀ k, Instr.sameBits 10000 (enc k) (enc k) = true
  inj : ∀ a b, enc a = enc b → a = b

section laws
variable {P : Program} {K : TypeId} {κ : Type} [DecidableEq κ] {enc : κ → Value}

/-- Block r is a map that reads as m. -/
structure MapIs (w : World) (r : Nat) (enc : κ → Value) (m : List (κ × Value)) (es : Array MapEntry) (clock : Nat) : Prop where
  block : w.heap[r]? = some (.map es clock)
  keys : es.toList.map (·.key) = m.map (fun p => enc p.1)
  vals : es.toList.map (·.val) = m.map (·.2)
  nodup : (m.map (·.1)).Nodup
  born : ∀ e ∈ es.toList, e.born < clock
  bornNodup : (es.toList.map (·.born)).Nodup

theorem findE_get (m : List (κ × Value)) (es : List MapEntry) (k : κ) (hv : es.map (·.val) = m.map (·.2)) : ∀ i, (findE (m.map (·.1)) es k i).map (·.2) = mget m k := by
  induction m generalizing es with
  | nil => intro i; cases es <;> rfl
  | cons p m ih =>
    intro i
    cases es with
    | nil => simp at hv
    | cons e es =>
      simp only [List.map_cons, List.cons.injEq] at hv
      rw [List.map_cons, findE, mget_cons]
      by_cases h : k = p.1
      · rw [if_pos h, if_pos h.symm]; simp [hv.1]
      · rw [if_neg h, if_neg (fun e => h e.symm)]; exact ih es hv.2 (i + 1)

theorem findE_at (ks : List κ) (es : List MapEntry) (k : κ) : ∀ i j v, findE ks es k i = some (j, v) → i ≤ j ∧ ks[j - i]? = some k ∧ ∃ e, es[j - i]? = some e ∧ e.val = v := by
  induction ks generalizing es with
  | nil => intro i j v h; cases es <;> cases h
  | cons k' ks ih =>
    intro i j v h
    cases es with
    | nil => cases h
    | cons e es =>
      rw [findE] at h
      by_cases hk : k = k'
      · rw [if_pos hk] at h
        obtain ⟨rfl, rfl⟩ := Prod.mk.inj (Option.some.inj h)
        subst hk
        exact ⟨Nat.le_refl _, by simp, e, by simp, rfl⟩
      · rw [if_neg hk] at h
        obtain ⟨h1, h2, e', h3, h4⟩ := ih es (i + 1) j v h
        have e1 : j - i = (j - (i + 1)) + 1 := by omega
        refine ⟨by omega, ?_, e', ?_, h4⟩
        · rw [e1]; simpa using h2
        · rw [e1]; simpa using h3

theorem run_findKey_map (hK : MKey P K enc) {w : World} {r : Nat} {m : List (κ × Value)} {es : Array MapEntry} {clock : Nat} (h : MapIs w r enc m es clock) (w2 : World) (k : κ) :
    (Instr.findKey K (enc k) es.toList).run P w2 = .ok (findE (m.map (·.1)) es.toList k 0) w2 :=
  hK.find w2 _ _ k (by rw [h.keys, List.map_map]; rfl)

theorem run_lookup_map (hK : MKey P K enc) (T E : TypeId) (hT : P.underlying T = some (.map K E)) (z : Value) (hz : ∀ w, (zeroValue E).run P w = .ok z w)
    {w : World} {r : Nat} {m : List (κ × Value)} {es : Array MapEntry} {clock : Nat} (h : MapIs w r enc m es clock) (k : κ) (ok : Bool) :
    (Instr.lookup T (.map (some r)) (enc k) ok).run P w = .ok (if ok then .tuple #[(mget m k).getD z, .bool (mget m k).isSome] else (mget m k).getD z) w := by
  have hg := findE_get m es.toList k h.vals 0
  have hgo := run_getObj_map (P := P) w r es clock h.block
  simp only [Instr.lookup, Sem.run_bind, run_underlying hT, Result.andThen_ok, hgo, Sem.run_pure, hK.check, run_findKey_map hK h]
  cases hf : findE (m.map (·.1)) es.toList k 0 with
  | none =>
    rw [hf] at hg
    simp only [Option.map_none] at hg
    simp [hz, ← hg]
  | some p =>
    rw [hf] at hg
    simp only [Option.map_some] at hg
    simp [← hg]

/-- The world with another map at a block. -/
def setMap (w : World) (r : Nat) (es : Array MapEntry) (clock : Nat) : World := { w with heap := w.heap.setIfInBounds r (.map es clock) }

theorem setMap_keep (w : World) (r : Nat) (es : Array MapEntry) (clock : Nat) : Keep (fun k => k = r) w (setMap w r es clock) :=
  keep_one rfl rfl rfl (by simp [setMap]) (fun k hk => by simp [setMap, Ne.symm hk])
theorem setMap_size (w : World) (r : Nat) (es : Array MapEntry) (clock : Nat) : (setMap w r es clock).heap.size = w.heap.size := by simp [setMap]
theorem setMap_block {w : World} {r : Nat} {o : Obj} (h : w.heap[r]? = some o) (es : Array MapEntry) (clock : Nat) : (setMap w r es clock).heap[r]? = some (.map es clock) := by
  have := lt_of_block h
  simp [setMap, this]

theorem run_setObj_map {w : World} {r : Nat} {es es' : Array MapEntry} {clock clock' : Nat} (h : w.heap[r]? = some (.map es clock)) : (setObj r (.map es' clock')).run P w = .ok () (setMap w r es' clock') := by
  simp [setObj, Sem.run, h, setMap]

theorem findE_some_has (m : List (κ × Value)) (es : List MapEntry) (k : κ) (hv : es.map (·.val) = m.map (·.2)) {p : Nat × Value} (h : findE (m.map (·.1)) es k 0 = some p) : mhas m k = true := by
  have := findE_get m es k hv 0
  rw [h] at this
  unfold mhas
  rw [← this]; rfl
theorem findE_none_has (m : List (κ × Value)) (es : List MapEntry) (k : κ) (hv : es.map (·.val) = m.map (·.2)) (h : findE (m.map (·.1)) es k 0 = none) : mhas m k = false := by
  have := findE_get m es k hv 0
  rw [h] at this
  unfold mhas
  rw [← this]; rfl

theorem map_set_of (m : List (κ × Value)) (hn : (m.map (·.1)).Nodup) (k : κ) (v : Value) : ∀ i, (m.map (·.1))[i]? = some k → m.map (fun p => if p.1 = k then (k, v) else p) = m.set i (k, v) := by
  induction m with
  | nil => intro i h; simp at h
  | cons p m ih =>
    intro i h
    simp only [List.map_cons, List.nodup_cons] at hn
    cases i with
    | zero =>
      have hp : p.1 = k := by simpa using h
      rw [List.map_cons, if_pos hp, List.set_cons_zero]
      congr 1
      refine (List.map_congr_left (fun q hq => ?_)).trans (List.map_id m)
      rw [if_neg (fun e => hn.1 (by rw [hp, ← e]; exact List.mem_map_of_mem (f := (·.1)) hq))]; rfl
    | succ i =>
      have hm : (m.map (·.1))[i]? = some k := by simpa using h
      have hp : p.1 ≠ k := fun e => hn.1 (by rw [e]; exact List.mem_of_getElem? hm)
      rw [List.map_cons, if_neg hp, List.set_cons_succ, ih hn.2 i hm]
theorem filter_erase_of (m : List (κ × Value)) (hn : (m.map (·.1)).Nodup) (k : κ) : ∀ i, (m.map (·.1))[i]? = some k → mdel m k = m.eraseIdx i := by
  unfold mdel
  induction m with
  | nil => intro i h; simp at h
  | cons p m ih =>
    intro i h
    simp only [List.map_cons, List.nodup_cons] at hn
    cases i with
    | zero =>
      have hp : p.1 = k := by simpa using h
      rw [List.filter_cons_of_neg (by simp [hp]), List.eraseIdx_cons_zero]
      refine List.filter_eq_self.2 (fun q hq => ?_)
      simp only [decide_eq_true_eq]
      exact fun e => hn.1 (by rw [hp, ← e]; exact List.mem_map_of_mem (f := (·.1)) hq)
    | succ i =>
      have hm : (m.map (·.1))[i]? = some k := by simpa using h
      have hp : p.1 ≠ k := fun e => hn.1 (by rw [e]; exact List.mem_of_getElem? hm)
      rw [List.filter_cons_of_pos (by simp [hp]), List.eraseIdx_cons_succ, ih hn.2 i hm]
theorem filter_self_of (m : List (κ × Value)) (k : κ) (h : mhas m k = false) : mdel m k = m := by
  unfold mdel
  refine List.filter_eq_self.2 (fun q hq => ?_)
  simp only [decide_eq_true_eq]
  intro e
  have : mhas m k = true := (mhas_iff m k).2 (by rw [← e]; exact List.mem_map_of_mem (f := (·.1)) hq)
  rw [h] at this; cases this

theorem map_modify {α β : Type} (l : List α) (i : Nat) (f : α → α) (g : α → β) : (l.modify i f).map g = match l[i]? with | some x => (l.map g).set i (g (f x)) | none => l.map g := by
  induction l generalizing i with
  | nil => cases i <;> rfl
  | cons x l ih =>
    cases i with
    | zero => simp
    | succ i =>
      have := ih i
      simp only [List.modify_succ_cons, List.map_cons, List.getElem?_cons_succ, this]
      cases l[i]? <;> simp

theorem set_same {α : Type} (l : List α) (i : Nat) (x : α) (h : l[i]? = some x) : l.set i x = l := by
  apply List.ext_getElem?
  intro j
  rw [List.getElem?_set]
  by_cases e : i = j
  · subst e
    rw [if_pos rfl, h]
    simp [List.getElem?_eq_some_iff.1 h |>.1]
  · rw [if_neg e]

theorem run_mapUpdate_map (hK : MKey P K enc) (T E : TypeId) (hT : P.underlying T = some (.map K E))
    {w : World} {r : Nat} {m : List (κ × Value)} {es : Array MapEntry} {clock : Nat} (h : MapIs w r enc m es clock) (k : κ) (v : Value) :
    ∃ es' clock', (Instr.mapUpdate T (.map (some r)) (enc k) v).run P w = .ok () (setMap w r es' clock') ∧ MapIs (setMap w r es' clock') r enc (mput m k v) es' clock' := by
  have hgo := run_getObj_map (P := P) w r es clock h.block
  cases hf : findE (m.map (·.1)) es.toList k 0 with
  | none =>
    have hh := findE_none_has m es.toList k h.vals hf
    refine ⟨es.push { key := enc k, val := v, born := clock }, clock + 1, ?_, ⟨setMap_block h.block _ _, ?_, ?_, nodup_mput h.nodup k v, ?_, ?_⟩⟩
    · simp only [Instr.mapUpdate, Sem.run_bind, run_underlying hT, Result.andThen_ok, hgo, hK.check, run_findKey_map hK h, hf, run_setObj_map h.block]
    · unfold mput; rw [hh]; simp [h.keys]
    · unfold mput; rw [hh]; simp [h.vals]
    · intro e he
      simp only [Array.toList_push, List.mem_append, List.mem_singleton] at he
      rcases he with he | rfl
      · have := h.born e he; omega
      · exact Nat.lt_succ_self _
    · rw [Array.toList_push, List.map_append, List.nodup_append]
      refine ⟨h.bornNodup, by simp, ?_⟩
      intro a ha b hb
      obtain ⟨e, he, rfl⟩ := List.mem_map.1 ha
      have := h.born e he
      obtain rfl : b = clock := by simpa using hb
      omega
  | some p =>
    obtain ⟨i, u⟩ := p
    have hh := findE_some_has m es.toList k h.vals hf
    obtain ⟨-, h2, e, h3, h4⟩ := findE_at _ _ _ 0 i u hf
    rw [Nat.sub_zero] at h2 h3
    have hek : e.key = enc k := by
      have hk1 : (es.toList.map (·.key))[i]? = some e.key := by simp only [List.getElem?_map, h3, Option.map_some]
      rw [h.keys] at hk1
      have hk2 : (m.map (fun p => enc p.1))[i]? = some (enc k) := by
        have : (m.map (fun p => enc p.1)) = (m.map (·.1)).map enc := by rw [List.map_map]; rfl
        rw [this, List.getElem?_map, h2]; rfl
      rw [hk1] at hk2
      exact Option.some.inj hk2
    have hes : es[i]? = some e := by rw [← Array.getElem?_toList]; exact h3
    refine ⟨es.modify i fun e => { e with key := enc k, val := v }, clock, ?_, ⟨setMap_block h.block _ _, ?_, ?_, nodup_mput h.nodup k v, ?_, ?_⟩⟩
    · have hks : (Instr.keyThatStays e.key (enc k)).run P w = .ok (enc k) w := by
        unfold Instr.keyThatStays; rw [hek, hK.same, if_pos rfl]; rfl
      simp only [Instr.mapUpdate, Sem.run_bind, run_underlying hT, Result.andThen_ok, hgo, hK.check, run_findKey_map hK h, hf, hes, Option.map_some, Option.getD_some, hks, run_setObj_map h.block]
    · rw [Array.toList_modify, map_modify, h3]
      simp only
      unfold mput
      rw [if_pos hh, map_set_of m h.nodup k v i h2, h.keys, List.map_set]
    · rw [Array.toList_modify, map_modify, h3]
      simp only
      unfold mput
      rw [if_pos hh, map_set_of m h.nodup k v i h2, h.vals, List.map_set]
    · intro e' he'
      rw [Array.toList_modify] at he'
      have : (e'.born) ∈ ((es.toList.modify i fun e => { e with key := enc k, val := v }).map (·.born)) := List.mem_map_of_mem (f := (·.born)) he'
      rw [map_modify, h3] at this
      simp only at this
      rw [set_same (es.toList.map (·.born)) i e.born (by rw [List.getElem?_map, h3]; rfl)] at this
      obtain ⟨e2, h5, h6⟩ := List.mem_map.1 this
      rw [← h6]; exact h.born e2 h5
    · rw [Array.toList_modify, map_modify, h3]
      simp only
      rw [set_same (es.toList.map (·.born)) i e.born (by rw [List.getElem?_map, h3]; rfl)]
      exact h.bornNodup

theorem map_erase {α β : Type} (f : α → β) (l : List α) : ∀ i, (l.eraseIdx i).map f = (l.map f).eraseIdx i := by
  induction l with
  | nil => intro i; rfl
  | cons x l ih => intro i; cases i with
    | zero => rfl
    | succ i => simp [ih i]

theorem run_delete_map (hK : MKey P K enc) (T E ty : TypeId) (hT : P.underlying T = some (.map K E)) (A2 : TypeId)
    {w : World} {r : Nat} {m : List (κ × Value)} {es : Array MapEntry} {clock : Nat} (h : MapIs w r enc m es clock) (k : κ) :
    ∃ es', (Builtin.delete_ #[T, A2] ty #[.map (some r), enc k]).run P w = .ok (.tuple #[]) (setMap w r es' clock) ∧ MapIs (setMap w r es' clock) r enc (mdel m k) es' clock := by
  have hgo := run_getObj_map (P := P) w r es clock h.block
  cases hf : findE (m.map (·.1)) es.toList k 0 with
  | none =>
    have hh := findE_none_has m es.toList k h.vals hf
    refine ⟨es, ?_, ⟨setMap_block h.block _ _, ?_, ?_, nodup_mdel h.nodup k, h.born, h.bornNodup⟩⟩
    · simp [Builtin.delete_, Sem.run_bind, run_underlying hT, hgo, hK.check, run_findKey_map hK h, hf, run_setObj_map h.block]
    · rw [filter_self_of m k hh]; exact h.keys
    · rw [filter_self_of m k hh]; exact h.vals
  | some p =>
    obtain ⟨i, u⟩ := p
    obtain ⟨-, h2, e, h3, h4⟩ := findE_at _ _ _ 0 i u hf
    rw [Nat.sub_zero] at h2 h3
    have hes : (es.eraseIdxIfInBounds i).toList = es.toList.eraseIdx i := by
      have hlt : i < es.size := by have := (List.getElem?_eq_some_iff.1 h3).1; simpa using this
      unfold Array.eraseIdxIfInBounds
      rw [dif_pos hlt, Array.toList_eraseIdx]
    refine ⟨es.eraseIdxIfInBounds i, ?_, ⟨setMap_block h.block _ _, ?_, ?_, nodup_mdel h.nodup k, ?_, ?_⟩⟩
    · simp [Builtin.delete_, Sem.run_bind, run_underlying hT, hgo, hK.check, run_findKey_map hK h, hf, run_setObj_map h.block]
    · rw [hes, filter_erase_of m h.nodup k i h2, map_erase, map_erase, h.keys]
    · rw [hes, filter_erase_of m h.nodup k i h2, map_erase, map_erase, h.vals]
    · intro e' he'
      rw [hes] at he'
      exact h.born e' (List.mem_of_mem_eraseIdx he')
    · rw [hes, map_erase]
      exact h.bornNodup.sublist (List.eraseIdx_sublist _ _)

omit [DecidableEq κ] in
theorem run_len_mapis (T E ty : TypeId) (hT : P.underlying T = some (.map K E)) {w : World} {r : Nat} {m : List (κ × Value)} {es : Array MapEntry} {clock : Nat} (h : MapIs w r enc m es clock) :
    (Builtin.len_ #[T] ty #[.map (some r)]).run P w = .ok (.int .i64 (m.length : Int)) w := by
  have hgo := run_getObj_map (P := P) w r es clock h.block
  have hl : es.size = m.length := by
    have := congrArg List.length h.vals
    simpa using this
  simp [Builtin.len_, run_underlying hT, hgo, goInt, hl]

/-- What is still to come of a map that is ranged over. -/
def todoOf (m : List (κ × Value)) (es : List MapEntry) (seen : Array Nat) : List (κ × Value) :=
  match m, es with
  | p :: m, e :: es => if seen.contains e.born then todoOf m es seen else p :: todoOf m es seen
  | _, _ => []

/-- Block it is an iterator over the map at r, which has not turned since. -/
structure IterIs (w : World) (it r : Nat) (enc : κ → Value) (m : List (κ × Value)) (es : Array MapEntry) (clock : Nat) (seen : Array Nat) : Prop where
  iter : w.heap[it]? = some (.mapIter (some r) clock seen clock)
  map : MapIs w r enc m es clock

theorem run_getObj_iter {w : World} {it r s c : Nat} {seen : Array Nat} (h : w.heap[it]? = some (.mapIter (some r) s seen c)) : (getObj it).run P w = .ok (.mapIter (some r) s seen c) w := by
  simp [getObj, Sem.run, h]

omit [DecidableEq κ] in
theorem run_range_map (T E : TypeId) (hT : P.underlying T = some (.map K E)) {w : World} {r : Nat} {m : List (κ × Value)} {es : Array MapEntry} {clock : Nat} (h : MapIs w r enc m es clock) :
    (Instr.range T (.map (some r))).run P w = .ok (.pointer (some ⟨w.heap.size, 0, none⟩)) (w.alloc (.mapIter (some r) clock #[] clock)) ∧ IterIs (w.alloc (.mapIter (some r) clock #[] clock)) w.heap.size r enc m es clock #[] := by
  have hgo := run_getObj_map (P := P) w r es clock h.block
  have hlt := lt_of_block h.block
  refine ⟨?_, ⟨heap_alloc_new _ _, ⟨?_, h.keys, h.vals, h.nodup, h.born, h.bornNodup⟩⟩⟩
  · simp [Instr.range, run_underlying hT, hgo, newObj, Sem.run, World.alloc, -World.alloc_eq]
  · rw [Below.heap_alloc _ _ _ hlt]; exact h.block

omit [DecidableEq κ] in
theorem todoOf_nil_iff (m : List (κ × Value)) (es : List MapEntry) (seen : Array Nat) (hl : es.length = m.length) : todoOf m es seen = [] ↔ es.filter (fun e => !seen.contains e.born) = [] := by
  induction m generalizing es with
  | nil => cases es with
    | nil => simp [todoOf]
    | cons e es => simp at hl
  | cons p m ih =>
    cases es with
    | nil => simp at hl
    | cons e es =>
      rw [todoOf]
      by_cases h : seen.contains e.born = true
      · rw [if_pos h, List.filter_cons_of_neg (by rw [h]; simp)]; exact ih es (by simpa using hl)
      · rw [if_neg h, List.filter_cons_of_pos (by simpa using h)]; simp

theorem todoOf_push (m : List (κ × Value)) (hn : (m.map (·.1)).Nodup) (es : List MapEntry) (seen : Array Nat) (hb : (es.map (·.born)).Nodup) : ∀ (i : Nat) (p : κ × Value) (e : MapEntry), m[i]? = some p → es[i]? = some e → seen.contains e.born = false →
    todoOf m es (seen.push e.born) = (todoOf m es seen).filter (fun q => decide (q.1 ≠ p.1)) ∧ p ∈ todoOf m es seen := by
  induction m generalizing es with
  | nil => intro i p e h; simp at h
  | cons q m ih =>
    intro i p e h1 h2 hs
    cases es with
    | nil => simp at h2
    | cons e0 es =>
      simp only [List.map_cons, List.nodup_cons] at hn hb
      cases i with
      | zero =>
        obtain rfl : q = p := by simpa using h1
        obtain rfl : e0 = e := by simpa using h2
        have hc : (seen.push e0.born).contains e0.born = true := by simp
        rw [todoOf, if_pos hc, todoOf, hs]
        simp only [Bool.false_eq_true, if_false]
        refine ⟨?_, List.mem_cons_self⟩
        rw [List.filter_cons_of_neg (by simp)]
        have : ∀ (m : List (κ × Value)) (es : List MapEntry), q.1 ∉ m.map (·.1) → e0.born ∉ es.map (·.born) → todoOf m es (seen.push e0.born) = (todoOf m es seen).filter (fun x => decide (x.1 ≠ q.1)) := by
          intro m
          induction m with
          | nil => intro es _ _; cases es <;> rfl
          | cons x m ih2 =>
            intro es hm hes
            cases es with
            | nil => rfl
            | cons y es =>
              simp only [List.map_cons, List.mem_cons, not_or] at hm hes
              rw [todoOf, todoOf]
              have hy : (seen.push e0.born).contains y.born = seen.contains y.born := by
                rw [Bool.eq_iff_iff]
                simp only [Array.contains_iff_mem, Array.mem_push]
                constructor
                · rintro (h | h)
                  · exact h
                  · exact absurd h.symm hes.1
                · exact .inl
              rw [hy]
              by_cases hc2 : seen.contains y.born = true
              · rw [if_pos hc2, if_pos hc2]; exact ih2 es hm.2 hes.2
              · rw [if_neg hc2, if_neg hc2, List.filter_cons_of_pos (by simpa using fun h => hm.1 h.symm), ih2 es hm.2 hes.2]
        exact this m es hn.1 hb.1
      | succ i =>
        have h1' : m[i]? = some p := by simpa using h1
        have h2' : es[i]? = some e := by simpa using h2
        obtain ⟨j1, j2⟩ := ih hn.2 es hb.2 i p e h1' h2' hs
        have hne : e0.born ≠ e.born := fun h => hb.1 (by rw [h]; exact List.mem_map_of_mem (f := (·.born)) (List.mem_of_getElem? h2'))
        have hnp : q.1 ≠ p.1 := fun h => hn.1 (by rw [h]; exact List.mem_map_of_mem (f := (·.1)) (List.mem_of_getElem? h1'))
        have hc : (seen.push e.born).contains e0.born = seen.contains e0.born := by
          rw [Bool.eq_iff_iff]
          simp only [Array.contains_iff_mem, Array.mem_push]
          constructor
          · rintro (h | h)
            · exact h
            · exact absurd h hne
          · exact .inl
        rw [todoOf, todoOf, hc, j1]
        by_cases hc2 : seen.contains e0.born = true
        · rw [if_pos hc2, if_pos hc2]; exact ⟨rfl, j2⟩
        · rw [if_neg hc2, if_neg hc2, List.filter_cons_of_pos (by simpa using hnp)]
          exact ⟨rfl, List.mem_cons_of_mem _ j2⟩

/-- What a step of a range over a map has left. -/
structure Stepped (P : Program) (w w' : World) (it r : Nat) (enc : κ → Value) (m : List (κ × Value)) (es : Array MapEntry) (clock : Nat) (seen : Array Nat) (p : κ × Value) (e : MapEntry) : Prop where
  iter : IterIs w' it r enc m es clock (seen.push e.born)
  keep : Keep (fun k => k = it) w w'
  size : w'.heap.size = w.heap.size
  mem : p ∈ todoOf m es.toList seen
  todo : todoOf m es.toList (seen.push e.born) = (todoOf m es.toList seen).filter (fun q => decide (q.1 ≠ p.1))
  entry : (Instr.entry (.pointer (some ⟨it, 0, none⟩))).run P w' = .ok (.tuple #[enc p.1, p.2]) w'

theorem find_born (es : List MapEntry) (hb : (es.map (·.born)).Nodup) (e : MapEntry) (he : e ∈ es) : es.find? (fun x => x.born == e.born) = some e := by
  induction es with
  | nil => cases he
  | cons x es ih =>
    simp only [List.map_cons, List.nodup_cons] at hb
    rw [List.find?_cons]
    rcases List.mem_cons.1 he with rfl | h
    · simp
    · have : (x.born == e.born) = false := by
        rw [beq_eq_false_iff_ne]
        intro h2; exact hb.1 (by rw [h2]; exact List.mem_map_of_mem (f := (·.born)) h)
      rw [this]; exact ih hb.2 h

theorem run_next_map {w : World} {it r : Nat} {m : List (κ × Value)} {es : Array MapEntry} {clock : Nat} {seen : Array Nat} (h : IterIs w it r enc m es clock seen) (hne : it ≠ r) (ty : TypeId) :
    (todoOf m es.toList seen = [] ∧ (Instr.next (.pointer (some ⟨it, 0, none⟩)) false ty).run P w = .ok (.tuple #[.bool false]) w) ∨
    ∃ p e w', (Instr.next (.pointer (some ⟨it, 0, none⟩)) false ty).run P w = .ok (.tuple #[.bool true, enc p.1, p.2]) w' ∧ Stepped P w w' it r enc m es clock seen p e := by
  have hgi := run_getObj_iter (P := P) h.iter
  have hgm := run_getObj_map (P := P) w r es clock h.map.block
  have hlen : es.toList.length = m.length := by have := congrArg List.length h.map.vals; simpa using this
  have hall : (!seen.isEmpty && !es.isEmpty && es.all (·.born ≥ clock)) = false := by
    rw [Bool.eq_false_iff]
    intro hc
    simp only [Bool.and_eq_true] at hc
    have hne : es.toList ≠ [] := by intro he; have : es = #[] := by rw [← Array.toList_eq_nil_iff]; exact he
                                    rw [this] at hc; simp at hc
    obtain ⟨x, l, hx⟩ := List.exists_cons_of_ne_nil hne
    have h1 := h.map.born x (by rw [hx]; exact List.mem_cons_self)
    have h2 := (Array.all_eq_true_iff_forall_mem.1 hc.2) x (by rw [← Array.mem_toList_iff, hx]; exact List.mem_cons_self)
    simp at h2
    omega
  generalize hleft : es.filter (fun e => !seen.contains e.born) = left at *
  have hin : ∀ e ∈ left, e ∈ es.toList ∧ seen.contains e.born = false := by
    intro e he
    rw [← hleft, Array.mem_filter] at he
    exact ⟨by rw [Array.mem_toList_iff]; exact he.1, by simpa using he.2⟩
  have hold : left.filter (fun e => decide (e.born < clock)) = left := by
    rw [Array.filter_eq_self]
    intro e he
    simpa using h.map.born e (hin e he).1
  have hnew : left.filter (fun e => decide (e.born ≥ clock)) = #[] := by
    rw [Array.filter_eq_empty_iff]
    intro e he
    have := h.map.born e (hin e he).1
    simp; omega
  have hlist : left.toList = es.toList.filter (fun e => !seen.contains e.born) := by rw [← hleft, Array.toList_filter]
  by_cases hemp : left = #[]
  · refine .inl ⟨?_, ?_⟩
    · rw [todoOf_nil_iff _ _ _ hlen, ← hlist, hemp]
    · simp only [Instr.next, Sem.run_bind, hgi, Result.andThen_ok, hgm, hall, Bool.false_eq_true, if_false, hleft, hemp]
      simp [choose, Sem.run, Question.forced]
  · have hsz : 0 < left.size := by
      rcases Nat.eq_zero_or_pos left.size with h0 | h0
      · exact absurd (Array.eq_empty_of_size_eq_zero h0) hemp
      · exact h0
    have hie : left.isEmpty = false := by simpa using hemp
    have hrun : ∃ (j : Nat) (w1 : World), j < left.size ∧ (w1 = w ∨ w1 = w.drew) ∧ (Instr.next (.pointer (some ⟨it, 0, none⟩)) false ty).run P w =
        (Sem.run P (match (left.map some)[j]? with
          | some (some e) => (do setObj it (.mapIter (some r) clock (seen.push e.born) clock); pure (Value.tuple #[.bool true, e.key, e.val]) : Sem Value)
          | some none => pure (.tuple #[.bool false])
          | none => stuck "Next: no such candidate") w1) := by
      simp only [Instr.next, Sem.run_bind, hgi, Result.andThen_ok, hgm, hall, Bool.false_eq_true, if_false, hleft, hold, hnew, hie]
      by_cases h1 : left.size ≤ 1
      · refine ⟨0, w, hsz, .inl rfl, ?_⟩
        simp only [Array.append_empty, Array.empty_append, Array.size_map, choose, Sem.run, Question.forced, h1, decide_true, if_true, Result.andThen_ok]
        rfl
      · refine ⟨w.tape w.drawn (.mapNext left.size) % left.size, w.drew, Nat.mod_lt _ hsz, .inr rfl, ?_⟩
        simp only [Array.append_empty, Array.empty_append, Array.size_map, choose, Sem.run, Question.forced, h1, decide_false, Bool.false_eq_true, if_false, Result.andThen_ok, Question.cut]
        rfl
    obtain ⟨j, w1, hj, hw1, hrun⟩ := hrun
    obtain ⟨e, he⟩ : ∃ e, left[j]? = some e := ⟨left[j], by simp⟩
    obtain ⟨he1, he2⟩ := hin e (Array.mem_of_getElem? he)
    obtain ⟨i, hi, hie⟩ := List.mem_iff_getElem.1 he1
    have hei : es.toList[i]? = some e := by rw [List.getElem?_eq_getElem hi, hie]
    obtain ⟨p, hp⟩ : ∃ p, m[i]? = some p := ⟨m[i]'(by omega), by rw [List.getElem?_eq_getElem]⟩
    have hek : e.key = enc p.1 := by
      have h1 : (es.toList.map (·.key))[i]? = some e.key := by rw [List.getElem?_map, hei]; rfl
      rw [h.map.keys, List.getElem?_map, hp] at h1
      exact (Option.some.inj h1).symm
    have hev : e.val = p.2 := by
      have h1 : (es.toList.map (·.val))[i]? = some e.val := by rw [List.getElem?_map, hei]; rfl
      rw [h.map.vals, List.getElem?_map, hp] at h1
      exact (Option.some.inj h1).symm
    have hb1 : w1.heap = w.heap := by rcases hw1 with rfl | rfl <;> rfl
    have hiter1 : w1.heap[it]? = some (.mapIter (some r) clock seen clock) := by rw [hb1]; exact h.iter
    have hlt := lt_of_block h.iter
    generalize hw' : ({ w1 with heap := w1.heap.setIfInBounds it (.mapIter (some r) clock (seen.push e.born) clock) } : World) = w' at *
    have hset : (setObj it (.mapIter (some r) clock (seen.push e.born) clock)).run P w1 = .ok () w' := by
      simp [setObj, Sem.run, hiter1, hw']
    have hsize : w'.heap.size = w.heap.size := by rw [← hw', ← hb1]; simp
    have hother : ∀ k, k ≠ it → w'.heap[k]? = w.heap[k]? := by intro k hk; rw [← hw', ← hb1]; simp [Ne.symm hk]
    have hself : w'.heap[it]? = some (.mapIter (some r) clock (seen.push e.born) clock) := by rw [← hw']; simp [hb1, hlt]
    have hmap' : MapIs w' r enc m es clock := ⟨by rw [hother r (Ne.symm hne)]; exact h.map.block, h.map.keys, h.map.vals, h.map.nodup, h.map.born, h.map.bornNodup⟩
    obtain ⟨t1, t2⟩ := todoOf_push m h.map.nodup es.toList seen h.map.bornNodup i p e hp hei he2
    refine .inr ⟨p, e, w', ?_, ⟨⟨hself, hmap'⟩, ?_, hsize, t2, t1, ?_⟩⟩
    · rw [hrun, Array.getElem?_map, he]
      simp only [Option.map_some, Sem.run_bind, hset, Result.andThen_ok, Sem.run_pure, hek, hev]
    · refine keep_one ?_ ?_ ?_ hsize hother
      · rw [← hw']; rcases hw1 with rfl | rfl <;> rfl
      · rw [← hw']; rcases hw1 with rfl | rfl <;> rfl
      · rw [← hw']; rcases hw1 with rfl | rfl <;> rfl
    · have hgi' := run_getObj_iter (P := P) hself
      have hgm' := run_getObj_map (P := P) w' r es clock hmap'.block
      have hf : es.find? (fun x => x.born == e.born) = some e := by
        rw [← Array.find?_toList]; exact find_born es.toList h.map.bornNodup e he1
      simp [Instr.entry, Sem.run_bind, hgi', hgm', hf, hek, hev]

theorem findNow_run (kind : TypeDesc) {κ : Type} [DecidableEq κ] (enc : κ → Value) (hs : ∀ a b, Instr.sameNow kind (enc a) (enc b) = some (decide (a = b))) (k : κ) :
    ∀ (es : List MapEntry) (ks : List κ) (i : Nat), es.map (·.key) = ks.map enc → Instr.findNow kind (enc k) es i = some (findE ks es k i) := by
  intro es
  induction es with
  | nil => intro ks i h; cases ks with
    | nil => rfl
    | cons _ _ => simp at h
  | cons e es ih =>
    intro ks i h
    cases ks with
    | nil => simp at h
    | cons k' ks =>
      simp only [List.map_cons, List.cons.injEq] at h
      rw [Instr.findNow, h.1, hs, findE]
      by_cases hk : k = k'
      · simp [hk]
      · simp [hk, ih ks (i + 1) h.2]

theorem findAsking_run (hq : ∀ w (a b : κ), (Op.equal K (enc a) (enc b)).run P w = .ok (decide (a = b)) w) (w : World) (k : κ) :
    ∀ (es : List MapEntry) (ks : List κ) (i : Nat), es.map (·.key) = ks.map enc → (Instr.findAsking K (enc k) es i).run P w = .ok (findE ks es k i) w := by
  intro es
  induction es with
  | nil => intro ks i h; cases ks with
    | nil => rfl
    | cons _ _ => simp at h
  | cons e es ih =>
    intro ks i h
    cases ks with
    | nil => simp at h
    | cons k' ks =>
      simp only [List.map_cons, List.cons.injEq] at h
      rw [Instr.findAsking, findE, h.1]
      simp only [Sem.run_bind, hq, Result.andThen_ok]
      by_cases hk : k = k'
      · simp [hk]
      · simp [hk, ih ks (i + 1) h.2]

/-- Keys that are texts. -/
theorem mkey_string (hK : P.underlying K = some .string) : MKey P K Value.string where
  check w em k := by
    rw [Instr.checkKey]
    simp only [Sem.run_bind, run_underlying hK, Result.andThen_ok]
    rfl
  find w es ks k h := by
    have := findNow_run .string Value.string (fun a b => by
      simp only [Instr.sameNow, Option.some.injEq]
      rw [Bool.eq_iff_iff, Go.MapKept.bytes_beq, decide_eq_true_eq]) k es ks 0 h
    simp [Instr.findKey, run_underlying hK, this]
  same k := by
    simp only [Instr.sameBits]
    exact (Go.MapKept.bytes_beq k k).2 rfl
  inj a b h := by injection h

end laws
end Go.Proofs.YtmdibkafjpglkaaGreatDoor
