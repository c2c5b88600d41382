/- d.Names, walked: by the shelf's contracts on slices.Sorted(maps.Keys(m)). -/
import Derived.Test.YtmdibkafjpglkaaGreatDoorDiskRemove
import Derived.Test.YtmdibkafjpglkaaGreatDoorDiskTidy
import Derived.Test.YtmdibkafjpglkaaGreatDoorLaysKeys
namespace Go.Proofs.YtmdibkafjpglkaaGreatDoor.Dsk
open Go Go.RowKit Go.Lib Go.Maps Go.Shelf

theorem key_str {s : ByteArray} (h : s.size ≤ maxLen) : keyOf Tryz.prog 9 (.string s) = some (.string s.data.toList) := by
  have hk : Tryz.prog.underlying 9 = some .string := Tryz.underlying9
  simp [keyOf, hk, mapKey, h]

def noElem : Value → Option (DataW Unit × List MemPlace) := fun _ => some (.nil, [])

/-- A map with names for keys, as the shelf speaks of it. -/
theorem owns_names {w : World} {r : Nat} {m : List (ByteArray × Value)} {es : Array MapEntry} {clock : Nat} (h : MapIs w r Value.string m es clock) (hk : ∀ p ∈ m, p.1.size ≤ 32) (hl : m.length ≤ 100) :
    ∃ D0 : DataW Unit, w.ownsMap Tryz.prog 9 noElem r 100 D0 ∧ (strKeys D0).Perm (m.map (fun p => p.1.data.toList)) ∧ Maps.size D0 ≤ 100 := by
  have hlen : es.size = m.length := by
    have := congrArg List.length h.keys
    simpa using this
  have hkey : ∀ x ∈ es.toList, ∃ s : ByteArray, x.key = .string s ∧ s.size ≤ 32 := by
    intro x hx
    have hm : x.key ∈ m.map (fun p => Value.string p.1) := h.keys ▸ List.mem_map_of_mem (f := (·.key)) hx
    obtain ⟨p, hp, e⟩ := List.mem_map.1 hm
    exact ⟨p.1, e.symm, hk p hp⟩
  have hmx : maxLen = 9223372036854775807 := rfl
  have hrd : ∀ (x : MapEntry) (s : ByteArray), x.key = .string s → s.size ≤ 32 → WideElems.rd Tryz.prog 9 noElem x = some (.string s.data.toList, .nil) := by
    intro x s e hs
    unfold WideElems.rd
    rw [e, key_str (by omega)]
    rfl
  have hnd : (es.toList.map (·.key)).Nodup := by
    rw [h.keys]
    exact List.pairwise_map.2 ((List.pairwise_map.1 h.nodup).imp (fun hab e => hab (by injection e)))
  have F : WideElems.Fit Tryz.prog 9 noElem es clock := ⟨by omega, ⟨h.born, h.bornNodup, hnd⟩, fun x hx => by
    obtain ⟨s, e, hs⟩ := hkey x hx
    exact ⟨_, hrd x s e hs⟩⟩
  refine ⟨_, ⟨es, clock, h.block, F, by omega, rfl⟩, ?_, ?_⟩
  · show (((es.toList.map (WideElems.rg Tryz.prog 9 noElem)).foldr DataW.insert []).map (fun p => strOf p.1)).Perm _
    refine ((WideShapes.sorted_perm _).map _).trans (List.Perm.of_eq ?_)
    have h2 := congrArg (List.map (fun v : Value => match v with | .string s => s.data.toList | _ => [])) h.keys
    rw [List.map_map, List.map_map] at h2
    rw [List.map_map]
    refine Eq.trans ?_ h2
    refine List.map_congr_left fun x hx => ?_
    obtain ⟨s, e, hs⟩ := hkey x hx
    simp only [Function.comp]
    unfold WideElems.rg
    rw [hrd x s e hs, e]
    rfl
  · show ((es.toList.map (WideElems.rg Tryz.prog 9 noElem)).foldr DataW.insert []).length ≤ 100
    rw [(WideShapes.sorted_perm _).length_eq, List.length_map, Array.length_toList]
    omega

/-- slices.Sort's two contracts at this program, at the fence that asks nothing. -/
theorem sorts_names (m : Nat) : AnyZ.SortsIn Tryz.prog Tryz.lays67_ren Fence.wide m :=
  ⟨fun blk off cap ss W hH hblk hsz => callsIn_wide.2 (AnyM.slices_Sort_string Tryz.lays97 blk off cap ss W hH hblk hsz),
   fun p cap W => callsIn_wide.2 (AnyM.slices_Sort_string_none Tryz.lays97 p cap W)⟩
theorem maps_keys (mb : Option Nat) (W : World) : CallsIn Fence.wide 5 Tryz.prog 68 #[.map mb] W fun e w' => e = .returned (.func (.func 98) #[] #[.pointer (some ⟨W.heap.size, 0, none⟩)]) ∧ w' = W.alloc (.cells #[.map mb] 52) :=
  AnyZ.keys_in Tryz.lays68 Fence.wide 5 trivial rfl mb W

set_option maxHeartbeats 1000000 in
theorem sorted_keys {H : Type} (b nn : Nat) (D0 : DataW H) (R : Value → Option (DataW H × List MemPlace)) (w : World) (hown : w.ownsMap Tryz.prog 9 R b nn D0) (hmax : Maps.size D0 ≤ maxLen) (hbytes : Maps.size D0 * 16 ≤ 140737488355328) :
    CallsIn Fence.wide 5 Tryz.prog 67 #[.func (.func 98) #[] #[.pointer (some ⟨w.heap.size, 0, none⟩)]] (w.alloc (.cells #[.map (some b)] 52)) fun e w' => ∃ (v : Value) (ss : List (List UInt8)), e = .returned v ∧ ss.Perm (strKeys D0) ∧
      w'.ownsRow (w.alloc (.cells #[.map (some b)] 52)).heap.size 9 1 v ss.length ((ss.mergeSort (fun x y => decide (x ≤ y))).map encStr) ∧ (v = .slice none 0 0 ↔ ss = []) ∧ Below (w.alloc (.cells #[.map (some b)] 52)).heap.size (w.alloc (.cells #[.map (some b)] 52)) w' := by
  have hbl := hown.lt
  have hseq : SeqGives Fence.wide 2 Tryz.prog 98 #[.pointer (some ⟨w.heap.size, 0, none⟩)] encStr (fun ss => ss.Perm (strKeys D0)) (Maps.size D0) (w.alloc (.cells #[.map (some b)] 52)) :=
    AnyZ.keys_gives (ρ := Tryz.lays68_ren) { Tryz.lays68 with } Fence.wide _ trivial rfl (by omega) w.heap.size b nn D0 _ (by simp) (by simp) (by
      obtain ⟨es, clock, hb, Ft, hs, hD⟩ := hown
      exact ⟨es, clock, (Below.heap_alloc _ _ b hbl).trans hb, Ft, hs, hD⟩)
  exact AnyZ.sorted_in Tryz.lays67 Fence.wide 5 trivial trivial trivial trivial rfl (by omega) (sorts_names _) (enters_of Tryz.func97 (by kernel_rfl) rfl) 98 #[.pointer (some ⟨w.heap.size, 0, none⟩)] trivial (enters_of Tryz.func98 (by kernel_rfl) rfl) _ _ hmax hbytes _ hseq

theorem owns_mono {w : World} {base base' n size : Nat} {e : TypeId} {v : Value} {xs : List Value} (h : w.ownsRow base e size v n xs) (hb : base' ≤ base) : w.ownsRow base' e size v n xs := by
  refine ⟨h.1, h.2.imp id ?_⟩
  rintro ⟨g, cap, cur, h1, h2, h3⟩
  exact ⟨g, cap, cur, h1, by omega, h3⟩

/-- Names that rise. -/
def Rising (l : List ByteArray) : Prop := l.Pairwise (fun a b => a.data.toList ≤ b.data.toList)

set_option maxRecDepth 100000 in
set_option maxHeartbeats 2000000 in
/-- d.Names(). -/
theorem names_any (w : World) {db : Nat} {D : DiskM} {F : Nat → Prop} (h : IsDisk w db D F) (ht : Tidy D.files) :
    Calls Tryz.prog 40 #[ptr db] w fun e w' => ∃ (v : Value) (l : List ByteArray), e = .returned v ∧ l.Perm (D.files.map (·.1)) ∧ Rising l ∧ w'.ownsRow w.heap.size 9 1 v l.length (l.map Value.string) ∧ Below w.heap.size w w' := by
  obtain ⟨mr, gs, cv, h⟩ := h
  obtain ⟨es, clock, hm⟩ := h.map
  have hpk : (ptrs gs D.files).map (fun p => p.1.data.toList) = D.files.map (fun p => p.1.data.toList) := by unfold ptrs; rw [List.map_map]; rfl
  obtain ⟨D0, hown, hperm, hsz⟩ := owns_names hm (fun p hp => by
    unfold ptrs at hp
    obtain ⟨q, hq, rfl⟩ := List.mem_map.1 hp
    exact isName_size (ht.2 q hq)) (by unfold ptrs; rw [List.length_map]; exact ht.1)
  rw [hpk] at hperm
  have c1 : w.cell? ⟨db, 1, none⟩ = some (.map (some mr)) := h.c1
  have hmx : maxLen = 9223372036854775807 := rfl
  have hmax : Maps.size D0 ≤ maxLen := by omega
  have hbytes : Maps.size D0 * 16 ≤ 140737488355328 := by omega
  clear hmx hm h hsz
  unfold ptr
  refine (callsIn_wide (n := 6)).1 ?_
  have hfK : Fence.wide.fn 68 := trivial
  have hfS : Fence.wide.fn 67 := trivial
  refine callsIn_of_wp Tryz.func40 rfl trivial ?_ rfl
  simp only [Tryz.ntmps40, List.size_toArray, List.length_cons, List.length_nil, Nat.reduceAdd, Nat.reduceSub, Array.replicate_succ, Array.replicate_zero, List.push_toArray, List.append_toArray, List.nil_append, List.cons_append]
  gi_wp2_with (first
    | (gi_at_call 68; refine (maps_keys _ _).mono ?_; rintro e w' ⟨rfl, rfl⟩)
    | (gi_at_call 67; refine (sorted_keys mr 100 D0 noElem w hown hmax hbytes).mono ?_; rintro e w' ⟨v, ss, rfl, hS, hrow, hnil, hb⟩))
  all_goals go_ret
  all_goals exact ⟨_, (ss.mergeSort (fun x y => decide (x ≤ y))).map (fun x => (⟨x.toArray⟩ : ByteArray)), rfl, by
    refine (((List.mergeSort_perm ss _).trans (hS.trans hperm)).map _).trans (List.Perm.of_eq ?_)
    rw [List.map_map]
    exact List.map_congr_left fun p _ => by simp, by
    have tr : ∀ a b c : List UInt8, decide (a ≤ b) = true → decide (b ≤ c) = true → decide (a ≤ c) = true := fun a b c h1 h2 => by simp only [decide_eq_true_eq] at *; exact List.le_trans h1 h2
    have to : ∀ a b : List UInt8, (decide (a ≤ b) || decide (b ≤ a)) = true := fun a b => by simp only [Bool.or_eq_true, decide_eq_true_eq]; exact List.le_total a b
    exact List.pairwise_map.2 ((List.pairwise_mergeSort tr to ss).imp (fun hab => by simpa using hab)), by
    rw [List.length_map, List.length_mergeSort, List.map_map]
    exact owns_mono hrow (by simp), ((Below.refl _ w).alloc (Nat.le_refl _) _).trans (hb.mono (by simp))⟩

end Go.Proofs.YtmdibkafjpglkaaGreatDoor.Dsk
