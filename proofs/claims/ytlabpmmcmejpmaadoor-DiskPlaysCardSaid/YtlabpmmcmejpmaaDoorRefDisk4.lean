/- The reference's disk: New, On, Cut, due: walked. The reference's files: how they lie in memory; At, Room: walked. The reference's disk: May, Room: walked. The reference's disk: without, put: walked. -/
import Derived.Test.YtlabpmmcmejpmaaDoorRoomLaw
import Derived.Laws.Rows
namespace Go.Proofs.YtlabpmmcmejpmaaDoor.Ref
open Go Go.RowKit Go.Lib Go.Proofs.YtlabpmmcmejpmaaDoor.Dsk Go.Proofs.YtlabpmmcmejpmaaDoor.Wal

/-- The reference's disk, but for its files. -/
structure RefD where
  size : Int
  down : Bool
  due : Bool
  ops : Int
  part : Int
  keep : Int

/-- .. as a value; v: its files. -/
def RefD.cells (R : RefD) (v : Value) : Array Value := #[v, .int .i64 R.size, .bool R.down, .bool R.due, .int .i64 R.ops, .int .i64 R.part, .int .i64 R.keep]
def RefD.val (R : RefD) (v : Value) : Value := .agg (R.cells v)

theorem results_cell1 {P : Program} {fn : Func} {p : Tmp} {ty : TypeId} (h : fn.results = #[.cell p ty]) (tmps : Array Value) (w : World) :
    (results fn tmps).run P w = ((asAddr (tmps.getD p undef)).run P w).andThen fun a w₁ => (loadVar ty a).run P w₁ := by
  simp only [results, h]
  simp [Sem.run_bind, Result.andThen]
theorem results_cell2 {P : Program} {fn : Func} {p u : Tmp} {ty : TypeId} (h : fn.results = #[.cell p ty, .tmp u]) (tmps : Array Value) (w : World) :
    (results fn tmps).run P w =
      ((asAddr (tmps.getD p undef)).run P w).andThen fun a w₁ => ((loadVar ty a).run P w₁).andThen fun v w₂ => .ok (.tuple #[v, tmps.getD u undef]) w₂ := by
  simp only [results, h]
  simp [Sem.run_bind, Result.andThen]

def refNew (room : Int) : RefD := ⟨if room < 0 then 0 else room, false, false, 0, 0, 0⟩
def refOn (R : RefD) : RefD := ⟨R.size, false, false, 0, 0, 0⟩
def refCut (R : RefD) (o p k : Int) : RefD × Int := if o < 0 ∨ p < 0 ∨ k < 0 then (R, 1) else if R.down then (R, 71) else (⟨R.size, R.down, true, o, p, k⟩, 0)
def refDue (R : RefD) : RefD × Bool := if R.due then (if 0 < R.ops then ({ R with ops := R.ops - 1 }, false) else (R, true)) else (R, false)

set_option maxRecDepth 100000 in
theorem rnew_any (w : World) (room : Int) : Calls Tryd.prog 8 #[.int .i64 room] w fun e w' => e = .returned ((refNew room).val (.slice none 0 0)) ∧ Keep (fun _ => False) w w' := by
  unfold refNew
  by_cases h : room < 0
  · rw [if_pos h]
    go_enter Tryd.func8, Tryd.ntmps8
    go_wp2_with fail
    refine bodyPost_ret (v := RefD.val ⟨0, false, false, 0, 0, 0⟩ (.slice none 0 0)) (by rw [results_cell1 rfl]; go_simp; rfl) rfl ⟨rfl, (Keep.refl _ w).alloc _⟩
  · rw [if_neg h]
    go_enter Tryd.func8, Tryd.ntmps8
    go_wp2_with fail
    refine bodyPost_ret (v := RefD.val ⟨room, false, false, 0, 0, 0⟩ (.slice none 0 0)) (by rw [results_cell1 rfl]; go_simp; rfl) rfl ⟨rfl, (Keep.refl _ w).alloc _⟩

set_option maxRecDepth 100000 in
theorem ron_any (w : World) (R : RefD) (A : Option Addr) (n C : Nat) : Calls Tryd.prog 26 #[R.val (.slice A n C)] w fun e w' => e = .returned ((refOn R).val (.slice A n C)) ∧ Keep (fun _ => False) w w' := by
  unfold RefD.val RefD.cells refOn
  go_enter Tryd.func26, Tryd.ntmps26
  go_wp2_with fail
  refine bodyPost_ret (v := RefD.val (refOn R) (.slice A n C)) (by rw [results_cell1 rfl]; go_simp; rfl) rfl ⟨rfl, ((Keep.refl _ w).alloc _).alloc _⟩

set_option maxRecDepth 100000 in
theorem rcut_any (w : World) (R : RefD) (A : Option Addr) (n C : Nat) (o p k : Int) : Calls Tryd.prog 25 #[R.val (.slice A n C), .int .i64 o, .int .i64 p, .int .i64 k] w fun e w' => e = .returned (.tuple #[(refCut R o p k).1.val (.slice A n C), .int .i64 (refCut R o p k).2]) ∧ Keep (fun _ => False) w w' := by
  obtain ⟨size, down, due, ops, part, keep⟩ := R
  unfold RefD.val RefD.cells refCut
  go_enter Tryd.func25, Tryd.ntmps25
  go_wp2_with fail
  all_goals refine bodyPost_ret (v := _) (by rw [results_cell2 rfl]; go_simp; rfl) rfl ⟨?_, ?_⟩
  all_goals first
    | (simp [*]; done)
    | exact ((Keep.refl _ w).alloc _).alloc _

set_option maxRecDepth 100000 in
theorem rdue_any (w : World) (R : RefD) (A : Option Addr) (n C : Nat) (ho : R.ops < 9223372036854775808) : Calls Tryd.prog 40 #[R.val (.slice A n C)] w fun e w' => e = .returned (.tuple #[(refDue R).1.val (.slice A n C), .bool (refDue R).2]) ∧ Keep (fun _ => False) w w' := by
  obtain ⟨size, down, due, ops, part, keep⟩ := R
  simp only at ho
  unfold RefD.val RefD.cells refDue
  cases due with
  | false =>
    go_enter Tryd.func40, Tryd.ntmps40
    go_wp2_with fail
    refine bodyPost_ret (v := _) (by rw [results_cell2 rfl]; go_simp; rfl) rfl ⟨?_, ((Keep.refl _ w).alloc _).alloc _⟩
    simp []
  | true =>
    by_cases h : 0 < ops
    · have hw : IntKind.i64.wrap (ops - 1) = ops - 1 := IntWalk.i64_in _ (by omega)
      go_enter Tryd.func40, Tryd.ntmps40
      go_wp2_with fail
      refine bodyPost_ret (v := _) (by rw [results_cell2 rfl]; go_simp; rfl) rfl ⟨?_, ((Keep.refl _ w).alloc _).alloc _⟩
      simp
    · go_enter Tryd.func40, Tryd.ntmps40
      go_wp2_with fail
      refine bodyPost_ret (v := _) (by rw [results_cell2 rfl]; go_simp; rfl) rfl ⟨?_, ((Keep.refl _ w).alloc _).alloc _⟩
      simp

end Go.Proofs.YtlabpmmcmejpmaaDoor.Ref

namespace Go.Proofs.YtlabpmmcmejpmaaDoor.Ref
open Go Go.RowKit Go.Lib Go.Proofs.YtlabpmmcmejpmaaDoor.Dsk Go.Proofs.YtlabpmmcmejpmaaDoor.Wal

/-- A row of files, each of three cells; all it hangs on is G's. -/
def FilesAt (w : World) (v : Value) (L : Files) (G : Nat → Prop) : Prop := ∃ ao cap, v = .slice ao L.length cap ∧ (ao = none → L = []) ∧ ∀ a, ao = some a → ∀ (i : Nat) (p : ByteArray × FileM), L[i]? = some p → a.block < w.heap.size ∧ G a.block ∧
  ∃ A C, w.cell? (a.add (i * 3)) = some (.string p.1) ∧ w.cell? ⟨(a.add (i * 3)).block, (a.add (i * 3)).off + 1, none⟩ = some (.slice A p.2.b.length C) ∧ w.cell? ⟨(a.add (i * 3)).block, (a.add (i * 3)).off + 2, none⟩ = some (.int .i64 (p.2.sure : Int)) ∧ BytesIn w (.slice A p.2.b.length C) p.2.b G

section
variable {w w' : World} {v : Value} {L : Files} {G F : Nat → Prop}
theorem FilesAt.keep (h : FilesAt w v L G) (k : Keep F w w') (hd : ∀ i, G i → ¬ F i) : FilesAt w' v L G := by
  obtain ⟨ao, cap, e, h1, h2⟩ := h
  refine ⟨ao, cap, e, h1, fun a ha i p hi => ?_⟩
  obtain ⟨g1, g2, A, C, c0, c1, c2, hB⟩ := h2 a ha i p hi
  have hb : ∀ j, (a.add j).block = a.block := fun j => ChangeShapes.block_add a j
  refine ⟨Nat.lt_of_lt_of_le g1 k.size, g2, A, C, ?_, ?_, ?_, hB.keep k hd⟩
  · rw [k.cell (by rw [hb]; exact g1) (by rw [hb]; exact hd _ g2)]; exact c0
  · rw [k.cell (by simp only [hb]; exact g1) (by simp only [hb]; exact hd _ g2)]; exact c1
  · rw [k.cell (by simp only [hb]; exact g1) (by simp only [hb]; exact hd _ g2)]; exact c2
theorem FilesAt.mono {G' : Nat → Prop} (h : FilesAt w v L G) (hG : ∀ i, i < w.heap.size → G i → G' i) : FilesAt w v L G' := by
  obtain ⟨ao, cap, e, h1, h2⟩ := h
  refine ⟨ao, cap, e, h1, fun a ha i p hi => ?_⟩
  obtain ⟨g1, g2, A, C, c0, c1, c2, hB⟩ := h2 a ha i p hi
  obtain ⟨ao', cap', e', q1, q2, q3, q4⟩ := hB.read
  exact ⟨g1, hG _ g1 g2, A, C, c0, c1, c2, ⟨ao', cap', e', q1, q2, q3, fun b hb j u hj => ⟨(q4 b hb j u hj).1, (q4 b hb j u hj).2.1, hG _ (q4 b hb j u hj).2.1 (q4 b hb j u hj).2.2⟩⟩⟩
theorem FilesAt.nil (w : World) (G : Nat → Prop) : FilesAt w (.slice none 0 0) [] G := ⟨none, 0, rfl, fun _ => rfl, fun a ha => by cases ha⟩
theorem FilesAt.slice (h : FilesAt w v L G) : ∃ ao cap, v = .slice ao L.length cap := by
  obtain ⟨ao, cap, e, -⟩ := h
  exact ⟨ao, cap, e⟩
/-- File i. -/
theorem FilesAt.at {ao : Option Addr} {n cap i : Nat} (h : FilesAt w (.slice ao n cap) L G) (hi : i < L.length) : ∃ a n f A C, ao = some a ∧ L[i]? = some (n, f) ∧ w.cell? (a.add (i * 3)) = some (.string n) ∧ w.cell? ⟨(a.add (i * 3)).block, (a.add (i * 3)).off + 1, none⟩ = some (.slice A f.b.length C) ∧ w.cell? ⟨(a.add (i * 3)).block, (a.add (i * 3)).off + 2, none⟩ = some (.int .i64 (f.sure : Int)) ∧ BytesIn w (.slice A f.b.length C) f.b G := by
  obtain ⟨ao', cap', e, h1, h2⟩ := h
  injection e with e1 _ e3
  subst e1 e3
  cases ao with
  | none => rw [h1 rfl] at hi; simp at hi
  | some a =>
    obtain ⟨-, -, A, C, c0, c1, c2, hB⟩ := h2 a rfl i L[i] (List.getElem?_eq_getElem hi)
    exact ⟨a, _, _, A, C, rfl, List.getElem?_eq_getElem hi, c0, c1, c2, hB⟩
end

theorem mhas_take {L : Files} {n : ByteArray} {i : Nat} (h : mhas (L.take i) n = false) {p : ByteArray × FileM} (hp : L[i]? = some p) (hne : p.1 ≠ n) : mhas (L.take (i + 1)) n = false := by
  obtain ⟨hi, rfl⟩ := List.getElem?_eq_some_iff.1 hp
  rw [List.take_succ_eq_append_getElem hi]
  cases hm : mhas (L.take i ++ [L[i]]) n with
  | false => rfl
  | true =>
    have := (mhas_iff _ _).1 hm
    rw [List.map_append, List.mem_append] at this
    rcases this with h1 | h1
    · rw [(mhas_iff _ _).2 h1] at h; cases h
    · simp at h1; exact absurd h1.symm hne

set_option maxRecDepth 100000 in
set_option maxHeartbeats 1000000 in
theorem at_any (w : World) (R : RefD) {v : Value} {L : Files} {G : Nat → Prop} (h : FilesAt w v L G) (hl : L.length ≤ 100) (name : ByteArray) :
    Calls Tryd.prog 23 #[R.val v, .string name] w fun e w' => ∃ z : Int, e = .returned (.int .i64 z) ∧ decide (0 ≤ z) = mhas L name ∧ Keep (fun _ => False) w w' := by
  obtain ⟨ao, cap, hv⟩ := h.slice
  subst hv
  obtain ⟨size, down, due, ops, part, keep⟩ := R
  have H := hid h
  clear h
  unfold RefD.val RefD.cells
  go_enter Tryd.func23, Tryd.ntmps23
  go_wp2_with fail
  go_loopw [5] (fun iv wr => ∃ i : Nat, iv = .int .i64 (i : Int) ∧ i ≤ L.length ∧ Hid (mhas (L.take i) name = false) ∧ Hid (Keep (fun _ => False) (w.alloc (.cells #[.slice ao L.length cap, .int .i64 size, .bool down, .bool due, .int .i64 ops, .int .i64 part, .int .i64 keep] 28)) wr)) (fun iv _ => L.length - (RowKit.intOf iv).toNat)
  case atStart => exact ⟨0, rfl, Nat.zero_le _, hid (by simp [mhas, mget_nil]), hid (Keep.refl _ _)⟩
  case round =>
    obtain ⟨i, rfl, hi, hm, hK⟩ := hrel
    have hblk := hK.out.at (heap_alloc_new w (.cells #[.slice ao L.length cap, .int .i64 size, .bool down, .bool due, .int .i64 ops, .int .i64 part, .int .i64 keep] 28)) (fun h => h)
    have hc0 : wr.cell? ⟨w.heap.size, 0, none⟩ = some (.slice ao L.length cap) := by rw [cell_at hblk]; rfl
    have HK := hid (((Keep.refl (fun _ => False) w).alloc (.cells #[.slice ao L.length cap, .int .i64 size, .bool down, .bool due, .int .i64 ops, .int .i64 part, .int .i64 keep] 28)).trans hK.out (fun _ _ h => h))
    clear hblk
    by_cases hil : i < L.length
    · obtain ⟨a, n, f, A, C, rfl, hp, d0, -, -, -⟩ := (H.out.keep HK.out (fun _ _ h => h)).at hil
      by_cases hn : n = name
      · subst hn
        have hmem : mhas L n = true := (mhas_iff _ _).2 (List.mem_map_of_mem (f := (·.1)) (List.mem_of_getElem? hp))
        have hbe : (n.toList == n.toList) = true := by simp
        clear hp
        go_wp2_with fail
        all_goals go_ret
        all_goals exact ⟨_, rfl, by rw [hmem]; simp, HK.out⟩
      · have hbe : (n.toList == name.toList) = false := by rw [beq_eq_false_iff_ne]; exact fun e => hn (ByteArray.ext (Array.toList_inj.mp (by rw [toList_data, toList_data] at e; exact e)))
        have hm2 := hid (mhas_take hm.out hp hn)
        clear hp
        go_wp2_with fail
        exact ⟨⟨i + 1, by simp, by omega, hm2, hK⟩, by simp [RowKit.intOf]; omega⟩
    · obtain rfl : i = L.length := by omega
      have hmem : mhas L name = false := by have := hm.out; rwa [List.take_length] at this
      go_wp2_with fail
      all_goals go_ret
      all_goals exact ⟨_, rfl, by rw [hmem]; rfl, HK.out⟩

end Go.Proofs.YtlabpmmcmejpmaaDoor.Ref

namespace Go.Proofs.YtlabpmmcmejpmaaDoor.Ref
open Go Go.RowKit Go.Lib Go.Proofs.YtlabpmmcmejpmaaDoor.Dsk Go.Proofs.YtlabpmmcmejpmaaDoor.Wal

theorem take_snoc (s : ByteArray) (k : Nat) (h : k < s.size) : s.toList.take (k + 1) = s.toList.take k ++ [s[k]] := by
  rw [toList_data, List.take_succ_eq_append_getElem (by simpa using h)]
  rfl
theorem size_toList (s : ByteArray) : s.toList.length = s.size := by rw [toList_data]; simp

set_option maxRecDepth 100000 in
set_option maxHeartbeats 1000000 in
theorem rmay_any (w : World) (s : ByteArray) : Calls Tryd.prog 47 #[.string s] w fun e w' => e = .returned (.bool (isName s.toList)) ∧ Keep (fun _ => False) w w' := by
  have hl := size_toList s
  by_cases h0 : s.size = 0
  · have HR := hid (show isName s.toList = false by
      have : s.toList = [] := List.eq_nil_of_length_eq_zero (by omega)
      rw [this]; rfl)
    have hz : ((s.size : Int) == 0) = true := by rw [beq_iff_eq]; omega
    clear hl
    go_enter Tryd.func47, Tryd.ntmps47
    go_wp2_with fail
    all_goals go_ret
    all_goals exact ⟨by rw [HR.out]; rfl, Keep.refl _ _⟩
  have hz : ((s.size : Int) == 0) = false := by rw [beq_eq_false_iff_ne]; omega
  have hne : s.toList.isEmpty = false := by
    cases hc : s.toList with
    | nil => rw [hc] at hl; simp at hl; omega
    | cons _ _ => rfl
  by_cases h1 : 32 < s.size
  · have HR := hid (show isName s.toList = false by
      unfold isName
      have : ¬ s.toList.length ≤ 32 := by omega
      simp [this])
    clear hl hne
    go_enter Tryd.func47, Tryd.ntmps47
    go_wp2_with fail
    all_goals go_ret
    all_goals exact ⟨by rw [HR.out]; rfl, Keep.refl _ _⟩
  have HN := hid (show isName s.toList = s.toList.all nameByte by
    unfold isName
    have : s.toList.length ≤ 32 := by omega
    rw [hne]
    simp [this])
  clear hne h0
  go_enter Tryd.func47, Tryd.ntmps47
  go_wp2_with fail
  go_loopw [3] (fun iv wr => ∃ k : Nat, iv = .int .i64 (k : Int) ∧ k ≤ s.size ∧ Hid ((s.toList.take k).all nameByte = true) ∧ Hid (Keep (fun _ => False) w wr)) (fun iv _ => s.size - (RowKit.intOf iv).toNat)
  case atStart => exact ⟨0, rfl, Nat.zero_le _, hid rfl, hid (Keep.refl _ _)⟩
  case round =>
    obtain ⟨k, rfl, hk, hall, hK⟩ := hrel
    by_cases hlt : k < s.size
    · have hnb : nameByte s[k] = ((decide (97 ≤ s[k].toNat) && decide (s[k].toNat ≤ 122)) || ((decide (65 ≤ s[k].toNat) && decide (s[k].toNat ≤ 90)) || ((decide (48 ≤ s[k].toNat) && decide (s[k].toNat ≤ 57)) || (s[k].toNat == 45 || s[k].toNat == 46)))) := rfl
      cases ha : nameByte s[k] with
      | true =>
        have HS := hid (show (s.toList.take (k + 1)).all nameByte = true by
          rw [take_snoc s k hlt, List.all_append, hall.out]; simp [ha])
        rw [hnb] at ha
        have hcs : (48 ≤ s[k].toNat ∧ s[k].toNat ≤ 57) ∨ (65 ≤ s[k].toNat ∧ s[k].toNat ≤ 90) ∨ (97 ≤ s[k].toNat ∧ s[k].toNat ≤ 122) ∨ s[k].toNat = 45 ∨ s[k].toNat = 46 := by
          simp only [Bool.or_eq_true, Bool.and_eq_true, decide_eq_true_eq, beq_iff_eq] at ha
          omega
        clear ha hnb
        rcases hcs with hcs | hcs | hcs | hcs | hcs
        · go_wp2_with fail
          exact ⟨⟨k + 1, by simp, by omega, HS, hK⟩, by simp [RowKit.intOf]; omega⟩
        · go_wp2_with fail
          exact ⟨⟨k + 1, by simp, by omega, HS, hK⟩, by simp [RowKit.intOf]; omega⟩
        · go_wp2_with fail
          exact ⟨⟨k + 1, by simp, by omega, HS, hK⟩, by simp [RowKit.intOf]; omega⟩
        · have hb : ((s[k].toNat : Int) != 45) = false := by rw [bne_eq_false_iff_eq]; omega
          go_wp2_with fail
          exact ⟨⟨k + 1, by simp, by omega, HS, hK⟩, by simp [RowKit.intOf]; omega⟩
        · have hb : ((s[k].toNat : Int) != 45) = true := by rw [bne_iff_ne]; omega
          have hb2 : ((s[k].toNat : Int) != 46) = false := by rw [bne_eq_false_iff_eq]; omega
          go_wp2_with fail
          exact ⟨⟨k + 1, by simp, by omega, HS, hK⟩, by simp [RowKit.intOf]; omega⟩
      | false =>
        have HF := hid (show s.toList.all nameByte = false by
          cases hc : s.toList.all nameByte with
          | false => rfl
          | true =>
            rw [toList_data] at hc
            have := List.all_eq_true.1 hc s[k] (List.getElem_mem (by simpa using hlt))
            rw [ha] at this; cases this)
        rw [hnb] at ha
        have hcs : (s[k].toNat < 48 ∧ s[k].toNat ≠ 45 ∧ s[k].toNat ≠ 46) ∨ (57 < s[k].toNat ∧ s[k].toNat < 65) ∨ (90 < s[k].toNat ∧ s[k].toNat < 97) ∨ 122 < s[k].toNat := by
          simp only [Bool.or_eq_false_iff, Bool.and_eq_false_iff, decide_eq_false_iff_not, beq_eq_false_iff_ne, ne_eq] at ha
          omega
        clear ha hnb
        have hb1 : ((s[k].toNat : Int) != 45) = true := by rw [bne_iff_ne]; omega
        have hb2 : ((s[k].toNat : Int) != 46) = true := by rw [bne_iff_ne]; omega
        rcases hcs with hcs | hcs | hcs | hcs
        all_goals
          go_wp2_with fail
          all_goals go_ret
          all_goals exact ⟨by rw [HN.out, HF.out]; rfl, hK.out⟩
    · have HF := hid (show s.toList.all nameByte = true by
        have := hall.out
        rwa [List.take_of_length_le (by omega)] at this)
      go_wp2_with fail
      all_goals go_ret
      all_goals exact ⟨by rw [HN.out, HF.out]; rfl, hK.out⟩

theorem total_take {L : Files} {i : Nat} {p : ByteArray × FileM} (h : L[i]? = some p) : total (L.take (i + 1)) = total (L.take i) + p.2.b.length := by
  obtain ⟨hi, rfl⟩ := List.getElem?_eq_some_iff.1 h
  rw [List.take_succ_eq_append_getElem hi, total_append]
  simp [total]
theorem total_take_le (L : Files) (i : Nat) : total (L.take i) ≤ total L := by
  have h : total L = total (L.take i) + total (L.drop i) := by rw [← total_append, List.take_append_drop]
  omega

set_option maxRecDepth 100000 in
set_option maxHeartbeats 1000000 in
theorem rroom_any (w : World) (R : RefD) {v : Value} {L : Files} {G : Nat → Prop} (h : FilesAt w v L G) (hl : L.length ≤ 100) (hs : 0 ≤ R.size ∧ R.size ≤ 2147483648) (ht : total L ≤ 2147483648) :
    Calls Tryd.prog 22 #[R.val v] w fun e w' => e = .returned (.int .i64 (R.size - (total L : Int))) ∧ Keep (fun _ => False) w w' := by
  obtain ⟨ao, cap, hv⟩ := h.slice
  subst hv
  obtain ⟨size, down, due, ops, part, keep⟩ := R
  simp only at hs
  have H := hid h
  clear h
  unfold RefD.val RefD.cells
  go_enter Tryd.func22, Tryd.ntmps22
  go_wp2_with fail
  go_loopw [3, 4] (fun nv iv wr => ∃ i N : Nat, iv = .int .i64 (i : Int) ∧ nv = .int .i64 (size - (N : Int)) ∧ Hid (N = total (L.take i)) ∧ i ≤ L.length ∧ Hid (Keep (fun _ => False) (w.alloc (.cells #[.slice ao L.length cap, .int .i64 size, .bool down, .bool due, .int .i64 ops, .int .i64 part, .int .i64 keep] 28)) wr)) (fun _ iv _ => L.length - (RowKit.intOf iv).toNat)
  case atStart => exact ⟨0, 0, rfl, by simp, hid rfl, Nat.zero_le _, hid (Keep.refl _ _)⟩
  case round =>
    obtain ⟨i, N, rfl, rfl, HN, hi, hK⟩ := hrel
    have hblk := hK.out.at (heap_alloc_new w (.cells #[.slice ao L.length cap, .int .i64 size, .bool down, .bool due, .int .i64 ops, .int .i64 part, .int .i64 keep] 28)) (fun h => h)
    have hc0 : wr.cell? ⟨w.heap.size, 0, none⟩ = some (.slice ao L.length cap) := by rw [cell_at hblk]; rfl
    have HK := hid (((Keep.refl (fun _ => False) w).alloc (.cells #[.slice ao L.length cap, .int .i64 size, .bool down, .bool due, .int .i64 ops, .int .i64 part, .int .i64 keep] 28)).trans hK.out (fun _ _ h => h))
    clear hblk
    by_cases hil : i < L.length
    · obtain ⟨a, n, f, A, C, rfl, hp, -, d1, -, -⟩ := (H.out.keep HK.out (fun _ _ h => h)).at hil
      have hst := total_take hp
      have hle := total_take_le L (i + 1)
      rw [hst, ← HN.out] at hle
      rw [← HN.out] at hst
      have HST := hid hst
      simp only at hle
      have hw : IntKind.i64.wrap (size - (N : Int) - (f.b.length : Int)) = size - (N : Int) - (f.b.length : Int) := IntWalk.i64_in _ (by omega)
      clear hp hst
      go_wp2_with fail
      exact ⟨⟨i + 1, N + f.b.length, by simp, by simp; omega, hid HST.out.symm, by omega, hK⟩, by simp [RowKit.intOf]; omega⟩
    · obtain rfl : i = L.length := by omega
      have hN : N = total L := by rw [HN.out, List.take_length]
      subst hN
      clear HN
      go_wp2_with fail
      all_goals go_ret
      all_goals exact ⟨rfl, HK.out⟩

end Go.Proofs.YtlabpmmcmejpmaaDoor.Ref

namespace Go.Proofs.YtlabpmmcmejpmaaDoor.Ref
open Go Go.RowKit Go.Lib Go.Proofs.YtlabpmmcmejpmaaDoor.Dsk Go.Proofs.YtlabpmmcmejpmaaDoor.Wal

theorem FilesAt.at2 {w wr : World} {L : Files} {G F : Nat → Prop} {ao : Option Addr} {n cap i : Nat} (h : FilesAt w (.slice ao n cap) L G) (k : Keep F w wr) (hF : ∀ i, G i → ¬ F i) (hi : i < L.length) : ∃ a n f A C, ao = some a ∧ L[i]? = some (n, f) ∧ wr.cell? (a.add (i * 3)) = some (.string n) ∧ wr.cell? ⟨(a.add (i * 3)).block, (a.add (i * 3)).off + 1, none⟩ = some (.slice A f.b.length C) ∧ wr.cell? ⟨(a.add (i * 3)).block, (a.add (i * 3)).off + 2, none⟩ = some (.int .i64 (f.sure : Int)) ∧ BytesIn w (.slice A f.b.length C) f.b G := by
  have hh := h
  obtain ⟨ao', cap', e, h1, h2⟩ := hh
  injection e with e1 _ e3
  subst e1 e3
  cases ao with
  | none => rw [h1 rfl] at hi; simp at hi
  | some a =>
    obtain ⟨g1, g2, A, C, c0, c1, c2, hB⟩ := h2 a rfl i L[i] (List.getElem?_eq_getElem hi)
    have hb : ∀ j, (a.add j).block = a.block := fun j => ChangeShapes.block_add a j
    refine ⟨a, _, _, A, C, rfl, List.getElem?_eq_getElem hi, ?_, ?_, ?_, hB⟩
    · rw [k.cell (by rw [hb]; exact g1) (by rw [hb]; exact hF _ g2)]; exact c0
    · rw [k.cell (by simp only [hb]; exact g1) (by simp only [hb]; exact hF _ g2)]; exact c1
    · rw [k.cell (by simp only [hb]; exact g1) (by simp only [hb]; exact hF _ g2)]; exact c2

/-- A file's cells. -/
abbrev Item := ByteArray × Value × Nat
def cells3 (it : Item) : List Value := [.string it.1, it.2.1, .int .i64 (it.2.2 : Int)]
def ItemIs (w : World) (it : Item) (p : ByteArray × FileM) (G : Nat → Prop) : Prop := it.1 = p.1 ∧ it.2.2 = p.2.sure ∧ ∃ A C, it.2.1 = .slice A p.2.b.length C ∧ BytesIn w (.slice A p.2.b.length C) p.2.b G
/-- A row of files that the call owns (in wr); their bytes lie in w. -/
def OwnFiles (w wr : World) (base : Nat) (v : Value) (L : Files) (G : Nat → Prop) : Prop := ∃ its : List Item, wr.ownsRow base 54 3 v its.length (its.flatMap cells3) ∧ its.length = L.length ∧ ∀ (i : Nat) (it : Item) (p : ByteArray × FileM), its[i]? = some it → L[i]? = some p → ItemIs w it p G

section
variable {w wr w' : World} {base : Nat} {v : Value} {L : Files} {G F : Nat → Prop}
theorem OwnFiles.nil (w wr : World) (base : Nat) (G : Nat → Prop) : OwnFiles w wr base (.slice none 0 0) [] G := ⟨[], World.ownsRow_nil _ _ _ 3, rfl, fun i it p h => by simp at h⟩
theorem OwnFiles.slice (h : OwnFiles w wr base v L G) : ∃ ao cap, v = .slice ao L.length cap := by
  obtain ⟨its, h1, h2, -⟩ := h
  obtain ⟨ao, cap, e⟩ := own_slice h1
  exact ⟨ao, cap, by rw [e, h2]⟩
theorem ownsRow_keep {wr w' : World} {base n size : Nat} {e : TypeId} {v : Value} {xs : List Value} {F : Nat → Prop} (h : wr.ownsRow base e size v n xs) (k : Keep F wr w') (hF : ∀ i, base ≤ i → ¬ F i) : w'.ownsRow base e size v n xs := by
  obtain ⟨h1, h2⟩ := h
  refine ⟨h1, ?_⟩
  rcases h2 with h2 | ⟨g, cap, cur, hv, hg, hh, r⟩
  · exact .inl h2
  · exact .inr ⟨g, cap, cur, hv, hg, k.at hh (hF g hg), r⟩
theorem OwnFiles.keep (h : OwnFiles w wr base v L G) (k : Keep F wr w') (hF : ∀ i, base ≤ i → ¬ F i) : OwnFiles w w' base v L G := by
  obtain ⟨its, h1, h2⟩ := h
  exact ⟨its, ownsRow_keep h1 k hF, h2⟩
theorem flat3 (its : List Item) (i j : Nat) (it : Item) (hi : its[i]? = some it) (hj : j < 3) : (its.flatMap cells3)[i * 3 + j]? = (cells3 it)[j]? := by
  induction its generalizing i with
  | nil => simp at hi
  | cons x its ih =>
    rw [List.flatMap_cons]
    cases i with
    | zero =>
      simp only [List.getElem?_cons_zero, Option.some.injEq] at hi
      subst hi
      rw [List.getElem?_append_left (by simp [cells3]; omega)]
      simp
    | succ i =>
      rw [List.getElem?_append_right (by simp [cells3]; omega)]
      have : (i + 1) * 3 + j - (cells3 x).length = i * 3 + j := by simp [cells3]; omega
      rw [this]
      exact ih i (by simpa using hi)
/-- .. is a row of files. -/
theorem OwnFiles.files (h : OwnFiles w wr base v L G) (k : Keep F w wr) (hF : ∀ i, G i → ¬ F i) : FilesAt wr v L (fun i => G i ∨ base ≤ i) := by
  obtain ⟨its, ⟨h1, h2⟩, hlen, hit⟩ := h
  rcases h2 with ⟨rfl, h0⟩ | ⟨g, cap, cur, rfl, hb, hh, q1, q2, q3, q4⟩
  · obtain rfl : L = [] := List.eq_nil_of_length_eq_zero (by omega)
    exact FilesAt.nil _ _
  · refine ⟨some ⟨g, 0, none⟩, cap, by rw [hlen], (fun e => by cases e), fun a ha i p hp => ?_⟩
    obtain rfl := Option.some.inj ha
    have hi : i < its.length := by rw [hlen]; exact (List.getElem?_eq_some_iff.1 hp).1
    obtain ⟨e1, e2, A, C, e3, hB⟩ := hit i its[i] p (List.getElem?_eq_getElem hi) hp
    have hcell : ∀ j, j < 3 → wr.cell? ⟨g, i * 3 + j, none⟩ = (cells3 its[i])[j]? := by
      intro j hj
      rw [cell_at hh, ← flat3 its i j its[i] (List.getElem?_eq_getElem hi) hj, ← q4, List.getElem?_take_of_lt (by omega), Array.getElem?_toList]
    have hadd : (⟨g, 0, none⟩ : Addr).add (i * 3) = ⟨g, i * 3, none⟩ := addr_add0 _ _
    refine ⟨lt_of_block hh, .inr hb, A, C, ?_, ?_, ?_, ?_⟩
    · rw [hadd]
      have := hcell 0 (by omega)
      rw [Nat.add_zero] at this
      rw [this]
      simp [cells3, e1]
    · rw [hadd]
      rw [show (⟨g, i * 3, none⟩ : Addr).off + 1 = i * 3 + 1 from rfl, hcell 1 (by omega)]
      simp [cells3, e3]
    · rw [hadd]
      rw [show (⟨g, i * 3, none⟩ : Addr).off + 2 = i * 3 + 2 from rfl, hcell 2 (by omega)]
      simp [cells3, e2]
    · obtain ⟨ao', cap', e', z1, z2, z3, z4⟩ := (hB.keep k hF).read
      exact ⟨ao', cap', e', z1, z2, z3, fun b hb j u hj => ⟨(z4 b hb j u hj).1, (z4 b hb j u hj).2.1, .inl (z4 b hb j u hj).2.2⟩⟩
theorem OwnFiles.snoc {v' : Value} {its : List Item} {it : Item} {p : ByteArray × FileM} (h2 : its.length = L.length) (h3 : ∀ (i : Nat) (it : Item) (p : ByteArray × FileM), its[i]? = some it → L[i]? = some p → ItemIs w it p G) (hi : ItemIs w it p G)
    (ho : wr.ownsRow base 54 3 v' (its.length + 1) (its.flatMap cells3 ++ cells3 it)) : OwnFiles w wr base v' (L ++ [p]) G := by
  refine ⟨its ++ [it], by rw [List.length_append, List.flatMap_append]; simpa using ho, by simp [h2], fun j x y hx hy => ?_⟩
  by_cases hj : j < its.length
  · rw [List.getElem?_append_left hj] at hx
    rw [List.getElem?_append_left (by omega)] at hy
    exact h3 j x y hx hy
  · rw [List.getElem?_append_right (by omega)] at hx hy
    cases hq : j - its.length with
    | zero =>
      rw [hq] at hx
      rw [show j - L.length = 0 by omega] at hy
      simp at hx hy
      subst hx hy
      exact hi
    | succ n => rw [hq] at hx; simp at hx
end

theorem under_files : Tryd.prog.underlying 26 = some (.slice 54) := Tryd.underlying26
theorem info_file : (Tryd.prog.info? 54).map (fun i => (i.zero, i.size, i.bytes)) = some (some (.agg #[.string ⟨#[]⟩, .slice none 0 0, .int .i64 0]), 3, 48) := by kernel_rfl

theorem mdel_snoc (L : Files) (n : ByteArray) (p : ByteArray × FileM) : mdel (L ++ [p]) n = mdel L n ++ (if p.1 = n then [] else [p]) := by
  unfold mdel
  rw [List.filter_append]
  by_cases h : p.1 = n <;> simp [h]

set_option maxRecDepth 100000 in
set_option maxHeartbeats 1000000 in
theorem without_any (w : World) {v : Value} {L : Files} {G : Nat → Prop} (h : FilesAt w v L G) (hl : L.length ≤ 100) (name : ByteArray) :
    Calls Tryd.prog 49 #[v, .string name] w fun e w' => ∃ v', e = .returned v' ∧ FilesAt w' v' (mdel L name) (fun i => G i ∨ w.heap.size ≤ i) ∧ Keep (fun _ => False) w w' := by
  obtain ⟨ao, cap, hv⟩ := h.slice
  subst hv
  have H := hid h
  clear h
  go_enter Tryd.func49, Tryd.ntmps49
  go_wp2_with fail
  go_loopw [5, 6] (fun ov iv wr => ∃ i : Nat, iv = .int .i64 (i : Int) ∧ i ≤ L.length ∧ Hid (OwnFiles w wr w.heap.size ov (mdel (L.take i) name) G) ∧ Hid (Keep (fun _ => False) w wr)) (fun _ iv _ => L.length - (RowKit.intOf iv).toNat)
  case atStart => exact ⟨0, rfl, Nat.zero_le _, hid (OwnFiles.nil _ _ _ _), hid (Keep.refl _ _)⟩
  case round =>
    obtain ⟨i, rfl, hi, hO, hK⟩ := hrel
    obtain ⟨aoo, capo, hvo⟩ := hO.out.slice
    by_cases hil : i < L.length
    · obtain ⟨a, n, f, A, C, rfl, hp, d0, d1, d2, hB⟩ := H.out.at2 hK.out (fun _ _ h => h) hil
      have htk : L.take (i + 1) = L.take i ++ [(n, f)] := by
        obtain ⟨h1, h2⟩ := List.getElem?_eq_some_iff.1 hp
        rw [List.take_succ_eq_append_getElem h1, h2]
      by_cases hn : n = name
      · subst hn
        have hbe : (n.toList == n.toList) = true := by simp
        have HO2 := hid (show OwnFiles w wr w.heap.size (.slice aoo (mdel (L.take i) n).length capo) (mdel (L.take (i + 1)) n) G by rw [htk, mdel_snoc, if_pos rfl, List.append_nil, ← hvo]; exact hO.out)
        subst hvo
        clear hp htk
        go_wp2_with fail
        exact ⟨⟨i + 1, by simp, by omega, HO2, hK⟩, by simp [RowKit.intOf]; omega⟩
      · have hbe : (n.toList == name.toList) = false := by rw [beq_eq_false_iff_ne]; exact fun e => hn (ByteArray.ext (Array.toList_inj.mp (by rw [toList_data, toList_data] at e; exact e)))
        subst hvo
        obtain ⟨its, ho1, ho2, ho3⟩ := hO.out
        have HO1 := hid ho1
        have HO3 := hid ho3
        have HIT := hid (show ItemIs w (n, .slice A f.b.length C, f.sure) (n, f) G from ⟨rfl, rfl, A, C, rfl, hB⟩)
        have HTK := hid (show mdel (L.take (i + 1)) name = mdel (L.take i) name ++ [(n, f)] by rw [htk, mdel_snoc, if_neg hn])
        have hml : (mdel (L.take i) name).length ≤ 100 := Nat.le_trans (List.length_filter_le _ _) (by rw [List.length_take]; omega)
        have hsz := hK.out.size
        rw [← ho2] at hml
        clear hp htk hB ho1 ho3
        go_wp2_with (at_builtin; refine wpList_append_one rfl _ _ 26 54 rfl (.agg #[.string ⟨#[]⟩, .slice none 0 0, .int .i64 0]) 3 48 under_files info_file rfl (by decide) rfl HO1.out rfl rfl (by simp [Value.oneCell']) (by simp only [maxLen]; omega) (by omega) hsz ?_; intro v' w2 hown' hB2 hg2)
        have HO2 := hid (show OwnFiles w w2 w.heap.size v' (mdel (L.take (i + 1)) name) G by rw [HTK.out]; exact OwnFiles.snoc ho2 HO3.out HIT.out hown')
        have HK2 := hid (hK.out.trans (Keep.of_below (F := fun i => w.heap.size ≤ i) hB2 (fun i _ h => h)) (fun i hi h => by omega))
        exact ⟨⟨i + 1, by simp, by omega, HO2, HK2⟩, by simp [RowKit.intOf]; omega⟩
    · obtain rfl : i = L.length := by omega
      rw [List.take_length] at hO hvo
      subst hvo
      have HF := hid (hO.out.files hK.out (fun _ _ h => h))
      go_wp2_with fail
      all_goals go_ret
      all_goals exact ⟨_, rfl, HF.out, hK.out⟩

end Go.Proofs.YtlabpmmcmejpmaaDoor.Ref
