/- The reference's disk and the disk: what the one comes to is what the other comes to; plain. The reference's disk and the disk hang together, whatever is done to both; plain. -/
import Derived.Test.YtlabpmmcmejpmaaDoorRefDisk9
import Derived.Sort.Walk0
import Derived.Test.YtlabpmmcmejpmaaDoorDiskTidy
namespace Go.Proofs.YtlabpmmcmejpmaaDoor.Ref
open Go Go.Proofs.YtlabpmmcmejpmaaDoor.Dsk

theorem less_iff (a b : ByteArray) : Op.bytesLess a.toList b.toList = true ↔ a.toList < b.toList := by rw [bytesLess_eq]; simp
theorem bytes_ext {a b : ByteArray} (h : a.toList = b.toList) : a = b := ByteArray.ext (Array.toList_inj.mp (by rw [toList_data, toList_data] at h; exact h))
theorem lt_irr (a : List UInt8) : ¬ a < a := List.lt_irrefl a
theorem lt_tr {a b c : List UInt8} (h : a < b) (k : b < c) : a < c := List.lt_trans h k
theorem lt_tri {a b : List UInt8} (h : ¬ a < b) (k : a ≠ b) : b < a := by
  rcases Classical.em (b < a) with h2 | h2
  · exact h2
  · exact absurd (List.le_antisymm (List.not_lt.1 h2) (List.not_lt.1 h)) k
theorem leS_true {a b : ByteArray} : leS a b = true ↔ a.toList < b.toList ∨ a = b := by
  unfold leS
  rw [Bool.or_eq_true, less_iff, beq_iff_eq]
  constructor
  · rintro (h | h)
    · exact .inl h
    · exact .inr (bytes_ext h)
  · rintro (h | h)
    · exact .inl h
    · exact .inr (by rw [h])

/-- By names, each once. -/
def Sorted (L : Files) : Prop := L.Pairwise (fun p q => p.1.toList < q.1.toList)
theorem Sorted.nodup {L : Files} (h : Sorted L) : (L.map (·.1)).Nodup := by
  unfold List.Nodup
  rw [List.pairwise_map]
  exact h.imp fun {a b} hab (e : a.1 = b.1) => lt_irr a.1.toList (by rw [← e] at hab; exact hab)

/-- put, otherwise said. -/
def ins (f : ByteArray × FileM) : Files → Files
  | [] => [f]
  | p :: L => if leS f.1 p.1 = true then f :: mdel (p :: L) f.1 else p :: ins f L
theorem put_true (f : ByteArray × FileM) (L : Files) : ∀ acc, L.foldl (putStep f) (acc, true) = (acc ++ mdel L f.1, true) := by
  induction L with
  | nil => intro acc; simp [mdel]
  | cons p L ih =>
    intro acc
    rw [List.foldl_cons]
    have h : putStep f (acc, true) p = (acc ++ (if p.1 = f.1 then [] else [p]), true) := by simp [putStep]
    rw [h, ih, List.append_assoc]
    congr 2
    unfold mdel
    rw [List.filter_cons]
    by_cases e : p.1 = f.1 <;> simp [e]
theorem put_false (f : ByteArray × FileM) (L : Files) : ∀ acc, (if (L.foldl (putStep f) (acc, false)).2 = true then (L.foldl (putStep f) (acc, false)).1 else (L.foldl (putStep f) (acc, false)).1 ++ [f]) = acc ++ ins f L := by
  induction L with
  | nil => intro acc; simp [ins]
  | cons p L ih =>
    intro acc
    rw [List.foldl_cons]
    unfold ins
    by_cases hle : leS f.1 p.1 = true
    · have h : putStep f (acc, false) p = (acc ++ [f] ++ (if p.1 = f.1 then [] else [p]), true) := by simp [putStep, hle]
      rw [h, put_true, if_pos rfl, if_pos hle]
      unfold mdel
      rw [List.filter_cons]
      by_cases e : p.1 = f.1 <;> simp [e]
    · have hne : ¬ p.1 = f.1 := fun e => hle (leS_true.2 (.inr e.symm))
      have h : putStep f (acc, false) p = (acc ++ [p], false) := by simp [putStep, hle, hne]
      rw [h, ih, if_neg hle]
      simp
theorem putF_ins (f : ByteArray × FileM) (L : Files) : putF f L = ins f L := by
  have h := put_false f L []
  unfold putF putSt
  rw [h]; rfl
theorem mget_ins (f : ByteArray × FileM) (L : Files) (n : ByteArray) : mget (ins f L) n = if n = f.1 then some f.2 else mget L n := by
  induction L with
  | nil =>
    unfold ins
    rw [mget_cons, mget_nil]
    by_cases e : f.1 = n
    · rw [if_pos e, if_pos e.symm]
    · rw [if_neg e, if_neg (fun h => e h.symm)]
  | cons p L ih =>
    unfold ins
    by_cases hle : leS f.1 p.1 = true
    · rw [if_pos hle, mget_cons, mget_mdel]
      by_cases e : f.1 = n
      · rw [if_pos e, if_pos e.symm]
      · rw [if_neg e, if_neg (fun h => e h.symm), if_neg (fun h => e h.symm)]
    · have hne : ¬ p.1 = f.1 := fun e => hle (leS_true.2 (.inr e.symm))
      rw [if_neg hle, mget_cons, ih, mget_cons]
      by_cases e : p.1 = n
      · subst e
        rw [if_pos rfl, if_pos rfl, if_neg hne]
      · rw [if_neg e, if_neg e]
theorem mem_ins {f : ByteArray × FileM} {L : Files} {q : ByteArray × FileM} (h : q ∈ ins f L) : q = f ∨ q ∈ L := by
  induction L with
  | nil => simp [ins] at h; exact .inl h
  | cons p L ih =>
    unfold ins at h
    split at h
    · rcases List.mem_cons.1 h with h | h
      · exact .inl h
      · exact .inr (List.mem_filter.1 h).1
    · rcases List.mem_cons.1 h with h | h
      · exact .inr (List.mem_cons.2 (.inl h))
      · rcases ih h with h | h
        · exact .inl h
        · exact .inr (List.mem_cons.2 (.inr h))
theorem sorted_ins {L : Files} (hs : Sorted L) (f : ByteArray × FileM) : Sorted (ins f L) := by
  unfold Sorted at hs ⊢
  induction L with
  | nil => exact List.pairwise_singleton _ _
  | cons p L ih =>
    have hs' := List.pairwise_cons.1 hs
    unfold ins
    split
    · rename_i hle
      refine List.pairwise_cons.2 ⟨fun q hq => ?_, hs.sublist List.filter_sublist⟩
      obtain ⟨hq1, hq2⟩ := List.mem_filter.1 hq
      have hne : q.1 ≠ f.1 := by simpa using hq2
      have hpq : p = q ∨ p.1.toList < q.1.toList := by
        rcases List.mem_cons.1 hq1 with h | h
        · exact .inl h.symm
        · exact .inr (hs'.1 q h)
      rcases leS_true.1 hle with h | h
      · rcases hpq with rfl | h2
        · exact h
        · exact lt_tr h h2
      · rcases hpq with rfl | h2
        · exact absurd h.symm hne
        · rw [h]; exact h2
    · rename_i hle
      have hne : ¬ p.1 = f.1 := fun e => hle (leS_true.2 (.inr e.symm))
      have hlt : p.1.toList < f.1.toList := lt_tri (fun h => hle (leS_true.2 (.inl h))) (fun e => hne (bytes_ext e).symm)
      refine List.pairwise_cons.2 ⟨fun q hq => ?_, ih hs'.2⟩
      rcases mem_ins hq with rfl | h
      · exact hlt
      · exact hs'.1 q h
theorem sorted_del {L : Files} (hs : Sorted L) (n : ByteArray) : Sorted (mdel L n) := List.Pairwise.sublist List.filter_sublist hs
theorem sorted_put {L : Files} (hs : Sorted L) (f : ByteArray × FileM) : Sorted (putF f L) := by rw [putF_ins]; exact sorted_ins hs f
theorem mget_put (f : ByteArray × FileM) (L : Files) (n : ByteArray) : mget (putF f L) n = if n = f.1 then some f.2 else mget L n := by rw [putF_ins]; exact mget_ins f L n
theorem sorted_fall {L : Files} (hs : Sorted L) (k : Int) : Sorted (fallF k L) := by
  unfold Sorted fallF at *
  rw [List.pairwise_map]
  exact hs

theorem perm_of_mem {α : Type} : ∀ {l k : List α}, l.Nodup → k.Nodup → (∀ a, a ∈ l ↔ a ∈ k) → l.Perm k := by
  intro l
  induction l with
  | nil =>
    intro k _ _ h
    cases k with
    | nil => exact List.Perm.refl _
    | cons b k => exact absurd ((h b).2 (List.mem_cons_self ..)) (by simp)
  | cons a l ih =>
    intro k hl hk h
    obtain ⟨s, t, rfl⟩ := List.append_of_mem ((h a).1 (List.mem_cons_self ..))
    have hl' := List.nodup_cons.1 hl
    have hk' : (a :: (s ++ t)).Nodup := List.perm_middle.nodup_iff.1 hk
    have hk2 := List.nodup_cons.1 hk'
    refine (List.Perm.cons a (ih hl'.2 hk2.2 fun b => ?_)).trans List.perm_middle.symm
    constructor
    · intro hb
      have h1 := (h b).1 (List.mem_cons_of_mem _ hb)
      have h2 := List.perm_middle.mem_iff.1 h1
      rcases List.mem_cons.1 h2 with rfl | h2
      · exact absurd hb hl'.1
      · exact h2
    · intro hb
      have h1 := (h b).2 (List.perm_middle.mem_iff.2 (List.mem_cons_of_mem _ hb))
      rcases List.mem_cons.1 h1 with rfl | h1
      · exact absurd hb hk2.1
      · exact h1
theorem perm_of_mget {L M : Files} (hL : (L.map (·.1)).Nodup) (hM : (M.map (·.1)).Nodup) (h : ∀ n, mget L n = mget M n) : L.Perm M := by
  have nd : ∀ {X : Files}, (X.map (·.1)).Nodup → X.Nodup := fun {X} hX => by
    unfold List.Nodup at hX
    rw [List.pairwise_map] at hX
    exact hX.imp fun {a b} hab e => hab (by rw [e])
  refine perm_of_mem (nd hL) (nd hM) fun p => ⟨fun hp => ?_, fun hp => ?_⟩
  · have h1 := mget_of_mem hL (k := p.1) (v := p.2) hp
    rw [h] at h1
    exact mget_mem h1
  · have h1 := mget_of_mem hM (k := p.1) (v := p.2) hp
    rw [← h] at h1
    exact mget_mem h1
theorem total_perm {L M : Files} (h : L.Perm M) : total L = total M := by
  induction h with
  | nil => rfl
  | cons x _ ih => simp [total, ih]
  | swap x y l => simp [total]; omega
  | trans _ _ h1 h2 => rw [h1, h2]
theorem pick_eq {L : Files} (hn : (L.map (·.1)).Nodup) (name : ByteArray) : ∀ f, L.foldl (fun f p => if p.1 = name then p.2 else f) f = (mget L name).getD f := by
  induction L with
  | nil => intro f; rfl
  | cons p L ih =>
    intro f
    simp only [List.map_cons, List.nodup_cons] at hn
    rw [List.foldl_cons, ih hn.2, mget_cons]
    by_cases e : p.1 = name
    · rw [if_pos e, if_pos e]
      have : mhas L name = false := by
        cases hc : mhas L name with
        | false => rfl
        | true => exact absurd ((mhas_iff _ _).1 hc) (e ▸ hn.1)
      unfold mhas at this
      cases hg : mget L name with
      | none => rfl
      | some g => rw [hg] at this; cases this
    · rw [if_neg e, if_neg e]
theorem mget_fall (k : Int) (L : Files) (n : ByteArray) : mget (fallF k L) n = (mget L n).map (cutF k) := by
  induction L with
  | nil => rfl
  | cons p L ih =>
    show mget ((p.1, cutF k p.2) :: fallF k L) n = _
    rw [mget_cons, mget_cons]
    by_cases e : p.1 = n
    · rw [if_pos e, if_pos e]; rfl
    · rw [if_neg e, if_neg e, ih]
theorem mget_fallP (k : Nat) (L : Files) (n : ByteArray) : mget (fallP k L) n = (mget L n).map (Dsk.fallF k) := by
  induction L with
  | nil => rfl
  | cons p L ih =>
    show mget ((p.1, Dsk.fallF k p.2) :: fallP k L) n = _
    rw [mget_cons, mget_cons]
    by_cases e : p.1 = n
    · rw [if_pos e, if_pos e]; rfl
    · rw [if_neg e, if_neg e, ih]
theorem cut_fall (k : Nat) (f : FileM) (h : f.sure ≤ f.b.length) : cutF (k : Int) f = Dsk.fallF k f := by
  show (if (k : Int) < (f.b.length : Int) - (f.sure : Int) then (⟨f.b.take (f.sure + (k : Int).toNat), f.sure + (k : Int).toNat⟩ : FileM) else ⟨f.b, f.b.length⟩) = ⟨f.b.take (min f.b.length (f.sure + min k (f.b.length - f.sure))), min f.b.length (f.sure + min k (f.b.length - f.sure))⟩
  by_cases hc : (k : Int) < (f.b.length : Int) - (f.sure : Int)
  · rw [if_pos hc, Int.toNat_natCast, show min f.b.length (f.sure + min k (f.b.length - f.sure)) = f.sure + k by omega]
  · rw [if_neg hc, show min f.b.length (f.sure + min k (f.b.length - f.sure)) = f.b.length by omega, List.take_length]

end Go.Proofs.YtlabpmmcmejpmaaDoor.Ref

namespace Go.Proofs.YtlabpmmcmejpmaaDoor.Ref
open Go Go.Proofs.YtlabpmmcmejpmaaDoor.Dsk Go.Proofs.YtlabpmmcmejpmaaDoor.Wal

structure Rel (D : DiskM) (R : RefD) (L : Files) : Prop where
  sorted : Sorted L
  files : ∀ n, mget L n = mget D.files n
  size : R.size = (D.room : Int)
  down : R.down = D.off
  cut : (D.cut = none ∧ R.due = false ∧ R.ops = 0 ∧ R.part = 0 ∧ R.keep = 0) ∨ ∃ o p k : Nat, D.cut = some (o, p, k) ∧ R.due = true ∧ R.ops = o ∧ R.part = p ∧ R.keep = k ∧ o < 9223372036854775808

section
variable {D : DiskM} {R : RefD} {L : Files}
theorem Rel.perm (h : Rel D R L) (ho : Ok D) : L.Perm D.files := perm_of_mget h.sorted.nodup ho.nodup h.files
theorem Rel.total (h : Rel D R L) (ho : Ok D) : total L = total D.files := total_perm (h.perm ho)
theorem Rel.len (h : Rel D R L) (ho : Ok D) : L.length = D.files.length := (h.perm ho).length_eq
theorem Rel.has (h : Rel D R L) (n : ByteArray) : mhas L n = mhas D.files n := by unfold mhas; rw [h.files]
theorem Rel.pickd (h : Rel D R L) (n : ByteArray) : pick n L = fileOf D.files n := by
  unfold pick fileOf
  rw [pick_eq h.sorted.nodup, h.files]
theorem Rel.parts (h : Rel D R L) : 0 ≤ R.part ∧ 0 ≤ R.keep ∧ R.ops < 9223372036854775808 := by
  rcases h.cut with ⟨-, -, h1, h2, h3⟩ | ⟨o, p, k, -, -, h1, h2, h3, h4⟩ <;> omega
theorem Rel.ok (h : Rel D R L) (ho : Ok D) (ht : Tidy D.files) : FilesOk L := by
  refine ⟨by rw [h.len ho]; exact ht.1, fun p hp => ?_⟩
  have hp2 := (h.perm ho).mem_iff.1 hp
  refine ⟨ho.sure p hp2, ?_⟩
  have h1 := total_mem hp2
  have h2 := ho.room
  have h3 := ho.small
  omega
theorem rel_new (room : Int) : Rel (new room) (refNew room) [] := by
  refine ⟨List.Pairwise.nil, fun n => rfl, ?_, rfl, .inl ⟨rfl, rfl, rfl, rfl, rfl⟩⟩
  show (if room < 0 then (0 : Int) else room) = (((max room 0).toNat : Nat) : Int)
  split <;> omega
theorem rel_on (h : Rel D R L) : Rel (on D) (refOn R) L := ⟨h.sorted, h.files, h.size, rfl, .inl ⟨rfl, rfl, rfl, rfl, rfl⟩⟩
theorem rel_cut (h : Rel D R L) (o p k : Int) (ho : o < 9223372036854775808) : Rel (cutTo D o p k).1 (refCut R o p k).1 L ∧ (cutTo D o p k).2 = (refCut R o p k).2 := by
  unfold cutTo refCut
  by_cases h1 : o < 0 ∨ p < 0 ∨ k < 0
  · rw [if_pos h1, if_pos h1]; exact ⟨h, rfl⟩
  · rw [if_neg h1, if_neg h1, h.down]
    cases hd : D.off with
    | true => rw [if_pos rfl, if_pos rfl]; exact ⟨h, rfl⟩
    | false =>
      rw [if_neg (by simp), if_neg (by simp)]
      refine ⟨⟨h.sorted, h.files, h.size, ?_, .inr ⟨o.toNat, p.toNat, k.toNat, rfl, rfl, ?_, ?_, ?_, by omega⟩⟩, rfl⟩
      · simp only
      all_goals (simp only; omega)

theorem rel_do (h : Rel D R L) (hok : Ok D) (e : Int) (m : Nat) (dn : Nat → Bool → Bool → Files) (doP : Nat → Files → Files)
    (hw : e = 0 → Sorted (dn m true true) ∧ ∀ n, mget (dn m true true) n = mget (doP whole D.files) n)
    (hp : e = 0 → ∀ p : Nat, Sorted (dn (if p < m then p else m) false (decide (0 < p))) ∧ (∀ n, mget (dn (if p < m then p else m) false (decide (0 < p))) n = mget (doP (min p (whole - 1)) D.files) n) ∧ ∀ n g, mget (doP (min p (whole - 1)) D.files) n = some g → g.sure ≤ g.b.length)
    {r : DiskM × Int} (hr : r = if D.off then (D, 71) else operate D e doP) : Rel r.1 (refDo R L e m dn).1 (refDo R L e m dn).2.1 ∧ r.2 = (refDo R L e m dn).2.2 := by
  subst hr
  unfold refDo
  rw [h.down]
  cases hd : D.off with
  | true => rw [if_pos rfl, if_pos rfl]; exact ⟨h, rfl⟩
  | false =>
    rw [if_neg (by simp), if_neg (by simp)]
    obtain ⟨room, files, off, cut⟩ := D
    simp only at hd hw hp
    subst hd
    obtain ⟨hs, hf, hz, hdn, hc⟩ := h
    simp only at hf hz hdn hc
    rcases hc with ⟨rfl, c1, c2, c3, c4⟩ | ⟨o, p, k, rfl, c1, c2, c3, c4, c5⟩
    · have hdue : refDue R = (R, false) := by unfold refDue; rw [if_neg (by rw [c1]; simp)]
      rw [hdue]
      simp only [Bool.false_eq_true, if_false]
      have hL : refL R L e m dn = if e = 0 then dn m true true else L := by
        unfold refL refN
        rw [hdue]
        simp
      rw [hL]
      unfold operate
      by_cases he : e = 0
      · simp only [he, if_true]
        obtain ⟨w1, w2⟩ := hw he
        exact ⟨⟨w1, w2, hz, hdn, .inl ⟨rfl, c1, c2, c3, c4⟩⟩, trivial⟩
      · simp only [he, if_false]
        exact ⟨⟨hs, hf, hz, hdn, .inl ⟨rfl, c1, c2, c3, c4⟩⟩, trivial⟩
    · cases o with
      | succ o =>
        have hdue : refDue R = ({ R with ops := R.ops - 1 }, false) := by unfold refDue; rw [if_pos c1, if_pos (by omega)]
        rw [hdue]
        simp only [Bool.false_eq_true, if_false]
        have hL : refL R L e m dn = if e = 0 then dn m true true else L := by
          unfold refL refN
          rw [hdue]
          simp
        rw [hL]
        unfold operate
        have hcc : (({ R with ops := R.ops - 1 } : RefD).ops = (o : Int)) := by simp only; omega
        by_cases he : e = 0
        · simp only [he, if_true]
          obtain ⟨w1, w2⟩ := hw he
          exact ⟨⟨w1, w2, hz, hdn, .inr ⟨o, p, k, rfl, c1, hcc, c3, c4, by omega⟩⟩, trivial⟩
        · simp only [he, if_false]
          exact ⟨⟨hs, hf, hz, hdn, .inr ⟨o, p, k, rfl, c1, hcc, c3, c4, by omega⟩⟩, trivial⟩
      | zero =>
        have hdue : refDue R = (R, true) := by unfold refDue; rw [if_pos c1, if_neg (by omega)]
        rw [hdue]
        simp only [if_true]
        have hL : refL R L e m dn = if e = 0 then dn (if p < m then p else m) false (decide (0 < p)) else L := by
          unfold refL refN
          rw [hdue, c3]
          simp
        rw [hL, c4]
        unfold operate
        have fin : ∀ {X Y : Files}, Sorted X → (∀ n, mget X n = mget Y n) → (∀ n g, mget Y n = some g → g.sure ≤ g.b.length) → Rel ⟨room, fallP k Y, true, none⟩ (refFall R) (fallF (k : Int) X) := fun {X Y} x1 x2 x3 => by
          refine ⟨sorted_fall x1 _, fun n => ?_, hz, rfl, .inl ⟨rfl, rfl, rfl, rfl, rfl⟩⟩
          show mget (fallF (k : Int) X) n = mget (fallP k Y) n
          rw [mget_fall, mget_fallP, x2]
          cases hg : mget Y n with
          | none => rfl
          | some g => exact congrArg some (cut_fall k g (x3 n g hg))
        by_cases he : e = 0
        · simp only [he, if_true]
          obtain ⟨w1, w2, w3⟩ := hp he p
          exact ⟨fin w1 w2 w3, trivial⟩
        · simp only [he, if_false]
          exact ⟨fin hs hf (fun n g hg => hok.sure (n, g) (mget_mem hg)), trivial⟩

def dnAppend (L : Files) (name : ByteArray) (b : List UInt8) (k : Nat) (_ _ : Bool) : Files := putF (name, ⟨(pick name L).b ++ b.take k, (pick name L).sure⟩) L
def dnSync (L : Files) (name : ByteArray) (_ : Nat) (wh _ : Bool) : Files := putF (name, if wh = true then ⟨(pick name L).b, (pick name L).b.length⟩ else pick name L) L
def dnRename (L : Files) (name to : ByteArray) (_ : Nat) (_ sm : Bool) : Files := if sm = true then putF (to, pick name L) (mdel L name) else L
def dnRemove (L : Files) (name : ByteArray) (_ : Nat) (_ sm : Bool) : Files := if sm = true then mdel L name else L
def dnShorten (L : Files) (name : ByteArray) (n : Nat) (_ : Nat) (_ sm : Bool) : Files := putF (name, shortF sm n (pick name L)) L

theorem Rel.got (_h : Rel D R L) {n : ByteArray} (hn : mhas D.files n = true) : mget D.files n = some (fileOf D.files n) := by
  unfold mhas at hn
  unfold fileOf
  cases hg : mget D.files n with
  | none => rw [hg] at hn; cases hn
  | some g => rfl
theorem file_sure (ho : Ok D) (n : ByteArray) : (fileOf D.files n).sure ≤ (fileOf D.files n).b.length := by
  unfold fileOf
  cases hg : mget D.files n with
  | none => exact Nat.le_refl _
  | some g => exact ho.sure (n, g) (mget_mem hg)
theorem file_small (_ho : Ok D) (n : ByteArray) : (fileOf D.files n).b.length ≤ total D.files := by
  unfold fileOf
  cases hg : mget D.files n with
  | none => exact Nat.zero_le _
  | some g => exact total_mem (p := (n, g)) (mget_mem hg)
/-- A file of the name, as it is. -/
theorem put_self (h : Rel D R L) {n : ByteArray} (hn : mhas D.files n = true) : ∀ m, mget (putF (n, fileOf D.files n) L) m = mget D.files m := fun m => by
  rw [mget_put, h.files]
  by_cases e : m = n
  · rw [if_pos e, e]; exact (h.got hn).symm
  · rw [if_neg e]
theorem put_put (h : Rel D R L) (n : ByteArray) (f : FileM) : ∀ m, mget (putF (n, f) L) m = mget (mput D.files n f) m := fun m => by
  rw [mget_put, mget_mput, h.files]
theorem sure_put (ho : Ok D) {n : ByteArray} {f : FileM} (hf : f.sure ≤ f.b.length) : ∀ m g, mget (mput D.files n f) m = some g → g.sure ≤ g.b.length := fun m g hg => by
  rw [mget_mput] at hg
  split at hg
  · obtain rfl := Option.some.inj hg; exact hf
  · exact ho.sure (m, g) (mget_mem hg)
theorem sure_old (ho : Ok D) : ∀ m g, mget D.files m = some g → g.sure ≤ g.b.length := fun m g hg => ho.sure (m, g) (mget_mem hg)
theorem sure_del (ho : Ok D) (n : ByteArray) : ∀ m g, mget (mdel D.files n) m = some g → g.sure ≤ g.b.length := fun m g hg => by
  rw [mget_mdel] at hg
  split at hg
  · cases hg
  · exact ho.sure (m, g) (mget_mem hg)

/-- A row of files with one put. -/
theorem ok_put {X : Files} (hs : Sorted X) (hx : FilesOk X) (n : ByteArray) (f : FileM) (hf : f.sure ≤ f.b.length ∧ f.b.length ≤ 2147483648) (hroom : mhas X n = true ∨ X.length < 100) : FilesOk (putF (n, f) X) := by
  have hp : (putF (n, f) X).Perm (mput X n f) := perm_of_mget (sorted_put hs _).nodup (nodup_mput hs.nodup n f) (fun m => by rw [mget_put, mget_mput])
  refine ⟨?_, fun p hp2 => ?_⟩
  · rw [hp.length_eq, ← List.length_map (f := (·.1)), keys_mput]
    have := hx.1
    rcases hroom with h | h
    · rw [if_pos h, List.length_map]; exact this
    · split
      · rw [List.length_map]; exact this
      · rw [List.length_append, List.length_map]; simp; omega
  · have h1 := mget_of_mem (nodup_mput hs.nodup n f) (k := p.1) (v := p.2) (hp.mem_iff.1 hp2)
    rw [mget_mput] at h1
    split at h1
    · rw [← Option.some.inj h1]; exact hf
    · exact hx.2 (p.1, p.2) (mget_mem h1)

theorem rel_append (h : Rel D R L) (ho : Ok D) (ht : Tidy D.files) (name : ByteArray) (b : List UInt8) (hb : b.length ≤ 1000) :
    wrongAppend R L name b.length = appendE D name b ∧ (appendE D name b = 0 → ∀ k wh sm, FilesOk (dnAppend L name b k wh sm)) ∧
    Rel (append D name b).1 (refDo R L (appendE D name b) b.length (dnAppend L name b)).1 (refDo R L (appendE D name b) b.length (dnAppend L name b)).2.1 ∧ (append D name b).2 = (refDo R L (appendE D name b) b.length (dnAppend L name b)).2.2 := by
  have hok := h.ok ho ht
  have h0 : appendE D name b = 0 → total D.files + b.length ≤ D.room ∧ (mhas L name = true ∨ L.length < 100) := fun e => by
    unfold appendE at e
    split at e
    · split at e
      · cases e
      · rename_i hc
        rw [not_or] at hc
        refine ⟨by omega, ?_⟩
        rw [h.has, h.len ho]
        cases hm : mhas D.files name with
        | true => exact .inl rfl
        | false => exact .inr (Nat.lt_of_not_le fun h100 => hc.2 ⟨hm, h100⟩)
    · cases e
  have hsz := file_small ho name
  have hsu := file_sure ho name
  have h3 := ho.small
  have hbw : b.length ≤ whole - 1 := by unfold whole; omega
  refine ⟨?_, ?_, rel_do h ho _ _ _ (appendP name b) ?_ ?_ rfl⟩
  · unfold wrongAppend appendE
    rw [h.total ho, h.has, h.len ho, h.size]
    split
    · by_cases hc : D.room < total D.files + b.length ∨ mhas D.files name = false ∧ 100 ≤ D.files.length
      · rw [if_pos hc, if_pos (hc.imp (fun h => by omega) id)]
      · rw [if_neg hc, if_neg (fun h => hc (h.imp (fun h => by omega) id))]
    · rfl
  · intro e k wh sm
    obtain ⟨e1, e2⟩ := h0 e
    unfold dnAppend
    rw [h.pickd]
    refine ok_put h.sorted hok _ _ ⟨?_, ?_⟩ e2
    · simp only [List.length_append]; omega
    · simp only [List.length_append, List.length_take]; omega
  · intro e
    unfold dnAppend appendP
    rw [h.pickd]
    refine ⟨sorted_put h.sorted _, fun n => ?_⟩
    rw [put_put h, List.take_length, List.take_of_length_le (by unfold whole; omega)]
  · intro e p
    unfold dnAppend appendP
    rw [h.pickd]
    have hk : b.take (if p < b.length then p else b.length) = b.take (min p (whole - 1)) := by
      split
      · rw [Nat.min_eq_left (by omega)]
      · rw [List.take_length, List.take_of_length_le (by omega)]
    refine ⟨sorted_put h.sorted _, fun n => ?_, sure_put ho ?_⟩
    · rw [put_put h, hk]
    · simp only [List.length_append]; omega

theorem none_zero {n : ByteArray} (e : noneE D n = 0) : mhas D.files n = true := none_has e
theorem rel_sync (h : Rel D R L) (ho : Ok D) (ht : Tidy D.files) (name : ByteArray) :
    wrongOther L name = noneE D name ∧ (noneE D name = 0 → ∀ k wh sm, FilesOk (dnSync L name k wh sm)) ∧
    Rel (sync D name).1 (refDo R L (noneE D name) 0 (dnSync L name)).1 (refDo R L (noneE D name) 0 (dnSync L name)).2.1 ∧ (sync D name).2 = (refDo R L (noneE D name) 0 (dnSync L name)).2.2 := by
  have hok := h.ok ho ht
  have hsz := file_small ho name
  have hsu := file_sure ho name
  have h3 := ho.small
  have h4 := ho.room
  refine ⟨by unfold wrongOther noneE; rw [h.has], ?_, rel_do h ho _ _ _ (syncP name) ?_ ?_ rfl⟩
  · intro e k wh sm
    unfold dnSync
    rw [h.pickd]
    refine ok_put h.sorted hok _ _ ?_ (.inl (by rw [h.has]; exact none_has e))
    split
    · exact ⟨Nat.le_refl _, by simp only; omega⟩
    · exact ⟨hsu, by omega⟩
  · intro e
    unfold dnSync syncP
    rw [h.pickd, if_pos rfl, if_pos rfl]
    exact ⟨sorted_put h.sorted _, put_put h _ _⟩
  · intro e p
    unfold dnSync syncP
    rw [h.pickd, if_neg (by simp), if_neg (by unfold whole; omega)]
    exact ⟨sorted_put h.sorted _, put_self h (none_has e), sure_old ho⟩

theorem part_pos (p : Nat) : decide (0 < p) = true ↔ 0 < min p (whole - 1) := by
  rw [decide_eq_true_eq]; unfold whole; omega
theorem rel_rename (h : Rel D R L) (ho : Ok D) (ht : Tidy D.files) (name to : ByteArray) :
    wrongRename L name to = renameE D name to ∧ (renameE D name to = 0 → ∀ k wh sm, FilesOk (dnRename L name to k wh sm)) ∧
    Rel (rename D name to).1 (refDo R L (renameE D name to) 0 (dnRename L name to)).1 (refDo R L (renameE D name to) 0 (dnRename L name to)).2.1 ∧ (rename D name to).2 = (refDo R L (renameE D name to) 0 (dnRename L name to)).2.2 := by
  have hok := h.ok ho ht
  have hsz := file_small ho name
  have hsu := file_sure ho name
  have h3 := ho.small
  have h4 := ho.room
  have h0 : renameE D name to = 0 → mhas D.files name = true := fun e => by
    unfold renameE at e
    split at e
    · exact none_has e
    · cases e
  have core : renameE D name to = 0 → (∀ n, mget (putF (to, fileOf D.files name) (mdel L name)) n = mget (mput (mdel D.files name) to (fileOf D.files name)) n) := fun _ n => by
    rw [mget_put, mget_mput, mget_mdel, mget_mdel, h.files]
  refine ⟨by unfold wrongRename renameE noneE; rw [h.has], ?_, rel_do h ho _ _ _ (renameP name to) ?_ ?_ rfl⟩
  · intro e k wh sm
    unfold dnRename
    split
    · rw [h.pickd]
      refine ok_put (sorted_del h.sorted _) ⟨Nat.le_trans (List.length_filter_le _ _) hok.1, fun p hp => hok.2 p (List.mem_filter.1 hp).1⟩ _ _ ⟨hsu, by omega⟩ (.inr ?_)
      have := mdel_less (fs := L) (n := name) (by rw [h.has]; exact h0 e)
      have := hok.1
      omega
    · exact hok
  · intro e
    unfold dnRename renameP
    rw [h.pickd, if_pos rfl, if_pos (by unfold whole; omega)]
    exact ⟨sorted_put (sorted_del h.sorted _) _, core e⟩
  · intro e p
    unfold dnRename renameP
    rw [h.pickd]
    by_cases hp : 0 < min p (whole - 1)
    · rw [if_pos ((part_pos p).2 hp), if_pos hp]
      refine ⟨sorted_put (sorted_del h.sorted _) _, core e, fun m g hg => ?_⟩
      rw [mget_mput] at hg
      split at hg
      · obtain rfl := Option.some.inj hg; exact hsu
      · exact sure_del ho name m g hg
    · rw [if_neg (fun hh => hp ((part_pos p).1 hh)), if_neg hp]
      exact ⟨h.sorted, h.files, sure_old ho⟩

theorem rel_remove (h : Rel D R L) (ho : Ok D) (ht : Tidy D.files) (name : ByteArray) :
    wrongOther L name = noneE D name ∧ (noneE D name = 0 → ∀ k wh sm, FilesOk (dnRemove L name k wh sm)) ∧
    Rel (remove D name).1 (refDo R L (noneE D name) 0 (dnRemove L name)).1 (refDo R L (noneE D name) 0 (dnRemove L name)).2.1 ∧ (remove D name).2 = (refDo R L (noneE D name) 0 (dnRemove L name)).2.2 := by
  have hok := h.ok ho ht
  have core : ∀ n, mget (mdel L name) n = mget (mdel D.files name) n := fun n => by rw [mget_mdel, mget_mdel, h.files]
  refine ⟨by unfold wrongOther noneE; rw [h.has], ?_, rel_do h ho _ _ _ (removeP name) ?_ ?_ rfl⟩
  · intro e k wh sm
    unfold dnRemove
    split
    · exact ⟨Nat.le_trans (List.length_filter_le _ _) hok.1, fun p hp => hok.2 p (List.mem_filter.1 hp).1⟩
    · exact hok
  · intro e
    unfold dnRemove removeP
    rw [if_pos rfl, if_pos (by unfold whole; omega)]
    exact ⟨sorted_del h.sorted _, core⟩
  · intro e p
    unfold dnRemove removeP
    by_cases hp : 0 < min p (whole - 1)
    · rw [if_pos ((part_pos p).2 hp), if_pos hp]
      exact ⟨sorted_del h.sorted _, core, sure_del ho name⟩
    · rw [if_neg (fun hh => hp ((part_pos p).1 hh)), if_neg hp]
      exact ⟨h.sorted, h.files, sure_old ho⟩

theorem rel_shorten (h : Rel D R L) (ho : Ok D) (ht : Tidy D.files) (name : ByteArray) (n : Int) :
    wrongShorten L name n = shortenE D name n ∧ (shortenE D name n = 0 → 0 ≤ n ∧ ∀ k wh sm, FilesOk (dnShorten L name n.toNat k wh sm)) ∧
    Rel (shorten D name n).1 (refDo R L (shortenE D name n) 0 (dnShorten L name n.toNat)).1 (refDo R L (shortenE D name n) 0 (dnShorten L name n.toNat)).2.1 ∧ (shorten D name n).2 = (refDo R L (shortenE D name n) 0 (dnShorten L name n.toNat)).2.2 := by
  have hok := h.ok ho ht
  have hsz := file_small ho name
  have hsu := file_sure ho name
  have h3 := ho.small
  have h4 := ho.room
  have h0 : shortenE D name n = 0 → mhas D.files name = true ∧ 0 ≤ n := fun e => by
    unfold shortenE at e
    split at e
    · cases e
    · rename_i hc
      exact ⟨none_has e, Int.not_lt.1 fun hn => hc ⟨e, hn⟩⟩
  have core : shortenE D name n = 0 → ∀ m, mget (putF (name, shortF true n.toNat (fileOf D.files name)) L) m = mget (mput D.files name ⟨(fileOf D.files name).b.take n.toNat, min (fileOf D.files name).sure (min n.toNat (fileOf D.files name).b.length)⟩) m := fun e m => by
    have hF : shortF true n.toNat (fileOf D.files name) = ⟨(fileOf D.files name).b.take n.toNat, min (fileOf D.files name).sure (min n.toNat (fileOf D.files name).b.length)⟩ := by
      unfold shortF
      by_cases hc : n.toNat < (fileOf D.files name).b.length
      · rw [if_pos ⟨rfl, hc⟩]
        congr 1
        split <;> omega
      · rw [if_neg (fun h => hc h.2), List.take_of_length_le (by omega), show min (fileOf D.files name).sure (min n.toNat (fileOf D.files name).b.length) = (fileOf D.files name).sure by omega]
    rw [hF, put_put h]
  refine ⟨?_, ?_, rel_do h ho _ _ _ (shortenP name n.toNat) ?_ ?_ rfl⟩
  · unfold wrongShorten shortenE noneE
    rw [h.has]
    cases mhas D.files name <;> simp
  · intro e
    refine ⟨(h0 e).2, fun k wh sm => ?_⟩
    unfold dnShorten
    rw [h.pickd]
    refine ok_put h.sorted hok _ _ ?_ (.inl (by rw [h.has]; exact (h0 e).1))
    unfold shortF
    split
    · simp only [List.length_take]
      constructor
      · split <;> omega
      · omega
    · exact ⟨hsu, by omega⟩
  · intro e
    unfold dnShorten shortenP
    rw [h.pickd, if_pos (by unfold whole; omega)]
    exact ⟨sorted_put h.sorted _, core e⟩
  · intro e p
    unfold dnShorten shortenP
    rw [h.pickd]
    by_cases hp : 0 < min p (whole - 1)
    · rw [(part_pos p).2 hp, if_pos hp]
      refine ⟨sorted_put h.sorted _, core e, sure_put ho ?_⟩
      simp only [List.length_take]
      omega
    · have hd : decide (0 < p) = false := by
        cases hdd : decide (0 < p) with
        | false => rfl
        | true => exact absurd ((part_pos p).1 hdd) hp
      rw [hd, if_neg hp]
      have hF : shortF false n.toNat (fileOf D.files name) = fileOf D.files name := by unfold shortF; rw [if_neg (by simp)]
      rw [hF]
      exact ⟨sorted_put h.sorted _, put_self h (h0 e).1, sure_old ho⟩
end
end Go.Proofs.YtlabpmmcmejpmaaDoor.Ref
