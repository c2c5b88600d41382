/- A log's disk as long as the power stays on: its file is the frames of all records. No program in sight. And what a row's opening tells of a script of numbers and bytes. -/
import Derived.Test.YtbjjohfpdphpfaaDoorWalPure
import Derived.Test.YtbjjohfpdphpfaaDoorRefSame
import Derived.Test.YtbjjohfpdphpfaaDoorOpenArgs2
import Derived.Deep.SlicePairs
import Derived.ArgAppend
namespace Go.Proofs.YtbjjohfpdphpfaaDoor.Wal
open Go Go.RowKit Go.Lib Go.Proofs.YtbjjohfpdphpfaaDoor.Dsk Go.Proofs.YtbjjohfpdphpfaaDoor.Frm

def frames (ls : List (List UInt8)) : List UInt8 := (ls.map frame).flatten
theorem frames_snoc (ls : List (List UInt8)) (l : List UInt8) : frames (ls ++ [l]) = frames ls ++ frame l := by simp [frames]
theorem frames_split (ls : List (List UInt8)) (h : ∀ l ∈ ls, l.length ≤ maxBody) : Frm.split (frames ls) = (ls, (frames ls).length) := by
  induction ls with
  | nil => exact split_empty
  | cons l ls ih =>
    have e : frames (l :: ls) = frame l ++ frames ls := by simp [frames]
    rw [e, split_frame l _ (h l (by simp)), ih (fun x hx => h x (by simp [hx])), List.length_append, frame_length]

/-- The disk of a log whose records are ls. -/
def logD (R : Nat) (ls : List (List UInt8)) (s : Nat) : DiskM := if ls = [] then new (R : Int) else oneF R nmLog (frames ls) s
section
variable {R s u : Nat} {ls : List (List UInt8)} {x : List UInt8}
theorem logD_room : ((logD R ls s).room : Int) - (total (logD R ls s).files : Int) = (R : Int) - ((frames ls).length : Int) := by
  unfold logD
  by_cases h : ls = []
  · subst h
    simp [new, total, frames]
  · rw [if_neg h]
    simp [oneF, total]
theorem logD_open (h : ∀ l ∈ ls, l.length ≤ maxBody) : ∃ s', walOpen (logD R ls s) nmLog = ⟨logD R ls s', some ⟨0, nmLog, ls.length, 0⟩, ls, 0⟩ := by
  unfold logD
  by_cases e : ls = []
  · subst e
    exact ⟨0, by simp only [if_true]; rw [new_open nmLog_name]; rfl⟩
  · simp only [if_neg e]
    obtain ⟨s', hs⟩ := oneF_open (R := R) (N := nmLog) (b := frames ls) (s := s) nmLog_name
    rw [frames_split ls h] at hs
    exact ⟨s', by rw [hs]; simp⟩
theorem logD_append (hx : x.length ≤ maxBody) (h : (frames ls).length + (x.length + 8) ≤ R) : ∃ s', walAppend (logD R ls s) ⟨0, nmLog, ls.length, u⟩ x = (logD R (ls ++ [x]) s', ⟨0, nmLog, ls.length + 1, u⟩, 0) := by
  unfold logD
  simp only [if_neg (show ¬ ls ++ [x] = [] by simp)]
  by_cases e : ls = []
  · subst e
    refine ⟨0, ?_⟩
    simp only [if_true]
    rw [new_walAppend nmLog_name hx (by simpa [frames] using h)]
    simp [frames]
  · refine ⟨s, ?_⟩
    rw [if_neg e, oneF_walAppend nmLog_name hx h, frames_snoc]
theorem logD_full (hx : x.length ≤ maxBody) (h : R < (frames ls).length + (x.length + 8)) : walAppend (logD R ls s) ⟨0, nmLog, ls.length, u⟩ x = (logD R ls s, ⟨0, nmLog, ls.length, u⟩, 72) := by
  have ha : append (logD R ls s) nmLog (frame x) = (logD R ls s, 72) := by
    unfold logD
    by_cases e : ls = []
    · subst e
      simp only [if_true]
      have hE : appendE (new (R : Int)) nmLog (frame x) = 72 := by
        unfold appendE
        rw [nmLog_name, if_pos rfl, if_pos]
        left
        simp [frames] at h
        simp [new, total, frame_length]
        omega
      unfold append
      rw [hE]
      simp [new, operate]
    · rw [if_neg e]
      have hE : appendE (oneF R nmLog (frames ls) s) nmLog (frame x) = 72 := by
        unfold appendE
        rw [nmLog_name, if_pos rfl, if_pos]
        left
        simp [oneF, total, frame_length]
        omega
      unfold append
      rw [hE]
      simp [oneF, operate]
  unfold walAppend
  rw [if_pos rfl, if_neg (by omega), ha]
  simp [keepE]
theorem logD_sync (hu : u ≤ ls.length) : ∃ s', walSync (logD R ls s) ⟨0, nmLog, ls.length, u⟩ = (logD R ls s', ⟨0, nmLog, ls.length, ls.length⟩, 0) := by
  unfold logD walSync
  rw [if_pos rfl]
  by_cases e : ls = []
  · subst e
    obtain rfl : u = 0 := by simpa using hu
    exact ⟨0, by simp⟩
  · have hn : ¬ ls.length = 0 := by simpa using e
    simp only [if_neg e]
    refine ⟨(frames ls).length, ?_⟩
    have hs : sync (oneF R nmLog (frames ls) s) nmLog = (oneF R nmLog (frames ls) (frames ls).length, 0) := by
      unfold sync oneF noneE
      simp [operate, mhas, mget_cons, syncP, mput, fileOf]
    rw [hs]
    simp [hn]
end

theorem owns_mono {w : World} {base base' n size : Nat} {e : TypeId} {v : Value} {xs : List Value} (h : w.ownsRow base e size v n xs) (hb : base' ≤ base) : w.ownsRow base' e size v n xs := by
  refine ⟨h.1, h.2.imp id ?_⟩
  rintro ⟨g, cap, cur, h1, h2, h3⟩
  exact ⟨g, cap, cur, h1, by omega, h3⟩
/-! append onto a row of one's own: it lies where it lay, or in a new block. Over any program. -/
section
variable {P : Program} {w : World}
theorem run_append_mine (base : Nat) (t ty e : TypeId) (i : TypeInfo) (z : Value) (size bytes : Nat) (ht : P.underlying t = some (.slice e)) (hi : P.info? e = some i) (hz : i.zero = some z)
    (hsize : i.size = size) (hby : i.bytes = bytes) (hzs : z.cells.size = size) (hsz : 0 < size)
    (v : Value) (n : Nat) (xs : List Value) (hown : w.ownsRow base e size v n xs)
    (a : Addr) (m c : Nat) (news : List Value) (hl : news.length = m * size) (hnews : ∀ j u, news[j]? = some u → w.cell? (a.add j) = some u) (h1 : ∀ u ∈ news, u.oneCell' = true)
    (h63 : n + m ≤ maxLen) (hbytes : (n + m) * bytes ≤ 140737488355328) (hbase : base ≤ w.heap.size) :
    ∃ v' w', (Builtin.append_ #[t, t] ty #[v, .slice (some a) m c]).run P w = .ok v' w' ∧ w'.ownsRow base e size v' (n + m) (xs ++ news) ∧ w.grownBy w' v.ownBlock ∧ ∀ g, v'.ownBlock = some g → v.ownBlock = some g ∨ w.heap.size ≤ g := by
  have up : ∀ {v' : Value} {w' : World}, w'.ownsRow w.heap.size e size v' (n + m) (xs ++ news) → w.grownBy w' none → w'.ownsRow base e size v' (n + m) (xs ++ news) ∧ w.grownBy w' v.ownBlock ∧ ∀ g, v'.ownBlock = some g → v.ownBlock = some g ∨ w.heap.size ≤ g := by
    intro v' w' ho hg
    refine ⟨owns_mono ho hbase, ⟨hg.os, hg.tape, hg.output, hg.size, fun k hk _ => hg.block k hk (by simp)⟩, fun g h => .inr (ho.lt g h).1⟩
  rcases hown.2 with ⟨rfl, rfl⟩ | ⟨g, cap, cur, rfl, hbg, hg, hnc, hcm, hcs, htake⟩
  · have hx : xs = [] := List.eq_nil_of_length_eq_zero (by simpa using hown.1)
    subst hx
    obtain ⟨v', w', hr, ho, hg, -⟩ := run_append_own (P := P) w w.heap.size t ty e i z size bytes ht hi hz hsize hby hzs hsz (.slice none 0 0) 0 [] (World.ownsRow_nil w _ _ _) a m c news hl hnews h1 h63 hbytes (Nat.le_refl _)
    exact ⟨v', w', hr, up ho hg⟩
  · by_cases hroom : n + m ≤ cap
    · subst hsize
      have hfit : n * i.size + news.length ≤ cur.size := by rw [hl, hcs, ← Nat.add_mul]; exact Nat.mul_le_mul_right _ hroom
      have hr := run_append_room (P := P) w t ty e i ht hi g n cap cur hg a m c news hl hnews h1 hroom hfit
      obtain ⟨v', w', hr2, ho, hg2, -⟩ := run_append_own (P := P) w base t ty e i z i.size bytes ht hi hz rfl hby hzs hsz _ n xs hown a m c news hl hnews h1 h63 hbytes hbase
      refine ⟨v', w', hr2, ho, hg2, fun g' h => .inl ?_⟩
      rw [hr] at hr2
      injection hr2 with hv hw
      subst hv
      exact h
    · obtain ⟨v', w', hr, ho, hg'⟩ := run_append_arg_grows (P := P) w t ty e i z size bytes ht hi hz hsize hby hzs hsz ⟨g, 0, none⟩ n cap xs hown.1 (hown.cells (g := g) rfl) a m c news hl hnews (by omega) h63 hbytes
      exact ⟨v', w', hr, up ho hg'⟩

theorem wpList_append_mine {ops : Array Oper} {rest : List Oper} {o : Oper} {a : Act} {Q : Exit → Act → World → Prop} (hgd : o.guard = none) (s x : Operand) (t e : TypeId)
    (ho : o.op = .call { callee := .builtin .append, args := #[s, x], argTypes := #[t, t] })
    (z : Value) (size bytes : Nat) (ht : P.underlying t = some (.slice e)) (hinfo : (P.info? e).map (fun i => (i.zero, i.size, i.bytes)) = some (some z, size, bytes))
    (hzs : z.cells.size = size) (hsz : 0 < size) {base n : Nat} {v : Value} {xs : List Value} {cs : Array Value} (hs : a.eval s = v) (hown : w.ownsRow base e size v n xs)
    (hx : a.eval x = .slice (some ⟨w.heap.size, 0, none⟩) 1 1) (hcs : cs.size = size) (h1 : ∀ u ∈ cs.toList, u.oneCell' = true)
    (h63 : n + 1 ≤ maxLen) (hbytes : (n + 1) * bytes ≤ 140737488355328) (hbase : base ≤ w.heap.size)
    (h : ∀ v' w', w'.ownsRow base e size v' (n + 1) (xs ++ cs.toList) → (w.alloc (.cells cs e)).grownBy w' v.ownBlock → (∀ g, v'.ownBlock = some g → v.ownBlock = some g ∨ w.heap.size < g) → wpList P ops Q rest (a.put o.dst v') w') :
    wpList P ops Q (o :: rest) a (w.alloc (.cells cs e)) := by
  obtain ⟨i, hi, hz, hsz', hby⟩ := info_parts hinfo
  obtain ⟨v', w', hr, h2, h3, h4⟩ := run_append_mine (P := P) (w := w.alloc (.cells cs e)) base t o.type e i z size bytes ht hi hz hsz' hby hzs hsz v n xs (hown.alloc _) ⟨w.heap.size, 0, none⟩ 1 1 cs.toList (by simpa using hcs) (by
    intro j u hu
    rw [addr_add0, cell_of_row _ _ _ _ _ _ (heap_alloc_new _ _)]
    simpa using hu) h1 h63 hbytes (by simp; omega)
  refine wpList_plain hgd fun _ hk => ?_
  unfold Oper.wp execOp
  simp only [ho, resolve, invoke, builtin, Sem.run_bind, Sem.run_pure, Result.andThen_ok, List.map_toArray, List.map_cons, List.map_nil, hs, hx, hr, Oper.upon_value]
  exact hk _ _ (h v' w' h2 h3 (fun g hg => (h4 g hg).imp id (fun h => by simp at h; omega)))
end

/-- A script: numbers and bytes. -/
structure ActsIn (W : World) (v : Value) (acts : List (Int × List UInt8)) : Prop where
  rows : ∃ ao cap, v = .slice ao acts.length cap ∧ (ao = none → acts = []) ∧ ∀ a, ao = some a → ∀ (r : Nat) (k : Int) (l : List UInt8), acts[r]? = some (k, l) →
    W.cell? (a.add (r * 2)) = some (.int .i64 k) ∧ (Lit.int .i64 k).wf = true ∧ ∃ A C, W.cell? (a.add (r * 2 + 1)) = some (.slice A l.length C) ∧ BytesIn W (.slice A l.length C) l (fun i => i < W.heap.size)
end Go.Proofs.YtbjjohfpdphpfaaDoor.Wal
namespace Go.Proofs.YtbjjohfpdphpfaaDoor.Dsk
open Go Go.RowKit Go.Lib Go.ChangeShapes Go.WideShapes Go.ChangeAt

theorem cells_act : Tryd.prog.cellsOf 55 = 2 := by kernel_rfl

set_option maxRecDepth 100000 in
theorem open_bytes_cell {H : Type} {enc : TypeId × Value → H} {W : World} {v : Value} {fuel : Nat} {x : DataW H × List MemPlace} (hf : DataW.trod enc Tryd.prog W 0 (fun _ => true) true fuel 33 [v] = some x) :
    ∃ A C l, v = .slice A (l : List UInt8).length C ∧ BytesIn W (.slice A l.length C) l (fun i => i < W.heap.size) := by
  rcases open_ints Tryd.underlying33 Tryd.underlying5 cells_bytes hf with ⟨hc, -⟩ | ⟨a, len, cap, zs, hc, -, hl, hm, hz, -, hcell, hwf⟩
  · obtain rfl : v = .slice none 0 0 := by simpa using hc
    exact ⟨none, 0, [], rfl, ⟨none, 0, rfl, Nat.le_refl _, Nat.zero_le _, fun _ => rfl, fun b hb => by cases hb⟩⟩
  · obtain rfl : v = .slice (some a) len cap := by simpa using hc
    simp only [if_true] at hz
    have hlen : (toBytes (zs.take len)).length = len := by unfold toBytes; simp; omega
    refine ⟨some a, cap, toBytes (zs.take len), by rw [hlen], ?_⟩
    rw [hlen]
    refine bytesIn_arg hl hm hz hwf (fun e => by cases e) (fun b hb c hcl => ?_)
    obtain rfl := Option.some.inj hb
    exact hcell c (by omega)

set_option maxRecDepth 100000 in
theorem open_acts {H : Type} {enc : TypeId × Value → H} {W : World} {base : Nat} {v : Value} {d : DataW H} {ps : List MemPlace} (hv : Value.okWide Tryd.prog W .any base 53 v) (h : DataW.Trod enc Tryd.prog W 0 (fun _ => true) true 53 v d ps) :
    ∃ acts, Wal.ActsIn W v acts := by
  obtain ⟨a0, len0, cap0, rfl⟩ := okWide_slice Tryd.underlying53 hv
  obtain ⟨fuel, hf⟩ := h
  rcases Go.Deep.open_slice_pairs Tryd.underlying53 Tryd.underlying55 cells_act rfl rfl (by kernel_rfl) (by kernel_rfl) hf with ⟨hc, -⟩ | ⟨a, len, cap, m, n, V0, V1, D0, D1, P0, P1, hc, -, hl, hm, hmm, -, hrow⟩
  · have hc' : Value.slice a0 len0 cap0 = .slice none 0 0 := by simpa [Value.cells] using hc
    rw [hc']
    exact ⟨[], ⟨none, 0, rfl, fun _ => rfl, fun b hb => by cases hb⟩⟩
  · have hc' : Value.slice a0 len0 cap0 = .slice (some a) len cap := by simpa [Value.cells] using hc
    rw [hc']
    simp only [if_true] at hmm
    have each : ∀ r, r < len → ∃ q : Int × List UInt8, W.cell? (a.add (r * 2)) = some (.int .i64 q.1) ∧ (Lit.int .i64 q.1).wf = true ∧ ∃ A C, W.cell? (a.add (r * 2 + 1)) = some (.slice A q.2.length C) ∧ BytesIn W (.slice A q.2.length C) q.2 (fun i => i < W.heap.size) := by
      intro r hr
      obtain ⟨h1, h2, h3, h4⟩ := hrow r (by omega)
      obtain ⟨k, e1, -, hwf⟩ := DataW.trod_int Tryd.underlying3 h3
      obtain ⟨A, C, l, e2, hB⟩ := open_bytes_cell h4
      obtain e1 : V0 r = .int .i64 k := by simpa using e1
      exact ⟨(k, l), by rw [h1, e1], hwf, A, C, by rw [h2, e2], hB⟩
    obtain ⟨q, hq⟩ := Go.Deep.choose_lt each
    refine ⟨(List.range len).map q, ⟨some a, cap, by simp, (fun e => by cases e), fun b hb r k l hr => ?_⟩⟩
    obtain rfl := Option.some.inj hb
    have hrl : r < len := by
      have := (List.getElem?_eq_some_iff.1 hr).1
      simpa using this
    have hqr : q r = (k, l) := by
      rw [List.getElem?_map, List.getElem?_range hrl] at hr
      exact Option.some.inj hr
    have := hq r hrl
    rw [hqr] at this
    exact this

end Go.Proofs.YtbjjohfpdphpfaaDoor.Dsk
