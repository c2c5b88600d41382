/- d.operate, walked: an operation in whole, in part, or a cut. -/
import Derived.Test.YtmdibkafjpglkaaGreatDoorDiskAppend
namespace Go.Proofs.YtmdibkafjpglkaaGreatDoor.Dsk
open Go Go.RowKit Go.Lib

/-- What the closure of an operation does, in a world where it may be called. -/
def DoesPart (w0 : World) (db mr : Nat) (gs : ByteArray → Nat) (D : DiskM) (F G : Nat → Prop) (fn : FuncId) (caps : List Value) (doP : Nat → Files → Files) : Prop :=
  ∀ (part : Nat) (w : World) (cv : Value) (D1 : DiskM), part ≤ whole → D1.files = D.files → D1.room = D.room → DiskAt w db mr gs cv D1 F → Keep F w0 w →
    Calls Tryz.prog fn (#[.int .i64 (part : Int)] ++ caps.toArray) w fun e w' => e = .returned (.tuple #[]) ∧
      ∃ gs', DiskAt w' db mr gs' cv { D1 with files := doP part D1.files } (fun i => F i ∨ w.heap.size ≤ i) ∧ Keep (fun i => F i ∨ G i) w w'

/-- What operate leaves. -/
def Operated (w : World) (db : Nat) (F G : Nat → Prop) (r : DiskM × Int) (e : Ending) (w' : World) : Prop :=
  e = .returned (.int .i64 r.2) ∧ IsDisk w' db r.1 (fun i => F i ∨ w.heap.size ≤ i) ∧ Keep (fun i => F i ∨ G i) w w'

theorem calls_list {P : Program} {f : FuncId} {args args' : Array Value} {w : World} {R : Ending → World → Prop} (h : Calls P f args w R) (e : args = args') : Calls P f args' w R := e ▸ h

set_option maxRecDepth 100000 in
set_option maxHeartbeats 4000000 in
/-- No cut is set. -/
theorem operate_none (w : World) {db mr : Nat} {gs : ByteArray → Nat} {cv : Value} {D : DiskM} {F G : Nat → Prop} (h : DiskAt w db mr gs cv D F) (e : Int) (fn : FuncId) (caps : List Value) (doP : Nat → Files → Files)
    (hen : ∀ (args : Array Value) (w : World), (callFunc fn args).run Tryz.prog w = .ok (.enter fn args) w) (hdo : e = 0 → DoesPart w db mr gs D F G fn caps doP) (hc : D.cut = none) :
    Calls Tryz.prog 29 #[ptr db, .int .i64 e, .func (.func fn) #[] caps.toArray] w (Operated w db F G (operate D e doP)) := by
  have hcv : cv = .pointer none := by have := h.cut; rw [hc] at this; exact this
  have h3 := h.c3
  rw [hcv] at h3
  have hop : operate D e doP = (if e = 0 then { D with files := doP whole D.files } else D, e) := by unfold operate; rw [hc]
  rw [hop]
  unfold ptr
  by_cases he : e = 0
  · subst he
    have hd := hdo rfl whole w cv D (Nat.le_refl _) rfl rfl h (Keep.refl _ _)
    have hd' := calls_list hd (args' := (.int .i64 4611686018427387904 :: caps).toArray) (by simp [whole])
    have HD := hid hd'
    clear hd hd' hdo
    simp only [if_true]
    go_enter Tryz.func29, Tryz.ntmps29
    go_wp2_with fail
    refine HD.out.mono ?_
    rintro e' w1 ⟨rfl, gs', hD', hK'⟩
    have HD' := hid hD'
    clear hD' HD
    go_wp2_with fail
    go_ret
    exact ⟨rfl, ⟨_, _, _, HD'.out⟩, hK'⟩
  · rw [if_neg he]
    go_enter Tryz.func29, Tryz.ntmps29
    go_wp2_with fail
    go_ret
    exact ⟨rfl, ⟨_, _, _, h.mono fun i hi => .inl hi⟩, Keep.refl _ _⟩

set_option maxRecDepth 100000 in
set_option maxHeartbeats 4000000 in
/-- A cut is set, but not for this operation. -/
theorem operate_later (w : World) {db mr : Nat} {gs : ByteArray → Nat} {cv : Value} {D : DiskM} {F G : Nat → Prop} (h : DiskAt w db mr gs cv D F) (e : Int) (fn : FuncId) (caps : List Value) (doP : Nat → Files → Files)
    (hen : ∀ (args : Array Value) (w : World), (callFunc fn args).run Tryz.prog w = .ok (.enter fn args) w) (hdo : e = 0 → DoesPart w db mr gs D F G fn caps doP) {o p k : Nat} (hc : D.cut = some (o + 1, p, k)) :
    Calls Tryz.prog 29 #[ptr db, .int .i64 e, .func (.func fn) #[] caps.toArray] w (Operated w db F G (operate D e doP)) := by
  have hcut := h.cut
  rw [hc] at hcut
  obtain ⟨g, hg, hblk, hF, hl, -⟩ := hcut
  have h3 := h.c3
  rw [hg] at h3
  have hT := h.tick hc hg
  have g0 : w.cell? ⟨g, 0, none⟩ = some (.int .i64 ((o + 1 : Nat) : Int)) := by rw [cell_at hblk]; rfl
  have gf : w.frozen? ⟨g, 0, none⟩ = false := frozen_at hblk 0
  have hK : Keep F w (w.setCell ⟨g, 0, none⟩ (.int .i64 (o : Int))) := (keep_setCell w g 0 _).mono fun i _ hi => hi ▸ hF
  have hsz : (w.setCell ⟨g, 0, none⟩ (.int .i64 (o : Int))).heap.size = w.heap.size := by simp [World.setCell]
  have hop : operate D e doP = (if e = 0 then { D with cut := some (o, p, k), files := doP whole D.files } else { D with cut := some (o, p, k) }, e) := by unfold operate; rw [hc]
  rw [hop]
  have hw1 : ((o + 1 : Nat) : Int) - 1 = (o : Int) := by omega
  have hgt : 0 < ((o + 1 : Nat) : Int) := by omega
  generalize hox : ((o + 1 : Nat) : Int) = ox at *
  have hox2 : ox < 9223372036854775808 := by omega
  unfold ptr at *
  by_cases he : e = 0
  · subst he
    have hd := hdo rfl whole _ cv { D with cut := some (o, p, k) } (Nat.le_refl _) rfl rfl hT hK
    have hd' := calls_list hd (args' := (.int .i64 4611686018427387904 :: caps).toArray) (by simp [whole])
    rw [hsz] at hd'
    have HD := hid hd'
    have HK := hid hK
    clear hd hd' hdo hT hK
    simp only [if_true]
    go_enter Tryz.func29, Tryz.ntmps29
    go_wp2_with fail
    refine HD.out.mono ?_
    rintro e' w1 ⟨rfl, gs', hD', hK'⟩
    have HD' := hid hD'
    have HK' := hid hK'
    clear hD' HD hK'
    go_wp2_with fail
    go_ret
    exact ⟨rfl, ⟨_, _, _, HD'.out⟩, (HK.out.mono (fun i _ hi => .inl hi)).trans HK'.out (fun i _ hi => hi)⟩
  · rw [if_neg he]
    have HT := hid hT
    have HK := hid hK
    clear hT hK
    go_enter Tryz.func29, Tryz.ntmps29
    go_wp2_with fail
    go_ret
    exact ⟨rfl, ⟨_, _, _, HT.out.mono fun i hi => .inl hi⟩, HK.out.mono fun i _ hi => .inl hi⟩

end Go.Proofs.YtmdibkafjpglkaaGreatDoor.Dsk
