/- The reference's Do, kind by kind: what comes of it hangs together with what comes of the disk. -/
import Derived.Test.YtlabpmmcmejpmaaDoorPlaysRel
namespace Go.Proofs.YtlabpmmcmejpmaaDoor.Ref
open Go Go.RowKit Go.Lib Go.Proofs.YtlabpmmcmejpmaaDoor.Dsk Go.Proofs.YtlabpmmcmejpmaaDoor.Wal

/-- What a Do of the reference's disk comes to, next to r. -/
def Did (w : World) (G : Nat → Prop) (r : DiskM × Int) (x : Ending) (w' : World) : Prop := ∃ v' R' L', x = .returned (.tuple #[RefD.val R' v', .int .i64 r.2]) ∧ Rel r.1 R' L' ∧ FilesAt w' v' L' (fun i => G i ∨ w.heap.size ≤ i) ∧ Keep (fun _ => False) w w'
theorem none_bytes (w : World) (G : Nat → Prop) : BytesIn w (.slice none ([] : List UInt8).length 0) [] G := ⟨none, 0, rfl, Nat.le_refl _, Nat.zero_le _, fun _ => rfl, fun b hb => by cases hb⟩
section
variable {w : World} {D : DiskM} {R : RefD} {L : Files} {v : Value} {G : Nat → Prop}
theorem did_of {kind : Int} {name to : ByteArray} {b : List UInt8} {bo : Option Addr} {bc : Nat} {n e : Int} {dn : Nat → Bool → Bool → Files} {r : DiskM × Int}
    (h : Calls Tryd.prog 24 #[R.val v, .int .i64 kind, .string name, .string to, .slice bo b.length bc, .int .i64 n] w fun x w' => ∃ v', x = .returned (.tuple #[(refDo R L e b.length dn).1.val v', .int .i64 (refDo R L e b.length dn).2.2]) ∧ FilesAt w' v' (refDo R L e b.length dn).2.1 (fun i => G i ∨ w.heap.size ≤ i) ∧ Keep (fun _ => False) w w')
    (h1 : Rel r.1 (refDo R L e b.length dn).1 (refDo R L e b.length dn).2.1) (h2 : r.2 = (refDo R L e b.length dn).2.2) :
    Calls Tryd.prog 24 #[R.val v, .int .i64 kind, .string name, .string to, .slice bo b.length bc, .int .i64 n] w (Did w G r) :=
  h.mono fun _ _ ⟨v', g1, g2, g3⟩ => ⟨v', _, _, by rw [g1, h2], h1, g2, g3⟩
theorem do_append (hR : Rel D R L) (ho : Ok D) (ht : Tidy D.files) (hF : FilesAt w v L G) (hG : ∀ i, G i → i < w.heap.size) (name to : ByteArray) {b : List UInt8} {bo : Option Addr} {bc : Nat} (hB : BytesIn w (.slice bo b.length bc) b G) (hb : b.length ≤ 1000) (n : Int) :
    Calls Tryd.prog 24 #[R.val v, .int .i64 0, .string name, .string to, .slice bo b.length bc, .int .i64 n] w (Did w G (append D name b)) := by
  obtain ⟨h1, h2, h3, h4⟩ := rel_append hR ho ht name b hb
  have hok := hR.ok ho ht
  have hp := hR.parts
  have hsz := file_small ho name
  have hr := ho.room
  have hs := ho.small
  refine did_of (do_any w R hF hok hp.2.2 hp.1 hp.2.1 hG 0 name to hB n (appendE D name b) (dnAppend L name b) (fun wx hx => ?_) (fun _ wx k wh sm hk hx hbx => ?_) (fun e k wh sm _ => h2 e k wh sm)) h3 h4
  · have h := wrong_append wx R hx hok.1 ⟨by rw [hR.size]; omega, by rw [hR.size]; omega⟩ (by rw [hR.total ho]; omega) name to bo b.length bc n
    rw [h1] at h
    exact h
  · have hlk : (b.take k).length = k := by rw [List.length_take]; omega
    have h := done_append wx hx hok.1 name to (b := b.take k) (bo := bo) (bc := bc) n wh sm (by rw [hlk]; exact hbx) (by rw [hR.pickd]; omega) (by omega)
    rw [hlk] at h
    exact h
theorem do_sync (hR : Rel D R L) (ho : Ok D) (ht : Tidy D.files) (hF : FilesAt w v L G) (hG : ∀ i, G i → i < w.heap.size) (name to : ByteArray) (n : Int) :
    Calls Tryd.prog 24 #[R.val v, .int .i64 1, .string name, .string to, .slice none 0 0, .int .i64 n] w (Did w G (sync D name)) := by
  obtain ⟨h1, h2, h3, h4⟩ := rel_sync hR ho ht name
  have hok := hR.ok ho ht
  have hp := hR.parts
  refine did_of (b := []) (do_any w R hF hok hp.2.2 hp.1 hp.2.1 hG 1 name to (none_bytes w G) n (noneE D name) (dnSync L name) (fun wx hx => ?_) (fun _ wx k wh sm hk hx _ => ?_) (fun e k wh sm _ => h2 e k wh sm)) h3 h4
  · have h := wrong_sync wx R hx hok.1 name to (.slice none 0 0) n
    rw [h1] at h
    exact h
  · obtain rfl : k = 0 := by simpa using hk
    exact done_sync wx hx hok.1 name to (.slice none 0 0) n wh sm
theorem do_rename (hR : Rel D R L) (ho : Ok D) (ht : Tidy D.files) (hF : FilesAt w v L G) (hG : ∀ i, G i → i < w.heap.size) (name to : ByteArray) (n : Int) :
    Calls Tryd.prog 24 #[R.val v, .int .i64 2, .string name, .string to, .slice none 0 0, .int .i64 n] w (Did w G (rename D name to)) := by
  obtain ⟨h1, h2, h3, h4⟩ := rel_rename hR ho ht name to
  have hok := hR.ok ho ht
  have hp := hR.parts
  refine did_of (b := []) (do_any w R hF hok hp.2.2 hp.1 hp.2.1 hG 2 name to (none_bytes w G) n (renameE D name to) (dnRename L name to) (fun wx hx => ?_) (fun _ wx k wh sm hk hx _ => ?_) (fun e k wh sm _ => h2 e k wh sm)) h3 h4
  · have h := wrong_rename wx R hx hok.1 name to (.slice none 0 0) n
    rw [h1] at h
    exact h
  · obtain rfl : k = 0 := by simpa using hk
    exact done_rename wx hx hok.1 name to (.slice none 0 0) n wh sm
theorem do_remove (hR : Rel D R L) (ho : Ok D) (ht : Tidy D.files) (hF : FilesAt w v L G) (hG : ∀ i, G i → i < w.heap.size) (name to : ByteArray) (n : Int) :
    Calls Tryd.prog 24 #[R.val v, .int .i64 3, .string name, .string to, .slice none 0 0, .int .i64 n] w (Did w G (remove D name)) := by
  obtain ⟨h1, h2, h3, h4⟩ := rel_remove hR ho ht name
  have hok := hR.ok ho ht
  have hp := hR.parts
  refine did_of (b := []) (do_any w R hF hok hp.2.2 hp.1 hp.2.1 hG 3 name to (none_bytes w G) n (noneE D name) (dnRemove L name) (fun wx hx => ?_) (fun _ wx k wh sm hk hx _ => ?_) (fun e k wh sm _ => h2 e k wh sm)) h3 h4
  · have h := wrong_remove wx R hx hok.1 name to (.slice none 0 0) n
    rw [h1] at h
    exact h
  · obtain rfl : k = 0 := by simpa using hk
    exact done_remove wx hx hok.1 name to (.slice none 0 0) n wh sm
theorem do_shorten (hR : Rel D R L) (ho : Ok D) (ht : Tidy D.files) (hF : FilesAt w v L G) (hG : ∀ i, G i → i < w.heap.size) (name to : ByteArray) (n : Int) :
    Calls Tryd.prog 24 #[R.val v, .int .i64 4, .string name, .string to, .slice none 0 0, .int .i64 n] w (Did w G (shorten D name n)) := by
  obtain ⟨h1, h2, h3, h4⟩ := rel_shorten hR ho ht name n
  have hok := hR.ok ho ht
  have hp := hR.parts
  refine did_of (b := []) (do_any w R hF hok hp.2.2 hp.1 hp.2.1 hG 4 name to (none_bytes w G) n (shortenE D name n) (dnShorten L name n.toNat) (fun wx hx => ?_) (fun e wx k wh sm hk hx _ => ?_) (fun e k wh sm _ => (h2 e).2 k wh sm)) h3 h4
  · have h := wrong_shorten wx R hx hok.1 name to (.slice none 0 0) n
    rw [h1] at h
    exact h
  · obtain rfl : k = 0 := by simpa using hk
    obtain ⟨j, rfl⟩ := Int.eq_ofNat_of_zero_le (h2 e).1
    exact done_shorten wx hx hok.1 name to (.slice none 0 0) j wh sm
theorem do_cut (hR : Rel D R L) (hF : FilesAt w v L G) (o p k : Int) (ho : o < 9223372036854775808) :
    Calls Tryd.prog 25 #[R.val v, .int .i64 o, .int .i64 p, .int .i64 k] w (Did w G (cutTo D o p k)) := by
  obtain ⟨ao, cap, hv⟩ := hF.slice
  subst hv
  obtain ⟨h1, h2⟩ := rel_cut hR o p k ho
  refine (rcut_any w R ao L.length cap o p k).mono ?_
  rintro e w' ⟨rfl, hK⟩
  exact ⟨_, _, _, by rw [h2], h1, (hF.keep hK (fun _ _ h => h)).mono (fun _ _ h => .inl h), hK⟩
/-- .. and of an On. -/
def DidOn (w : World) (G : Nat → Prop) (D : DiskM) (x : Ending) (w' : World) : Prop := ∃ v' R' L', x = .returned (RefD.val R' v') ∧ Rel (on D) R' L' ∧ FilesAt w' v' L' (fun i => G i ∨ w.heap.size ≤ i) ∧ Keep (fun _ => False) w w'
theorem do_on (hR : Rel D R L) (hF : FilesAt w v L G) : Calls Tryd.prog 26 #[R.val v] w (DidOn w G D) := by
  obtain ⟨ao, cap, hv⟩ := hF.slice
  subst hv
  refine (ron_any w R ao L.length cap).mono ?_
  rintro e w' ⟨rfl, hK⟩
  exact ⟨_, _, _, rfl, rel_on hR, (hF.keep hK (fun _ _ h => h)).mono (fun _ _ h => .inl h), hK⟩
end
end Go.Proofs.YtlabpmmcmejpmaaDoor.Ref
