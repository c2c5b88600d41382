/- osierlaw06.KeysStarts, walked. -/
import Derived.Test.YtbjjohfpdphpfaaDoorKeysDense
namespace Go.Proofs.YtbjjohfpdphpfaaDoor
open Go.RowKit Go.Lib

/-- The two keys behind k rounds. -/
def St (k : Nat) (f l : ByteArray) : Prop :=
  (k = 0 ∧ f = ⟨#[]⟩ ∧ l = ⟨#[]⟩) ∨ (k = 1 ∧ Keys.isKey f.toList = true ∧ f = l) ∨ (2 ≤ k ∧ Keys.isKey f.toList = true ∧ Keys.isKey l.toList = true ∧ Op.bytesLess f.toList l.toList = true)

theorem St.keys {k : Nat} {f l : ByteArray} (h : St k f l) (hk : 1 ≤ k) : Keys.isKey f.toList = true ∧ Keys.isKey l.toList = true := by
  rcases h with ⟨h, -⟩ | ⟨-, h1, rfl⟩ | ⟨-, h1, h2, -⟩
  · omega
  · exact ⟨h1, h1⟩
  · exact ⟨h1, h2⟩
theorem key_ne {l : List UInt8} (h : Keys.isKey l = true) : ¬ l = [] := ((Keys.key_iff l).1 h).1
theorem St.next {k : Nat} {f l x y : ByteArray} (h : St k f l) (hk : 1 ≤ k) (hx : Keys.isKey x.toList = true) (hy : Keys.isKey y.toList = true)
    (h1 : Op.bytesLess x.toList f.toList = true) (h2 : Op.bytesLess l.toList y.toList = true) : St (k + 1) x y := by
  refine .inr (.inr ⟨by omega, hx, hy, ?_⟩)
  rcases h with ⟨h, -⟩ | ⟨-, -, rfl⟩ | ⟨-, -, -, h3⟩
  · omega
  · exact Keys.less_trans h1 h2
  · exact Keys.less_trans (Keys.less_trans h1 h3) h2
theorem not_less_of {a b : List UInt8} (h : Op.bytesLess a b = true) : Op.bytesLess b a = false ∧ (b == a) = false := by
  constructor
  · cases h2 : Op.bytesLess b a with
    | false => rfl
    | true => have := Keys.less_trans h h2; rw [Keys.less_irrefl] at this; cases this
  · rw [beq_eq_false_iff_ne]; intro e; rw [e, Keys.less_irrefl] at h; cases h

theorem room_left (f : ByteArray) (hk : Keys.isKey f.toList = true) (hs : f.size ≤ 151) (h : NoRoom ⟨#[]⟩ f) : False := by
  rcases h with h | h | h
  · rw [right_left ⟨#[]⟩ f (by rw [toList_data]) hk] at h; cases h
  · have : (⟨#[]⟩ : ByteArray).size = 0 := rfl
    omega
  · omega
theorem room_right (f : ByteArray) (hk : Keys.isKey f.toList = true) (hs : f.size ≤ 151) (h : NoRoom f ⟨#[]⟩) : False := by
  rcases h with h | h | h
  · rw [right_right f ⟨#[]⟩ hk (by rw [toList_data])] at h; cases h
  · omega
  · have : (⟨#[]⟩ : ByteArray).size = 0 := rfl
    omega
theorem room_both (f l : ByteArray) (hk : Keys.isKey f.toList = true) (hl : Keys.isKey l.toList = true) (h1 : Op.bytesLess f.toList l.toList = true) (hs : f.size ≤ 151) (hs' : l.size ≤ 151) (h : NoRoom f l) : False := by
  rcases h with h | h | h
  · rw [right_less f l hk hl h1] at h; cases h
  · omega
  · omega

set_option maxRecDepth 100000 in
set_option maxHeartbeats 4000000 in
theorem starts_any (n : Int) (w : World) (_hn : (Lit.int .i64 n).wf = true) : Calls Tryd.prog 5 #[.int .i64 n] w (TrueEnd w) := by
  by_cases h0 : n < 0 ∨ 150 < n
  · rcases h0 with h0 | h0
    all_goals
      go_enter Tryd.func5, Tryd.ntmps5
      go_wp2_with fail
      refine (awake06 _).mono ?_
      rintro e w1 ⟨rfl, hB1⟩
      go_wp2_with fail
      go_ret
      exact .mk rfl hB1
  · have hlo : 0 ≤ n := by omega
    have hhi : n ≤ 150 := by omega
    clear h0
    go_enter Tryd.func5, Tryd.ntmps5
    go_wp2_with fail
    refine (awake06 _).mono ?_
    rintro e w1 ⟨rfl, hB1⟩
    go_wp2_with fail
    go_loopw [4, 5, 6] (fun f l i wr => ∃ (k : Nat) (first last : ByteArray), i = .int .i64 k ∧ f = .string first ∧ l = .string last ∧ Hid (St k first last) ∧ first.size ≤ k ∧ last.size ≤ k ∧ (k : Int) ≤ n + 1 ∧ Below w.heap.size w wr) (fun _ _ i _ => (n + 1 - RowKit.intOf i).toNat)
    case atStart => exact ⟨0, _, _, rfl, rfl, rfl, .inl ⟨rfl, rfl, rfl⟩, Nat.le_refl _, Nat.le_refl _, by omega, hB1⟩
    case round =>
      rename_i wr
      obtain ⟨k, first, last, rfl, rfl, rfl, hst, hsf, hsl, hk, hB2⟩ := hrel
      by_cases hle : (k : Int) ≤ n
      · by_cases hk0 : k = 0
        · subst hk0
          have hz := hst.out
          rcases hz with ⟨-, rfl, rfl⟩ | ⟨h, -⟩ | ⟨h, -⟩
          rotate_left
          · omega
          · omega
          clear hst
          go_wp2_with fail
          refine (between_is ⟨#[]⟩ ⟨#[]⟩ ⟨#[110]⟩ 0 _ (by decide) (by decide) (by simp only [toList_data]; decide +kernel)).mono ?_
          rintro e w2 ⟨rfl, hB⟩
          replace hB2 := bel2 hB2 hB2.size hB
          clear hB
          go_wp2_with fail
          refine (between_is ⟨#[]⟩ ⟨#[]⟩ ⟨#[110]⟩ 0 _ (by decide) (by decide) (by simp only [toList_data]; decide +kernel)).mono ?_
          rintro e w2 ⟨rfl, hB⟩
          replace hB2 := bel2 hB2 hB2.size hB
          clear hB
          go_wp2_with fail
          go_roundw
          case rel => exact ⟨1, _, _, rfl, rfl, rfl, .inr (.inl ⟨rfl, by rw [toList_data]; decide +kernel, rfl⟩), Nat.le_refl _, Nat.le_refl _, by omega, hB2⟩
          case measure => simp [RowKit.intOf]; omega
        · obtain ⟨hkf, hkl⟩ := hst.out.keys (by omega)
          have hfn := key_ne hkf
          have hfne := emp_false hfn
          go_wp2_with fail
          refine (between_lies ⟨#[]⟩ first _ (by decide) (by omega)).mono ?_
          rintro e w2 (⟨x, ⟨x1, x2, x3, x4, x5⟩, rfl, hB⟩ | ⟨hno, rfl, hB⟩)
          rotate_left
          · exact (room_left first hkf (by omega) hno).elim
          replace hB2 := bel2 hB2 hB2.size hB
          clear hB
          replace x3 := x3.resolve_left hfn
          have x5' : x.size ≤ k + 1 := by have : (⟨#[]⟩ : ByteArray).size = 0 := rfl; omega
          clear x2 x4 x5
          go_wp2_with fail
          refine (between_lies last ⟨#[]⟩ _ (by omega) (by decide)).mono ?_
          rintro e w2 (⟨y, ⟨y1, y2, y3, y4, y5⟩, rfl, hB⟩ | ⟨hno, rfl, hB⟩)
          rotate_left
          · exact (room_right last hkl (by omega) hno).elim
          replace hB2 := bel2 hB2 hB2.size hB
          clear hB
          have y5' : y.size ≤ k + 1 := by have : (⟨#[]⟩ : ByteArray).size = 0 := rfl; omega
          clear y3 y4 y5
          obtain ⟨yn1, yn2⟩ := not_less_of y2
          go_wp2_with fail
          go_roundw
          case rel => exact ⟨k + 1, _, _, by go_num, rfl, rfl, hst.out.next (by omega) x1 y1 x3 y2, by omega, by omega, by omega, hB2⟩
          case measure => simp [RowKit.intOf]; omega
      · by_cases hn0 : n = 0
        · have hz := hst.out
          rcases hz with ⟨h, -⟩ | ⟨-, h1, rfl⟩ | ⟨h, -⟩
          · omega
          · have hbn : (n == 0) = true := by rw [beq_iff_eq]; exact hn0
            clear hst hn0
            go_wp2_with fail
            refine (between_lies first first _ (by omega) (by omega)).mono ?_
            rintro e w2 (⟨x, ⟨x1, x2, x3, x4, x5⟩, rfl, hB⟩ | ⟨hno, rfl, hB⟩)
            · have := Keys.less_trans x2 (x3.resolve_left (key_ne h1))
              rw [Keys.less_irrefl] at this
              cases this
            · replace hB2 := bel2 hB2 hB2.size hB
              clear hB hno
              go_wp2_with fail
              go_ret
              exact .mk rfl hB2
          · omega
        · have hz := hst.out
          rcases hz with ⟨h, -⟩ | ⟨h, -⟩ | ⟨-, h1, h2, h3⟩
          · omega
          · omega
          · have hbn : (n == 0) = false := by rw [beq_eq_false_iff_ne]; exact hn0
            clear hst hn0
            go_wp2_with fail
            refine (between_lies first last _ (by omega) (by omega)).mono ?_
            rintro e w2 (⟨x, ⟨x1, x2, x3, x4, x5⟩, rfl, hB⟩ | ⟨hno, rfl, hB⟩)
            · replace hB2 := bel2 hB2 hB2.size hB
              clear hB
              replace x3 := x3.resolve_left (key_ne h2)
              go_wp2_with fail
              go_ret
              exact .mk rfl hB2
            · exact (room_both first last h1 h2 h3 (by omega) (by omega) hno).elim

end Go.Proofs.YtbjjohfpdphpfaaDoor
