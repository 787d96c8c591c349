/-
  The walk of a form's bare; conditions: the fields are letters.
-/
import Derived.Test.YtpnklpjjbpheeaaGreatDoorZa
import Derived.Test.YtpnklpjjbpheeaaGreatDoorY2
import Derived.Lib.ConvBytes
import Derived.Laws.BytesArg
import Derived.Laws.Rows
import Derived.Lib.OthersKept
namespace Go.Proofs.YtpnklpjjbpheeaaGreatDoor
open Go.RowKit Go.Proofs.YtpnklpjjbpheeaaGreatDoorW.PrintWords
open Go.Proofs.Fl Go.Proofs.YtpnklpjjbpheeaaGreatDoor.Flt

/-- a step and its row of slots -/
structure Sx where
  x : St
  A : Option Addr
  n : Nat
  c : Nat
def Sx.cells (y : Sx) : Array Value := stCells y.x y.A y.n y.c
/-- a field's letter makes it nought -/
def zero (y : Sx) (c : UInt8) : Sx :=
  if c.toNat = 103 then { y with x := { y.x with g := 0 } }
  else if c.toNat = 102 then { y with x := { y.x with f := 0 } }
  else if c.toNat = 100 then { y with x := { y.x with d := 0, s := 0 } }
  else if c.toNat = 118 ∨ c.toNat = 98 then { y with x := { y.x with v0 := 0, v1 := 0, v2 := 0, v3 := 0 } }
  else if c.toNat = 111 then { y with x := { y.x with o := 0 } }
  else if c.toNat = 115 then { x := { y.x with d := 0 }, A := none, n := 0, c := 0 }
  else y
def bareOf (F : ByteArray) (y : Sx) : Sx := F.data.toList.foldl zero { y with x := { y.x with k := 0, p := 0 } }
def bareTo (F : ByteArray) (y : Sx) (i : Nat) : Sx := (F.data.toList.take i).foldl zero { y with x := { y.x with k := 0, p := 0 } }
theorem bareTo_next (F : ByteArray) (y : Sx) (i : Nat) (h : i < F.size) : bareTo F y (i + 1) = zero (bareTo F y i) (F[i]'h) := by
  unfold bareTo
  rw [List.take_add_one, List.getElem?_eq_getElem (by simpa using h), List.foldl_append, By.get_eq F i h]
  rfl
theorem bareTo_end (F : ByteArray) (y : Sx) : bareTo F y F.size = bareOf F y := by
  unfold bareTo bareOf
  rw [List.take_of_length_le (by simp)]
def BoxS (W : World) (b : Nat) (y : Sx) : Prop := W.heap[b]? = some (.cells y.cells 49 (0, 0))
theorem iter_far (w : World) (k : Nat) (s : ByteArray) (p b : Nat) (h : b ≠ k) : (w.iterAt k s p).heap[b]? = w.heap[b]? := by
  unfold World.iterAt
  simp [Array.getElem?_setIfInBounds, Ne.symm h]
theorem iter_below {w0 w : World} (k : Nat) (s : ByteArray) (p : Nat) (h : Below w0.heap.size w0 w) (hk : w0.heap.size ≤ k) : Below w0.heap.size w0 (w.iterAt k s p) :=
  ⟨h.os, h.tape, h.output, by show _ ≤ (w.heap.setIfInBounds k _).size; rw [Array.size_setIfInBounds]; exact h.size, fun b hb => (iter_far w k s p b (by omega)).trans (h.block b hb)⟩
/-- a step's cells in its box -/
theorem box_cells {W : World} {b : Nat} {y : Sx} (h : BoxS W b y) : (W.cell? ⟨b, 0, none⟩ = some (.int .u8 y.x.k) ∧ W.cell? ⟨b, 1, none⟩ = some (.int .i64 y.x.p) ∧ W.cell? ⟨b, 2, none⟩ = some (.int .i64 y.x.g) ∧ W.cell? ⟨b, 3, none⟩ = some (.int .i64 y.x.f) ∧ W.cell? ⟨b, 4, none⟩ = some (.int .i64 y.x.d) ∧ W.cell? ⟨b, 5, none⟩ = some (.int .i64 y.x.s)) ∧
    (W.cell? ⟨b, 6, none⟩ = some (.int .u8 y.x.v0) ∧ W.cell? ⟨b, 7, none⟩ = some (.int .u64 y.x.v1) ∧ W.cell? ⟨b, 8, none⟩ = some (.int .i64 y.x.v2) ∧ W.cell? ⟨b, 9, none⟩ = some (.int .i64 y.x.v3) ∧ W.cell? ⟨b, 10, none⟩ = some (.int .u8 y.x.o) ∧ W.cell? ⟨b, 11, none⟩ = some (.slice y.A y.n y.c)) :=
  ⟨⟨(blk_cell h 0).trans rfl, (blk_cell h 1).trans rfl, (blk_cell h 2).trans rfl, (blk_cell h 3).trans rfl, (blk_cell h 4).trans rfl, (blk_cell h 5).trans rfl⟩, ⟨(blk_cell h 6).trans rfl, (blk_cell h 7).trans rfl, (blk_cell h 8).trans rfl, (blk_cell h 9).trans rfl, (blk_cell h 10).trans rfl, (blk_cell h 11).trans rfl⟩⟩
theorem box_free {W : World} {b : Nat} {y : Sx} (h : BoxS W b y) (j : Nat) : W.frozen? ⟨b, j, none⟩ = false := blk_frozen h j
theorem start_it (w : World) (F : ByteArray) : (w.iter F 0).heap[w.heap.size]? = some (.stringIter F 0) := by
  show (w.heap.push _)[w.heap.size]? = _
  simp
theorem start_at (w : World) (F : ByteArray) (b : Nat) (h : b < w.heap.size) : (w.iter F 0).heap[b]? = w.heap[b]? := by
  show (w.heap.push _)[b]? = _
  rw [Array.getElem?_push, if_neg (Nat.ne_of_lt h)]
theorem start_below {w0 w : World} (F : ByteArray) (h : Below w0.heap.size w0 w) : Below w0.heap.size w0 (w.iter F 0) :=
  ⟨h.os, h.tape, h.output, by show _ ≤ (w.heap.push _).size; rw [Array.size_push]; have := h.size; omega, fun b hb => (start_at w F b (Nat.lt_of_lt_of_le hb h.size)).trans (h.block b hb)⟩
/-- likewise, by the letter's number -/
def zeroN (y : Sx) (k : Nat) : Sx :=
  if k = 103 then { y with x := { y.x with g := 0 } }
  else if k = 102 then { y with x := { y.x with f := 0 } }
  else if k = 100 then { y with x := { y.x with d := 0, s := 0 } }
  else if k = 118 ∨ k = 98 then { y with x := { y.x with v0 := 0, v1 := 0, v2 := 0, v3 := 0 } }
  else if k = 111 then { y with x := { y.x with o := 0 } }
  else if k = 115 then { x := { y.x with d := 0 }, A := none, n := 0, c := 0 }
  else y
theorem zero_N (y : Sx) (c : UInt8) : zero y c = zeroN y c.toNat := rfl
set_option maxRecDepth 100000 in
set_option maxHeartbeats 8000000 in
theorem bare_any (y : Sx) (w : World) (U F : ByteArray) (hF : ∀ i (h : i < F.size), (F[i]'h).toNat < 128) :
    Calls Tryz.prog 34 #[.agg #[.string U, .string F], .agg y.cells] w fun e w' => e = .returned (.agg (bareOf F y).cells) ∧ Below w.heap.size w w' := by
  obtain ⟨⟨k0, p, g, f, d, s, v0, v1, v2, v3, o⟩, A, n, c⟩ := y
  have HE := Lk.mk (bareTo_end F ⟨⟨k0, p, g, f, d, s, v0, v1, v2, v3, o⟩, A, n, c⟩)
  have HNX0 := Lk.mk (fun i h => bareTo_next F ⟨⟨k0, p, g, f, d, s, v0, v1, v2, v3, o⟩, A, n, c⟩ i h)
  have HFF := Lk.mk hF
  have H00 := Lk.mk (show bareTo F ⟨⟨k0, p, g, f, d, s, v0, v1, v2, v3, o⟩, A, n, c⟩ 0 = ⟨⟨0, 0, g, f, d, s, v0, v1, v2, v3, o⟩, A, n, c⟩ from rfl)
  unfold Sx.cells stCells
  dsimp only
  generalize bareTo F ⟨⟨k0, p, g, f, d, s, v0, v1, v2, v3, o⟩, A, n, c⟩ = T at *
  obtain ⟨R, hR⟩ : ∃ R, R = bareOf F ⟨⟨k0, p, g, f, d, s, v0, v1, v2, v3, o⟩, A, n, c⟩ := ⟨_, rfl⟩
  rw [← hR] at HE ⊢
  clear hR hF
  have hb0 := below_alloc (below_alloc (below_alloc (Below.refl w.heap.size w) (.cells #[.string U, .string F] 73)) (.cells #[.int .u8 k0, .int .i64 p, .int .i64 g, .int .i64 f, .int .i64 d, .int .i64 s, .int .u8 v0, .int .u64 v1, .int .i64 v2, .int .i64 v3, .int .u8 o, .slice A n c] 49)) (.cells #[.int .u8 0, .int .i64 0, .int .i64 0, .int .i64 0, .int .i64 0, .int .i64 0, .int .u8 0, .int .u64 0, .int .i64 0, .int .i64 0, .int .u8 0, .slice none 0 0] 49)
  go_enter Tryz.func34, Tryz.ntmps34
  go_wp2
  have ST2 := Lk.mk (show ((((w.alloc (.cells #[.string U, .string F] 73)).alloc (.cells #[.int .u8 0, .int .i64 0, .int .i64 g, .int .i64 f, .int .i64 d, .int .i64 s, .int .u8 v0, .int .u64 v1, .int .i64 v2, .int .i64 v3, .int .u8 o, .slice A n c] 49)).alloc (.cells #[.int .u8 0, .int .i64 0, .int .i64 0, .int .i64 0, .int .i64 0, .int .i64 0, .int .u8 0, .int .u64 0, .int .i64 0, .int .i64 0, .int .u8 0, .slice none 0 0] 49)).iter F 0).heap[w.heap.size + 1 + 1 + 1]? = some (.stringIter F 0) by
    have h := start_it (((w.alloc (.cells #[.string U, .string F] 73)).alloc (.cells #[.int .u8 0, .int .i64 0, .int .i64 g, .int .i64 f, .int .i64 d, .int .i64 s, .int .u8 v0, .int .u64 v1, .int .i64 v2, .int .i64 v3, .int .u8 o, .slice A n c] 49)).alloc (.cells #[.int .u8 0, .int .i64 0, .int .i64 0, .int .i64 0, .int .i64 0, .int .i64 0, .int .u8 0, .int .u64 0, .int .i64 0, .int .i64 0, .int .u8 0, .slice none 0 0] 49)) F
    rw [show (((w.alloc (.cells #[.string U, .string F] 73)).alloc (.cells #[.int .u8 0, .int .i64 0, .int .i64 g, .int .i64 f, .int .i64 d, .int .i64 s, .int .u8 v0, .int .u64 v1, .int .i64 v2, .int .i64 v3, .int .u8 o, .slice A n c] 49)).alloc (.cells #[.int .u8 0, .int .i64 0, .int .i64 0, .int .i64 0, .int .i64 0, .int .i64 0, .int .u8 0, .int .u64 0, .int .i64 0, .int .i64 0, .int .u8 0, .slice none 0 0] 49)).heap.size = w.heap.size + 1 + 1 + 1 from by simp] at h
    exact h)
  have ST3 := Lk.mk (show ((((w.alloc (.cells #[.string U, .string F] 73)).alloc (.cells #[.int .u8 0, .int .i64 0, .int .i64 g, .int .i64 f, .int .i64 d, .int .i64 s, .int .u8 v0, .int .u64 v1, .int .i64 v2, .int .i64 v3, .int .u8 o, .slice A n c] 49)).alloc (.cells #[.int .u8 0, .int .i64 0, .int .i64 0, .int .i64 0, .int .i64 0, .int .i64 0, .int .u8 0, .int .u64 0, .int .i64 0, .int .i64 0, .int .u8 0, .slice none 0 0] 49)).iter F 0).heap[w.heap.size + 1 + 1]? = some (.cells #[.int .u8 0, .int .i64 0, .int .i64 0, .int .i64 0, .int .i64 0, .int .i64 0, .int .u8 0, .int .u64 0, .int .i64 0, .int .i64 0, .int .u8 0, .slice none 0 0] 49 (0, 0)) by
    have h := blk_alloc (blk_new ((w.alloc (.cells #[.string U, .string F] 73)).alloc (.cells #[.int .u8 0, .int .i64 0, .int .i64 g, .int .i64 f, .int .i64 d, .int .i64 s, .int .u8 v0, .int .u64 v1, .int .i64 v2, .int .i64 v3, .int .u8 o, .slice A n c] 49)) (.cells #[.int .u8 0, .int .i64 0, .int .i64 0, .int .i64 0, .int .i64 0, .int .i64 0, .int .u8 0, .int .u64 0, .int .i64 0, .int .i64 0, .int .u8 0, .slice none 0 0] 49)) (.stringIter F 0)
    rw [show ((w.alloc (.cells #[.string U, .string F] 73)).alloc (.cells #[.int .u8 0, .int .i64 0, .int .i64 g, .int .i64 f, .int .i64 d, .int .i64 s, .int .u8 v0, .int .u64 v1, .int .i64 v2, .int .i64 v3, .int .u8 o, .slice A n c] 49)).heap.size = w.heap.size + 1 + 1 from by simp] at h
    exact h)
  have HBX0 := Lk.mk (show BoxS ((((w.alloc (.cells #[.string U, .string F] 73)).alloc (.cells #[.int .u8 0, .int .i64 0, .int .i64 g, .int .i64 f, .int .i64 d, .int .i64 s, .int .u8 v0, .int .u64 v1, .int .i64 v2, .int .i64 v3, .int .u8 o, .slice A n c] 49)).alloc (.cells #[.int .u8 0, .int .i64 0, .int .i64 0, .int .i64 0, .int .i64 0, .int .i64 0, .int .u8 0, .int .u64 0, .int .i64 0, .int .i64 0, .int .u8 0, .slice none 0 0] 49)).iter F 0) (w.heap.size + 1) (T 0) from by
    have h := blk_alloc (blk_alloc (blk_new (w.alloc (.cells #[.string U, .string F] 73)) (.cells #[.int .u8 0, .int .i64 0, .int .i64 g, .int .i64 f, .int .i64 d, .int .i64 s, .int .u8 v0, .int .u64 v1, .int .i64 v2, .int .i64 v3, .int .u8 o, .slice A n c] 49)) (.cells #[.int .u8 0, .int .i64 0, .int .i64 0, .int .i64 0, .int .i64 0, .int .i64 0, .int .u8 0, .int .u64 0, .int .i64 0, .int .i64 0, .int .u8 0, .slice none 0 0] 49)) (.stringIter F 0)
    rw [show (w.alloc (.cells #[.string U, .string F] 73)).heap.size = w.heap.size + 1 from by simp] at h
    rw [H00.out]
    exact h)
  go_loopg [6, 12, 13, 14, 15] F.size (fun gg _ _ _ _ _ wr => ∃ i : Nat, Lk (i ≤ F.size ∧ F.size - i ≤ gg) ∧ Lk (BoxS wr (w.heap.size + 1) (T i)) ∧ Lk (wr.heap[w.heap.size + 1 + 1 + 1]? = some (.stringIter F i)) ∧ Lk (wr.heap[w.heap.size + 1 + 1]? = some (.cells #[.int .u8 0, .int .i64 0, .int .i64 0, .int .i64 0, .int .i64 0, .int .i64 0, .int .u8 0, .int .u64 0, .int .i64 0, .int .i64 0, .int .u8 0, .slice none 0 0] 49 (0, 0))) ∧ Lk (Below w.heap.size w wr))
  case atStart => exact ⟨0, ⟨Nat.zero_le _, Nat.le_refl _⟩, HBX0, ⟨ST2.out⟩, ⟨ST3.out⟩, ⟨start_below F (below_alloc (below_alloc (below_alloc (Below.refl _ _) _) _) _)⟩⟩
  case round =>
    clear HBX0
    obtain ⟨i, HI, HBX, HIT, HRX, HBB⟩ := hrel
    have hi := HI.out
    by_cases hlt : i < F.size
    · have ha := HFF.out i hlt
      have hnx := fun ty => Lib.run_next_ascii_at (P := Tryz.prog) wr (w.heap.size + 1 + 1 + 1) F i ty HIT.out hlt ha
      obtain ⟨k, hk⟩ : ∃ k, k = (F[i]'hlt).toNat := ⟨_, rfl⟩
      have HNX := Lk.mk ((HNX0.out i hlt).trans (zero_N (T i) (F[i]'hlt)))
      rw [← hk] at hnx HNX ha
      have HI2 := Lk.mk (show i + 1 ≤ F.size ∧ F.size - (i + 1) < F.size - i by omega)
      clear hk hi ha
      have HB1 := Lk.mk (show BoxS (wr.iterAt (w.heap.size + 1 + 1 + 1) F (i + 1)) (w.heap.size + 1) (T i) from (iter_far _ _ _ _ _ (by omega)).trans HBX.out)
      have HIT1 := Lk.mk (Lib.iterAt_heap wr (w.heap.size + 1 + 1 + 1) F i (i + 1) HIT.out)
      have HRX1 := Lk.mk ((iter_far wr (w.heap.size + 1 + 1 + 1) F (i + 1) (w.heap.size + 1 + 1) (by omega)).trans HRX.out)
      have HBB1 := Lk.mk (iter_below (w.heap.size + 1 + 1 + 1) F (i + 1) HBB.out (by omega))
      clear HBX HIT HRX HBB
      have HBX := HB1
      have HIT := HIT1
      have HRX := HRX1
      have HBB := HBB1
      clear HB1 HIT1 HRX1 HBB1
      have hT : ∃ t, t = T i := ⟨_, rfl⟩
      obtain ⟨⟨⟨tk, tp, tg, tf, td, ts, t0, t1, t2, t3, to_⟩, tA, tn, tc⟩, hT⟩ := hT
      rw [← hT] at HBX HNX
      clear hT
      obtain ⟨⟨b0, b1, b2, b3, b4, b5⟩, b6, b7, b8, b9, b10, b11⟩ := box_cells HBX.out
      dsimp only at b0 b1 b2 b3 b4 b5 b6 b7 b8 b9 b10 b11
      by_cases hc103 : k = 103
      · have hkc : k = 103 := hc103
        clear hc103
        subst hkc
        have z2 := box_free HBX.out 2
        skip
        have HN2 := Lk.mk (HNX.out.trans (if_pos rfl))
        clear HNX
        go_wp2
        go_roundg (F.size - (i + 1))
        case measure => have := HI2.out; have := HI.out; omega
        case rel => exact ⟨i + 1, ⟨HI2.out.1, Nat.le_refl _⟩, ⟨by rw [HN2.out]; exact (blk_put HBX.out 2 (.int .i64 0) rfl)⟩, ⟨((Below.heap_setCell (wr.iterAt (w.heap.size + 1 + 1 + 1) F (i + 1)) ⟨w.heap.size + 1, 2, none⟩ (.int .i64 0) _ (by show w.heap.size + 1 + 1 + 1 ≠ w.heap.size + 1; omega)).trans HIT.out)⟩, ⟨((Below.heap_setCell (wr.iterAt (w.heap.size + 1 + 1 + 1) F (i + 1)) ⟨w.heap.size + 1, 2, none⟩ (.int .i64 0) _ (by show w.heap.size + 1 + 1 ≠ w.heap.size + 1; omega)).trans HRX.out)⟩, ⟨(HBB.out.setCell (p := ⟨w.heap.size + 1, 2, none⟩) (Nat.le_succ _) (.int .i64 0))⟩⟩
      · by_cases hc102 : k = 102
        · have hkc : k = 102 := hc102
          clear hc102
          subst hkc
          have z3 := box_free HBX.out 3
          skip
          have HN2 := Lk.mk (HNX.out.trans ((if_neg (by decide)).trans (if_pos rfl)))
          clear HNX
          go_wp2
          go_roundg (F.size - (i + 1))
          case measure => have := HI2.out; have := HI.out; omega
          case rel => exact ⟨i + 1, ⟨HI2.out.1, Nat.le_refl _⟩, ⟨by rw [HN2.out]; exact (blk_put HBX.out 3 (.int .i64 0) rfl)⟩, ⟨((Below.heap_setCell (wr.iterAt (w.heap.size + 1 + 1 + 1) F (i + 1)) ⟨w.heap.size + 1, 3, none⟩ (.int .i64 0) _ (by show w.heap.size + 1 + 1 + 1 ≠ w.heap.size + 1; omega)).trans HIT.out)⟩, ⟨((Below.heap_setCell (wr.iterAt (w.heap.size + 1 + 1 + 1) F (i + 1)) ⟨w.heap.size + 1, 3, none⟩ (.int .i64 0) _ (by show w.heap.size + 1 + 1 ≠ w.heap.size + 1; omega)).trans HRX.out)⟩, ⟨(HBB.out.setCell (p := ⟨w.heap.size + 1, 3, none⟩) (Nat.le_succ _) (.int .i64 0))⟩⟩
        · by_cases hc100 : k = 100
          · have hkc : k = 100 := hc100
            clear hc100
            subst hkc
            have z4 := box_free HBX.out 4
            have z5 := box_free HBX.out 5
            skip
            have HN2 := Lk.mk (HNX.out.trans (((if_neg (by decide)).trans (if_neg (by decide))).trans (if_pos rfl)))
            clear HNX
            go_wp2
            go_roundg (F.size - (i + 1))
            case measure => have := HI2.out; have := HI.out; omega
            case rel => exact ⟨i + 1, ⟨HI2.out.1, Nat.le_refl _⟩, ⟨by rw [HN2.out]; exact (blk_put (blk_put HBX.out 4 (.int .i64 0) rfl) 5 (.int .i64 0) rfl)⟩, ⟨((Below.heap_setCell ((wr.iterAt (w.heap.size + 1 + 1 + 1) F (i + 1)).setCell ⟨w.heap.size + 1, 4, none⟩ (.int .i64 0)) ⟨w.heap.size + 1, 5, none⟩ (.int .i64 0) _ (by show w.heap.size + 1 + 1 + 1 ≠ w.heap.size + 1; omega)).trans ((Below.heap_setCell (wr.iterAt (w.heap.size + 1 + 1 + 1) F (i + 1)) ⟨w.heap.size + 1, 4, none⟩ (.int .i64 0) _ (by show w.heap.size + 1 + 1 + 1 ≠ w.heap.size + 1; omega)).trans HIT.out))⟩, ⟨((Below.heap_setCell ((wr.iterAt (w.heap.size + 1 + 1 + 1) F (i + 1)).setCell ⟨w.heap.size + 1, 4, none⟩ (.int .i64 0)) ⟨w.heap.size + 1, 5, none⟩ (.int .i64 0) _ (by show w.heap.size + 1 + 1 ≠ w.heap.size + 1; omega)).trans ((Below.heap_setCell (wr.iterAt (w.heap.size + 1 + 1 + 1) F (i + 1)) ⟨w.heap.size + 1, 4, none⟩ (.int .i64 0) _ (by show w.heap.size + 1 + 1 ≠ w.heap.size + 1; omega)).trans HRX.out))⟩, ⟨((HBB.out.setCell (p := ⟨w.heap.size + 1, 4, none⟩) (Nat.le_succ _) (.int .i64 0)).setCell (p := ⟨w.heap.size + 1, 5, none⟩) (Nat.le_succ _) (.int .i64 0))⟩⟩
          · by_cases hc118 : k = 118
            · have hkc : k = 118 := hc118
              clear hc118
              subst hkc
              have z6 := box_free HBX.out 6
              have z7 := box_free HBX.out 7
              have z8 := box_free HBX.out 8
              have z9 := box_free HBX.out 9
              skip
              have HN2 := Lk.mk (HNX.out.trans ((((if_neg (by decide)).trans (if_neg (by decide))).trans (if_neg (by decide))).trans (if_pos (.inl rfl))))
              clear HNX
              go_wp2
              go_roundg (F.size - (i + 1))
              case measure => have := HI2.out; have := HI.out; omega
              case rel => exact ⟨i + 1, ⟨HI2.out.1, Nat.le_refl _⟩, ⟨by rw [HN2.out]; exact (blk_put (blk_put (blk_put (blk_put HBX.out 6 (.int .u8 0) rfl) 7 (.int .u64 0) rfl) 8 (.int .i64 0) rfl) 9 (.int .i64 0) rfl)⟩, ⟨((Below.heap_setCell ((((wr.iterAt (w.heap.size + 1 + 1 + 1) F (i + 1)).setCell ⟨w.heap.size + 1, 6, none⟩ (.int .u8 0)).setCell ⟨w.heap.size + 1, 7, none⟩ (.int .u64 0)).setCell ⟨w.heap.size + 1, 8, none⟩ (.int .i64 0)) ⟨w.heap.size + 1, 9, none⟩ (.int .i64 0) _ (by show w.heap.size + 1 + 1 + 1 ≠ w.heap.size + 1; omega)).trans ((Below.heap_setCell (((wr.iterAt (w.heap.size + 1 + 1 + 1) F (i + 1)).setCell ⟨w.heap.size + 1, 6, none⟩ (.int .u8 0)).setCell ⟨w.heap.size + 1, 7, none⟩ (.int .u64 0)) ⟨w.heap.size + 1, 8, none⟩ (.int .i64 0) _ (by show w.heap.size + 1 + 1 + 1 ≠ w.heap.size + 1; omega)).trans ((Below.heap_setCell ((wr.iterAt (w.heap.size + 1 + 1 + 1) F (i + 1)).setCell ⟨w.heap.size + 1, 6, none⟩ (.int .u8 0)) ⟨w.heap.size + 1, 7, none⟩ (.int .u64 0) _ (by show w.heap.size + 1 + 1 + 1 ≠ w.heap.size + 1; omega)).trans ((Below.heap_setCell (wr.iterAt (w.heap.size + 1 + 1 + 1) F (i + 1)) ⟨w.heap.size + 1, 6, none⟩ (.int .u8 0) _ (by show w.heap.size + 1 + 1 + 1 ≠ w.heap.size + 1; omega)).trans HIT.out))))⟩, ⟨((Below.heap_setCell ((((wr.iterAt (w.heap.size + 1 + 1 + 1) F (i + 1)).setCell ⟨w.heap.size + 1, 6, none⟩ (.int .u8 0)).setCell ⟨w.heap.size + 1, 7, none⟩ (.int .u64 0)).setCell ⟨w.heap.size + 1, 8, none⟩ (.int .i64 0)) ⟨w.heap.size + 1, 9, none⟩ (.int .i64 0) _ (by show w.heap.size + 1 + 1 ≠ w.heap.size + 1; omega)).trans ((Below.heap_setCell (((wr.iterAt (w.heap.size + 1 + 1 + 1) F (i + 1)).setCell ⟨w.heap.size + 1, 6, none⟩ (.int .u8 0)).setCell ⟨w.heap.size + 1, 7, none⟩ (.int .u64 0)) ⟨w.heap.size + 1, 8, none⟩ (.int .i64 0) _ (by show w.heap.size + 1 + 1 ≠ w.heap.size + 1; omega)).trans ((Below.heap_setCell ((wr.iterAt (w.heap.size + 1 + 1 + 1) F (i + 1)).setCell ⟨w.heap.size + 1, 6, none⟩ (.int .u8 0)) ⟨w.heap.size + 1, 7, none⟩ (.int .u64 0) _ (by show w.heap.size + 1 + 1 ≠ w.heap.size + 1; omega)).trans ((Below.heap_setCell (wr.iterAt (w.heap.size + 1 + 1 + 1) F (i + 1)) ⟨w.heap.size + 1, 6, none⟩ (.int .u8 0) _ (by show w.heap.size + 1 + 1 ≠ w.heap.size + 1; omega)).trans HRX.out))))⟩, ⟨((((HBB.out.setCell (p := ⟨w.heap.size + 1, 6, none⟩) (Nat.le_succ _) (.int .u8 0)).setCell (p := ⟨w.heap.size + 1, 7, none⟩) (Nat.le_succ _) (.int .u64 0)).setCell (p := ⟨w.heap.size + 1, 8, none⟩) (Nat.le_succ _) (.int .i64 0)).setCell (p := ⟨w.heap.size + 1, 9, none⟩) (Nat.le_succ _) (.int .i64 0))⟩⟩
            · by_cases hc98 : k = 98
              · have hkc : k = 98 := hc98
                clear hc98
                subst hkc
                have z6 := box_free HBX.out 6
                have z7 := box_free HBX.out 7
                have z8 := box_free HBX.out 8
                have z9 := box_free HBX.out 9
                skip
                have HN2 := Lk.mk (HNX.out.trans ((((if_neg (by decide)).trans (if_neg (by decide))).trans (if_neg (by decide))).trans (if_pos (.inr rfl))))
                clear HNX
                go_wp2
                go_roundg (F.size - (i + 1))
                case measure => have := HI2.out; have := HI.out; omega
                case rel => exact ⟨i + 1, ⟨HI2.out.1, Nat.le_refl _⟩, ⟨by rw [HN2.out]; exact (blk_put (blk_put (blk_put (blk_put HBX.out 6 (.int .u8 0) rfl) 7 (.int .u64 0) rfl) 8 (.int .i64 0) rfl) 9 (.int .i64 0) rfl)⟩, ⟨((Below.heap_setCell ((((wr.iterAt (w.heap.size + 1 + 1 + 1) F (i + 1)).setCell ⟨w.heap.size + 1, 6, none⟩ (.int .u8 0)).setCell ⟨w.heap.size + 1, 7, none⟩ (.int .u64 0)).setCell ⟨w.heap.size + 1, 8, none⟩ (.int .i64 0)) ⟨w.heap.size + 1, 9, none⟩ (.int .i64 0) _ (by show w.heap.size + 1 + 1 + 1 ≠ w.heap.size + 1; omega)).trans ((Below.heap_setCell (((wr.iterAt (w.heap.size + 1 + 1 + 1) F (i + 1)).setCell ⟨w.heap.size + 1, 6, none⟩ (.int .u8 0)).setCell ⟨w.heap.size + 1, 7, none⟩ (.int .u64 0)) ⟨w.heap.size + 1, 8, none⟩ (.int .i64 0) _ (by show w.heap.size + 1 + 1 + 1 ≠ w.heap.size + 1; omega)).trans ((Below.heap_setCell ((wr.iterAt (w.heap.size + 1 + 1 + 1) F (i + 1)).setCell ⟨w.heap.size + 1, 6, none⟩ (.int .u8 0)) ⟨w.heap.size + 1, 7, none⟩ (.int .u64 0) _ (by show w.heap.size + 1 + 1 + 1 ≠ w.heap.size + 1; omega)).trans ((Below.heap_setCell (wr.iterAt (w.heap.size + 1 + 1 + 1) F (i + 1)) ⟨w.heap.size + 1, 6, none⟩ (.int .u8 0) _ (by show w.heap.size + 1 + 1 + 1 ≠ w.heap.size + 1; omega)).trans HIT.out))))⟩, ⟨((Below.heap_setCell ((((wr.iterAt (w.heap.size + 1 + 1 + 1) F (i + 1)).setCell ⟨w.heap.size + 1, 6, none⟩ (.int .u8 0)).setCell ⟨w.heap.size + 1, 7, none⟩ (.int .u64 0)).setCell ⟨w.heap.size + 1, 8, none⟩ (.int .i64 0)) ⟨w.heap.size + 1, 9, none⟩ (.int .i64 0) _ (by show w.heap.size + 1 + 1 ≠ w.heap.size + 1; omega)).trans ((Below.heap_setCell (((wr.iterAt (w.heap.size + 1 + 1 + 1) F (i + 1)).setCell ⟨w.heap.size + 1, 6, none⟩ (.int .u8 0)).setCell ⟨w.heap.size + 1, 7, none⟩ (.int .u64 0)) ⟨w.heap.size + 1, 8, none⟩ (.int .i64 0) _ (by show w.heap.size + 1 + 1 ≠ w.heap.size + 1; omega)).trans ((Below.heap_setCell ((wr.iterAt (w.heap.size + 1 + 1 + 1) F (i + 1)).setCell ⟨w.heap.size + 1, 6, none⟩ (.int .u8 0)) ⟨w.heap.size + 1, 7, none⟩ (.int .u64 0) _ (by show w.heap.size + 1 + 1 ≠ w.heap.size + 1; omega)).trans ((Below.heap_setCell (wr.iterAt (w.heap.size + 1 + 1 + 1) F (i + 1)) ⟨w.heap.size + 1, 6, none⟩ (.int .u8 0) _ (by show w.heap.size + 1 + 1 ≠ w.heap.size + 1; omega)).trans HRX.out))))⟩, ⟨((((HBB.out.setCell (p := ⟨w.heap.size + 1, 6, none⟩) (Nat.le_succ _) (.int .u8 0)).setCell (p := ⟨w.heap.size + 1, 7, none⟩) (Nat.le_succ _) (.int .u64 0)).setCell (p := ⟨w.heap.size + 1, 8, none⟩) (Nat.le_succ _) (.int .i64 0)).setCell (p := ⟨w.heap.size + 1, 9, none⟩) (Nat.le_succ _) (.int .i64 0))⟩⟩
              · by_cases hc111 : k = 111
                · have hkc : k = 111 := hc111
                  clear hc111
                  subst hkc
                  have z10 := box_free HBX.out 10
                  skip
                  have HN2 := Lk.mk (HNX.out.trans (((((if_neg (by decide)).trans (if_neg (by decide))).trans (if_neg (by decide))).trans (if_neg (by decide))).trans (if_pos rfl)))
                  clear HNX
                  go_wp2
                  go_roundg (F.size - (i + 1))
                  case measure => have := HI2.out; have := HI.out; omega
                  case rel => exact ⟨i + 1, ⟨HI2.out.1, Nat.le_refl _⟩, ⟨by rw [HN2.out]; exact (blk_put HBX.out 10 (.int .u8 0) rfl)⟩, ⟨((Below.heap_setCell (wr.iterAt (w.heap.size + 1 + 1 + 1) F (i + 1)) ⟨w.heap.size + 1, 10, none⟩ (.int .u8 0) _ (by show w.heap.size + 1 + 1 + 1 ≠ w.heap.size + 1; omega)).trans HIT.out)⟩, ⟨((Below.heap_setCell (wr.iterAt (w.heap.size + 1 + 1 + 1) F (i + 1)) ⟨w.heap.size + 1, 10, none⟩ (.int .u8 0) _ (by show w.heap.size + 1 + 1 ≠ w.heap.size + 1; omega)).trans HRX.out)⟩, ⟨(HBB.out.setCell (p := ⟨w.heap.size + 1, 10, none⟩) (Nat.le_succ _) (.int .u8 0))⟩⟩
                · by_cases hc115 : k = 115
                  · have hkc : k = 115 := hc115
                    clear hc115
                    subst hkc
                    have z4 := box_free HBX.out 4
                    have z11 := box_free HBX.out 11
                    skip
                    have HN2 := Lk.mk (HNX.out.trans ((((((if_neg (by decide)).trans (if_neg (by decide))).trans (if_neg (by decide))).trans (if_neg (by decide))).trans (if_neg (by decide))).trans (if_pos rfl)))
                    clear HNX
                    go_wp2
                    go_roundg (F.size - (i + 1))
                    case measure => have := HI2.out; have := HI.out; omega
                    case rel => exact ⟨i + 1, ⟨HI2.out.1, Nat.le_refl _⟩, ⟨by rw [HN2.out]; exact (blk_put (blk_put HBX.out 4 (.int .i64 0) rfl) 11 (.slice none 0 0) rfl)⟩, ⟨((Below.heap_setCell ((wr.iterAt (w.heap.size + 1 + 1 + 1) F (i + 1)).setCell ⟨w.heap.size + 1, 4, none⟩ (.int .i64 0)) ⟨w.heap.size + 1, 11, none⟩ (.slice none 0 0) _ (by show w.heap.size + 1 + 1 + 1 ≠ w.heap.size + 1; omega)).trans ((Below.heap_setCell (wr.iterAt (w.heap.size + 1 + 1 + 1) F (i + 1)) ⟨w.heap.size + 1, 4, none⟩ (.int .i64 0) _ (by show w.heap.size + 1 + 1 + 1 ≠ w.heap.size + 1; omega)).trans HIT.out))⟩, ⟨((Below.heap_setCell ((wr.iterAt (w.heap.size + 1 + 1 + 1) F (i + 1)).setCell ⟨w.heap.size + 1, 4, none⟩ (.int .i64 0)) ⟨w.heap.size + 1, 11, none⟩ (.slice none 0 0) _ (by show w.heap.size + 1 + 1 ≠ w.heap.size + 1; omega)).trans ((Below.heap_setCell (wr.iterAt (w.heap.size + 1 + 1 + 1) F (i + 1)) ⟨w.heap.size + 1, 4, none⟩ (.int .i64 0) _ (by show w.heap.size + 1 + 1 ≠ w.heap.size + 1; omega)).trans HRX.out))⟩, ⟨((HBB.out.setCell (p := ⟨w.heap.size + 1, 4, none⟩) (Nat.le_succ _) (.int .i64 0)).setCell (p := ⟨w.heap.size + 1, 11, none⟩) (Nat.le_succ _) (.slice none 0 0))⟩⟩
                  · have n103 : ((k : Int) == 103) = false := beq_false_of_ne (by omega)
                    have n102 : ((k : Int) == 102) = false := beq_false_of_ne (by omega)
                    have n100 : ((k : Int) == 100) = false := beq_false_of_ne (by omega)
                    have n118 : ((k : Int) == 118) = false := beq_false_of_ne (by omega)
                    have n98 : ((k : Int) == 98) = false := beq_false_of_ne (by omega)
                    have n111 : ((k : Int) == 111) = false := beq_false_of_ne (by omega)
                    have n115 : ((k : Int) == 115) = false := beq_false_of_ne (by omega)
                    have HN2 := Lk.mk (HNX.out.trans (by unfold zeroN; rw [if_neg (by omega), if_neg (by omega), if_neg (by omega), if_neg (by omega), if_neg (by omega), if_neg (by omega)]))
                    clear HNX
                    go_wp2
                    go_roundg (F.size - (i + 1))
                    case measure => have := HI2.out; have := HI.out; omega
                    case rel => exact ⟨i + 1, ⟨HI2.out.1, Nat.le_refl _⟩, ⟨by rw [HN2.out]; exact HBX.out⟩, ⟨HIT.out⟩, ⟨HRX.out⟩, ⟨HBB.out⟩⟩
    · obtain rfl : i = F.size := by omega
      have hnx := fun ty => Lib.run_next_end_at (P := Tryz.prog) wr (w.heap.size + 1 + 1 + 1) F F.size ty HIT.out (Nat.lt_irrefl _)
      rw [HE.out] at HBX
      clear hi hlt
      obtain ⟨⟨r0, r1, r2, r3, r4, r5, r6, r7, r8, r9, r10⟩, rA, rn, rc⟩ := R
      obtain ⟨⟨b0, b1, b2, b3, b4, b5⟩, b6, b7, b8, b9, b10, b11⟩ := box_cells HBX.out
      dsimp only at b0 b1 b2 b3 b4 b5 b6 b7 b8 b9 b10 b11
      have z0 := blk_frozen HRX.out 0
      have z1 := blk_frozen HRX.out 1
      have z2 := blk_frozen HRX.out 2
      have z3 := blk_frozen HRX.out 3
      have z4 := blk_frozen HRX.out 4
      have z5 := blk_frozen HRX.out 5
      have z6 := blk_frozen HRX.out 6
      have z7 := blk_frozen HRX.out 7
      have z8 := blk_frozen HRX.out 8
      have z9 := blk_frozen HRX.out 9
      have z10 := blk_frozen HRX.out 10
      have z11 := blk_frozen HRX.out 11
      have y0 := (blk_cell HRX.out 0).trans rfl
      have y1 := (blk_cell HRX.out 1).trans rfl
      have y2 := (blk_cell HRX.out 2).trans rfl
      have y3 := (blk_cell HRX.out 3).trans rfl
      have y4 := (blk_cell HRX.out 4).trans rfl
      have y5 := (blk_cell HRX.out 5).trans rfl
      have y6 := (blk_cell HRX.out 6).trans rfl
      have y7 := (blk_cell HRX.out 7).trans rfl
      have y8 := (blk_cell HRX.out 8).trans rfl
      have y9 := (blk_cell HRX.out 9).trans rfl
      have y10 := (blk_cell HRX.out 10).trans rfl
      have y11 := (blk_cell HRX.out 11).trans rfl
      have P0 := blk_put (cs' := #[.int .u8 r0, .int .i64 0, .int .i64 0, .int .i64 0, .int .i64 0, .int .i64 0, .int .u8 0, .int .u64 0, .int .i64 0, .int .i64 0, .int .u8 0, .slice none 0 0]) HRX.out 0 (.int .u8 r0) rfl
      have P1 := blk_put (cs' := #[.int .u8 r0, .int .i64 r1, .int .i64 0, .int .i64 0, .int .i64 0, .int .i64 0, .int .u8 0, .int .u64 0, .int .i64 0, .int .i64 0, .int .u8 0, .slice none 0 0]) P0 1 (.int .i64 r1) rfl
      have P2 := blk_put (cs' := #[.int .u8 r0, .int .i64 r1, .int .i64 r2, .int .i64 0, .int .i64 0, .int .i64 0, .int .u8 0, .int .u64 0, .int .i64 0, .int .i64 0, .int .u8 0, .slice none 0 0]) P1 2 (.int .i64 r2) rfl
      have P3 := blk_put (cs' := #[.int .u8 r0, .int .i64 r1, .int .i64 r2, .int .i64 r3, .int .i64 0, .int .i64 0, .int .u8 0, .int .u64 0, .int .i64 0, .int .i64 0, .int .u8 0, .slice none 0 0]) P2 3 (.int .i64 r3) rfl
      have P4 := blk_put (cs' := #[.int .u8 r0, .int .i64 r1, .int .i64 r2, .int .i64 r3, .int .i64 r4, .int .i64 0, .int .u8 0, .int .u64 0, .int .i64 0, .int .i64 0, .int .u8 0, .slice none 0 0]) P3 4 (.int .i64 r4) rfl
      have P5 := blk_put (cs' := #[.int .u8 r0, .int .i64 r1, .int .i64 r2, .int .i64 r3, .int .i64 r4, .int .i64 r5, .int .u8 0, .int .u64 0, .int .i64 0, .int .i64 0, .int .u8 0, .slice none 0 0]) P4 5 (.int .i64 r5) rfl
      have P6 := blk_put (cs' := #[.int .u8 r0, .int .i64 r1, .int .i64 r2, .int .i64 r3, .int .i64 r4, .int .i64 r5, .int .u8 r6, .int .u64 0, .int .i64 0, .int .i64 0, .int .u8 0, .slice none 0 0]) P5 6 (.int .u8 r6) rfl
      have P7 := blk_put (cs' := #[.int .u8 r0, .int .i64 r1, .int .i64 r2, .int .i64 r3, .int .i64 r4, .int .i64 r5, .int .u8 r6, .int .u64 r7, .int .i64 0, .int .i64 0, .int .u8 0, .slice none 0 0]) P6 7 (.int .u64 r7) rfl
      have P8 := blk_put (cs' := #[.int .u8 r0, .int .i64 r1, .int .i64 r2, .int .i64 r3, .int .i64 r4, .int .i64 r5, .int .u8 r6, .int .u64 r7, .int .i64 r8, .int .i64 0, .int .u8 0, .slice none 0 0]) P7 8 (.int .i64 r8) rfl
      have P9 := blk_put (cs' := #[.int .u8 r0, .int .i64 r1, .int .i64 r2, .int .i64 r3, .int .i64 r4, .int .i64 r5, .int .u8 r6, .int .u64 r7, .int .i64 r8, .int .i64 r9, .int .u8 0, .slice none 0 0]) P8 9 (.int .i64 r9) rfl
      have P10 := blk_put (cs' := #[.int .u8 r0, .int .i64 r1, .int .i64 r2, .int .i64 r3, .int .i64 r4, .int .i64 r5, .int .u8 r6, .int .u64 r7, .int .i64 r8, .int .i64 r9, .int .u8 r10, .slice none 0 0]) P9 10 (.int .u8 r10) rfl
      have P11 := blk_put (cs' := #[.int .u8 r0, .int .i64 r1, .int .i64 r2, .int .i64 r3, .int .i64 r4, .int .i64 r5, .int .u8 r6, .int .u64 r7, .int .i64 r8, .int .i64 r9, .int .u8 r10, .slice rA rn rc]) P10 11 (.slice rA rn rc) rfl
      have PP := Lk.mk P11
      clear P0 P1 P2 P3 P4 P5 P6 P7 P8 P9 P10 P11
      go_wp2
      exact bodyPost_ret (results_cell_row Tryz.results34 _ _ (w.heap.size + 1 + 1) 49 #[.int .u8 r0, .int .i64 r1, .int .i64 r2, .int .i64 r3, .int .i64 r4, .int .i64 r5, .int .u8 r6, .int .u64 r7, .int .i64 r8, .int .i64 r9, .int .u8 r10, .slice rA rn rc] (0, 0) _ rfl PP.out Tryz.underlying49 rfl (by kernel_rfl)) rfl ⟨rfl, ((((((((((((HBB.out.setCell (p := ⟨w.heap.size + 1 + 1, 0, none⟩) (by show w.heap.size ≤ w.heap.size + 1 + 1; omega) (.int .u8 r0)).setCell (p := ⟨w.heap.size + 1 + 1, 1, none⟩) (by show w.heap.size ≤ w.heap.size + 1 + 1; omega) (.int .i64 r1)).setCell (p := ⟨w.heap.size + 1 + 1, 2, none⟩) (by show w.heap.size ≤ w.heap.size + 1 + 1; omega) (.int .i64 r2)).setCell (p := ⟨w.heap.size + 1 + 1, 3, none⟩) (by show w.heap.size ≤ w.heap.size + 1 + 1; omega) (.int .i64 r3)).setCell (p := ⟨w.heap.size + 1 + 1, 4, none⟩) (by show w.heap.size ≤ w.heap.size + 1 + 1; omega) (.int .i64 r4)).setCell (p := ⟨w.heap.size + 1 + 1, 5, none⟩) (by show w.heap.size ≤ w.heap.size + 1 + 1; omega) (.int .i64 r5)).setCell (p := ⟨w.heap.size + 1 + 1, 6, none⟩) (by show w.heap.size ≤ w.heap.size + 1 + 1; omega) (.int .u8 r6)).setCell (p := ⟨w.heap.size + 1 + 1, 7, none⟩) (by show w.heap.size ≤ w.heap.size + 1 + 1; omega) (.int .u64 r7)).setCell (p := ⟨w.heap.size + 1 + 1, 8, none⟩) (by show w.heap.size ≤ w.heap.size + 1 + 1; omega) (.int .i64 r8)).setCell (p := ⟨w.heap.size + 1 + 1, 9, none⟩) (by show w.heap.size ≤ w.heap.size + 1 + 1; omega) (.int .i64 r9)).setCell (p := ⟨w.heap.size + 1 + 1, 10, none⟩) (by show w.heap.size ≤ w.heap.size + 1 + 1; omega) (.int .u8 r10)).setCell (p := ⟨w.heap.size + 1 + 1, 11, none⟩) (by show w.heap.size ≤ w.heap.size + 1 + 1; omega) (.slice rA rn rc))⟩
end Go.Proofs.YtpnklpjjbpheeaaGreatDoor
