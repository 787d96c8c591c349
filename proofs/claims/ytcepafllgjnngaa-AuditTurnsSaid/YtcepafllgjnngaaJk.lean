/-
  The walk of audit.Whole; conditions: the parts read as told, at most 100.
-/
import Derived.Test.YtcepafllgjnngaaJi
import Derived.Test.YtcepafllgjnngaaJj
import Derived.Deep.RegionHeld3
import Derived.Laws.Rows
namespace Go.Proofs.Ytcepafllgjnngaa
open Go.RowKit Go.Proofs.YtcepafllgjnngaaW.PrintWords
open So

def PtIn (x : Q) : Prop := (0 ≤ x.1 ∧ x.1 ≤ 255) ∧ (-9223372036854775808 ≤ x.2.2.2 ∧ x.2.2.2 ≤ 9223372036854775807)
/-- what an audit answers -/
def fAgg (k a : Int) : Value := .agg #[.int .u8 k, .int .i64 a, .int .i64 0, .int .i64 0]
set_option maxRecDepth 100000 in
set_option maxHeartbeats 8000000 in
theorem sort0_any (A : Option Addr) (c : Nat) (w : World) :
    Calls Try.prog 26 #[.slice A 0 c, .func (.func 27) #[] #[]] w fun e w' => e = .returned (.tuple #[]) ∧ w' = w := by
  have HI : ∀ W, Calls Try.prog 48 #[.slice A 0 c, .int .i64 0, .int .i64 0, .func (.func 27) #[] #[]] W fun e w' => e = .returned (.tuple #[]) ∧ w' = W := by
    intro W
    go_enter Try.func48, Try.ntmps48
    go_wp2
    go_loopg [8, 9] 0 (fun gg v8 _ wr => v8 = .int .i64 1 ∧ wr = W)
    case atStart => exact ⟨rfl, rfl⟩
    case round =>
      obtain ⟨rfl, rfl⟩ := hrel
      go_wp2
      refine ⟨rfl, .tuple #[], ?_, rfl, rfl⟩
      simp [results, Try.results48, go_sem]
  have HS : ∀ W, Calls Try.prog 38 #[.slice A 0 c, .int .i64 0, .func (.func 27) #[] #[]] W fun e w' => e = .returned (.tuple #[]) ∧ w' = W := by
    intro W
    have HI := Lk.mk HI
    go_enter Try.func38, Try.ntmps38
    go_wp2
    go_loopg [7, 8] 0 (fun gg v7 v8 wr => v7 = .int .i64 0 ∧ v8 = .int .i64 20 ∧ wr = W)
    case atStart => exact ⟨rfl, rfl, rfl⟩
    case round =>
      obtain ⟨rfl, rfl, hwr⟩ := hrel
      subst wr
      go_wp2_with (go_at_call 48; (with_reducible refine (HI.out _).mono ?_); rintro e w' ⟨rfl, hw⟩; subst w')
      go_loopg [6, 7, 8, 9] 0 (fun gg v6 _ _ _ wr2 => v6 = .int .i64 20 ∧ wr2 = W)
      case atStart => exact ⟨rfl, rfl⟩
      case round =>
        obtain ⟨rfl, rfl⟩ := hrel
        go_wp2
        refine ⟨rfl, .tuple #[], ?_, rfl, rfl⟩
        simp [results, Try.results38, go_sem]
  have HS := Lk.mk HS
  clear HI
  go_enter Try.func26, Try.ntmps26
  go_wp2_with (go_at_call 38; (with_reducible refine (HS.out _).mono ?_); rintro e w' ⟨rfl, rfl⟩)
  refine ⟨rfl, .tuple #[], ?_, rfl, rfl⟩
  simp [results, Try.results26, go_sem]
theorem cells4z {w : World} {g : Nat} {t : TypeId} {a b c d : Value} (h : w.heap[g]? = some (.cells #[a, b, c, d] t (0, 0))) :
    (w.cell? ⟨g, 0, none⟩ = some a ∧ w.cell? ⟨g, 1, none⟩ = some b ∧ w.cell? ⟨g, 2, none⟩ = some c ∧ w.cell? ⟨g, 3, none⟩ = some d) ∧ w.frozen? ⟨g, 0, none⟩ = false ∧ w.frozen? ⟨g, 1, none⟩ = false ∧ w.frozen? ⟨g, 2, none⟩ = false ∧ w.frozen? ⟨g, 3, none⟩ = false :=
  ⟨⟨(blk_cell h 0).trans rfl, (blk_cell h 1).trans rfl, (blk_cell h 2).trans rfl, (blk_cell h 3).trans rfl⟩, blk_frozen h 0, blk_frozen h 1, blk_frozen h 2, blk_frozen h 3⟩
theorem put4z {w : World} {g : Nat} {t : TypeId} {a b c d : Value} (h : w.heap[g]? = some (.cells #[a, b, c, d] t (0, 0))) (a' b' c' d' : Value) : ((((w.setCell ⟨g, 0, none⟩ a').setCell ⟨g, 1, none⟩ b').setCell ⟨g, 2, none⟩ c').setCell ⟨g, 3, none⟩ d').heap[g]? = some (.cells #[a', b', c', d'] t (0, 0)) :=
  blk_put (blk_put (blk_put (blk_put h 0 a' rfl) 1 b' rfl) 2 c' rfl) 3 d' rfl
theorem below4z {w w1 : World} (h : Below w.heap.size w w1) (a' b' c' d' : Value) : Below w.heap.size w ((((w1.setCell ⟨w.heap.size, 0, none⟩ a').setCell ⟨w.heap.size, 1, none⟩ b').setCell ⟨w.heap.size, 2, none⟩ c').setCell ⟨w.heap.size, 3, none⟩ d') :=
  (((h.setCell (p := ⟨w.heap.size, 0, none⟩) (Nat.le_refl _) _).setCell (p := ⟨w.heap.size, 1, none⟩) (Nat.le_refl _) _).setCell (p := ⟨w.heap.size, 2, none⟩) (Nat.le_refl _) _).setCell (p := ⟨w.heap.size, 3, none⟩) (Nat.le_refl _) _
def okW (words : Int) (l : List Q) : Bool := !(ofB words) && !(l.any badQ)
-- the parts may not be
set_option maxRecDepth 100000 in
set_option maxHeartbeats 8000000 in
theorem whole_bad (A : Option Addr) (c : Nat) (l : List Q) (words : Int) (w : World) (hr : kPt.C w A l.length l) (hok : okW words l = false) :
    Calls Try.prog 12 #[.int .i64 words, .slice A l.length c] w fun e w' => e = .returned (fAgg 1 0) ∧ Below w.heap.size w w' := by
  have hx0 := below_alloc (Below.refl w.heap.size w) (.cells #[.int .u8 0, .int .i64 0, .int .i64 0, .int .i64 0] 36)
  have HX0 := Lk.mk hx0
  have HE0 := Lk.mk (blk_new w (.cells #[.int .u8 0, .int .i64 0, .int .i64 0, .int .i64 0] 36))
  have hc := plain1 words (w.alloc (.cells #[.int .u8 0, .int .i64 0, .int .i64 0, .int .i64 0] 36))
  rw [show (w.alloc (.cells #[.int .u8 0, .int .i64 0, .int .i64 0, .int .i64 0] 36)).heap.size = w.heap.size + 1 from by simp] at hc
  have HC := Lk.mk hc
  have HCP := Lk.mk (fun W (hb : Below w.heap.size w W) => contains_parts A c l badQ 23 #[] W (enters_of Try.func23 (by kernel_rfl) rfl) (Kd.C_below hr hb) (fun W f _ _ => wholeLit_any f W))
  have HB1 := Lk.mk (fun W (hb : Below (w.heap.size + 1) (w.alloc (.cells #[.int .u8 0, .int .i64 0, .int .i64 0, .int .i64 0] 36)) W) => below_then hx0 hx0.size (by simpa using hb))
  have HE1 := Lk.mk (fun W (hb : Below (w.heap.size + 1) (w.alloc (.cells #[.int .u8 0, .int .i64 0, .int .i64 0, .int .i64 0] 36)) W) => blk_below HE0.out (show Below (w.alloc (.cells #[.int .u8 0, .int .i64 0, .int .i64 0, .int .i64 0] 36)).heap.size _ W by simpa using hb))
  have HO := Lk.mk (show okW words l = (!(ofB words) && !(l.any badQ)) from rfl)
  have HOK := Lk.mk hok
  clear hc hx0 hr hok
  show Calls Try.prog 12 #[.int .i64 words, .slice A l.length c] w fun e w' => e = .returned (.agg #[.int .u8 1, .int .i64 0, .int .i64 0, .int .i64 0]) ∧ Below w.heap.size w w'
  cases ho : ofB words with
  | true =>
    rw [ho] at HC
    have HAT := Lk.mk (fun W => at_any 1 0 W)
    clear HO ho HCP
    go_enter Try.func12, Try.ntmps12
    go_wp2_with (first
      | (go_at_call 21; (with_reducible refine (HC.out).mono ?_); rintro e w1 ⟨rfl, hb⟩; have HE := Lk.mk (HE1.out _ hb); have HB := Lk.mk (HB1.out _ hb); clear hb)
      | (go_at_call 24; (with_reducible refine (HAT.out _).mono ?_); rintro e w2 ⟨rfl, hb⟩; have HF := Lk.mk (blk_below HE.out hb); have HB2 := Lk.mk (below_then HB.out HB.out.size hb); obtain ⟨⟨c0, c1, c2, c3⟩, z0, z1, z2, z3⟩ := cells4z HF.out; clear hb))
    exact bodyPost_ret (results_cell_row Try.results12 _ _ w.heap.size 36 #[.int .u8 1, .int .i64 0, .int .i64 0, .int .i64 0] (0, 0) _ rfl (put4z HF.out _ _ _ _) Try.underlying36 rfl (by kernel_rfl)) rfl ⟨rfl, below4z HB2.out _ _ _ _⟩
  | false =>
    rw [ho] at HC
    have ha : l.any badQ = true := by
      have := HO.out.symm.trans HOK.out
      rw [ho] at this
      simpa using this
    rw [ha] at HCP
    have HAT := Lk.mk (fun W => at_any 1 0 W)
    clear HO ho ha HOK
    go_enter Try.func12, Try.ntmps12
    go_wp2_with (first
      | (go_at_call 21; (with_reducible refine (HC.out).mono ?_); rintro e w1 ⟨rfl, hb⟩; have HE := Lk.mk (HE1.out _ hb); have HB := Lk.mk (HB1.out _ hb); clear hb)
      | (go_at_call 22; (with_reducible refine (HCP.out _ HB.out).mono ?_); rintro e w3 ⟨rfl, hb⟩; have HE := Lk.mk (blk_below HE.out hb); have HB := Lk.mk (below_then HB.out HB.out.size hb); clear hb)
      | (go_at_call 24; (with_reducible refine (HAT.out _).mono ?_); rintro e w2 ⟨rfl, hb⟩; have HF := Lk.mk (blk_below HE.out hb); have HB2 := Lk.mk (below_then HB.out HB.out.size hb); obtain ⟨⟨c0, c1, c2, c3⟩, z0, z1, z2, z3⟩ := cells4z HF.out; clear hb))
    exact bodyPost_ret (results_cell_row Try.results12 _ _ w.heap.size 36 #[.int .u8 1, .int .i64 0, .int .i64 0, .int .i64 0] (0, 0) _ rfl (put4z HF.out _ _ _ _) Try.underlying36 rfl (by kernel_rfl)) rfl ⟨rfl, below4z HB2.out _ _ _ _⟩
end Go.Proofs.Ytcepafllgjnngaa
