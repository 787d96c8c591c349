/-
  The walk of the law ScriptLong; conditions: the tables stand.
-/
import Derived.Test.YtpnklpjjbpheeaaGreatDoorK10
import Derived.Lib.ConvBytes
import Derived.Laws.BytesArg
import Derived.Laws.Rows
namespace Go.Proofs.YtpnklpjjbpheeaaGreatDoor
open Go.RowKit Go.Proofs.YtpnklpjjbpheeaaGreatDoorW.PrintWords
open Go.Proofs.Fl Go.Proofs.YtpnklpjjbpheeaaGreatDoor.Flt

set_option maxRecDepth 100000 in
set_option maxHeartbeats 8000000 in
theorem long_at (m : Int) (n : Nat) (l1 e1 : Int) (w : World) (hm : 0 ≤ m ∧ m ≤ 255) (hn : (n : Int) = 262143 + m % 4) (hT : Tab w) (hP : P10 w)
    (hR : ∀ W, Calls Tryz.prog 4 #[.string (strX n)] W fun e w' => e = .returned (.tuple #[noScript, .int .i64 l1, .int .i64 e1]) ∧ Below W.heap.size W w')
    (hl : (262144 < n ∧ l1 = 0 ∧ e1 = 11) ∨ (¬ 262144 < n ∧ l1 = 1 ∧ e1 = 10)) :
    Calls Tryz.prog 3 #[.int .u8 m] w fun e w' => e = .returned (.bool true) ∧ Below w.heap.size w w' := by
  have HT := Lk.mk hT
  have HP := Lk.mk hP
  have HR := Lk.mk hR
  have HA := Lk.mk (fun W (hb : Below w.heap.size w W) => awake24_any W (hT.below hb) (hP.below hb))
  obtain ⟨q, hq⟩ : ∃ q : Nat, (q : Int) = m % 4 := ⟨(m % 4).toNat, by omega⟩
  have htm : Int.tmod m 4 = (q : Int) := by rw [Int.tmod_eq_emod_of_nonneg (by omega)]; omega
  have hq4 : q ≤ 3 := by omega
  have hw8 : IntKind.u8.wrap (q : Int) = (q : Int) := IntWalk.u8_in _ (by omega)
  have hwi : IntKind.i64.wrap (q : Int) = (q : Int) := IntWalk.i64_in _ (by omega)
  have hwn : IntKind.i64.wrap (262143 + (q : Int)) = (n : Int) := (IntWalk.i64_in _ (by omega)).trans (by omega)
  have HN := Lk.mk (show 262143 ≤ n ∧ n ≤ 262146 by omega)
  have hmk : ∀ W : World, (Instr.makeSlice 22 (.int .i64 (n : Int)) (.int .i64 (n : Int))).run Tryz.prog W = .ok (.slice (some ⟨W.heap.size, 0, none⟩) n n) (W.alloc (.cells (nums .u8 (rowX n 0)).toArray 5)) := fun W => by
    have := print_make 22 5 .u8 1 Tryz.underlying22 (by kernel_rfl) (by decide) n (by omega) W
    rw [made_bytes] at this
    rw [show rowX n 0 = List.replicate n 0 by unfold rowX; simp]
    exact this
  clear hm hn hT hP hR hq
  go_enter Tryz.func3, Tryz.ntmps3
  go_wp2
  have HB0 := Lk.mk (below_alloc (Below.refl w.heap.size w) (.cells (nums .u8 (rowX n 0)).toArray 5))
  have HC0 := Lk.mk (blk_new w (.cells (nums .u8 (rowX n 0)).toArray 5))
  clear hmk
  generalize w.alloc (.cells (nums .u8 (rowX n 0)).toArray 5) = w1 at *
  go_loopg [4] n (fun gg v4 wr => ∃ k : Nat, v4 = .int .i64 k ∧ Lk (k ≤ n ∧ n - k ≤ gg) ∧ Lk (wr.heap[w.heap.size]? = some (.cells (nums .u8 (rowX n k)).toArray 5 (0, 0))) ∧ Lk (Below w.heap.size w wr))
  case atStart => exact ⟨0, rfl, ⟨Nat.zero_le _, Nat.le_refl _⟩, HC0, HB0⟩
  case round =>
    clear HB0 HC0
    obtain ⟨k, rfl, HK, HC, HB⟩ := hrel
    have hn2 := HN.out.2
    by_cases hlt : k < n
    · have hltz : (k : Int) < (n : Int) := by omega
      have HK2 := Lk.mk (show k + 1 ≤ n ∧ n - (k + 1) < n - k by omega)
      have hc : wr.cell? ⟨w.heap.size, k, none⟩ = some (.int .u8 ((rowX n k).getD k 0)) := by
        rw [blk_cell HC.out k]
        have hkl : k < (rowX n k).length := by rw [rowX_len n k (by omega)]; exact hlt
        unfold nums
        rw [List.getElem?_toArray, List.getElem?_map, List.getD_eq_getElem?_getD, List.getElem?_eq_getElem hkl]
        rfl
      have hz := blk_frozen HC.out k
      have HC2 := Lk.mk (blk_put HC.out k (.int .u8 120) (rowX_set n k hlt))
      have HB2 := Lk.mk (HB.out.setCell (p := ⟨w.heap.size, k, none⟩) (Nat.le_refl _) (.int .u8 120))
      have hkw : IntKind.i64.wrap ((k : Int) + 1) = ((k + 1 : Nat) : Int) := (IntWalk.i64_in _ (by omega)).trans (by omega)
      clear hn2
      generalize (rowX n k).getD k 0 = y at *
      go_wp2
      go_roundg (n - (k + 1))
      case measure => have := HK.out; have := HK2.out; omega
      case rel => exact ⟨k + 1, by first | rfl | go_num, ⟨HK2.out.1, Nat.le_refl _⟩, HC2, HB2⟩
    · have hltz : ¬ (k : Int) < (n : Int) := by omega
      obtain rfl : k = n := by have := HK.out; omega
      have hcv : (convert 22 9 (.slice (some ⟨w.heap.size, 0, none⟩) k k)).run Tryz.prog wr = .ok (.string (strX k)) wr := by
        refine run_convert_bytes_arg (P := Tryz.prog) _ 22 5 Tryz.underlying22 Tryz.underlying5 w.heap.size 0 k k (List.replicate k 120) (List.length_replicate ..) (fun i hi => ?_) 9 Tryz.underlying9
        have h1 := blk_cell HC.out i
        rw [rowX_full] at h1
        unfold nums at h1
        rw [List.getElem?_toArray, List.getElem?_map, List.getElem?_replicate, if_pos hi] at h1
        rw [Nat.zero_add, List.getD_eq_getElem?_getD, List.getElem?_replicate, if_pos hi]
        exact h1
      have HRR := Lk.mk (HR.out wr)
      unfold noScript at HRR
      clear hn2 hlt
      rcases hl with ⟨h1, rfl, rfl⟩ | ⟨h1, rfl, rfl⟩
      · have h1z : (262144 : Int) < (k : Int) := by omega
        go_wp2_with (first
          | (go_at_call 4; (with_reducible refine (HRR.out).mono ?_); rintro e w2 ⟨rfl, hb⟩; have HB := Lk.mk (below_alloc (below_then HB.out HB.out.size hb) (.cells #[.int .i64 0, .int .i64 0, .int .i64 0, .slice none 0 0, .slice none 0 0] 28)); clear hb)
          | (go_at_call 5; (with_reducible refine (HA.out _ HB.out).mono ?_); rintro e w' ⟨rfl, hb⟩; have HB := Lk.mk (below_then HB.out HB.out.size hb); clear hb))
        go_ret
        exact ⟨rfl, HB.out⟩
      · have h1z : ¬ (262144 : Int) < (k : Int) := by omega
        go_wp2_with (first
          | (go_at_call 4; (with_reducible refine (HRR.out).mono ?_); rintro e w2 ⟨rfl, hb⟩; have HB := Lk.mk (below_alloc (below_then HB.out HB.out.size hb) (.cells #[.int .i64 0, .int .i64 0, .int .i64 0, .slice none 0 0, .slice none 0 0] 28)); clear hb)
          | (go_at_call 5; (with_reducible refine (HA.out _ HB.out).mono ?_); rintro e w' ⟨rfl, hb⟩; have HB := Lk.mk (below_then HB.out HB.out.size hb); clear hb))
        go_ret
        exact ⟨rfl, HB.out⟩
theorem lawOfScriptLong (m : Int) (w : World) (hm : 0 ≤ m ∧ m ≤ 255) (hT : Tab w) (hP : P10 w) :
    Calls Tryz.prog 3 #[.int .u8 m] w fun e w' => e = .returned (.bool true) ∧ Below w.heap.size w w' := by
  obtain ⟨n, hn⟩ : ∃ n : Nat, (n : Int) = 262143 + m % 4 := ⟨(262143 + m % 4).toNat, by omega⟩
  by_cases h : 262144 < n
  · exact long_at m n 0 11 w hm hn hT hP (fun W => read_long (strX n) W (by rw [strX_size]; exact h)) (.inl ⟨h, rfl, rfl⟩)
  · exact long_at m n 1 10 w hm hn hT hP (fun W => read_noline (strX n) W (by rw [strX_size]; omega) (by rw [strX_size]; omega) (strX_count n)) (.inr ⟨h, rfl, rfl⟩)
end Go.Proofs.YtpnklpjjbpheeaaGreatDoor
