/-
  The walks of the reference's Has, Bits, Ints; conditions: what is handed in reads as told.
-/
import Derived.Test.YtbikdngpannekaaDoorBi
namespace Go.Proofs.YtbikdngpannekaaDoor
open Go.RowKit Go.Proofs.YtbikdngpannekaaDoorW.PrintWords

theorem half_bit (x m : Nat) : decide (((x / 2 ^ m : Nat) : Int) % 2 = 1) = x.testBit m := by
  rw [Nat.testBit_eq_decide_div_mod_eq]
  congr 1
  apply propext
  omega
theorem half_step (x k : Nat) : x / 2 ^ k / 2 = x / 2 ^ (k + 1) := by rw [Nat.div_div_eq_div_mul, Nat.pow_succ]

set_option maxRecDepth 100000 in
set_option maxHeartbeats 1000000 in
theorem refHas_any (A : Option Addr) (c : Nat) (l : List Int) (i : Int) (w : World) (hr : ReadsInt w .u64 A l.length l) (hw : Bm.Words l) (hi : i ≤ 9223372036854775807) :
    Calls Tryd.prog 120 #[.slice A l.length c, .int .i64 i] w fun e w' => e = .returned (.bool (Bm.hasL l i)) ∧ w' = w := by
  have hm := hr.2.1
  by_cases h0 : 0 ≤ i
  · obtain ⟨i, rfl⟩ := Int.eq_ofNat_of_zero_le h0
    by_cases h1 : i / 64 < l.length
    · have h2 : (i : Int) / 64 < (l.length : Int) := by omega
      have h3 : 0 ≤ (i : Int) / 64 := by omega
      obtain ⟨ad, rfl, hcell⟩ := hr.at_ ((i : Int) / 64) h3 h2
      have e64 : ((i : Int) / 64).toNat = i / 64 := by omega
      obtain ⟨x, hx, hx1⟩ : ∃ x : Nat, rd l ((i : Int) / 64) = (x : Int) ∧ x < 18446744073709551616 := by
        have := hw (rd l ((i : Int) / 64)) (by unfold rd; rw [e64, List.getD_eq_getElem?_getD, List.getElem?_eq_getElem h1]; exact List.getElem_mem h1)
        exact ⟨(rd l ((i : Int) / 64)).toNat, by omega, by omega⟩
      have H := Lk.mk (show Bm.hasL l i = x.testBit (i % 64) by
        unfold Bm.hasL Bm.bitAt
        rw [if_neg (by omega)]
        unfold rd at hx
        rw [e64] at hx
        rw [Int.toNat_natCast, hx, Int.toNat_natCast])
      rw [hx, e64] at hcell
      clear hr hw hx e64
      generalize Bm.hasL l i = r at *
      go_enter Tryd.func120, Tryd.ntmps120
      go_wp2
      go_loopg [5, 6] 64 (fun gg v5 v6 wr => ∃ k : Nat, k ≤ i % 64 ∧ i % 64 - k ≤ gg ∧ v5 = .int .u64 ((x / 2 ^ k : Nat) : Int) ∧ v6 = .int .i64 k ∧ wr = w)
      case atStart => exact ⟨0, by omega, by omega, by rw [Nat.pow_zero, Nat.div_one], rfl, rfl⟩
      case round =>
        obtain ⟨k, hk, hg, rfl, rfl, rfl⟩ := hrel
        have hs := half_step x k
        have hb := half_bit x k
        have hle : x / 2 ^ k ≤ x := Nat.div_le_self _ _
        generalize x / 2 ^ k = y at *
        by_cases hlt : k < i % 64
        · have hltz : (k : Int) < (i : Int) % 64 := by omega
          go_wp2
          go_roundg (i % 64 - (k + 1))
          case measure => omega
          case rel => exact ⟨k + 1, by omega, by omega, by rw [← hs]; first | rfl | (congr 1; omega), by go_num, rfl⟩
        · have hltz : ¬ (k : Int) < (i : Int) % 64 := by omega
          obtain rfl : k = i % 64 := by omega
          go_wp2
          go_ret
          refine ⟨ret_bool ?_, rfl⟩
          rw [H.out, ← hb]
          first | rfl | (congr 1; done) | simp
    · have h2 : ¬ (i : Int) / 64 < (l.length : Int) := by omega
      have H := Lk.mk (show Bm.hasL l i = false by unfold Bm.hasL; rw [if_neg (by omega), Int.toNat_natCast]; exact Bm.bitAt_out _ _ (by omega))
      clear hr hw
      generalize Bm.hasL l i = r at *
      go_enter Tryd.func120, Tryd.ntmps120
      go_wp2
      go_ret
      exact ⟨ret_bool (by rw [H.out]), rfl⟩
  · have H := Lk.mk (show Bm.hasL l i = false by unfold Bm.hasL; rw [if_pos (by omega)])
    clear hr hw
    generalize Bm.hasL l i = r at *
    go_enter Tryd.func120, Tryd.ntmps120
    go_wp2
    go_ret
    exact ⟨ret_bool (by rw [H.out]), rfl⟩

/-- the bits that are found up to i -/
def bitsTo (l : List Int) (i : Nat) : List Int := ((List.range i).filter (Bm.bitAt l)).map fun (j : Nat) => (j : Int)
theorem bitsTo_next (l : List Int) (i : Nat) : bitsTo l (i + 1) = if Bm.bitAt l i = true then bitsTo l i ++ [(i : Int)] else bitsTo l i := by
  unfold bitsTo
  rw [List.range_succ, List.filter_append, List.map_append]
  by_cases h : Bm.bitAt l i = true
  · rw [if_pos h]; simp [h]
  · rw [if_neg h]; simp [h]
theorem bitsTo_length (l : List Int) (i : Nat) : (bitsTo l i).length ≤ i := by
  unfold bitsTo
  rw [List.length_map]
  exact Nat.le_trans (List.length_filter_le _ _) (by simp)
theorem bitsTo_end (l : List Int) (n : Int) (i : Nat) (h1 : (i : Int) ≤ n ∨ i = 0) (h2 : i ≤ 64 * l.length) (h : ¬ ((i : Int) < n ∧ i < 64 * l.length)) : bitsTo l i = Bm.bitsL l n := by
  unfold bitsTo Bm.bitsL Bm.bitsN
  congr 1
  have : 64 * l.length = i + (64 * l.length - i) := by omega
  rw [this, List.range_add, List.filter_append]
  have e1 : (List.range i).filter (Bm.okBit l n) = (List.range i).filter (Bm.bitAt l) := by
    apply List.filter_congr
    intro j hj
    have := List.mem_range.1 hj
    unfold Bm.okBit
    rw [show decide ((j : Int) < n) = true from decide_eq_true (by omega), Bool.and_true]
  have e2 : ((List.range (64 * l.length - i)).map (i + ·)).filter (Bm.okBit l n) = [] := by
    rw [List.filter_eq_nil_iff]
    intro j hj
    obtain ⟨k, hk, rfl⟩ := List.mem_map.1 hj
    have := List.mem_range.1 hk
    unfold Bm.okBit
    rw [show decide (((i + k : Nat) : Int) < n) = false from decide_eq_false (by omega), Bool.and_false]
    decide
  rw [e1, e2, List.append_nil]

theorem ints_at (l : List Int) (k : Nat) (m : List Int) (hm : ¬ l.getD k 0 = m.getD k 0) : decide (l = m) = false := decide_eq_false (fun e => hm (by rw [e]))
end Go.Proofs.YtbikdngpannekaaDoor
