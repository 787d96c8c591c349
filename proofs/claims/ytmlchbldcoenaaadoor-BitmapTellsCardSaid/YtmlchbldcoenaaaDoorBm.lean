/-
  The walks of the reference's Has, Bits, Ints; conditions: what is handed in reads as told.
-/
import Derived.Test.YtmlchbldcoenaaaDoorBi
namespace Go.Proofs.YtmlchbldcoenaaaDoor
open Go.RowKit Go.Proofs.YtmlchbldcoenaaaDoorW.PrintWords

theorem half_bit (x m : Nat) : decide (((x / 2 ^ m : Nat) : Int) % 2 = 1) = x.testBit m := by
  rw [Nat.testBit_eq_decide_div_mod_eq]
  congr 1
  apply propext
  omega
theorem half_step (x k : Nat) : x / 2 ^ k / 2 = x / 2 ^ (k + 1) := by rw [Nat.div_div_eq_div_mul, Nat.pow_succ]

set_option maxRecDepth 100000 in
set_option maxHeartbeats 1000000 in
theorem refHas_any (A : Option Addr) (c : Nat) (l : List Int) (i : Int) (w : World) (hr : ReadsInt w .u64 A l.length l) (hw : Bm.Words l) (hi : i ≤ 9223372036854775807) :
    Calls Tryd.prog 34 #[.slice A l.length c, .int .i64 i] w fun e w' => e = .returned (.bool (Bm.hasL l i)) ∧ w' = w := by
  have hm := hr.2.1
  by_cases h0 : 0 ≤ i
  · obtain ⟨i, rfl⟩ := Int.eq_ofNat_of_zero_le h0
    by_cases h1 : i / 64 < l.length
    · have h2 : (i : Int) / 64 < (l.length : Int) := by omega
      have h3 : 0 ≤ (i : Int) / 64 := by omega
      obtain ⟨ad, rfl, hcell⟩ := hr.at_ ((i : Int) / 64) h3 h2
      have e64 : ((i : Int) / 64).toNat = i / 64 := by omega
      obtain ⟨x, hx, hx1⟩ : ∃ x : Nat, rd l ((i : Int) / 64) = (x : Int) ∧ x < 18446744073709551616 := by
        have := hw (rd l ((i : Int) / 64)) (by unfold rd; rw [e64, List.getD_eq_getElem?_getD, List.getElem?_eq_getElem h1]; exact List.getElem_mem h1)
        exact ⟨(rd l ((i : Int) / 64)).toNat, by omega, by omega⟩
      have H := Lk.mk (show Bm.hasL l i = x.testBit (i % 64) by
        unfold Bm.hasL Bm.bitAt
        rw [if_neg (by omega)]
        unfold rd at hx
        rw [e64] at hx
        rw [Int.toNat_natCast, hx, Int.toNat_natCast])
      rw [hx, e64] at hcell
      clear hr hw hx e64
      generalize Bm.hasL l i = r at *
      go_enter Tryd.func34, Tryd.ntmps34
      go_wp2
      go_loopg [5, 6] 64 (fun gg v5 v6 wr => ∃ k : Nat, k ≤ i % 64 ∧ i % 64 - k ≤ gg ∧ v5 = .int .u64 ((x / 2 ^ k : Nat) : Int) ∧ v6 = .int .i64 k ∧ wr = w)
      case atStart => exact ⟨0, by omega, by omega, by rw [Nat.pow_zero, Nat.div_one], rfl, rfl⟩
      case round =>
        obtain ⟨k, hk, hg, rfl, rfl, rfl⟩ := hrel
        have hs := half_step x k
        have hb := half_bit x k
        have hle : x / 2 ^ k ≤ x := Nat.div_le_self _ _
        generalize x / 2 ^ k = y at *
        by_cases hlt : k < i % 64
        · have hltz : (k : Int) < (i : Int) % 64 := by omega
          go_wp2
          go_roundg (i % 64 - (k + 1))
          case measure => omega
          case rel => exact ⟨k + 1, by omega, by omega, by rw [← hs]; first | rfl | (congr 1; omega), by go_num, rfl⟩
        · have hltz : ¬ (k : Int) < (i : Int) % 64 := by omega
          obtain rfl : k = i % 64 := by omega
          go_wp2
          go_ret
          refine ⟨ret_bool ?_, rfl⟩
          rw [H.out, ← hb]
          first | rfl | (congr 1; done) | simp
    · have h2 : ¬ (i : Int) / 64 < (l.length : Int) := by omega
      have H := Lk.mk (show Bm.hasL l i = false by unfold Bm.hasL; rw [if_neg (by omega), Int.toNat_natCast]; exact Bm.bitAt_out _ _ (by omega))
      clear hr hw
      generalize Bm.hasL l i = r at *
      go_enter Tryd.func34, Tryd.ntmps34
      go_wp2
      go_ret
      exact ⟨ret_bool (by rw [H.out]), rfl⟩
  · have H := Lk.mk (show Bm.hasL l i = false by unfold Bm.hasL; rw [if_pos (by omega)])
    clear hr hw
    generalize Bm.hasL l i = r at *
    go_enter Tryd.func34, Tryd.ntmps34
    go_wp2
    go_ret
    exact ⟨ret_bool (by rw [H.out]), rfl⟩

/-- the bits that are found up to i -/
def bitsTo (l : List Int) (i : Nat) : List Int := ((List.range i).filter (Bm.bitAt l)).map fun (j : Nat) => (j : Int)
theorem bitsTo_next (l : List Int) (i : Nat) : bitsTo l (i + 1) = if Bm.bitAt l i = true then bitsTo l i ++ [(i : Int)] else bitsTo l i := by
  unfold bitsTo
  rw [List.range_succ, List.filter_append, List.map_append]
  by_cases h : Bm.bitAt l i = true
  · rw [if_pos h]; simp [h]
  · rw [if_neg h]; simp [h]
theorem bitsTo_length (l : List Int) (i : Nat) : (bitsTo l i).length ≤ i := by
  unfold bitsTo
  rw [List.length_map]
  exact Nat.le_trans (List.length_filter_le _ _) (by simp)
theorem bitsTo_end (l : List Int) (n : Int) (i : Nat) (h1 : (i : Int) ≤ n ∨ i = 0) (h2 : i ≤ 64 * l.length) (h : ¬ ((i : Int) < n ∧ i < 64 * l.length)) : bitsTo l i = Bm.bitsL l n := by
  unfold bitsTo Bm.bitsL Bm.bitsN
  congr 1
  have : 64 * l.length = i + (64 * l.length - i) := by omega
  rw [this, List.range_add, List.filter_append]
  have e1 : (List.range i).filter (Bm.okBit l n) = (List.range i).filter (Bm.bitAt l) := by
    apply List.filter_congr
    intro j hj
    have := List.mem_range.1 hj
    unfold Bm.okBit
    rw [show decide ((j : Int) < n) = true from decide_eq_true (by omega), Bool.and_true]
  have e2 : ((List.range (64 * l.length - i)).map (i + ·)).filter (Bm.okBit l n) = [] := by
    rw [List.filter_eq_nil_iff]
    intro j hj
    obtain ⟨k, hk, rfl⟩ := List.mem_map.1 hj
    have := List.mem_range.1 hk
    unfold Bm.okBit
    rw [show decide (((i + k : Nat) : Int) < n) = false from decide_eq_false (by omega), Bool.and_false]
    decide
  rw [e1, e2, List.append_nil]

set_option maxRecDepth 100000 in
set_option maxHeartbeats 1000000 in
theorem refBits_any (A : Option Addr) (c : Nat) (l : List Int) (n : Int) (w : World) (hr : ReadsInt w .u64 A l.length l) (hw : Bm.Words l) (hl : l.length ≤ 68719476736) :
    Calls Tryd.prog 18 #[.slice A l.length c, .int .i64 n] w fun e w' => ∃ v, e = .returned v ∧ w'.ownsRow w.heap.size 3 1 v (Bm.bitsL l n).length (nums .i64 (Bm.bitsL l n)) ∧ Below w.heap.size w w' := by
  have HR := Lk.mk hr
  have HW := Lk.mk hw
  have h64 : IntKind.i64.wrap (64 * (l.length : Int)) = 64 * (l.length : Int) := IntWalk.i64_in _ (by omega)
  clear hr hw
  go_enter Tryd.func18, Tryd.ntmps18
  go_wp2
  go_loopg [5, 6] (64 * l.length) (fun gg v5 v6 wr => ∃ i : Nat, i ≤ 64 * l.length ∧ 64 * l.length - i ≤ gg ∧ ((i : Int) ≤ n ∨ i = 0) ∧ v6 = .int .i64 i ∧ Lk (wr.ownsRow w.heap.size 3 1 v5 (bitsTo l i).length (nums .i64 (bitsTo l i))) ∧ Lk (Below w.heap.size w wr))
  case atStart =>
    exact ⟨0, by omega, by omega, .inr rfl, rfl, ⟨own_lit w w.heap.size 3 .i64 [] (Nat.le_refl _) (by simp)⟩, ⟨below_alloc (Below.refl _ _) _⟩⟩
  case round =>
    obtain ⟨i, hi, hg, hn, rfl, HO, HB⟩ := hrel
    obtain ⟨wo, rfl⟩ : ∃ wo : World, wo = wr := ⟨_, rfl⟩
    by_cases h1 : (i : Int) < n
    · by_cases h2 : (i : Int) < 64 * (l.length : Int)
      · have HH := Lk.mk (refHas_any A c l i wo (HR.out.below HB.out) HW.out (by omega))
        have HX := Lk.mk (bitsTo_next l i)
        have HLL := Lk.mk (bitsTo_length l i)
        rw [show Bm.hasL l (i : Int) = Bm.bitAt l i by unfold Bm.hasL; rw [if_neg (by omega), Int.toNat_natCast]] at HH
        cases hb : Bm.bitAt l i with
        | false =>
          rw [hb] at HH HX
          clear hb
          go_wp2_with (go_at_call 34; (with_reducible refine HH.out.mono ?_); rintro e w' ⟨rfl, rfl⟩)
          go_roundg (64 * l.length - (i + 1))
          case measure => omega
          case rel => exact ⟨i + 1, by omega, by omega, by omega, by go_num, ⟨by rw [HX.out]; exact HO.out⟩, HB⟩
        | true =>
          rw [hb] at HH HX
          clear hb
          go_wp2_with (first
            | (go_at_call 34; (with_reducible refine HH.out.mono ?_); rintro e w' ⟨rfl, rfl⟩)
            | (at_builtin; refine print_append_num (w0 := w) w.heap.size rfl _ _ 34 3 .i64 8 rfl Tryd.underlying34 info3 (by decide) _ (bitsTo l i) (i : Int) rfl rfl ?q1 ?q3 ?q4 ?q5 ?_))
          case q1 => exact HO.out
          case q3 => exact HB.out
          case q4 => exact HB.out.size
          case q5 => have := HLL.out; omega
          intro v1 w1 hown hb _ _
          have HO1 := Lk.mk hown
          have HB1 := Lk.mk hb
          clear hown hb
          go_wp2
          go_roundg (64 * l.length - (i + 1))
          case measure => omega
          case rel => exact ⟨i + 1, by omega, by omega, by omega, by go_num, ⟨by rw [HX.out, if_pos trivial, List.length_append]; exact HO1.out⟩, HB1⟩
      · go_wp2
        go_ret
        refine ⟨_, rfl, ?_, HB.out⟩
        rw [← bitsTo_end l n i hn hi (by omega)]
        exact HO.out
    · go_wp2
      go_ret
      refine ⟨_, rfl, ?_, HB.out⟩
      rw [← bitsTo_end l n i hn hi (by omega)]
      exact HO.out

theorem ints_at (l : List Int) (k : Nat) (m : List Int) (hm : ¬ l.getD k 0 = m.getD k 0) : decide (l = m) = false := decide_eq_false (fun e => hm (by rw [e]))
set_option maxRecDepth 100000 in
set_option maxHeartbeats 1000000 in
theorem refInts_any (A : Option Addr) (c : Nat) (l : List Int) (B : Option Addr) (d : Nat) (m : List Int) (w : World) (hr : ReadsInt w .i64 A l.length l) (hr2 : ReadsInt w .i64 B m.length m) :
    Calls Tryd.prog 17 #[.slice A l.length c, .slice B m.length d] w fun e w' => e = .returned (.bool (decide (l = m))) ∧ Below w.heap.size w w' := by
  have hm1 := hr.2.1
  have hm2 := hr2.2.1
  have HR := Lk.mk hr
  have HR2 := Lk.mk hr2
  clear hr hr2
  by_cases hlen : l.length = m.length
  · rw [← hlen] at HR2 hm2 ⊢
    have HLEN := Lk.mk hlen
    clear hlen
    go_enter Tryd.func17, Tryd.ntmps17
    go_wp2
    go_loopg [5, 13] l.length (fun gg _ v13 wr => ∃ k : Nat, k ≤ l.length ∧ l.length - k ≤ gg ∧ v13 = .int .i64 k ∧ Lk (∀ j, j < k → l.getD j 0 = m.getD j 0) ∧ Lk (Below w.heap.size w wr))
    case atStart => exact ⟨0, by omega, by omega, rfl, ⟨fun j hj => absurd hj (by omega)⟩, ⟨Below.refl _ _⟩⟩
    case round =>
      obtain ⟨k, hk, hg, rfl, HE, HB⟩ := hrel
      obtain ⟨wo, rfl⟩ : ∃ wo : World, wo = wr := ⟨_, rfl⟩
      by_cases hlt : k < l.length
      · have hltz : (k : Int) < (l.length : Int) := by omega
        obtain ⟨ad1, rfl, hc1⟩ := (HR.out.below HB.out).at_ (k : Int) (by omega) hltz
        obtain ⟨ad2, rfl, hc2⟩ := (HR2.out.below HB.out).at_ (k : Int) (by omega) hltz
        rw [Int.toNat_natCast] at hc1 hc2
        have HX := Lk.mk (show rd l k = l.getD k 0 by unfold rd; rw [Int.toNat_natCast])
        have HY := Lk.mk (show rd m k = m.getD k 0 by unfold rd; rw [Int.toNat_natCast])
        generalize rd l k = x at *
        generalize rd m k = y at *
        have hd1 := pw_cell_below (below_drew (Below.refl wo.heap.size wo)) hc1
        have hd2 := pw_cell_below (below_drew (Below.refl wo.heap.size wo)) hc2
        by_cases hxy : x = y
        · have HXY := Lk.mk hxy
          subst hxy
          go_wp2
          go_region
          go_wp2
          go_roundg (l.length - (k + 1))
          case measure => omega
          case rel =>
            refine ⟨k + 1, by omega, by omega, by go_num, ⟨fun j hj => ?_⟩, ⟨below_drew HB.out⟩⟩
            by_cases e : j = k
            · subst e; rw [← HX.out, ← HY.out]
            · exact HE.out j (by omega)
        · have H := Lk.mk (ints_at l k m (by rw [← HX.out, ← HY.out]; exact hxy))
          go_wp2
          go_region
          go_wp2
          go_ret
          exact ⟨ret_bool (by rw [H.out]), below_drew HB.out⟩
      · have hltz : ¬ (k : Int) < (l.length : Int) := by omega
        obtain rfl : k = l.length := by omega
        go_wp2
        go_ret
        refine ⟨ret_bool ?_, HB.out⟩
        symm
        apply decide_eq_true
        apply List.ext_getElem HLEN.out
        intro j h1 h2
        have := HE.out j h1
        rwa [List.getD_eq_getElem?_getD, List.getElem?_eq_getElem h1, List.getD_eq_getElem?_getD, List.getElem?_eq_getElem h2] at this
  · have hlz : ¬ (l.length : Int) = (m.length : Int) := by omega
    have H := Lk.mk (show decide (l = m) = false from decide_eq_false (fun e => hlen (by rw [e])))
    generalize decide (l = m) = r at *
    go_enter Tryd.func17, Tryd.ntmps17
    go_wp2
    go_ret
    exact ⟨ret_bool (by rw [H.out]), Below.refl _ _⟩
end Go.Proofs.YtmlchbldcoenaaaDoor
