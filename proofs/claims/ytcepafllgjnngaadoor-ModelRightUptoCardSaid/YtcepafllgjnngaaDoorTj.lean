/-
  Plain: a right row stays right; what an act leaves; conditions: none.
-/
import Derived.Test.YtcepafllgjnngaaDoorTi
import Derived.Test.YtcepafllgjnngaaDoorPx
namespace Go.Proofs.YtcepafllgjnngaaDoor
open Go.RowKit Go.Proofs.YtcepafllgjnngaaDoorW.PrintWords

theorem fits_ne {ptr : Int → Int → Bool} {l : List Af} {d s : Int} {v : Sl.Vl} : ¬ fitsN ptr l d s v = 9 := by
  unfold fitsN
  repeat' split
  all_goals decide
theorem set_ne {ptr : Int → Int → Bool} {l : List Af} {d s : Int} {v : Sl.Vl} : ¬ setN ptr l d s v = 9 := by
  unfold setN
  split
  · exact fits_ne
  · decide
theorem refers_ne {ptr : Int → Int → Bool} {l : List Af} {d s : Int} : ¬ refersN ptr l d s = 9 := by
  unfold refersN
  repeat' split
  all_goals decide
theorem write_ne {ptr : Int → Int → Bool} {l : List Af} {d s : Int} : ¬ writeN ptr l d s = 9 := by
  unfold writeN
  repeat' split
  · decide
  · decide
  · exact refers_ne
theorem calc_ne {ptr : Int → Int → Bool} {l : List Af} {op d : Int} {sl : List Int} : ¬ calcN ptr l op d sl = 9 := by
  unfold calcN
  repeat' split
  all_goals decide
theorem act_ne {ent : List (Int × (List Int × List Int))} {l : List Af} {kd f d s op : Int} {v : Sl.Vl} {sl : List Int} : ¬ actN ent l kd f d s v op sl = 9 := by
  unfold actN
  repeat' split
  all_goals first
    | exact set_ne
    | exact refers_ne
    | exact write_ne
    | exact calc_ne
    | (unfold getN; split <;> decide)
    | decide
theorem right_take {sz : Int → Int} {ptr : Int → Int → Bool} {l : List Af} {m : Nat} (hR : RightP sz ptr l) : RightP sz ptr (l.take m) := by
  have hl : (l.take m).length = min m l.length := List.length_take
  have hg : ∀ d, d < (l.take m).length → (l.take m).getD d dAf = l.getD d dAf := fun d hd => by
    rw [List.getD_eq_getElem?_getD, List.getElem?_take, if_pos (by omega), ← List.getD_eq_getElem?_getD]
  refine ⟨fun d hd => ?_, fun d i hd hi => ?_⟩
  · rw [hg d hd]; exact hR.1 d (by omega)
  · have h0 := hR.2 d i (by omega) (by rw [hg d hd] at hi; exact hi)
    unfold slotV at h0 ⊢
    rw [hg d hd] at hi ⊢
    generalize (l.getD d dAf).2.getD i Sl.dVl = v at *
    unfold fitsN at h0 ⊢
    rw [Int.toNat_natCast] at h0 ⊢
    rw [hg d hd]
    by_cases h1 : Sl.mayV v = true
    · rw [if_pos h1] at h0 ⊢
      by_cases h2 : ptr (l.getD d dAf).1 i = !(decide (v.1 = 1))
      · rw [if_pos h2] at h0 ⊢
        by_cases h3 : v.1 = 2
        · rw [if_pos h3] at h0 ⊢
          by_cases h4 : hasA l v.2.2.1 v.2.2.2 = true
          · rw [if_pos h4] at h0
            by_cases h5 : v.2.2.1 ≤ (d : Int)
            · obtain ⟨k, j, e1, e2, hk, hj⟩ := has_inv h4
              rw [e1] at h5
              have h6 : hasA (l.take m) v.2.2.1 v.2.2.2 = true := by
                rw [e1, e2]
                exact has_nat (by omega) (by rw [hg k (by omega)]; exact hj)
              rw [if_pos h6, if_pos (by omega)]
            · rw [if_neg h5] at h0; exact absurd h0 (by decide)
          · rw [if_neg h4] at h0; exact absurd h0 (by decide)
        · rw [if_neg h3] at h0 ⊢
      · rw [if_neg h2] at h0; exact absurd h0 (by decide)
    · rw [if_neg h1] at h0; exact absurd h0 (by decide)
/-- other bits fit where bits are -/
theorem bits_fits {sz : Int → Int} {ptr : Int → Int → Bool} {l : List Af} (hR : RightP sz ptr l) {d s x : Int} (h : hasA l d s = true) (hp : ptr (l.getD d.toNat dAf).1 s = false) : setN ptr l d s (bitsZ l d s x) = 0 := by
  obtain ⟨k, i, rfl, rfl, hk, hi⟩ := has_inv h
  have h0 := hR.2 k i hk hi
  rw [show slotV l k i = slotZ l k i by unfold slotV slotZ; rw [Int.toNat_natCast, Int.toNat_natCast]] at h0
  unfold setN
  rw [if_pos h]
  unfold bitsZ
  generalize slotZ l k i = z at *
  obtain ⟨z0, z1, z2, z3⟩ := z
  unfold fitsN at h0 ⊢
  by_cases h1 : Sl.mayV (z0, z1, z2, z3) = true
  · rw [if_pos h1, hp] at h0
    by_cases h2 : z0 = 1
    · subst h2
      have h3 : Sl.mayV (1, x, z2, z3) = true := by
        unfold Sl.mayV at h1 ⊢
        exact h1
      dsimp only at *
      rw [if_pos h3, hp]
      rfl
    · rw [if_neg (by rw [decide_eq_false h2]; decide)] at h0
      exact absurd h0 (by decide)
  · rw [if_neg h1] at h0; exact absurd h0 (by decide)
theorem write_as {sz : Int → Int} {ptr : Int → Int → Bool} {l : List Af} (hR : RightP sz ptr l) {d s x : Int} : ∃ k i v, writeR ptr l d s x = setR ptr l k i v ∧ (writeN ptr l d s = 0 → v = bitsZ l k i x ∧ hasA l k i = true) := by
  unfold writeR
  by_cases h : writeN ptr l d s = 0
  · rw [if_pos h]
    have h0 : refersN ptr l d s = 0 := by
      by_cases h0 : refersN ptr l d s = 0
      · exact h0
      · unfold writeN at h; rw [if_neg h0] at h; exact h
    have hT := right_ref hR (refers_has h0) (refers_two h0)
    have hp : ptr (l.getD (slotZ l d s).2.2.1.toNat dAf).1 (slotZ l d s).2.2.2 = false := by
      unfold writeN at h
      rw [if_pos h0] at h
      cases hq : ptr (l.getD (slotZ l d s).2.2.1.toNat dAf).1 (slotZ l d s).2.2.2 with
      | false => rfl
      | true => rw [hq, if_pos rfl] at h; exact absurd h (by decide)
    refine ⟨(slotZ l d s).2.2.1, (slotZ l d s).2.2.2, bitsZ l (slotZ l d s).2.2.1 (slotZ l d s).2.2.2 x, ?_, fun _ => ⟨rfl, hT⟩⟩
    unfold setR writeL
    rw [if_pos (bits_fits hR hT hp)]
  · rw [if_neg h]
    exact ⟨-1, 0, Sl.dVl, by unfold setR; rw [if_neg (by unfold setN; rw [if_neg (by unfold hasA; simp)]; decide)], fun e => absurd e h⟩
theorem calc_as {sz : Int → Int} {ptr : Int → Int → Bool} {l : List Af} (hR : RightP sz ptr l) {op d : Int} {sl : List Int} : ∃ k i v, calcR ptr l op d sl = setR ptr l k i v ∧ (calcN ptr l op d sl = 0 → v = bitsZ l k i (calcX l op d sl) ∧ hasA l k i = true) := by
  unfold calcR
  by_cases h : calcN ptr l op d sl = 0
  · rw [if_pos h]
    unfold calcN at h
    by_cases h1 : sl.length = 3 ∧ 1 ≤ op ∧ op ≤ 10
    · rw [if_pos h1] at h
      by_cases h2 : ∀ j, j < 3 → hasA l d (sl.getD j 0) = true
      · rw [if_pos h2] at h
        by_cases h3 : ∀ j, j < 3 → ptr (l.getD d.toNat dAf).1 (sl.getD j 0) = false
        · refine ⟨d, sl.getD 0 0, bitsZ l d (sl.getD 0 0) (calcX l op d sl), ?_, fun _ => ⟨rfl, h2 0 (by decide)⟩⟩
          unfold setR calcL
          rw [if_pos (bits_fits hR (h2 0 (by decide)) (h3 0 (by decide)))]
        · rw [if_neg h3] at h; exact absurd h (by decide)
      · rw [if_neg h2] at h; exact absurd h (by decide)
    · rw [if_neg h1] at h; exact absurd h (by decide)
  · rw [if_neg h]
    exact ⟨-1, 0, Sl.dVl, by unfold setR; rw [if_neg (by unfold setN; rw [if_neg (by unfold hasA; simp)]; decide)], fun e => absurd e h⟩
theorem act_right {ent : List (Int × (List Int × List Int))} {l : List Af} {kd f d s x op : Int} {v : Sl.Vl} {sl : List Int} (hR : RightP (tSize ent) (tPtr ent) l) : RightP (tSize ent) (tPtr ent) (actL ent l kd f d s v x op sl) := by
  unfold actL
  split
  · split
    · exact right_call hR (by assumption)
    · exact hR
  · split
    · split
      · exact right_take hR
      · exact hR
    · split
      · exact right_set hR
      · split
        · exact hR
        · split
          · exact hR
          · split
            · obtain ⟨k, i, v, e, _⟩ := write_as (x := x) (d := d) (s := s) hR
              rw [e]; exact right_set hR
            · obtain ⟨k, i, v, e, _⟩ := calc_as (op := op) (d := d) (sl := sl) hR
              rw [e]; exact right_set hR
theorem act_same {ent : List (Int × (List Int × List Int))} {l : List Af} {kd f d s x op : Int} {v : Sl.Vl} {sl : List Int} (h : ¬ actN ent l kd f d s v op sl = 0) : actL ent l kd f d s v x op sl = l := by
  unfold actN at h
  unfold actL
  split
  · rename_i h0; rw [if_pos h0] at h
    split
    · rename_i h1; rw [if_pos h1] at h; exact absurd rfl h
    · rfl
  · rename_i h0; rw [if_neg h0] at h
    split
    · rename_i h1; rw [if_pos h1] at h
      split
      · rename_i h2; rw [if_pos h2] at h; exact absurd rfl h
      · rfl
    · rename_i h1; rw [if_neg h1] at h
      split
      · rename_i h2; rw [if_pos h2] at h; unfold setR; rw [if_neg h]
      · rename_i h2; rw [if_neg h2] at h
        split
        · rfl
        · rename_i h3; rw [if_neg h3] at h
          split
          · rfl
          · rename_i h4; rw [if_neg h4] at h
            split
            · rename_i h5; rw [if_pos h5] at h; unfold writeR; rw [if_neg h]
            · rename_i h5; rw [if_neg h5] at h; unfold calcR; rw [if_neg h]
theorem fin_lt19 {r : Nat} (h : r < 18446744073709551616) : FlPlain.fin r < 18446744073709551616 := by unfold FlPlain.fin; split <;> omega
theorem ref_lt19 {op a b : Nat} (ha : a < 18446744073709551616) (hb : b < 18446744073709551616) : FlPlain.ref op a b < 18446744073709551616 := by
  rw [← FlPlain.own_ref ha hb]
  have hor : ∀ o : Option Nat, (∀ r, o = some r → r < 18446744073709551616) → FlPlain.orNan o < 18446744073709551616 := fun o h => by
    cases o with
    | none => show 9221120237041090561 < _; omega
    | some r => exact fin_lt19 (h r rfl)
  have htr : ∀ c : Bool, FlPlain.truth c < 18446744073709551616 := fun c => by unfold FlPlain.truth; split <;> omega
  apply hor
  intro r
  unfold FlPlain.own
  split
  · intro h; rw [← Flt.width64]; exact Ieee.Format.add_lt _ h
  split
  · intro h; rw [← Flt.width64]; exact Ieee.Format.sub_lt _ h
  split
  · intro h; rw [← Flt.width64]; exact Ieee.Format.mul_lt _ h
  split
  · intro h; rw [← Flt.width64]; exact Ieee.Format.div_lt _ h
  split
  · intro h; injection h with h; rw [← h]; exact htr _
  split
  · intro h; injection h with h; rw [← h]; exact htr _
  split
  · unfold FlPlain.least2
    split
    · intro h; cases h
    · intro h; injection h with h; omega
    · intro h; injection h with h; omega
    · intro h; injection h with h; split at h <;> omega
  split
  · unfold FlPlain.most2
    split
    · intro h; cases h
    · intro h; injection h with h; omega
    · intro h; injection h with h; omega
    · intro h; injection h with h; split at h <;> omega
  split
  · intro h; injection h with h; rw [← h]; exact Nat.xor_lt_two_pow (n := 64) ha (by decide)
  · intro h; rw [← Flt.width64]; exact Ieee.Format.sqrt_lt _ h
theorem slot_in {l : List Af} (h : AfIn l) {d s : Int} (hh : hasA l d s = true) : VlIn (slotZ l d s) := by
  obtain ⟨k, i, rfl, rfl, hk, hi⟩ := has_inv hh
  unfold slotZ
  rw [Int.toNat_natCast, Int.toNat_natCast]
  exact h _ (getD_mem dAf hk) _ (getD_mem Sl.dVl hi)
theorem act_in {ent : List (Int × (List Int × List Int))} {l : List Af} {kd f d s x op : Int} {v : Sl.Vl} {sl : List Int} (hR : RightP (tSize ent) (tPtr ent) l) (h : AfIn l) (hv : VlIn v) (hx : 0 ≤ x ∧ x ≤ 18446744073709551615) : AfIn (actL ent l kd f d s v x op sl) := by
  unfold actL
  split
  · split
    · exact afin_call h ent f
    · exact h
  · split
    · split
      · exact fun g hg => h g (List.mem_of_mem_take hg)
      · exact h
    · split
      · exact afin_set h hv
      · split
        · exact h
        · split
          · exact h
          · split
            · obtain ⟨k, i, u, e, hu⟩ := write_as (x := x) (d := d) (s := s) hR
              by_cases h0 : writeN (tPtr ent) l d s = 0
              · obtain ⟨rfl, hh⟩ := hu h0
                rw [e]
                have hz := slot_in h hh
                exact afin_set h ⟨hz.1, hx, hz.2.2.1, hz.2.2.2⟩
              · unfold writeR; rw [if_neg h0]; exact h
            · obtain ⟨k, i, u, e, hu⟩ := calc_as (op := op) (d := d) (sl := sl) hR
              by_cases h0 : calcN (tPtr ent) l op d sl = 0
              · obtain ⟨rfl, hh⟩ := hu h0
                rw [e]
                have hz := slot_in h hh
                exact afin_set h ⟨hz.1, by
                  show 0 ≤ calcX l op d sl ∧ calcX l op d sl ≤ 18446744073709551615
                  unfold calcN at h0
                  have h1 : hasA l d (sl.getD 1 0) = true ∧ hasA l d (sl.getD 2 0) = true := by
                    by_cases g1 : sl.length = 3 ∧ 1 ≤ op ∧ op ≤ 10
                    · rw [if_pos g1] at h0
                      by_cases g2 : ∀ j, j < 3 → hasA l d (sl.getD j 0) = true
                      · exact ⟨g2 1 (by decide), g2 2 (by decide)⟩
                      · rw [if_neg g2] at h0; exact absurd h0 (by decide)
                    · rw [if_neg g1] at h0; exact absurd h0 (by decide)
                  have z1 := (slot_in h h1.1).2.1
                  have z2 := (slot_in h h1.2).2.1
                  unfold calcX
                  have hlt := ref_lt19 (op := op.toNat) (a := (slotZ l d (sl.getD 1 0)).2.1.toNat) (b := (slotZ l d (sl.getD 2 0)).2.1.toNat) (by omega) (by omega)
                  omega, hz.2.2.1, hz.2.2.2⟩
              · unfold calcR; rw [if_neg h0]; exact h
end Go.Proofs.YtcepafllgjnngaaDoor
