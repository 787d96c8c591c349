/-
  The walks of bitmap.has, of the library's IndexFunc and ContainsFunc at ints, and of bitmap.Has; conditions: what is handed in reads as told.
-/
import Derived.Test.YtbikdngpannekaaDoorBa
namespace Go.Proofs.YtbikdngpannekaaDoor
open Go.RowKit Go.Proofs.YtbikdngpannekaaDoorW.PrintWords

theorem shr_and (x : Nat) (j : Nat) : (x / 2 ^ j) % 2 = (x.testBit j).toNat := by
  rw [Nat.testBit_eq_decide_div_mod_eq]
  have := Nat.mod_two_eq_zero_or_one (x / 2 ^ j)
  rcases this with h | h <;> simp [h]

theorem shr_bit (x i : Nat) (hx : x < 18446744073709551616) : bits .and .u64 ((x : Int) / 2 ^ (i % 64)) 1 = if x.testBit (i % 64) then 1 else 0 := by
  have hq : x / 2 ^ (i % 64) ≤ x := Nat.div_le_self _ _
  have e2 : (x : Int) / 2 ^ (i % 64) = ((x / 2 ^ (i % 64) : Nat) : Int) := by rw [Int.natCast_ediv, Int.natCast_pow]; rfl
  rw [e2, show (1 : Int) = ((1 : Nat) : Int) from rfl, u64_and_nat _ _ (by omega) (by omega), nat_mask1, shr_and]
  cases x.testBit (i % 64) <;> rfl

set_option maxRecDepth 100000 in
set_option maxHeartbeats 1000000 in
theorem has_any (A : Option Addr) (c : Nat) (l : List Int) (i : Int) (w : World) (hr : ReadsInt w .u64 A l.length l) (hw : Bm.Words l) (hi : i ≤ 9223372036854775807) :
    Calls Tryd.prog 149 #[.slice A l.length c, .int .i64 i] w fun e w' => e = .returned (.bool (Bm.hasL l i)) ∧ w' = w := by
  have hm := hr.2.1
  by_cases h0 : 0 ≤ i
  · obtain ⟨i, rfl⟩ := Int.eq_ofNat_of_zero_le h0
    by_cases h1 : i / 64 < l.length
    · have h2 : (i : Int) / 64 < (l.length : Int) := by omega
      have h3 : 0 ≤ (i : Int) / 64 := by omega
      obtain ⟨ad, rfl, hcell⟩ := hr.at_ ((i : Int) / 64) h3 h2
      have e64 : ((i : Int) / 64).toNat = i / 64 := by omega
      obtain ⟨x, hx, hx1⟩ : ∃ x : Nat, rd l ((i : Int) / 64) = (x : Int) ∧ x < 18446744073709551616 := by
        have := hw (rd l ((i : Int) / 64)) (by unfold rd; rw [e64, List.getD_eq_getElem?_getD, List.getElem?_eq_getElem h1]; exact List.getElem_mem h1)
        exact ⟨(rd l ((i : Int) / 64)).toNat, by omega, by omega⟩
      have H := Lk.mk (show Bm.hasL l i = x.testBit (i % 64) by
        unfold Bm.hasL Bm.bitAt
        rw [if_neg (by omega)]
        unfold rd at hx
        rw [e64] at hx
        rw [Int.toNat_natCast, hx, Int.toNat_natCast])
      rw [hx, e64] at hcell
      have hs := shr_bit x i hx1
      clear hr hw hx e64 hx1
      generalize Bm.hasL l i = r at *
      cases hb : x.testBit (i % 64)
      · rw [hb, if_neg (by decide)] at hs
        obtain rfl : r = false := by rw [H.out, hb]
        clear hb H
        go_enter Tryd.func149, Tryd.ntmps149
        go_wp2
        go_ret
        exact ⟨rfl, rfl⟩
      · rw [hb, if_pos rfl] at hs
        obtain rfl : r = true := by rw [H.out, hb]
        clear hb H
        go_enter Tryd.func149, Tryd.ntmps149
        go_wp2
        go_ret
        exact ⟨rfl, rfl⟩
    · have h2 : ¬ (i : Int) / 64 < (l.length : Int) := by omega
      have H := Lk.mk (show Bm.hasL l i = false by unfold Bm.hasL; rw [if_neg (by omega), Int.toNat_natCast]; exact Bm.bitAt_out _ _ (by omega))
      clear hr hw h1
      generalize Bm.hasL l i = r at *
      obtain rfl := H.out
      clear H
      go_enter Tryd.func149, Tryd.ntmps149
      go_wp2
      go_ret
      exact ⟨rfl, rfl⟩
  · have H := Lk.mk (show Bm.hasL l i = false by unfold Bm.hasL; rw [if_pos (by omega)])
    generalize Bm.hasL l i = r at *
    obtain rfl := H.out
    clear H hr hw
    go_enter Tryd.func149, Tryd.ntmps149
    go_wp2
    go_ret
    exact ⟨rfl, rfl⟩

/-- the place of the first number of which p holds, or -1 -/
def idxL (p : Int → Bool) (l : List Int) : Int := if l.any p then ((l.findIdx p : Nat) : Int) else -1

-- The library's search, at any function value that answers p and leaves what lay.
set_option maxHeartbeats 1000000 in
theorem index_ints (A : Option Addr) (c : Nat) (l : List Int) (p : Int → Bool) (g : Nat) (lb : Array Value) (w : World) (eg : ∀ args w, (callFunc g args).run Tryd.prog w = .ok (.enter g args) w) (hr : ReadsInt w .i64 A l.length l)
    (hp : ∀ W x, x ∈ l → Below w.heap.size w W → Calls Tryd.prog g (#[.int .i64 x] ++ lb) W fun e W' => e = .returned (.bool (p x)) ∧ Below W.heap.size W W') :
    Calls Tryd.prog 153 #[.slice A l.length c, .func (.func g) #[] lb] w fun e w' => (∃ j : Int, e = .returned (.int .i64 j) ∧ decide (0 ≤ j) = l.any p) ∧ Below w.heap.size w w' := by
  have HR := Lk.mk hr
  have HP := Lk.mk hp
  have hm := hr.2.1
  clear hr hp
  go_enter Tryd.func153, Tryd.ntmps153
  go_wp2
  go_loopg [5, 8] l.length (fun gg _ v8 wr => ∃ kk : Nat, kk ≤ l.length ∧ l.length - kk ≤ gg ∧ v8 = .int .i64 kk ∧ Lk (∀ j, j < kk → p (l.getD j 0) = false) ∧ Lk (Below w.heap.size w wr))
  case atStart => exact ⟨0, by omega, by omega, rfl, ⟨fun j hj => absurd hj (by omega)⟩, ⟨Below.refl _ _⟩⟩
  case round =>
    obtain ⟨kk, hk, hg, rfl, HN, HB⟩ := hrel
    by_cases hlt : kk < l.length
    · obtain ⟨ad, rfl, hcell⟩ := (HR.out.below HB.out).at_ (kk : Int) (by omega) (by omega)
      have HX := Lk.mk (show rd l (kk : Int) = l.getD kk 0 by unfold rd; rw [Int.toNat_natCast])
      rw [Int.toNat_natCast, HX.out] at hcell
      have hltz : (kk : Int) < (l.length : Int) := by omega
      obtain ⟨x, hx⟩ : ∃ x, x = l.getD kk 0 := ⟨_, rfl⟩
      rw [← hx] at hcell
      have HXX := Lk.mk hx
      have HM := Lk.mk (show x ∈ l by rw [hx, List.getD_eq_getElem?_getD, List.getElem?_eq_getElem hlt]; exact List.getElem_mem hlt)
      have hq := Lk.mk (HP.out wr x HM.out HB.out)
      clear hx
      cases hpx : p x with
      | true =>
        rw [hpx] at hq
        have HPX := Lk.mk hpx
        clear hpx
        go_wp2_with (go_at_fn g; (with_reducible refine hq.out.mono ?_); rintro e w' ⟨rfl, hb⟩)
        go_ret
        refine ⟨⟨_, rfl, ?_⟩, below_then HB.out HB.out.size hb⟩
        have : l.any p = true := List.any_eq_true.2 ⟨x, HM.out, HPX.out⟩
        rw [this]; simp
      | false =>
        rw [hpx] at hq
        have HPX := Lk.mk hpx
        clear hpx
        go_wp2_with (go_at_fn g; (with_reducible refine hq.out.mono ?_); rintro e w' ⟨rfl, hb⟩)
        go_roundg (l.length - (kk + 1))
        case measure => omega
        case rel =>
          refine ⟨kk + 1, by omega, by omega, by go_num, ⟨fun j hj => ?_⟩, ⟨below_then HB.out HB.out.size hb⟩⟩
          by_cases e : j = kk
          · subst e; rw [← HXX.out]; exact HPX.out
          · exact HN.out j (by omega)
    · have hltz : ¬ (kk : Int) < (l.length : Int) := by omega
      obtain rfl : kk = l.length := by omega
      go_wp2
      go_ret
      refine ⟨⟨_, rfl, ?_⟩, HB.out⟩
      have : l.any p = false := by
        rw [List.any_eq_false]
        intro x hx
        obtain ⟨j, hj, rfl⟩ := List.getElem_of_mem hx
        have := HN.out j hj
        rw [List.getD_eq_getElem?_getD, List.getElem?_eq_getElem hj] at this
        simpa using this
      rw [this]; simp
set_option maxHeartbeats 1000000 in
theorem contains_ints (A : Option Addr) (c : Nat) (l : List Int) (p : Int → Bool) (g : Nat) (lb : Array Value) (w : World) (eg : ∀ args w, (callFunc g args).run Tryd.prog w = .ok (.enter g args) w) (hr : ReadsInt w .i64 A l.length l)
    (hp : ∀ W x, x ∈ l → Below w.heap.size w W → Calls Tryd.prog g (#[.int .i64 x] ++ lb) W fun e W' => e = .returned (.bool (p x)) ∧ Below W.heap.size W W') :
    Calls Tryd.prog 134 #[.slice A l.length c, .func (.func g) #[] lb] w fun e w' => e = .returned (.bool (l.any p)) ∧ Below w.heap.size w w' := by
  have HI := Lk.mk (index_ints A c l p g lb w eg hr hp)
  clear hr hp
  generalize l.any p = r at *
  go_enter Tryd.func134, Tryd.ntmps134
  go_wp2_with (go_at_call 153; (with_reducible refine HI.out.mono ?_); rintro e w' ⟨⟨j, rfl, hj⟩, hb⟩; have HJ := Lk.mk hj; clear hj)
  all_goals go_ret
  all_goals exact ⟨ret_bool (by rw [← HJ.out]), hb⟩
end Go.Proofs.YtbikdngpannekaaDoor
