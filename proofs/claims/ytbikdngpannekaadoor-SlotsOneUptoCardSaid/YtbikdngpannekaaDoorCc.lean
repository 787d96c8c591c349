/-
  The walks of slots.Find and of the reference's Size, Address, Find; conditions: what is handed in reads as told.
-/
import Derived.Test.YtbikdngpannekaaDoorCa
import Derived.Test.YtbikdngpannekaaDoorCb
namespace Go.Proofs.YtbikdngpannekaaDoor
open Go.RowKit Go.Proofs.YtbikdngpannekaaDoorW.PrintWords

theorem hit_iff (sz : Int → Int) (a : Int) (x : Sl.Fr) : Sl.hit sz a x = true ↔ 0 ≤ x.1 ∧ x.1 ≤ 1099511627776 ∧ x.1 + 2 ≤ a ∧ a - x.1 - 2 < sz x.2.1 := by
  unfold Sl.hit; simp only [Bool.and_eq_true, decide_eq_true_eq]; omega
theorem sizeS_cases (sz : Int → Int) (x : Sl.Fr) : Sl.sizeS sz x = 0 ∨ (Sl.sizeS sz x = sz x.2.1 ∧ 0 ≤ x.1 ∧ x.1 ≤ 1099511627776) := by
  unfold Sl.sizeS
  by_cases h : x.1 < 0 ∨ 1099511627776 < x.1
  · rw [if_pos h]; omega
  · rw [if_neg h]; omega
/-- what the program asks of a frame: is the address one of its slots' -/
theorem hit_size {sz : Int → Int} {a : Int} {x : Sl.Fr} : Sl.hit sz a x = true ↔ x.1 ≤ a ∧ 0 ≤ a - x.1 - 2 ∧ a - x.1 - 2 < Sl.sizeS sz x := by
  rw [hit_iff]
  unfold Sl.sizeS
  by_cases h : x.1 < 0 ∨ 1099511627776 < x.1
  · rw [if_pos h]; omega
  · rw [if_neg h]; omega
theorem ret_iib {a b a' b' : Int} {c c' : Bool} (h1 : a = a') (h2 : b = b') (h3 : c = c') : Ending.returned (.tuple #[.int .i64 a, .int .i64 b, .bool c]) = .returned (.tuple #[.int .i64 a', .int .i64 b', .bool c']) := by rw [h1, h2, h3]
theorem find_yes' {sz : Int → Int} {l : List Sl.Fr} {a : Int} {k : Nat} {x : Sl.Fr} (h : Sl.findAt sz l a = some k) (hx : x = l.getD k Sl.dFr) : Sl.findD sz l a = k ∧ Sl.findI sz l a = a - x.1 - 2 ∧ Sl.findB sz l a = true := by
  subst hx; exact Sl.find_yes h

set_option maxRecDepth 100000 in
set_option maxHeartbeats 2000000 in
theorem find_any (p : Value) (ent : List (Int × (List Int × List Int))) (A : Option Addr) (c : Nat) (l : List Sl.Fr) (a : Int) (w : World) (h : TblOr w p ent) (hr : kFr.C w A l.length l) (hI : FrIn l) (he : EntIn ent) (ha : -9223372036854775808 ≤ a ∧ a ≤ 9223372036854775807) :
    Calls Tryd.prog 22 #[p, .slice A l.length c, .int .i64 a] w fun e w' => e = .returned (.tuple #[.int .i64 (Sl.findD (tSize ent) l a), .int .i64 (Sl.findI (tSize ent) l a), .bool (Sl.findB (tSize ent) l a)]) ∧ Below w.heap.size w w' := by
  have hm := hr.2.1
  have HR := Lk.mk hr
  have HI := Lk.mk hI
  have HS := Lk.mk (fun W (hb : Below w.heap.size w W) x => ssize_any p ent x W (h.below hb) he)
  clear h hr hI
  go_enter Tryd.func22, Tryd.ntmps22
  go_wp2
  go_loopg [14] l.length (fun gg v14 wr => ∃ kk : Nat, kk ≤ l.length ∧ l.length - kk ≤ gg ∧ v14 = .int .i64 kk ∧ Lk (∀ j, j < kk → Sl.hit (tSize ent) a (l.getD j Sl.dFr) = false) ∧ Lk (Below w.heap.size w wr))
  case atStart => exact ⟨0, by omega, by omega, rfl, ⟨fun j hj => absurd hj (by omega)⟩, ⟨Below.refl _ _⟩⟩
  case round =>
    obtain ⟨kk, hk, hg, rfl, HN, HB⟩ := hrel
    by_cases hlt : kk < l.length
    · obtain ⟨ad, rfl, c0, c1, c2⟩ := kFr_at (Kd.C_below HR.out HB.out) kk hlt
      have hltz : (kk : Int) < (l.length : Int) := by omega
      obtain ⟨x, hx⟩ : ∃ x, x = l.getD kk Sl.dFr := ⟨_, rfl⟩
      rw [← hx] at c0 c1 c2
      have hxi := HI.out x (by rw [hx]; exact getD_mem _ hlt)
      have HX := Lk.mk hx
      have HN2 := Lk.mk (show Sl.hit (tSize ent) a x = false → ∀ j, j < kk + 1 → Sl.hit (tSize ent) a (l.getD j Sl.dFr) = false from fun h j hj => by
        by_cases e : j = kk
        · subst e; rw [← HX.out]; exact h
        · exact HN.out j (by omega))
      have HH := Lk.mk (hit_size (sz := tSize ent) (a := a) (x := x))
      have HB1 := Lk.mk (below_alloc HB.out (.cells #[.int .i64 x.1, .int .i64 x.2.1, .int .i64 x.2.2] 52))
      have HZ := Lk.mk (HS.out _ HB1.out x)
      clear hx
      have HQ := Lk.mk (sizeS_cases (tSize ent) x)
      have HF := Lk.mk (fun h : Sl.hit (tSize ent) a x = true => find_yes' (Sl.findAt_some hlt HN.out (by rw [← HX.out]; exact h)) HX.out)
      generalize Sl.hit (tSize ent) a x = b at *
      generalize Sl.sizeS (tSize ent) x = z at *
      by_cases h1 : a < x.1
      · have hb : b = false := by
          cases b with
          | false => rfl
          | true => have := HH.out.1 rfl; omega
        subst hb
        go_wp2
        go_roundg (l.length - (kk + 1))
        case measure => omega
        case rel => exact ⟨kk + 1, by omega, by omega, by go_num, ⟨HN2.out (by first | rfl | trivial)⟩, HB1⟩
      · have h1' : x.1 ≤ a := by omega
        by_cases h2 : 0 ≤ x.1 ∧ x.1 ≤ 1099511627776
        · by_cases h3 : 0 ≤ a - x.1 - 2 ∧ a - x.1 - 2 < z
          · have hb : b = true := HH.out.2 ⟨h1', h3.1, h3.2⟩
            subst hb
            obtain ⟨e1, e2, e3⟩ := HF.out rfl
            have HE := Lk.mk (And.intro e1 (And.intro e2 e3))
            clear e1 e2 e3
            obtain ⟨h31, h32⟩ := h3
            have h31' : 2 ≤ a - x.1 := by omega
            go_wp2_with (go_at_call 68; (with_reducible refine (HZ.out).mono ?_); rintro e w1 ⟨rfl, hb⟩)
            obtain ⟨e1, e2, e3⟩ := HE.out
            go_ret3
            exact ⟨ret_iib e1.symm e2.symm e3.symm, below_then HB1.out HB1.out.size hb⟩
          · have hb : b = false := by
              cases b with
              | false => rfl
              | true => have := HH.out.1 rfl; omega
            subst hb
            by_cases h4 : a - x.1 < 2
            · go_wp2
              go_roundg (l.length - (kk + 1))
              case measure => omega
              case rel => exact ⟨kk + 1, by omega, by omega, by go_num, ⟨HN2.out (by first | rfl | trivial)⟩, HB1⟩
            · have h5 : z ≤ a - x.1 - 2 := by omega
              have h6 : 2 ≤ a - x.1 := by omega
              clear h3
              go_wp2_with (go_at_call 68; (with_reducible refine (HZ.out).mono ?_); rintro e w1 ⟨rfl, hb⟩; have HB2 := Lk.mk (below_then HB1.out HB1.out.size hb); clear hb)
              go_roundg (l.length - (kk + 1))
              case measure => omega
              case rel => exact ⟨kk + 1, by omega, by omega, by go_num, ⟨HN2.out (by first | rfl | trivial)⟩, HB2⟩
        · have hz : z = 0 := by have := HQ.out; omega
          subst hz
          have hb : b = false := by
            cases b with
            | false => rfl
            | true => have := HH.out.1 rfl; omega
          subst hb
          by_cases h4 : wrap64 (wrap64 (a - x.1) - 2) < 0
          · go_wp2
            go_roundg (l.length - (kk + 1))
            case measure => omega
            case rel => exact ⟨kk + 1, by omega, by omega, by go_num, ⟨HN2.out (by first | rfl | trivial)⟩, HB1⟩
          · go_wp2_with (go_at_call 68; (with_reducible refine (HZ.out).mono ?_); rintro e w1 ⟨rfl, hb⟩; have HB2 := Lk.mk (below_then HB1.out HB1.out.size hb); clear hb)
            go_roundg (l.length - (kk + 1))
            case measure => omega
            case rel => exact ⟨kk + 1, by omega, by omega, by go_num, ⟨HN2.out (by first | rfl | trivial)⟩, HB2⟩
    · have hltz : ¬ (kk : Int) < (l.length : Int) := by omega
      obtain rfl : kk = l.length := by omega
      have HE := Lk.mk (Sl.find_no (Sl.findAt_none HN.out))
      go_wp2
      go_ret3
      obtain ⟨e1, e2, e3⟩ := HE.out
      exact ⟨ret_iib e1.symm e2.symm e3.symm, HB.out⟩
end Go.Proofs.YtbikdngpannekaaDoor
