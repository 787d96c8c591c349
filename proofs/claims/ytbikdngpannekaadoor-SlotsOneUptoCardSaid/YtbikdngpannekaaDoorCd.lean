/-
  The walks of the reference's Size, Address and Find of slots; conditions: what is handed in reads as told.
-/
import Derived.Test.YtbikdngpannekaaDoorCc
namespace Go.Proofs.YtbikdngpannekaaDoor
open Go.RowKit Go.Proofs.YtbikdngpannekaaDoorW.PrintWords

set_option maxRecDepth 100000 in
set_option maxHeartbeats 2000000 in
theorem refSSize_any (A : Option Addr) (c : Nat) (t : List (Int × List Int)) (x : Sl.Fr) (w : World) (hr : FnC w A t.length t) (he : ∀ f, -1 ≤ lSize t f ∧ lSize t f ≤ 1000) :
    Calls Tryd.prog 69 #[.slice A t.length c, .agg #[.int .i64 x.1, .int .i64 x.2.1, .int .i64 x.2.2]] w fun e w' => e = .returned (.int .i64 (Sl.sizeS (lSize t) x)) ∧ Below w.heap.size w w' := by
  obtain ⟨a, f, k⟩ := x
  have h0 : Below w.heap.size w (w.alloc (.cells #[.int .i64 a, .int .i64 f, .int .i64 k] 52)) := below_alloc (Below.refl _ _) _
  have HS := Lk.mk (refSize_any A c t f _ (hr.below h0))
  have H0 := Lk.mk h0
  have hn := he f
  have H := Lk.mk (show Sl.sizeS (lSize t) (a, f, k) = if a < 0 ∨ 1099511627776 < a then 0 else max 0 (lSize t f) from rfl)
  generalize Sl.sizeS (lSize t) (a, f, k) = r at *
  generalize lSize t f = n at *
  clear hr h0 he
  go_enter Tryd.func69, Tryd.ntmps69
  go_wp2_with (go_at_call 35; (with_reducible refine (HS.out).mono ?_); rintro e w' ⟨rfl, hw⟩; obtain rfl := hw.symm; clear hw)
  all_goals go_ret
  all_goals refine ⟨ret_int ?_, H0.out⟩
  all_goals rw [H.out]
  all_goals (first | (rw [if_pos (by omega)]) | (rw [if_neg (by omega)]; omega) | (rw [if_neg (by omega)]; omega) | (split <;> omega))

set_option maxRecDepth 100000 in
set_option maxHeartbeats 2000000 in
theorem refAddress_any (A : Option Addr) (c : Nat) (t : List (Int × List Int)) (B : Option Addr) (c' : Nat) (l : List Sl.Fr) (d s : Int) (w : World) (hr : FnC w A t.length t) (hl : kFr.C w B l.length l) (he : ∀ f, -1 ≤ lSize t f ∧ lSize t f ≤ 1000) :
    Calls Tryd.prog 21 #[.slice A t.length c, .slice B l.length c', .int .i64 d, .int .i64 s] w fun e w' => e = .returned (.int .i64 (Sl.addr (lSize t) l d s)) ∧ Below w.heap.size w w' := by
  have hm := hl.2.1
  have HH := Lk.mk (show Sl.addr (lSize t) l d s = if Sl.addrOk (lSize t) l d s = true then (l.getD d.toNat Sl.dFr).1 + 2 + s else -1 from rfl)
  by_cases h0 : d < 0
  · have H := Lk.mk (show Sl.addr (lSize t) l d s = -1 by rw [HH.out, if_neg (fun h => by have := addrOk_true h; omega)])
    clear hr hl he
    go_enter Tryd.func21, Tryd.ntmps21
    go_wp2
    go_ret
    exact ⟨ret_int H.out.symm, Below.refl _ _⟩
  · obtain ⟨k, rfl⟩ := Int.eq_ofNat_of_zero_le (show 0 ≤ d by omega)
    by_cases h1 : l.length ≤ k
    · have h1z : (l.length : Int) ≤ (k : Int) := by omega
      have H := Lk.mk (show Sl.addr (lSize t) l k s = -1 by rw [HH.out, if_neg (fun h => by have := addrOk_true h; omega)])
      clear hr hl he
      go_enter Tryd.func21, Tryd.ntmps21
      go_wp2
      go_ret
      exact ⟨ret_int H.out.symm, Below.refl _ _⟩
    · have h1z : (k : Int) < (l.length : Int) := by omega
      by_cases h2 : s < 0
      · have H := Lk.mk (show Sl.addr (lSize t) l k s = -1 by rw [HH.out, if_neg (fun h => by have := addrOk_true h; omega)])
        clear hr hl he
        go_enter Tryd.func21, Tryd.ntmps21
        go_wp2
        go_ret
        exact ⟨ret_int H.out.symm, Below.refl _ _⟩
      · obtain ⟨ad, rfl, c0, c1, c2⟩ := kFr_at hl k (by omega)
        have HS := Lk.mk (fun W (hb : Below w.heap.size w W) => refSSize_any A c t (l.getD k Sl.dFr) W (hr.below hb) he)
        have HC := Lk.mk (show ∀ W, Below w.heap.size w W → W.cell? (ad.add (k * 3)) = some (.int .i64 (l.getD k Sl.dFr).1) ∧ W.cell? ⟨(ad.add (k * 3)).block, (ad.add (k * 3)).off + 1, none⟩ = some (.int .i64 (l.getD k Sl.dFr).2.1) ∧ W.cell? ⟨(ad.add (k * 3)).block, (ad.add (k * 3)).off + 2, none⟩ = some (.int .i64 (l.getD k Sl.dFr).2.2) from fun W hb => ⟨pw_cell_below hb c0, pw_cell_below hb c1, pw_cell_below hb c2⟩)
        by_cases h3 : s < Sl.sizeS (lSize t) (l.getD k Sl.dFr)
        · have H := Lk.mk (show Sl.addr (lSize t) l k s = (l.getD k Sl.dFr).1 + 2 + s by
            rw [HH.out, if_pos (by unfold Sl.addrOk; simp only [Bool.and_eq_true, decide_eq_true_eq, Int.toNat_natCast]; omega), Int.toNat_natCast])
          have hs := sizeS_in (show 0 ≤ s by omega) h3
          have hsz := he (l.getD k Sl.dFr).2.1
          clear hr hl he HH
          generalize Sl.sizeS (lSize t) (l.getD k Sl.dFr) = z at *
          generalize l.getD k Sl.dFr = x at *
          go_enter Tryd.func21, Tryd.ntmps21
          go_wp2_with (go_at_call 69; (with_reducible refine (HS.out _ (Below.refl _ _)).mono ?_); rintro e w1 ⟨rfl, hb⟩; have HB := Lk.mk hb; obtain ⟨d0, d1, d2⟩ := HC.out _ hb; clear hb)
          go_ret
          exact ⟨ret_int H.out.symm, HB.out⟩
        · have H := Lk.mk (show Sl.addr (lSize t) l k s = -1 by rw [HH.out, if_neg (fun h => by have := addrOk_true h; rw [Int.toNat_natCast] at this; omega)])
          have h3' : Sl.sizeS (lSize t) (l.getD k Sl.dFr) ≤ s := by omega
          clear hr hl he HH h3
          generalize Sl.sizeS (lSize t) (l.getD k Sl.dFr) = z at *
          generalize l.getD k Sl.dFr = x at *
          go_enter Tryd.func21, Tryd.ntmps21
          go_wp2_with (go_at_call 69; (with_reducible refine (HS.out _ (Below.refl _ _)).mono ?_); rintro e w1 ⟨rfl, hb⟩; have HB := Lk.mk hb; clear hb)
          go_ret
          exact ⟨ret_int H.out.symm, HB.out⟩

set_option maxRecDepth 100000 in
set_option maxHeartbeats 2000000 in
theorem refFind_any (A : Option Addr) (c : Nat) (t : List (Int × List Int)) (B : Option Addr) (c' : Nat) (l : List Sl.Fr) (a : Int) (w : World) (hr : FnC w A t.length t) (hl : kFr.C w B l.length l) (he : ∀ f, -1 ≤ lSize t f ∧ lSize t f ≤ 1000) :
    Calls Tryd.prog 23 #[.slice A t.length c, .slice B l.length c', .int .i64 a] w fun e w' => e = .returned (.tuple #[.int .i64 (Sl.findD (lSize t) l a), .int .i64 (Sl.findI (lSize t) l a), .bool (Sl.findB (lSize t) l a)]) ∧ Below w.heap.size w w' := by
  have hm := hl.2.1
  have HL := Lk.mk hl
  have HS := Lk.mk (fun W (hb : Below w.heap.size w W) x => refSSize_any A c t x W (hr.below hb) he)
  clear hr hl
  go_enter Tryd.func23, Tryd.ntmps23
  go_wp2
  go_loopg [13] l.length (fun gg v13 wr => ∃ kk : Nat, kk ≤ l.length ∧ l.length - kk ≤ gg ∧ v13 = .int .i64 kk ∧ Lk (∀ j, j < kk → Sl.hit (lSize t) a (l.getD j Sl.dFr) = false) ∧ Lk (Below w.heap.size w wr))
  case atStart => exact ⟨0, by omega, by omega, rfl, ⟨fun j hj => absurd hj (by omega)⟩, ⟨Below.refl _ _⟩⟩
  case round =>
    obtain ⟨kk, hk, hg, rfl, HN, HB⟩ := hrel
    by_cases hlt : kk < l.length
    · have hltz : (kk : Int) < (l.length : Int) := by omega
      obtain ⟨wo, rfl⟩ : ∃ wo : World, wo = wr := ⟨_, rfl⟩
      obtain ⟨ad, rfl, c0, c1, c2⟩ := kFr_at (Kd.C_below HL.out HB.out) kk hlt
      have HC := Lk.mk (show ∀ W, Below wo.heap.size wo W → W.cell? (ad.add (kk * 3)) = some (.int .i64 (l.getD kk Sl.dFr).1) ∧ W.cell? ⟨(ad.add (kk * 3)).block, (ad.add (kk * 3)).off + 1, none⟩ = some (.int .i64 (l.getD kk Sl.dFr).2.1) ∧ W.cell? ⟨(ad.add (kk * 3)).block, (ad.add (kk * 3)).off + 2, none⟩ = some (.int .i64 (l.getD kk Sl.dFr).2.2) from fun W hb => ⟨pw_cell_below hb c0, pw_cell_below hb c1, pw_cell_below hb c2⟩)
      have HZ := Lk.mk (fun W (hb : Below wo.heap.size wo W) => HS.out W (below_then HB.out HB.out.size hb) (l.getD kk Sl.dFr))
      have HH := Lk.mk (hit_size (sz := lSize t) (a := a) (x := l.getD kk Sl.dFr))
      have hzc := sizeS_cases (lSize t) (l.getD kk Sl.dFr)
      have hzl := he (l.getD kk Sl.dFr).2.1
      have HF := Lk.mk (fun h : Sl.hit (lSize t) a (l.getD kk Sl.dFr) = true => Sl.find_yes (Sl.findAt_some hlt HN.out h))
      have HN2 := Lk.mk (show Sl.hit (lSize t) a (l.getD kk Sl.dFr) = false → ∀ j, j < kk + 1 → Sl.hit (lSize t) a (l.getD j Sl.dFr) = false from fun h j hj => by
        by_cases e : j = kk
        · subst e; exact h
        · exact HN.out j (by omega))
      clear c0 c1 c2
      generalize Sl.hit (lSize t) a (l.getD kk Sl.dFr) = b at *
      generalize Sl.sizeS (lSize t) (l.getD kk Sl.dFr) = z at *
      generalize l.getD kk Sl.dFr = x at *
      have hzr : z ≤ 1000 ∧ (0 < z → 0 ≤ x.1 ∧ x.1 ≤ 1099511627776) := by omega
      clear hzc hzl
      obtain ⟨hz1, hz2⟩ := hzr
      go_wp2
      go_loopg [10] z.toNat (fun gi v10 wi => ∃ i : Nat, i ≤ z.toNat ∧ z.toNat - i ≤ gi ∧ v10 = .int .i64 i ∧ Lk (∀ j : Nat, j < i → x.1 + 2 + (j : Int) ≠ a) ∧ Lk (Below wo.heap.size wo wi))
      case atStart => exact ⟨0, by omega, by omega, rfl, ⟨fun j hj => absurd hj (by omega)⟩, ⟨Below.refl _ _⟩⟩
      case round =>
        obtain ⟨i, hi, hgi, rfl, HNi, HBi⟩ := hrel
        obtain ⟨d0, d1, d2⟩ := HC.out _ HBi.out
        obtain ⟨wp, rfl⟩ : ∃ wp : World, wp = wr := ⟨_, rfl⟩
        by_cases hiz : (i : Int) < z
        · have hx := hz2 (by omega)
          by_cases hq : x.1 + 2 + (i : Int) = a
          · have hb : b = true := HH.out.2 (by omega)
            subst hb
            have HE := Lk.mk (HF.out rfl)
            have HQ := Lk.mk hq
            have hqb : (x.1 + 2 + (i : Int) == a) = true := by simpa using hq
            clear hq
            go_wp2_with (go_at_call 69; (with_reducible refine (HZ.out _ HBi.out).mono ?_); rintro e w1 ⟨rfl, hb⟩; have HB2 := Lk.mk (below_then HBi.out HBi.out.size hb); clear hb d0 d1 d2; obtain ⟨d0, d1, d2⟩ := HC.out _ HB2.out)
            go_ret3
            obtain ⟨e1, e2, e3⟩ := HE.out
            exact ⟨ret_iib e1.symm (by rw [e2]; have := HQ.out; omega) e3.symm, below_then HB.out HB.out.size HB2.out⟩
          · have HQ := Lk.mk hq
            have hqb : (x.1 + 2 + (i : Int) == a) = false := by simpa using hq
            clear hq
            go_wp2_with (go_at_call 69; (with_reducible refine (HZ.out _ HBi.out).mono ?_); rintro e w1 ⟨rfl, hb⟩; have HB2 := Lk.mk (below_then HBi.out HBi.out.size hb); clear hb d0 d1 d2; obtain ⟨d0, d1, d2⟩ := HC.out _ HB2.out)
            go_roundg (z.toNat - (i + 1))
            case measure => omega
            case rel =>
              refine ⟨i + 1, by omega, by omega, by go_num, ⟨fun j hj => ?_⟩, HB2⟩
              by_cases e : j = i
              · subst e; exact HQ.out
              · exact HNi.out j (by omega)
        · have hiz' : z ≤ (i : Int) := by omega
          have hb : b = false := by
            cases b with
            | false => rfl
            | true =>
              have h1 := HH.out.1 rfl
              exact absurd (show x.1 + 2 + ((a - x.1 - 2).toNat : Int) = a by omega) (HNi.out (a - x.1 - 2).toNat (by omega))
          subst hb
          clear hiz
          go_wp2_with (go_at_call 69; (with_reducible refine (HZ.out _ HBi.out).mono ?_); rintro e w1 ⟨rfl, hb⟩; have HB2 := Lk.mk (below_then HBi.out HBi.out.size hb); clear hb)
          go_roundg (l.length - (kk + 1))
          case measure => omega
          case rel => exact ⟨kk + 1, by omega, by omega, by go_num, ⟨HN2.out (by first | rfl | trivial)⟩, ⟨below_then HB.out HB.out.size HB2.out⟩⟩
    · have hltz : ¬ (kk : Int) < (l.length : Int) := by omega
      obtain rfl : kk = l.length := by omega
      have HE := Lk.mk (Sl.find_no (Sl.findAt_none HN.out))
      go_wp2
      go_ret3
      obtain ⟨e1, e2, e3⟩ := HE.out
      exact ⟨ret_iib e1.symm e2.symm e3.symm, HB.out⟩
end Go.Proofs.YtbikdngpannekaaDoor
