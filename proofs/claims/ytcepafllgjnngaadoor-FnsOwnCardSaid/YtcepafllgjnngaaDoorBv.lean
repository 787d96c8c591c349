/-
  The walks of the reference's two Sames where they tell true; conditions: what is handed in reads as told.
-/
import Derived.Test.YtcepafllgjnngaaDoorK1
import Derived.Deep.RegionHeld3
namespace Go.Proofs.YtcepafllgjnngaaDoor
open Go.RowKit Go.Proofs.YtcepafllgjnngaaDoorW.PrintWords

theorem rd_n (l : List Int) (k : Nat) : rd l k = l.getD k 0 := by unfold rd; rw [Int.toNat_natCast]
theorem getD_past (l : List Int) (k : Nat) (h : ¬ k < l.length) : l.getD k 0 = 0 := by rw [List.getD_eq_getElem?_getD, List.getElem?_eq_none (by omega)]; rfl
set_option maxRecDepth 100000 in
set_option maxHeartbeats 1000000 in
theorem same03_true (A : Option Addr) (c : Nat) (l : List Int) (B : Option Addr) (d : Nat) (m : List Int) (w : World) (hr : ReadsInt w .u64 A l.length l) (hr2 : ReadsInt w .u64 B m.length m) (h : ∀ k, l.getD k 0 = m.getD k 0) :
    Calls Tryd.prog 57 #[.slice A l.length c, .slice B m.length d] w fun e w' => e = .returned (.bool true) ∧ w' = w := by
  have hm1 := hr.2.1
  have hm2 := hr2.2.1
  have HR := Lk.mk hr
  have HR2 := Lk.mk hr2
  have H := Lk.mk h
  clear hr hr2 h
  go_enter Tryd.func57, Tryd.ntmps57
  go_wp2
  go_loopg [5] (l.length + m.length) (fun gg v5 wr => ∃ k : Nat, (k ≤ l.length ∨ k ≤ m.length) ∧ l.length + m.length - k ≤ gg ∧ v5 = .int .i64 k ∧ wr = w)
  case atStart => exact ⟨0, by omega, by omega, rfl, rfl⟩
  case round =>
    obtain ⟨k, hk, hg, rfl, rfl⟩ := hrel
    have hX := H.out k
    by_cases h1 : k < l.length
    · have h1z : (k : Int) < (l.length : Int) := by omega
      obtain ⟨ad1, rfl, hc1⟩ := HR.out.at_ (k : Int) (by omega) h1z
      rw [Int.toNat_natCast, rd_n] at hc1
      by_cases h2 : k < m.length
      · have h2z : (k : Int) < (m.length : Int) := by omega
        obtain ⟨ad2, rfl, hc2⟩ := HR2.out.at_ (k : Int) (by omega) h2z
        rw [Int.toNat_natCast, rd_n, ← hX] at hc2
        clear hX
        generalize l.getD k 0 = x at *
        go_wp2
        go_roundg (l.length + m.length - (k + 1))
        case measure => omega
        case rel => exact ⟨k + 1, by omega, by omega, by go_num, rfl⟩
      · have h2z : ¬ (k : Int) < (m.length : Int) := by omega
        rw [hX, getD_past m k h2] at hc1
        clear hX
        go_wp2
        go_roundg (l.length + m.length - (k + 1))
        case measure => omega
        case rel => exact ⟨k + 1, by omega, by omega, by go_num, rfl⟩
    · have h1z : ¬ (k : Int) < (l.length : Int) := by omega
      by_cases h2 : k < m.length
      · have h2z : (k : Int) < (m.length : Int) := by omega
        obtain ⟨ad2, rfl, hc2⟩ := HR2.out.at_ (k : Int) (by omega) h2z
        rw [Int.toNat_natCast, rd_n, ← hX, getD_past l k h1] at hc2
        clear hX
        go_wp2
        go_roundg (l.length + m.length - (k + 1))
        case measure => omega
        case rel => exact ⟨k + 1, by omega, by omega, by go_num, rfl⟩
      · have h2z : ¬ (k : Int) < (m.length : Int) := by omega
        clear hX
        go_wp2
        go_ret
        exact ⟨rfl, rfl⟩

set_option maxRecDepth 100000 in
set_option maxHeartbeats 2000000 in
theorem same13_true (A : Option Addr) (c : Nat) (l : List (Int × List Int)) (B : Option Addr) (d : Nat) (m : List (Int × List Int)) (w : World) (hr : FnC w A l.length l) (hr2 : FnC w B m.length m) (hlen : m.length = l.length)
    (h : ∀ k, k < l.length → (l.getD k dF).1 = (m.getD k dF).1 ∧ ∀ j, (l.getD k dF).2.getD j 0 = (m.getD k dF).2.getD j 0) :
    Calls Tryd.prog 17 #[.slice A l.length c, .slice B m.length d] w fun e w' => e = .returned (.bool true) ∧ Below w.heap.size w w' := by
  rw [hlen] at hr2 ⊢
  have hm1 := hr.2.1
  have HR := Lk.mk hr
  have HR2 := Lk.mk hr2
  have H := Lk.mk h
  clear hr hr2 h hlen
  go_enter Tryd.func17, Tryd.ntmps17
  go_wp2
  go_loopg [5, 13] l.length (fun gg _ v13 wr => ∃ k : Nat, k ≤ l.length ∧ l.length - k ≤ gg ∧ v13 = .int .i64 k ∧ Lk (Below w.heap.size w wr))
  case atStart => exact ⟨0, by omega, by omega, rfl, ⟨Below.refl _ _⟩⟩
  case round =>
    obtain ⟨k, hk, hg, rfl, HB⟩ := hrel
    by_cases hlt : k < l.length
    · have hltz : (k : Int) < (l.length : Int) := by omega
      have HBD := Lk.mk (below_drew HB.out)
      obtain ⟨ad, A1, c1, rfl, hc0, hc1, _, hr1⟩ := (HR.out.below HBD.out).at_ k hlt
      obtain ⟨ad2, A2, c2, rfl, hc2, hc3, _, hr2⟩ := (HR2.out.below HBD.out).at_ k hlt
      obtain ⟨he1, he2⟩ := H.out k hlt
      have HS := Lk.mk (same03_true A1 c1 (l.getD k dF).2 A2 c2 (m.getD k dF).2 _ hr1 hr2 he2)
      rw [← he1] at hc2
      clear hr1 hr2 he1 he2
      generalize l.getD k dF = x at *
      generalize m.getD k dF = y at *
      go_wp2
      go_region_held3 (fun W => W.cell? (ad.add (k * 2)) = some (.int .i64 x.1) ∧ W.cell? ⟨(ad.add (k * 2)).block, (ad.add (k * 2)).off + 1, none⟩ = some (.slice A1 x.2.length c1) ∧ W.cell? (ad2.add (k * 2)) = some (.int .i64 x.1) ∧ W.cell? ⟨(ad2.add (k * 2)).block, (ad2.add (k * 2)).off + 1, none⟩ = some (.slice A2 y.2.length c2)) (exact ⟨hc0, hc1, hc2, hc3⟩) (first
        | (go_at_call 57; (with_reducible refine HS.out.mono ?_); rintro e w' ⟨rfl, hw⟩; subst hw))
      go_wp2
      go_roundg (l.length - (k + 1))
      case measure => omega
      case rel => exact ⟨k + 1, by omega, by omega, by go_num, HBD⟩
    · have hltz : ¬ (k : Int) < (l.length : Int) := by omega
      obtain rfl : k = l.length := by omega
      go_wp2
      go_ret
      exact ⟨rfl, HB.out⟩
end Go.Proofs.YtcepafllgjnngaaDoor
