/-
  The walks of the reference's May, All, and of both Sames where they tell true; conditions: what is handed in reads as told.
-/
import Derived.Test.YtbikdngpannekaaDoorBp
import Derived.Deep.RegionHeld3
namespace Go.Proofs.YtbikdngpannekaaDoor
open Go.RowKit Go.Proofs.YtbikdngpannekaaDoorW.PrintWords

theorem may_false {s : Int} {l : List Int} (h : ¬ (0 ≤ s ∧ s ≤ 1000)) : mayB s l = false := by
  cases e : mayB s l with
  | false => rfl
  | true => have := (may_iff s l).1 e; exact absurd ⟨this.1, this.2.1⟩ h
set_option maxRecDepth 100000 in
set_option maxHeartbeats 1000000 in
theorem refMay_any (s : Int) (A : Option Addr) (c : Nat) (l : List Int) (w : World) (hr : ReadsInt w .u64 A l.length l) (hw : Bm.Words l) (hl : l.length ≤ 68719476736) :
    Calls Tryd.prog 71 #[.agg #[.int .i64 s, .slice A l.length c]] w fun e w' => e = .returned (.bool (mayB s l)) ∧ Below w.heap.size w w' := by
  have h0 : Below w.heap.size w (w.alloc (.cells #[.int .i64 s, .slice A l.length c] 66)) := below_alloc (Below.refl _ _) _
  have HR := Lk.mk (hr.below h0)
  have HW := Lk.mk hw
  have H0 := Lk.mk h0
  have h64 : IntKind.i64.wrap (64 * (l.length : Int)) = 64 * (l.length : Int) := IntWalk.i64_in _ (by omega)
  clear hr hw h0
  by_cases hs0 : s < 0
  · have H := Lk.mk (may_false (l := l) (s := s) (by omega))
    generalize mayB s l = r at *
    go_enter Tryd.func71, Tryd.ntmps71
    go_wp2
    go_ret
    exact ⟨ret_bool (by rw [H.out]), H0.out⟩
  · by_cases hs1 : 1000 < s
    · have H := Lk.mk (may_false (l := l) (s := s) (by omega))
      generalize mayB s l = r at *
      go_enter Tryd.func71, Tryd.ntmps71
      go_wp2
      go_ret
      exact ⟨ret_bool (by rw [H.out]), H0.out⟩
    · obtain ⟨n, rfl⟩ := Int.eq_ofNat_of_zero_le (show 0 ≤ s by omega)
      go_enter Tryd.func71, Tryd.ntmps71
      go_wp2
      go_loopg [3] (64 * l.length) (fun gg v3 wr => ∃ k : Nat, n ≤ k ∧ 64 * l.length - k ≤ gg ∧ (k ≤ n ∨ k ≤ 64 * l.length) ∧ v3 = .int .i64 k ∧ Lk (∀ j, n ≤ j → j < k → Bm.bitAt l j = false) ∧ wr = (w.alloc (.cells #[.int .i64 n, .slice A l.length c] 66)))
      case atStart => exact ⟨n, by omega, by omega, by omega, rfl, ⟨fun j h1 h2 => absurd h2 (by omega)⟩, rfl⟩
      case round =>
        obtain ⟨k, hk, hg, hk2, rfl, HE, rfl⟩ := hrel
        by_cases hlt : k < 64 * l.length
        · have hltz : (k : Int) < 64 * (l.length : Int) := by omega
          have HH := Lk.mk (refHas_any A c l k _ HR.out HW.out (by omega))
          rw [show Bm.hasL l (k : Int) = Bm.bitAt l k by unfold Bm.hasL; rw [if_neg (by omega), Int.toNat_natCast]] at HH
          cases hb : Bm.bitAt l k with
          | true =>
            have H := Lk.mk (show mayB n l = false by
              cases e : mayB n l with
              | false => rfl
              | true => have := ((may_iff n l).1 e).2.2 k (by omega) hlt; rw [hb] at this; cases this)
            rw [hb] at HH
            clear hb
            go_wp2_with (go_at_call 120; (with_reducible refine HH.out.mono ?_); rintro e w' ⟨rfl, rfl⟩)
            go_ret
            exact ⟨ret_bool H.out.symm, H0.out⟩
          | false =>
            rw [hb] at HH
            have HBt := Lk.mk hb
            clear hb
            go_wp2_with (go_at_call 120; (with_reducible refine HH.out.mono ?_); rintro e w' ⟨rfl, rfl⟩)
            go_roundg (64 * l.length - (k + 1))
            case measure => omega
            case rel =>
              refine ⟨k + 1, by omega, by omega, by omega, by go_num, ⟨fun j h1 h2 => ?_⟩, rfl⟩
              by_cases e : j = k
              · subst e; exact HBt.out
              · exact HE.out j h1 (by omega)
        · have hltz : ¬ (k : Int) < 64 * (l.length : Int) := by omega
          have H := Lk.mk (show mayB n l = true from (may_iff n l).2 ⟨by omega, by omega, fun i h1 h2 => HE.out i (by omega) (by omega)⟩)
          go_wp2
          go_ret
          exact ⟨ret_bool H.out.symm, H0.out⟩

theorem mayAll_iff (l : List (Int × List Int)) : mayAll l = true ↔ ∀ f ∈ l, mayB f.1 f.2 = true := by
  unfold mayAll
  rw [Bool.not_eq_true', List.any_eq_false]
  constructor
  · intro h f hf; have := h f hf; simpa using this
  · intro h f hf; rw [h f hf]; decide
set_option maxRecDepth 100000 in
set_option maxHeartbeats 1000000 in
theorem refAll_any (A : Option Addr) (c : Nat) (l : List (Int × List Int)) (w : World) (hr : FnC w A l.length l) (hI : ∀ f ∈ l, Bm.Words f.2 ∧ f.2.length ≤ 68719476736) :
    Calls Tryd.prog 27 #[.slice A l.length c] w fun e w' => e = .returned (.bool (newOk l)) ∧ Below w.heap.size w w' := by
  have HR := Lk.mk hr
  have HI := Lk.mk hI
  have hm := hr.2.1
  clear hr hI
  go_enter Tryd.func27, Tryd.ntmps27
  go_wp2
  go_loopg [3, 6] l.length (fun gg _ v6 wr => ∃ k : Nat, k ≤ l.length ∧ l.length - k ≤ gg ∧ v6 = .int .i64 k ∧ Lk (∀ j, j < k → mayB (l.getD j dF).1 (l.getD j dF).2 = true) ∧ Lk (Below w.heap.size w wr))
  case atStart => exact ⟨0, by omega, by omega, rfl, ⟨fun j hj => absurd hj (by omega)⟩, ⟨Below.refl _ _⟩⟩
  case round =>
    obtain ⟨k, hk, hg, rfl, HE, HB⟩ := hrel
    by_cases hlt : k < l.length
    · have hltz : (k : Int) < (l.length : Int) := by omega
      obtain ⟨ad, A1, c1, rfl, hcell0, hcell1, hc1, hr1⟩ := (HR.out.below HB.out).at_ k hlt
      obtain ⟨f, hf⟩ : ∃ f, f = l.getD k dF := ⟨_, rfl⟩
      rw [← hf] at hcell0 hcell1 hc1 hr1
      have HM := Lk.mk (show f ∈ l by rw [hf]; exact getD_mem _ hlt)
      have HF := Lk.mk hf
      have HQ := Lk.mk (refMay_any f.1 A1 c1 f.2 wr hr1 (HI.out f HM.out).1 (HI.out f HM.out).2)
      clear hf hr1
      cases hp : mayB f.1 f.2 with
      | false =>
        have H := Lk.mk (show newOk l = false by
          unfold newOk
          rw [show mayAll l = false from by
            cases e : mayAll l with
            | false => rfl
            | true => have := (mayAll_iff l).1 e f HM.out; rw [hp] at this; cases this]
          exact Bool.and_false _)
        rw [hp] at HQ
        clear hp
        go_wp2_with (go_at_call 71; (with_reducible refine HQ.out.mono ?_); rintro e w' ⟨rfl, hb⟩)
        go_ret
        exact ⟨ret_bool H.out.symm, below_then HB.out HB.out.size hb⟩
      | true =>
        rw [hp] at HQ
        have HP := Lk.mk hp
        clear hp
        go_wp2_with (go_at_call 71; (with_reducible refine HQ.out.mono ?_); rintro e w' ⟨rfl, hb⟩; have HB2 := Lk.mk hb; clear hb)
        go_roundg (l.length - (k + 1))
        case measure => omega
        case rel =>
          refine ⟨k + 1, by omega, by omega, by go_num, ⟨fun j hj => ?_⟩, ⟨below_then HB.out HB.out.size HB2.out⟩⟩
          by_cases e : j = k
          · subst e; rw [← HF.out]; exact HP.out
          · exact HE.out j (by omega)
    · have hltz : ¬ (k : Int) < (l.length : Int) := by omega
      obtain rfl : k = l.length := by omega
      have HA := Lk.mk (show mayAll l = true from (mayAll_iff l).2 (by
        intro x hx
        obtain ⟨j, hj, rfl⟩ := List.getElem_of_mem hx
        have := HE.out j hj
        rwa [List.getD_eq_getElem?_getD, List.getElem?_eq_getElem hj] at this))
      by_cases h1 : 1 ≤ l.length
      · have h1z : (1 : Int) ≤ (l.length : Int) := by omega
        by_cases h2 : l.length ≤ 100
        · have h2z : (l.length : Int) ≤ 100 := by omega
          have H := Lk.mk (show newOk l = true by unfold newOk; rw [HA.out, decide_eq_true h1, decide_eq_true h2]; rfl)
          clear h1 h2
          go_wp2
          go_ret
          exact ⟨ret_bool H.out.symm, HB.out⟩
        · have h2z : ¬ (l.length : Int) ≤ 100 := by omega
          have H := Lk.mk (show newOk l = false by unfold newOk; rw [decide_eq_false h2, Bool.and_false, Bool.false_and])
          clear h1 h2
          go_wp2
          go_ret
          exact ⟨ret_bool H.out.symm, HB.out⟩
      · have h1z : ¬ (1 : Int) ≤ (l.length : Int) := by omega
        have H := Lk.mk (show newOk l = false by unfold newOk; rw [decide_eq_false h1, Bool.false_and, Bool.false_and])
        clear h1
        go_wp2
        go_ret
        exact ⟨ret_bool H.out.symm, HB.out⟩
end Go.Proofs.YtbikdngpannekaaDoor
