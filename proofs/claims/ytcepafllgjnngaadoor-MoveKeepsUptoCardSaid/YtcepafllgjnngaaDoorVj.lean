/-
  The law MoveBack where nothing is moved. Conditions: the table of deBruijn stands; the arguments read as told.
-/
import Derived.Test.YtcepafllgjnngaaDoorVh
import Derived.Test.YtcepafllgjnngaaDoorVi
import Derived.Deep.RegionHeld3
namespace Go.Proofs.YtcepafllgjnngaaDoor
open Go.RowKit Go.Proofs.YtcepafllgjnngaaDoorW.PrintWords

theorem row_free (g b : Nat) (ws : List Int) (at_ n : Int) (w : World) (h : ArB w g b ws) :
    Calls Tryd.prog 33 #[.pointer (some ⟨g, 0, none⟩), .int .i64 at_, .int .i64 n] w fun e w' => (∃ v k, e = .returned (.tuple #[v, .int .i64 k])) ∧ Below w.heap.size w w' := by
  by_cases hi : inL ws.length at_ n = false
  · exact (row_bad g b ws at_ n w h hi).mono fun e w' ⟨h1, h2⟩ => ⟨⟨_, _, h1⟩, h2⟩
  · have hi' : inL ws.length at_ n = true := by simpa using hi
    obtain ⟨a, m, rfl, rfl, hm⟩ : ∃ a m : Nat, at_ = a ∧ n = m ∧ a + m ≤ ws.length := by
      unfold inL at hi'
      simp only [Bool.and_eq_true, decide_eq_true_eq] at hi'
      exact ⟨at_.toNat, n.toNat, by omega, by omega, by omega⟩
    exact (row_ok g b ws a m w h hm).mono fun e w' ⟨v, h1, _, h2⟩ => ⟨⟨_, _, h1⟩, h2⟩
set_option maxRecDepth 100000 in
set_option maxHeartbeats 2000000 in
theorem mb_early (V : Option Addr) (c0 : Nat) (ws : List Int) (T : Option Addr) (ct : Nat) (t : List (Int × List Int)) (x0 x1 x2 lo size : Int) (w : World) (hz : ReadsInt w .u64 V ws.length ws) (ht : FnC w T t.length t) (hI : FnsOk t) (hT : Tab w) (h : newOk t = false ∨ 256 < ws.length ∨ greatL t = true) :
    Calls Tryd.prog 8 #[.slice V ws.length c0, .slice T t.length ct, .agg #[.int .i64 x0, .int .i64 x1, .int .i64 x2], .int .i64 lo, .int .i64 size] w fun e w' => e = .returned (.bool true) ∧ Below w.heap.size w w' := by
  have hmz := hz.2.1
  have h0 := below_alloc (Below.refl w.heap.size w) (.cells #[.int .i64 x0, .int .i64 x1, .int .i64 x2] 41)
  have H0 := Lk.mk h0
  have HAW := Lk.mk (fun W => awake17_any W)
  have HG := Lk.mk (fun W (hb : Below w.heap.size w W) => great_any T ct t W (ht.below hb))
  have HNW := Lk.mk (fun (hn : newOk t = false) => new_bad T ct t _ (ht.below h0) hI (hT.below h0) hn)
  have HNG := Lk.mk (fun (hn : newOk t = true) => new_good T ct t _ (ht.below h0) hI (hT.below h0) hn)
  have HH := Lk.mk h
  clear hz ht hI hT h h0
  generalize hg1 : greatL t = g1 at *
  cases hn : newOk t with
  | false =>
    have HN := Lk.mk (HNW.out hn)
    clear hn hg1
    by_cases h256 : 256 < ws.length
    · have hz : (256 : Int) < (ws.length : Int) := by omega
      clear h256
      go_enter Tryd.func8, Tryd.ntmps8
      go_wp2_with (first
        | (go_at_call 12; (with_reducible refine (HN.out).mono ?_); rintro e w1 ⟨rfl, hb⟩; have HB := Lk.mk (below_then H0.out H0.out.size hb); clear hb)
        | (go_at_call 29; (with_reducible refine (HAW.out _).mono ?_); rintro e w' ⟨rfl, hb⟩; have HB := Lk.mk (below_then HB.out HB.out.size hb); clear hb))
      go_ret
      exact ⟨rfl, HB.out⟩
    · have hz : ¬ (256 : Int) < (ws.length : Int) := by omega
      clear h256
      cases g1
      all_goals
        go_enter Tryd.func8, Tryd.ntmps8
        go_wp2_with (first
          | (go_at_call 12; (with_reducible refine (HN.out).mono ?_); rintro e w1 ⟨rfl, hb⟩; have HB := Lk.mk (below_then H0.out H0.out.size hb); clear hb)
          | (go_at_call 10; (with_reducible refine (HG.out _ HB.out).mono ?_); rintro e w' ⟨rfl, hw⟩; obtain rfl := hw.symm; clear hw)
          | (go_at_call 29; (with_reducible refine (HAW.out _).mono ?_); rintro e w' ⟨rfl, hb⟩; have HB := Lk.mk (below_then HB.out HB.out.size hb); clear hb))
        go_ret
        exact ⟨rfl, HB.out⟩
  | true =>
    have HN := Lk.mk (HNG.out hn)
    rw [hn] at HH
    clear hn hg1
    by_cases h256 : 256 < ws.length
    · have hz : (256 : Int) < (ws.length : Int) := by omega
      clear h256
      go_enter Tryd.func8, Tryd.ntmps8
      go_wp2_with (first
        | (go_at_call 12; (with_reducible refine (HN.out).mono ?_); rintro e w1 ⟨p, rfl, htb, hb⟩; have HB := Lk.mk (below_then H0.out H0.out.size hb); clear hb htb)
        | (go_at_call 29; (with_reducible refine (HAW.out _).mono ?_); rintro e w' ⟨rfl, hb⟩; have HB := Lk.mk (below_then HB.out HB.out.size hb); clear hb))
      go_ret
      exact ⟨rfl, HB.out⟩
    · have hz : ¬ (256 : Int) < (ws.length : Int) := by omega
      have hg : g1 = true := by
        rcases HH.out with h | h | h
        · exact absurd h (by decide)
        · exact absurd h h256
        · exact h
      subst hg
      clear h256
      go_enter Tryd.func8, Tryd.ntmps8
      go_wp2_with (first
        | (go_at_call 12; (with_reducible refine (HN.out).mono ?_); rintro e w1 ⟨p, rfl, htb, hb⟩; have HB := Lk.mk (below_then H0.out H0.out.size hb); clear hb htb)
        | (go_at_call 10; (with_reducible refine (HG.out _ HB.out).mono ?_); rintro e w' ⟨rfl, hw⟩; obtain rfl := hw.symm; clear hw)
        | (go_at_call 29; (with_reducible refine (HAW.out _).mono ?_); rintro e w' ⟨rfl, hb⟩; have HB := Lk.mk (below_then HB.out HB.out.size hb); clear hb))
      go_ret
      exact ⟨rfl, HB.out⟩
end Go.Proofs.YtcepafllgjnngaaDoor
