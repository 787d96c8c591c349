/-
  The walk of the reference's Read; conditions: what is handed in reads as told, the table may be.
-/
import Derived.Test.YtbikdngpannekaaDoorDg
import Derived.Test.YtbikdngpannekaaDoorDd
import Derived.Test.YtbikdngpannekaaDoorBp
import Derived.Test.YtbikdngpannekaaDoorBn
namespace Go.Proofs.YtbikdngpannekaaDoor
open Go.RowKit Go.Proofs.YtbikdngpannekaaDoorW.PrintWords

set_option maxRecDepth 100000 in
set_option maxHeartbeats 2000000 in
theorem rread_out (A : Option Addr) (c : Nat) (ws : List Int) (B : Option Addr) (c' : Nat) (t : List (Int × List Int)) (at_ : Int) (w : World) (hl : ws.length ≤ 1099511627776) (hi : ¬ (0 ≤ at_ ∧ at_ + 2 ≤ ws.length)) :
    Calls Tryd.prog 30 #[.slice A ws.length c, .slice B t.length c', .int .i64 at_] w fun e w' => e = .returned (.tuple #[.agg #[.int .i64 0, .int .i64 0, .int .i64 0], .int .i64 2]) ∧ Below w.heap.size w w' := by
  have hcase : at_ < 0 ∨ (0 ≤ at_ ∧ (ws.length : Int) ≤ at_) ∨ (0 ≤ at_ ∧ at_ < ws.length ∧ (ws.length : Int) < at_ + 2) := by omega
  clear hi
  have H0 := Lk.mk (show Below w.heap.size w (w.alloc (.cells #[.int .i64 0, .int .i64 0, .int .i64 0] 52)) from below_alloc (Below.refl _ _) _)
  have HE := Lk.mk (fr0 w (Below.refl _ _))
  obtain ⟨c0, c1, c2, z0, z1, z2⟩ := cells3 HE.out
  go_enter Tryd.func30, Tryd.ntmps30
  rcases hcase with h1 | ⟨h1, h2⟩ | ⟨h1, h2, h3⟩
  · go_wp2
    exact bodyPost_ret (results_ct Tryd.results30 _ _ w.heap.size 52 #[.int .i64 0, .int .i64 0, .int .i64 0] (0, 0) _ rfl HE.out Tryd.underlying52 rfl (by kernel_rfl)) rfl ⟨rfl, H0.out⟩
  · have h1z : ¬ at_ < 0 := by omega
    go_wp2
    exact bodyPost_ret (results_ct Tryd.results30 _ _ w.heap.size 52 #[.int .i64 0, .int .i64 0, .int .i64 0] (0, 0) _ rfl HE.out Tryd.underlying52 rfl (by kernel_rfl)) rfl ⟨rfl, H0.out⟩
  · have h1z : ¬ at_ < 0 := by omega
    have h2z : ¬ (ws.length : Int) ≤ at_ := by omega
    go_wp2
    exact bodyPost_ret (results_ct Tryd.results30 _ _ w.heap.size 52 #[.int .i64 0, .int .i64 0, .int .i64 0] (0, 0) _ rfl HE.out Tryd.underlying52 rfl (by kernel_rfl)) rfl ⟨rfl, H0.out⟩
theorem read_at2 {w : World} {A : Option Addr} {ws : List Int} {a : Nat} (h : ReadsInt w .u64 A ws.length ws) (hi : a + 2 ≤ ws.length) : ∃ ad, A = some ad ∧ w.cell? (ad.add a) = some (.int .u64 (ws.getD a 0)) ∧ w.cell? (ad.add (a + 1)) = some (.int .u64 (ws.getD (a + 1) 0)) := by
  obtain ⟨ad, rfl, hc⟩ := h.at_ (a : Int) (by omega) (by omega)
  obtain ⟨ad', h', hc'⟩ := h.at_ ((a : Int) + 1) (by omega) (by omega)
  injection h' with h'
  subst h'
  rw [Int.toNat_natCast, rdk] at hc
  rw [show ((a : Int) + 1).toNat = a + 1 by omega, show (a : Int) + 1 = ((a + 1 : Nat) : Int) by omega, rdk] at hc'
  exact ⟨ad, rfl, hc, hc'⟩
set_option maxRecDepth 100000 in
set_option maxHeartbeats 2000000 in
theorem rread_ok (A : Option Addr) (c : Nat) (ws : List Int) (B : Option Addr) (c' : Nat) (t : List (Int × List Int)) (a : Nat) (w : World) (hr : ReadsInt w .u64 A ws.length ws) (hw : Bm.Words ws) (hq : FnC w B t.length t) (hn : newOk t = true) (hl : ws.length ≤ 1099511627776) (hi : a + 2 ≤ ws.length) (ho : RdOk ws (t.map entryOf) a) :
    Calls Tryd.prog 30 #[.slice A ws.length c, .slice B t.length c', .int .i64 a] w fun e w' => e = .returned (.tuple #[.agg #[.int .i64 a, .int .i64 (ws.getD (a + 1) 0 - 1), .int .i64 (ws.getD a 0 - 1)], .int .i64 0]) ∧ Below w.heap.size w w' := by
  obtain ⟨o1, o2, o3, o4⟩ := ho
  rw [tWords_map hn] at o4
  rw [List.length_map] at o3
  have hx0 := Bm.word_nn hw a
  have htl := hq.2.1
  have HTW := Lk.mk (fun W (hb : Below w.heap.size w W) => refWords_any B c' t (ws.getD (a + 1) 0 - 1) W (hq.below hb) (by have := lSize_in hn (ws.getD (a + 1) 0 - 1); omega))
  have h0 : Below w.heap.size w (w.alloc (.cells #[.int .i64 0, .int .i64 0, .int .i64 0] 52)) := below_alloc (Below.refl _ _) _
  obtain ⟨ad, rfl, k0, k1⟩ := read_at2 (hr.below h0) hi
  rw [show ad.add (a + 1) = ⟨ad.block, ad.off + (a + 1), none⟩ from rfl] at k1
  have H0 := Lk.mk h0
  have HE := Lk.mk (fr0 w (Below.refl _ _))
  obtain ⟨c0, c1, c2, z0, z1, z2⟩ := cells3 HE.out
  have hwn : -1 ≤ lWords t (ws.getD (a + 1) 0 - 1) ∧ lWords t (ws.getD (a + 1) 0 - 1) ≤ 1002 := by
    have := lSize_in hn (ws.getD (a + 1) 0 - 1)
    unfold lWords
    split <;> omega
  clear hr hw hq hn h0
  generalize lWords t (ws.getD (a + 1) 0 - 1) = tw at *
  generalize ws.getD (a + 1) 0 = f at *
  generalize ws.getD a 0 = k at *
  have hf0 : ¬ f = 0 := by omega
  have hft : ¬ (t.length : Int) < f := by omega
  have hkl : ¬ (ws.length : Int) < k := by omega
  have htw : ¬ (ws.length : Int) < a + tw := by omega
  have haz : ¬ (a : Int) < 0 := by omega
  have hal : ¬ (ws.length : Int) ≤ a := by omega
  have hal2 : ¬ (ws.length : Int) < a + 2 := by omega
  go_enter Tryd.func30, Tryd.ntmps30
  go_wp2_with (go_at_call 36; (with_reducible refine (HTW.out _ (below_alloc H0.out _)).mono ?_); rintro e w' ⟨rfl, hw⟩; obtain rfl := hw.symm; clear hw)
  all_goals exact bodyPost_ret (results_ct Tryd.results30 _ _ w.heap.size 52 #[.int .i64 a, .int .i64 (f - 1), .int .i64 (k - 1)] (0, 0) _ rfl (blk_below (blk_new w _) (below_alloc (Below.refl _ _) _)) Tryd.underlying52 rfl (by kernel_rfl)) rfl ⟨rfl, below_alloc (below_alloc (Below.refl _ _) _) _⟩
set_option maxRecDepth 100000 in
set_option maxHeartbeats 2000000 in
theorem rread_bad (A : Option Addr) (c : Nat) (ws : List Int) (B : Option Addr) (c' : Nat) (t : List (Int × List Int)) (a : Nat) (w : World) (hr : ReadsInt w .u64 A ws.length ws) (hw : Bm.Words ws) (hq : FnC w B t.length t) (hn : newOk t = true) (hl : ws.length ≤ 1099511627776) (hi : a + 2 ≤ ws.length) (ho : ¬ RdOk ws (t.map entryOf) a) :
    Calls Tryd.prog 30 #[.slice A ws.length c, .slice B t.length c', .int .i64 a] w fun e w' => e = .returned (.tuple #[.agg #[.int .i64 0, .int .i64 0, .int .i64 0], .int .i64 9]) ∧ Below w.heap.size w w' := by
  unfold RdOk at ho
  rw [tWords_map hn, List.length_map] at ho
  have hx0 := Bm.word_nn hw a
  have hx1 := Bm.word_nn hw (a + 1)
  have htl := hq.2.1
  have HTW := Lk.mk (fun W (hb : Below w.heap.size w W) => refWords_any B c' t (ws.getD (a + 1) 0 - 1) W (hq.below hb) (by have := lSize_in hn (ws.getD (a + 1) 0 - 1); omega))
  have h0 : Below w.heap.size w (w.alloc (.cells #[.int .i64 0, .int .i64 0, .int .i64 0] 52)) := below_alloc (Below.refl _ _) _
  obtain ⟨ad, rfl, k0, k1⟩ := read_at2 (hr.below h0) hi
  rw [show ad.add (a + 1) = ⟨ad.block, ad.off + (a + 1), none⟩ from rfl] at k1
  have H0 := Lk.mk h0
  have HE := Lk.mk (fr0 w (Below.refl _ _))
  obtain ⟨c0, c1, c2, z0, z1, z2⟩ := cells3 HE.out
  have hwn : -1 ≤ lWords t (ws.getD (a + 1) 0 - 1) ∧ lWords t (ws.getD (a + 1) 0 - 1) ≤ 1002 := by
    have := lSize_in hn (ws.getD (a + 1) 0 - 1)
    unfold lWords
    split <;> omega
  clear hr hw hq hn h0
  generalize lWords t (ws.getD (a + 1) 0 - 1) = tw at *
  generalize ws.getD (a + 1) 0 = f at *
  generalize ws.getD a 0 = k at *
  have haz : ¬ (a : Int) < 0 := by omega
  have hal : ¬ (ws.length : Int) ≤ a := by omega
  have hal2 : ¬ (ws.length : Int) < a + 2 := by omega
  by_cases q1 : f < 1
  · obtain rfl : f = 0 := by omega
    go_enter Tryd.func30, Tryd.ntmps30
    go_wp2
    all_goals exact bodyPost_ret (results_ct Tryd.results30 _ _ w.heap.size 52 #[.int .i64 0, .int .i64 0, .int .i64 0] (0, 0) _ rfl HE.out Tryd.underlying52 rfl (by kernel_rfl)) rfl ⟨rfl, H0.out⟩
  · have hf0 : ¬ f = 0 := by omega
    by_cases q2 : (t.length : Int) < f
    · go_enter Tryd.func30, Tryd.ntmps30
      go_wp2
      all_goals exact bodyPost_ret (results_ct Tryd.results30 _ _ w.heap.size 52 #[.int .i64 0, .int .i64 0, .int .i64 0] (0, 0) _ rfl HE.out Tryd.underlying52 rfl (by kernel_rfl)) rfl ⟨rfl, H0.out⟩
    · by_cases q3 : (ws.length : Int) < k
      · go_enter Tryd.func30, Tryd.ntmps30
        go_wp2
        all_goals exact bodyPost_ret (results_ct Tryd.results30 _ _ w.heap.size 52 #[.int .i64 0, .int .i64 0, .int .i64 0] (0, 0) _ rfl HE.out Tryd.underlying52 rfl (by kernel_rfl)) rfl ⟨rfl, H0.out⟩
      · have htw : (ws.length : Int) < a + tw := by
          rcases Int.lt_or_le (ws.length : Int) (a + tw) with h | h
          · exact h
          · exact absurd ⟨by omega, by omega, by omega, h⟩ ho
        clear ho
        go_enter Tryd.func30, Tryd.ntmps30
        go_wp2_with (go_at_call 36; (with_reducible refine (HTW.out _ (below_alloc H0.out _)).mono ?_); rintro e w' ⟨rfl, hw⟩; obtain rfl := hw.symm; clear hw)
        all_goals exact bodyPost_ret (results_ct Tryd.results30 _ _ w.heap.size 52 #[.int .i64 0, .int .i64 0, .int .i64 0] (0, 0) _ rfl (blk_below (blk_new w _) (below_alloc (Below.refl _ _) _)) Tryd.underlying52 rfl (by kernel_rfl)) rfl ⟨rfl, below_alloc (below_alloc (Below.refl _ _) _) _⟩
end Go.Proofs.YtbikdngpannekaaDoor
