/-
  The moves' laws: what a pointer tells, walk.Used at any stack, awake and laid of law 17. Conditions: what is handed in reads as told.
-/
import Derived.Test.YtcepafllgjnngaaDoorVf
import Derived.Test.YtcepafllgjnngaaDoorMm
import Derived.Test.YtcepafllgjnngaaDoorK1
import Derived.Test.YtcepafllgjnngaaDoorG1
namespace Go.Proofs.YtcepafllgjnngaaDoor
open Go.RowKit Go.Proofs.YtcepafllgjnngaaDoorW.PrintWords

theorem ptOk_of {l : List (Int × List Int)} (h : newOk l = true) : PtOk (tPtrs (l.map entryOf)) (l.map entryOf) := by
  have hm : ∀ f i : Int, i ∈ lBits l f → 0 ≤ f ∧ f < l.length ∧ 0 ≤ i ∧ i < lSize l f := by
    intro f i hi
    unfold lBits at hi
    by_cases hf : 0 ≤ f ∧ f < l.length
    · rw [if_pos hf] at hi
      unfold lSize
      rw [if_pos hf]
      exact ⟨hf.1, hf.2, Bm.bits_nonneg _ _ i hi, Bm.bits_lt _ _ i hi⟩
    · rw [if_neg hf] at hi
      cases hi
  refine ⟨fun f => ?_, fun f i h0 h1 => ?_⟩
  · rw [tPtrs_map]
    refine ⟨?_, fun i hi => ?_⟩
    · unfold lBits
      split
      · unfold Bm.bitsL
        refine List.pairwise_map.2 (List.Pairwise.imp (fun {a b} hne e => hne (by omega)) (?_ : List.Nodup _))
        unfold Bm.bitsN
        exact List.Pairwise.filter _ List.nodup_range
      · exact List.nodup_nil
    · obtain ⟨a1, a2, a3, a4⟩ := hm f i hi
      rw [tWords_map h]
      unfold lWords
      rw [if_neg (by omega)]
      omega
  · rw [tPtr_map h, tPtrs_map]
    rw [tSize_map] at h1
    obtain ⟨k, rfl⟩ : ∃ k : Nat, i = k := ⟨i.toNat, by omega⟩
    have hf : 0 ≤ f ∧ f < l.length := by
      unfold lSize at h1
      by_cases hf : 0 ≤ f ∧ f < l.length
      · exact hf
      · rw [if_neg hf] at h1; omega
    have hs : lSize l f = (l.getD f.toNat dF).1 := by unfold lSize; rw [if_pos hf]
    unfold lPtr lBits
    rw [if_pos hf, Bm.mem_bits]
    rw [hs] at h1
    rw [show decide (0 ≤ lSize l f) = true from decide_eq_true (by omega), Bool.true_and]
    unfold Bm.hasL
    simp [h1]
    intro _
    rw [← List.getD_eq_getElem?_getD]
    exact h1
def usedL (x : Int × (Int × Int)) : Int := if plainB x = true then (if 0 ≤ x.1 + x.2.1 - x.2.2 then x.1 + x.2.1 - x.2.2 else 0) else 0
set_option maxRecDepth 100000 in
set_option maxHeartbeats 2000000 in
theorem used_all (x : Int × (Int × Int)) (w : World) : Calls Tryd.prog 37 #[.agg #[.int .i64 x.1, .int .i64 x.2.1, .int .i64 x.2.2]] w fun e w' => e = .returned (.int .i64 (usedL x)) ∧ Below w.heap.size w w' := by
  have h0 := below_alloc (Below.refl w.heap.size w) (.cells #[.int .i64 x.1, .int .i64 x.2.1, .int .i64 x.2.2] 41)
  have HP := Lk.mk (plain_any x (w.alloc (.cells #[.int .i64 x.1, .int .i64 x.2.1, .int .i64 x.2.2] 41)))
  have H0 := Lk.mk h0
  have HX := Lk.mk (blk_new w (.cells #[.int .i64 x.1, .int .i64 x.2.1, .int .i64 x.2.2] 41))
  obtain ⟨y0, y1, y2, _, _, _⟩ := cells3 HX.out
  have hpt := @plainB_true x
  unfold usedL
  generalize plainB x = pb at *
  obtain ⟨x0, x1, x2⟩ := x
  dsimp only at *
  clear h0
  cases pb with
  | false =>
    clear hpt
    go_enter Tryd.func37, Tryd.ntmps37
    go_wp2_with (go_at_call 87; (with_reducible refine (HP.out).mono ?_); rintro e w1 ⟨rfl, hb⟩; have HB := Lk.mk (below_then H0.out H0.out.size hb); clear hb)
    all_goals go_ret
    all_goals exact ⟨rfl, HB.out⟩
  | true =>
    obtain ⟨a1, a2, a3⟩ := hpt rfl
    clear hpt
    have hw1 : IntKind.i64.wrap (x0 + x1) = x0 + x1 := IntWalk.i64_in _ (by omega)
    have hw2 : IntKind.i64.wrap (x0 + x1 - x2) = x0 + x1 - x2 := IntWalk.i64_in _ (by omega)
    clear a1 a2 a3
    go_enter Tryd.func37, Tryd.ntmps37
    go_wp2_with (go_at_call 87; (with_reducible refine (HP.out).mono ?_); rintro e w1 ⟨rfl, hb⟩; have HB := Lk.mk (below_then H0.out H0.out.size hb); obtain ⟨d0, d1, d2, _, _, _⟩ := cells3 (blk_below HX.out hb); clear hb)
    all_goals go_ret
    all_goals exact ⟨ret_int (by first | omega | (split <;> omega) | (rw [if_pos rfl]; split <;> omega)), HB.out⟩
set_option maxRecDepth 100000 in
set_option maxHeartbeats 2000000 in
theorem laid17_any (V : Option Addr) (c : Nat) (ws : List Int) (w : World) (hr : ReadsInt w .u64 V ws.length ws) (hw : Bm.Words ws) (hl : ws.length ≤ 256) :
    Calls Tryd.prog 30 #[.slice V ws.length c] w fun e w' => e = .returned (.pointer (some ⟨w.heap.size + 1, 0, none⟩)) ∧ ArB w' (w.heap.size + 1) w.heap.size (putW zw 0 ws) ∧ Below w.heap.size w w' := by
  have HA := Lk.mk (anew_any 4 w (by decide) (by decide))
  rw [show (((4 : Nat)) : Int) = 4 from rfl, show List.replicate (64 * 4) 0 = zw from rfl] at HA
  have HS := Lk.mk (fun W (hb : Below w.heap.size w W) (hA : ArB W (w.heap.size + 1) w.heap.size zw) => (store_ok (w.heap.size + 1) w.heap.size zw 0 V c ws W hA (hr.below hb) hw (by rw [zw_len]; omega) : Calls Tryd.prog 22 #[.pointer (some ⟨w.heap.size + 1, 0, none⟩), .int .i64 0, .slice V ws.length c] W _))
  rw [show (((0 : Nat)) : Int) = 0 from rfl] at HS
  clear hr hw
  go_enter Tryd.func30, Tryd.ntmps30
  go_wp2_with (first
    | (go_at_call 18; (with_reducible refine (HA.out).mono ?_); rintro e w1 ⟨rfl, ha, hb⟩; have HA1 := Lk.mk ha; have HB1 := Lk.mk hb; clear ha hb)
    | (go_at_call 22; (with_reducible refine (HS.out _ HB1.out HA1.out).mono ?_); rintro e w3 ⟨rfl, ha, hk⟩; have HA3 := Lk.mk ha; have HB3 := Lk.mk (hk.below HB1.out (Nat.le_refl _) HB1.out.size); clear ha hk))
  go_ret
  exact ⟨rfl, HA3.out, HB3.out⟩
set_option maxRecDepth 100000 in
set_option maxHeartbeats 2000000 in
theorem awake17_any (w : World) : Calls Tryd.prog 29 #[] w fun e w' => e = .returned (.bool true) ∧ Below w.heap.size w w' := by
  have HBY := Lk.mk (by_any ((0 : Int), ((16 : Int), (16 : Int))) 32 32 w (by unfold Small; dsimp only; omega) (by omega) (by omega))
  have HFT := Lk.mk (fun W => by
    have h9 := fits_one ((0 : Int), ((16 : Int), (0 : Int))) ((16 : Int), ((16 : Int), (0 : Int))) (some ⟨W.heap.size, 0, none⟩) (W.alloc (.cells #[.int .i64 16, .int .i64 16, .int .i64 0] 41)) (by unfold Small; dsimp only; omega) (by unfold Small; dsimp only; omega) (one9 (blk_new W _))
    rw [show overB ((0 : Int), ((16 : Int), (0 : Int))) ((16 : Int), ((16 : Int), (0 : Int))) = false by decide] at h9
    exact h9)
  rw [show (32 : Int) + 32 - ((0 : Int), ((16 : Int), (16 : Int))).1 - ((0 : Int), ((16 : Int), (16 : Int))).2.1 = 48 by decide] at HBY
  dsimp only at *
  go_enter Tryd.func29, Tryd.ntmps29
  go_wp2_with (first
    | (go_at_call 76; (with_reducible refine (HBY.out).mono ?_); rintro e w1 ⟨rfl, hb⟩; have HB := Lk.mk hb; clear hb)
    | (go_at_call 77; (with_reducible refine (HFT.out _).mono ?_); rintro e w2 ⟨rfl, hb⟩; have hB9 := below_alloc HB.out (.cells #[.int .i64 16, .int .i64 16, .int .i64 0] 41); have HB := Lk.mk (below_then hB9 hB9.size hb); clear hb hB9))
  go_ret
  exact ⟨rfl, HB.out⟩
end Go.Proofs.YtcepafllgjnngaaDoor
