/-
  The law MoveBack where the stack can't be moved. Conditions: the table of deBruijn stands; the arguments read as told.
-/
import Derived.Test.YtcepafllgjnngaaDoorVj
namespace Go.Proofs.YtcepafllgjnngaaDoor
open Go.RowKit Go.Proofs.YtcepafllgjnngaaDoorW.PrintWords

theorem cells3m {w : World} {g : Nat} {t : TypeId} {a b c : Value} (h : w.heap[g]? = some (.cells #[a, b, c] t (0, 0))) : w.cell? ⟨g, 0, none⟩ = some a ∧ w.cell? ⟨g, 1, none⟩ = some b ∧ w.cell? ⟨g, 2, none⟩ = some c :=
  ⟨by rw [blk_cell h 0]; rfl, by rw [blk_cell h 1]; rfl, by rw [blk_cell h 2]; rfl⟩
theorem len17 {t : List (Int × List Int)} (hn : newOk t = true) : (t.map entryOf).length ≤ 1048576 := by
  unfold newOk at hn
  simp only [Bool.and_eq_true, decide_eq_true_eq] at hn
  rw [List.length_map]
  have := hn.1.2
  omega
theorem ptrs17 {t : List (Int × List Int)} (hb : ∀ f ∈ t, f.2.length ≤ 1048576) : ∀ e ∈ t.map entryOf, e.2.2.length * 8 ≤ 140737488355328 := by
  intro e he
  obtain ⟨f, hf, rfl⟩ := List.mem_map.1 he
  have h1 := hb f hf
  have h2 := Bm.bitsL_length f.2 f.1
  show (Bm.bitsL f.2 f.1).length * 8 ≤ _
  omega
theorem tblPtr {w : World} {p : Value} {ent : List (Int × (List Int × List Int))} (h : TblOr w p ent) : ∃ q, p = .pointer q := by rcases h with ⟨e, _⟩ | ⟨g2, _, _, e, _⟩ <;> exact ⟨_, e⟩
set_option maxRecDepth 100000 in
set_option maxHeartbeats 8000000 in
theorem mb_bad (V : Option Addr) (c0 : Nat) (ws : List Int) (T : Option Addr) (ct : Nat) (t : List (Int × List Int)) (x0 x1 x2 lo size : Int) (w : World) (hz : ReadsInt w .u64 V ws.length ws) (hzw : Bm.Words ws) (ht : FnC w T t.length t) (hI : FnsOk t) (hx : -9223372036854775808 ≤ x1 ∧ x1 ≤ 9223372036854775807) (hsz : -9223372036854775808 ≤ size ∧ size ≤ 9223372036854775807) (hT : Tab w) (hn : newOk t = true) (h256 : ws.length ≤ 256) (hg1 : greatL t = false) (hbad : ¬ ToOk (putW zw 0 ws) (t.map entryOf) (x0, (x1, x2)) lo size) :
    Calls Tryd.prog 8 #[.slice V ws.length c0, .slice T t.length ct, .agg #[.int .i64 x0, .int .i64 x1, .int .i64 x2], .int .i64 lo, .int .i64 size] w fun e w' => e = .returned (.bool true) ∧ Below w.heap.size w w' := by
  have hmz := hz.2.1
  have h0 := below_alloc (Below.refl w.heap.size w) (.cells #[.int .i64 x0, .int .i64 x1, .int .i64 x2] 41)
  have H0 := Lk.mk h0
  have HX := Lk.mk (blk_new w (.cells #[.int .i64 x0, .int .i64 x1, .int .i64 x2] 41))
  have HAW := Lk.mk (fun W => awake17_any W)
  have HG := Lk.mk (fun W (hb : Below w.heap.size w W) => great_any T ct t W (ht.below hb))
  rw [hg1] at HG
  have HN := Lk.mk (new_good T ct t _ (ht.below h0) hI (hT.below h0) hn)
  have HL := Lk.mk (fun W (hb : Below w.heap.size w W) => laid17_any V c0 ws W (hz.below hb) hzw h256)
  have hzi : ¬ (256 : Int) < (ws.length : Int) := by omega
  have HU := Lk.mk (fun W => used_all (x0, (x1, x2)) W)
  have HRW := Lk.mk (fun W g b n (hA : ArB W g b (putW zw 0 ws)) => row_free g b (putW zw 0 ws) x2 n W hA)
  have HTO := Lk.mk (fun W g b q (hA : ArB W g b (putW zw 0 ws)) (hp : TblOr W (.pointer q) (t.map entryOf)) => to_bad g b (putW zw 0 ws) q (t.map entryOf) (x0, (x1, x2)) lo size W hA hp (entIn_of hn) (len17 hn) (fun e he => entry_words he) hx hsz (framesA_len (entIn_of hn) hA.len _) hbad)
  dsimp only at HU HTO
  clear hz hzw ht hI hx hsz hT hn h256 hg1 hbad h0
  generalize putW zw 0 ws = all at *
  generalize usedL (x0, (x1, x2)) = us at *
  go_enter Tryd.func8, Tryd.ntmps8
  go_wp2_with (first
    | (go_at_call 12; (with_reducible refine (HN.out).mono ?_); rintro e w1 ⟨p, rfl, htb, hb⟩; obtain ⟨q, rfl⟩ := tblPtr htb.or; have HTB := Lk.mk htb; have HX := Lk.mk (blk_below HX.out hb); have HB := Lk.mk (below_then H0.out H0.out.size hb); clear hb htb)
    | (go_at_call 10; (with_reducible refine (HG.out _ HB.out).mono ?_); rintro e w' ⟨rfl, hw⟩; obtain rfl := hw.symm; clear hw)
    | (go_at_call 30; (with_reducible refine (HL.out _ HB.out).mono ?_); rintro e w2 ⟨rfl, ha, hb⟩; have HA := Lk.mk ha; have HT := Lk.mk (HTB.out.below hb); have HX := Lk.mk (blk_below HX.out hb); have HB := Lk.mk (below_then HB.out HB.out.size hb); clear hb ha))
  have HXd := Lk.mk (blk_drew HX.out)
  have HAd := Lk.mk (HA.out.below (below_drew (Below.refl _ _)))
  have HBd := Lk.mk (below_drew HB.out)
  have HTd := Lk.mk (HT.out.below (below_drew (Below.refl _ _)))
  go_region_held3 (fun W => W.cell? ⟨w.heap.size, 0, none⟩ = some (.int .i64 x0) ∧ W.cell? ⟨w.heap.size, 1, none⟩ = some (.int .i64 x1) ∧ W.cell? ⟨w.heap.size, 2, none⟩ = some (.int .i64 x2)) (first | exact cells3m HX4.out | exact cells3m HX3.out | exact cells3m HXd.out) (first
    | (go_at_call 37; (with_reducible refine (HU.out _).mono ?_); rintro e w3 ⟨rfl, hb⟩; have HA3 := Lk.mk (HAd.out.below hb); have HT3 := Lk.mk (HTd.out.below hb); have HX3 := Lk.mk (blk_below HXd.out hb); have HB3 := Lk.mk (below_then HBd.out HBd.out.size hb); clear hb)
    | (go_at_call 33; (with_reducible refine (HRW.out _ _ _ _ HA3.out).mono ?_); rintro e w4 ⟨⟨v, k, rfl⟩, hb⟩; have HA4 := Lk.mk (HA3.out.below hb); have HT4 := Lk.mk (HT3.out.below hb); have HX4 := Lk.mk (blk_below HX3.out hb); have HB4 := Lk.mk (below_then HB3.out HB3.out.size hb); clear hb))
  obtain ⟨c0, c1, c2⟩ := cells3m HX4.out
  go_wp2_with (first
    | (go_at_call 34; (with_reducible refine (HTO.out _ _ _ _ HA4.out HT4.out.or).mono ?_); rintro e w5 ⟨⟨n, hne, rfl⟩, hb⟩; have HB5 := Lk.mk (below_alloc (below_then HB4.out HB4.out.size hb) (.cells #[.int .i64 0, .int .i64 0, .int .i64 0] 41)); clear hb)
    | (go_at_call 29; (with_reducible refine (HAW.out _).mono ?_); rintro e w6 ⟨rfl, hb⟩; have HB6 := Lk.mk (below_then HB5.out HB5.out.size hb); clear hb))
  go_ret
  exact ⟨rfl, HB6.out⟩
end Go.Proofs.YtcepafllgjnngaaDoor
