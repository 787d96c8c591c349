/-
  The walk of the layer's awake; the law InjectIs; conditions: the table of deBruijn stands; the arguments read as told.
-/
import Derived.Test.YtcepafllgjnngaaDoorSg
import Derived.Test.YtcepafllgjnngaaDoorMl
import Derived.Test.YtcepafllgjnngaaDoorDj
import Derived.Test.YtcepafllgjnngaaDoorEe
import Derived.Test.YtcepafllgjnngaaDoorPb
namespace Go.Proofs.YtcepafllgjnngaaDoor
open Go.RowKit Go.Proofs.YtcepafllgjnngaaDoorW.PrintWords

theorem kAf_nil2 (w : World) (A : Option Addr) : kAf.C w A 0 [] := ⟨rfl, by simp, fun h => by simp at h⟩
theorem lZ_ent : ∀ e ∈ lZ.map entryOf, Bm.Words e.2.1 := fun e he => entry_words he
theorem chk_none {ws : List Int} {ent : List (Int × (List Int × List Int))} {x : Int × (Int × Int)} {sz : Int → Int} {gv : Int → Int → Sl.Vl × Int} {r : Int × (Int × Int)} (h : framesA ws ent x = ([], 0)) (k : ChkP (framesA ws ent x).1 (framesA ws ent x).2 sz gv [] r) : r = (0, (0, 0)) := by
  rw [h] at k
  exact k.uniq (ChkP.all_ rfl (fun j hj => absurd hj (Nat.not_lt_zero j)) (fun j k hj => absurd hj (Nat.not_lt_zero j)))
theorem chk_bad {ws : List Int} {ent : List (Int × (List Int × List Int))} {x : Int × (Int × Int)} {sz : Int → Int} {gv : Int → Int → Sl.Vl × Int} {r : Int × (Int × Int)} (h : framesA ws ent x = ([], 1)) (k : ChkP (framesA ws ent x).1 (framesA ws ent x).2 sz gv [] r) : r = (3, (0, 0)) := by
  rw [h] at k
  exact k.uniq (ChkP.err (by decide))
theorem fr_16 : framesA (List.replicate (64 * 4) 0) (lZ.map entryOf) (0, (16, 16)) = ([], 0) :=
  framesA_some (lo := 0) (size := 16) (sp := 16) (l := []) (by decide +kernel) (Wk.walk_end (by decide))
theorem fr_0 : framesA (List.replicate (64 * 4) 0) (lZ.map entryOf) (0, (0, 0)) = ([], 1) := framesA_no (by decide +kernel)
theorem c23a (g b : Nat) (p : Value) (w : World) (h : ArB w g b (List.replicate (64 * 4) 0)) (ht : TblAt w p (lZ.map entryOf)) : Calls Tryd.prog 23 #[.pointer (some ⟨g, 0, none⟩), p, .agg #[.int .i64 0, .int .i64 16, .int .i64 16], .slice none 0 0] w fun e w' => e = .returned (.agg #[.int .u8 0, .int .i64 0, .int .i64 0, .int .i64 0]) ∧ Below w.heap.size w w' := by
  refine (check_any g b _ p (lZ.map entryOf) (0, (16, 16)) none 0 [] w h ht.or eZ_in (by decide) lZ_ent (by decide) (kAf_nil2 w none)).mono ?_
  rintro e w' ⟨⟨r, rfl, hc⟩, hb⟩
  rw [chk_none fr_16 hc]
  exact ⟨rfl, hb⟩
theorem c23b (g b : Nat) (p : Value) (w : World) (h : ArB w g b (List.replicate (64 * 4) 0)) (ht : TblAt w p (lZ.map entryOf)) : Calls Tryd.prog 23 #[.pointer (some ⟨g, 0, none⟩), p, .agg #[.int .i64 0, .int .i64 0, .int .i64 0], .slice none 0 0] w fun e w' => e = .returned (.agg #[.int .u8 3, .int .i64 0, .int .i64 0, .int .i64 0]) ∧ Below w.heap.size w w' := by
  refine (check_any g b _ p (lZ.map entryOf) (0, (0, 0)) none 0 [] w h ht.or eZ_in (by decide) lZ_ent (by decide) (kAf_nil2 w none)).mono ?_
  rintro e w' ⟨⟨r, rfl, hc⟩, hb⟩
  rw [chk_bad fr_0 hc]
  exact ⟨rfl, hb⟩
set_option maxRecDepth 100000 in
set_option maxHeartbeats 2000000 in
theorem awake23_any (w : World) (hT : Tab w) : Calls Tryd.prog 20 #[] w fun e w' => e = .returned (.bool true) ∧ Below w.heap.size w w' := by
  have HA := Lk.mk (anew_any 4 w (by decide) (by decide))
  rw [show (((4 : Nat)) : Int) = 4 from rfl] at HA
  have HN := Lk.mk (fun W (hb : Below w.heap.size w W) => new_good (some ⟨W.heap.size, 0, none⟩) 1 lZ _ (fnC_new 0) lZ_words (hT.below (below_then hb hb.size (below_alloc (Below.refl _ _) _))) lZ_ok)
  rw [show lZ.length = 1 from rfl] at HN
  have HAL := Lk.mk (fun W => below_alloc (Below.refl W.heap.size W) (.cells #[.int .i64 0, .slice none 0 0] 28))
  have hfld : ∀ w : World, (Instr.field 51 (.agg #[.int .u8 3, .int .i64 0, .int .i64 0, .int .i64 0]) 0).run Tryd.prog w = .ok (.int .u8 3) w := fun _ => by kernel_rfl
  clear hT
  go_enter Tryd.func20, Tryd.ntmps20
  go_wp2_with (first
    | (go_at_call 18; (with_reducible refine (HA.out).mono ?_); rintro e w1 ⟨rfl, ha, hb⟩; have HA1 := Lk.mk ha; have HB1 := Lk.mk hb; clear ha hb)
    | (go_at_call 12; (with_reducible refine (HN.out _ HB1.out).mono ?_); rintro e w2 ⟨p, rfl, htb, hb⟩; have HA2 := Lk.mk ((HA1.out.below (HAL.out _)).below hb); have HT2 := Lk.mk htb; have HB := Lk.mk (below_then (below_then HB1.out HB1.out.size (HAL.out _)) (Nat.le_trans HB1.out.size (HAL.out _).size) hb); clear hb htb)
    | (go_at_call 23; (with_reducible refine (c23a _ _ _ _ HA2.out HT2.out).mono ?_); rintro e w3 ⟨rfl, hb⟩; have HA2 := Lk.mk (HA2.out.below hb); have HT2 := Lk.mk (HT2.out.below hb); have HB := Lk.mk (below_then HB.out HB.out.size hb); clear hb)
    | (go_at_call 23; (with_reducible refine (c23b _ _ _ _ HA2.out HT2.out).mono ?_); rintro e w4 ⟨rfl, hb⟩; have HB := Lk.mk (below_then HB.out HB.out.size hb); clear hb))
  go_ret
  exact ⟨rfl, HB.out⟩
set_option maxRecDepth 100000 in
set_option maxHeartbeats 2000000 in
theorem inj_early (V : Option Addr) (c0 : Nat) (ws : List Int) (T : Option Addr) (ct : Nat) (t : List (Int × List Int)) (x0 x1 x2 : Int) (A : Option Addr) (c : Nat) (l : List Af) (w : World) (hz : ReadsInt w .u64 V ws.length ws) (ht : FnC w T t.length t) (hI : FnsOk t) (hr : kAf.C w A l.length l) (hT : Tab w) (h : newOk t = false ∨ 256 < ws.length ∨ greatL t = true ∨ great19L l = true) :
    Calls Tryd.prog 4 #[.slice V ws.length c0, .slice T t.length ct, .agg #[.int .i64 x0, .int .i64 x1, .int .i64 x2], .slice A l.length c] w fun e w' => e = .returned (.bool true) ∧ Below w.heap.size w w' := by
  have hm := hr.2.1
  have hmz := hz.2.1
  have h0 := below_alloc (Below.refl w.heap.size w) (.cells #[.int .i64 x0, .int .i64 x1, .int .i64 x2] 41)
  have H0 := Lk.mk h0
  have HAW := Lk.mk (fun W (hb : Below w.heap.size w W) => awake23_any W (hT.below hb))
  have HG := Lk.mk (fun W (hb : Below w.heap.size w W) => great_any T ct t W (ht.below hb))
  have HG2 := Lk.mk (fun W (hb : Below w.heap.size w W) => great19_any A c l W (Kd.C_below hr hb))
  have HNW := Lk.mk (fun (hn : newOk t = false) => new_bad T ct t _ (ht.below h0) hI (hT.below h0) hn)
  have HNG := Lk.mk (fun (hn : newOk t = true) => new_good T ct t _ (ht.below h0) hI (hT.below h0) hn)
  have HA := Lk.mk (fun W => anew_any 4 W (by decide) (by decide))
  rw [show (((4 : Nat)) : Int) = 4 from rfl] at HA
  have HH := Lk.mk h
  clear hz ht hI hr hT h h0
  generalize hg1 : greatL t = g1 at *
  generalize hg2 : great19L l = g2 at *
  cases hn : newOk t with
  | false =>
    have HN := Lk.mk (HNW.out hn)
    clear hn hg1 hg2
    by_cases h256 : 256 < ws.length
    · have hz : (256 : Int) < (ws.length : Int) := by omega
      clear h256
      go_enter Tryd.func4, Tryd.ntmps4
      go_wp2_with (first
        | (go_at_call 12; (with_reducible refine (HN.out).mono ?_); rintro e w1 ⟨rfl, hb⟩; have HB := Lk.mk (below_then H0.out H0.out.size hb); clear hb)
        | (go_at_call 18; (with_reducible refine (HA.out _).mono ?_); rintro e w2 ⟨rfl, _, hb⟩; have HB := Lk.mk (below_then HB.out HB.out.size hb); clear hb)
        | (go_at_call 20; (with_reducible refine (HAW.out _ HB.out).mono ?_); rintro e w' ⟨rfl, hb⟩; have HB := Lk.mk (below_then HB.out HB.out.size hb); clear hb))
      go_ret
      exact ⟨rfl, HB.out⟩
    · have hz : ¬ (256 : Int) < (ws.length : Int) := by omega
      clear h256
      cases g1 <;> cases g2
      all_goals
        go_enter Tryd.func4, Tryd.ntmps4
        go_wp2_with (first
          | (go_at_call 12; (with_reducible refine (HN.out).mono ?_); rintro e w1 ⟨rfl, hb⟩; have HB := Lk.mk (below_then H0.out H0.out.size hb); clear hb)
          | (go_at_call 18; (with_reducible refine (HA.out _).mono ?_); rintro e w2 ⟨rfl, _, hb⟩; have HB := Lk.mk (below_then HB.out HB.out.size hb); clear hb)
          | (go_at_call 10; (with_reducible refine (HG.out _ HB.out).mono ?_); rintro e w' ⟨rfl, hw⟩; obtain rfl := hw.symm; clear hw)
          | (go_at_call 19; (with_reducible refine (HG2.out _ HB.out).mono ?_); rintro e w' ⟨rfl, hw⟩; obtain rfl := hw.symm; clear hw)
          | (go_at_call 20; (with_reducible refine (HAW.out _ HB.out).mono ?_); rintro e w' ⟨rfl, hb⟩; have HB := Lk.mk (below_then HB.out HB.out.size hb); clear hb))
        go_ret
        exact ⟨rfl, HB.out⟩
  | true =>
    have HN := Lk.mk (HNG.out hn)
    rw [hn] at HH
    clear hn hg1 hg2
    by_cases h256 : 256 < ws.length
    · have hz : (256 : Int) < (ws.length : Int) := by omega
      clear h256
      go_enter Tryd.func4, Tryd.ntmps4
      go_wp2_with (first
        | (go_at_call 12; (with_reducible refine (HN.out).mono ?_); rintro e w1 ⟨p, rfl, htb, hb⟩; have HB := Lk.mk (below_then H0.out H0.out.size hb); clear hb htb)
        | (go_at_call 18; (with_reducible refine (HA.out _).mono ?_); rintro e w2 ⟨rfl, _, hb⟩; have HB := Lk.mk (below_then HB.out HB.out.size hb); clear hb)
        | (go_at_call 20; (with_reducible refine (HAW.out _ HB.out).mono ?_); rintro e w' ⟨rfl, hb⟩; have HB := Lk.mk (below_then HB.out HB.out.size hb); clear hb))
      go_ret
      exact ⟨rfl, HB.out⟩
    · have hz : ¬ (256 : Int) < (ws.length : Int) := by omega
      have hg : g1 = true ∨ g2 = true := by
        rcases HH.out with h | h | h | h
        · exact absurd h (by decide)
        · exact absurd h h256
        · exact .inl h
        · exact .inr h
      clear h256
      cases g1 <;> cases g2
      case false.false => rcases hg with h | h <;> cases h
      all_goals
        clear hg
        go_enter Tryd.func4, Tryd.ntmps4
        go_wp2_with (first
          | (go_at_call 12; (with_reducible refine (HN.out).mono ?_); rintro e w1 ⟨p, rfl, htb, hb⟩; have HB := Lk.mk (below_then H0.out H0.out.size hb); clear hb htb)
          | (go_at_call 18; (with_reducible refine (HA.out _).mono ?_); rintro e w2 ⟨rfl, _, hb⟩; have HB := Lk.mk (below_then HB.out HB.out.size hb); clear hb)
          | (go_at_call 10; (with_reducible refine (HG.out _ HB.out).mono ?_); rintro e w' ⟨rfl, hw⟩; obtain rfl := hw.symm; clear hw)
          | (go_at_call 19; (with_reducible refine (HG2.out _ HB.out).mono ?_); rintro e w' ⟨rfl, hw⟩; obtain rfl := hw.symm; clear hw)
          | (go_at_call 20; (with_reducible refine (HAW.out _ HB.out).mono ?_); rintro e w' ⟨rfl, hb⟩; have HB := Lk.mk (below_then HB.out HB.out.size hb); clear hb))
        go_ret
        exact ⟨rfl, HB.out⟩
theorem ok_len {t : List (Int × List Int)} (hn : newOk t = true) : t.length ≤ 100 := by unfold newOk at hn; simp only [Bool.and_eq_true, decide_eq_true_eq] at hn; exact hn.1.2
theorem cells3k {w : World} {g : Nat} {t : TypeId} {a b c : Value} (h : w.heap[g]? = some (.cells #[a, b, c] t (0, 0))) : w.cell? ⟨g, 0, none⟩ = some a ∧ w.cell? ⟨g, 1, none⟩ = some b ∧ w.cell? ⟨g, 2, none⟩ = some c :=
  ⟨by rw [blk_cell h 0]; rfl, by rw [blk_cell h 1]; rfl, by rw [blk_cell h 2]; rfl⟩
theorem own_again {w : World} {base n c : Nat} {A : Option Addr} {l : List Int} (h : w.ownsRow base 23 1 (.slice A n c) n (nums .u64 l)) : ReadsInt w .u64 A n l := by
  obtain ⟨A', c', he, _, _, hr⟩ := own_full h
  injection he with h1 _ _
  rw [h1]; exact hr
theorem tabs_same {t : List (Int × List Int)} (hn : newOk t = true) : tSize (t.map entryOf) = lSize t ∧ tPtr (t.map entryOf) = lPtr t := ⟨funext (tSize_map t), funext fun f => funext (tPtr_map hn f)⟩
set_option maxRecDepth 100000 in
set_option maxHeartbeats 8000000 in
theorem inj_good (V : Option Addr) (c0 : Nat) (ws : List Int) (T : Option Addr) (ct : Nat) (t : List (Int × List Int)) (x0 x1 x2 : Int) (A : Option Addr) (c : Nat) (l : List Af) (w : World) (hz : ReadsInt w .u64 V ws.length ws) (hzw : Bm.Words ws) (ht : FnC w T t.length t) (hI : FnsOk t) (hx : -9223372036854775808 ≤ x1 ∧ x1 ≤ 9223372036854775807) (hr : kAf.C w A l.length l) (hT : Tab w) (hn : newOk t = true) (h256 : ws.length ≤ 256) (hg1 : greatL t = false) (hg2 : great19L l = false) :
    Calls Tryd.prog 4 #[.slice V ws.length c0, .slice T t.length ct, .agg #[.int .i64 x0, .int .i64 x1, .int .i64 x2], .slice A l.length c] w fun e w' => e = .returned (.bool true) ∧ Below w.heap.size w w' := by
  have hm := hr.2.1
  have hmz := hz.2.1
  have h0 := below_alloc (Below.refl w.heap.size w) (.cells #[.int .i64 x0, .int .i64 x1, .int .i64 x2] 41)
  have H0 := Lk.mk h0
  have HX := Lk.mk (blk_new w (.cells #[.int .i64 x0, .int .i64 x1, .int .i64 x2] 41))
  have HAW := Lk.mk (fun W (hb : Below w.heap.size w W) => awake23_any W (hT.below hb))
  have HG := Lk.mk (fun W (hb : Below w.heap.size w W) => great_any T ct t W (ht.below hb))
  have HG2 := Lk.mk (fun W (hb : Below w.heap.size w W) => great19_any A c l W (Kd.C_below hr hb))
  rw [hg1] at HG
  rw [hg2] at HG2
  have HN := Lk.mk (new_good T ct t _ (ht.below h0) hI (hT.below h0) hn)
  have HA := Lk.mk (fun W => anew_any 4 W (by decide) (by decide))
  rw [show (((4 : Nat)) : Int) = 4 from rfl, show List.replicate (64 * 4) 0 = zw from rfl] at HA
  have hzi : ¬ (256 : Int) < (ws.length : Int) := by omega
  have hpl : (putW zw 0 ws).length = 256 := by rw [putW_length _ _ _ (by rw [zw_len]; omega), zw_len]
  have hpw : Bm.Words (putW zw 0 ws) := putW_words (words_zero _) hzw
  have HST := Lk.mk (fun W A c1 (hb : Below w.heap.size w W) (h : ReadsInt W .u64 A zw.length zw) => refStore04_any A c1 zw V c0 ws W h (hz.below hb) (by rw [zw_len]; omega) (by rw [zw_len]; omega))
  have HSO := Lk.mk (fun W g b (hb : Below w.heap.size w W) (hA : ArB W g b zw) => (store_ok g b zw 0 V c0 ws W hA (hz.below hb) hzw (by rw [zw_len]; omega) : Calls Tryd.prog 22 #[.pointer (some ⟨g, 0, none⟩), .int .i64 0, .slice V ws.length c0] W _))
  rw [show ((0 : Nat) : Int) = 0 from rfl] at HSO
  obtain ⟨e1, e2⟩ := tabs_same hn
  have HCK := Lk.mk (fun W g b p (hb : Below w.heap.size w W) (hA : ArB W g b (putW zw 0 ws)) (htb : TblOr W p (t.map entryOf)) => check_any g b (putW zw 0 ws) p (t.map entryOf) (x0, (x1, x2)) A c l W hA htb (entIn_of hn) (by rw [List.length_map]; have := ok_len hn; omega) (fun e he => entry_words he) hx (Kd.C_below hr hb))
  rw [e1, e2] at HCK
  have HRK := Lk.mk (fun W A1 c1 (hb : Below w.heap.size w W) (h : ReadsInt W .u64 A1 (putW zw 0 ws).length (putW zw 0 ws)) => rcheck_any A1 c1 (putW zw 0 ws) T ct t (x0, (x1, x2)) A c l W h hpw (by omega) (ht.below hb) hn (fun f hf => (hI f hf).1) hx (Kd.C_below hr hb))
  have hmk := make256
  have HZ := Lk.mk (fun W => own_reads' (own_lit W W.heap.size 23 .u64 zw (Nat.le_refl _) (by rw [zw_len]; omega)))
  rw [zw_len] at HZ HST
  rw [hpl] at HRK
  have HPL := Lk.mk hpl
  dsimp only at HCK HRK
  clear hz hzw ht hI hx hr hT hn h256 hg1 hg2 h0 e1 e2 hpw hpl
  generalize hzz : zw = Z at *
  clear hzz
  generalize putW Z 0 ws = all at *
  generalize (framesA all (t.map entryOf) (x0, (x1, x2))).1 = F at *
  generalize (framesA all (t.map entryOf) (x0, (x1, x2))).2 = er at *
  generalize getV (lSize t) (lPtr t) all F = gv at *
  go_enter Tryd.func4, Tryd.ntmps4
  go_wp2_with (first
    | (go_at_call 12; (with_reducible refine (HN.out).mono ?_); rintro e w1 ⟨p, rfl, htb, hb⟩; have HTB := Lk.mk htb; have HW1 := Lk.mk (show w.heap.size < w1.heap.size from Nat.lt_of_lt_of_le (by simp) hb.size); have HX := Lk.mk (blk_below HX.out hb); have HB := Lk.mk (below_then H0.out H0.out.size hb); clear hb htb)
    | (go_at_call 18; (with_reducible refine (HA.out _).mono ?_); rintro e w2 ⟨rfl, ha, hb⟩; have HA2 := Lk.mk ha; have HT2 := Lk.mk hb; have HX := Lk.mk (blk_below HX.out hb); have HB := Lk.mk (below_then HB.out HB.out.size hb); have HBz := Lk.mk (below_alloc HB.out (.cells (nums .u64 Z).toArray 23)); clear hb ha)
    | (go_at_call 10; (with_reducible refine (HG.out _ HB.out).mono ?_); rintro e w' ⟨rfl, hw⟩; obtain rfl := hw.symm; clear hw)
    | (go_at_call 19; (with_reducible refine (HG2.out _ HB.out).mono ?_); rintro e w' ⟨rfl, hw⟩; obtain rfl := hw.symm; clear hw)
    | (go_at_call 21; (with_reducible refine (HST.out _ _ _ HBz.out (HZ.out _)).mono ?_); rintro e w3 ⟨v, rfl, ho, hb⟩; rw [HPL.out] at ho; obtain ⟨A13, c13, rfl, _, _, _⟩ := own_full ho; have hb2 := below_then (below_alloc (Below.refl w2.heap.size w2) (.cells (nums .u64 Z).toArray 23)) (below_alloc (Below.refl w2.heap.size w2) (.cells (nums .u64 Z).toArray 23)).size hb; have HA3 := Lk.mk (HA2.out.below hb2); have HS3 := Lk.mk (own_stab ho (Nat.lt_of_lt_of_le HA2.out.lt (below_alloc (Below.refl w2.heap.size w2) (.cells (nums .u64 Z).toArray 23)).size)); have HT3 := Lk.mk (below_then HT2.out HT2.out.size hb2); have HX := Lk.mk (blk_below HX.out hb2); have HB := Lk.mk (below_then HB.out HB.out.size hb2); clear hb ho hb2))
  have HXd := Lk.mk (blk_drew HX.out)
  have HAd := Lk.mk (HA3.out.below (below_drew (Below.refl _ _)))
  have HBd := Lk.mk (below_drew HB.out)
  have HTd := Lk.mk (below_drew HT3.out)
  have HSd := Lk.mk (HS3.out.keep (KeepW.of_below (below_drew (Below.refl _ _)) _))
  go_region_held3 (fun W => W.cell? ⟨w.heap.size, 0, none⟩ = some (.int .i64 x0) ∧ W.cell? ⟨w.heap.size, 1, none⟩ = some (.int .i64 x1) ∧ W.cell? ⟨w.heap.size, 2, none⟩ = some (.int .i64 x2)) (first | exact cells3k HX9.out | exact cells3k HX6.out | exact cells3k HX5.out | exact cells3k HX4.out | exact cells3k HXd.out) (first
    | (go_at_call 22; (with_reducible refine (HSO.out _ _ _ HBd.out HAd.out).mono ?_); rintro e w4 ⟨rfl, ha, hk⟩; have HA4 := Lk.mk ha; have HX4 := Lk.mk ((hk.block _ (blk_lt HXd.out) (by have := HW1.out; omega)).trans HXd.out); have HB4 := Lk.mk (hk.below HBd.out (by have := HW1.out; omega) HBd.out.size); have HT4 := Lk.mk (hk.below HTd.out (Nat.le_refl _) HTd.out.size); have HS4 := Lk.mk (HSd.out.keep hk); clear ha hk)
    | (go_at_call 23; (with_reducible refine (HCK.out _ _ _ _ HB4.out HA4.out (HTB.out.below HT4.out).or).mono ?_); rintro e w5 ⟨⟨r, rfl, hc⟩, hb⟩; have HC5 := Lk.mk hc; have HX5 := Lk.mk (blk_below HX4.out hb); have HB5 := Lk.mk (below_then HB4.out HB4.out.size hb); have HR5 := Lk.mk (own_again (HS4.out.keep (KeepW.of_below hb _)).now); clear hb hc)
    | (go_at_call 24; (with_reducible refine (HRK.out _ _ _ HB5.out HR5.out).mono ?_); rintro e w6 ⟨⟨q, rfl, hq⟩, hb⟩; obtain rfl := HC5.out.uniq hq; have HX6 := Lk.mk (blk_below HX5.out hb); have HB6 := Lk.mk (below_then HB5.out HB5.out.size hb); clear hb hq)
    | (go_at_call 20; (with_reducible refine (HAW.out _ HB6.out).mono ?_); rintro e w9 ⟨rfl, hb⟩; have HX9 := Lk.mk (blk_below HX6.out hb); have HB9 := Lk.mk (below_then HB6.out HB6.out.size hb); clear hb))
  go_wp2
  go_ret
  exact ⟨rfl, HB9.out⟩
theorem lawOfInjectIs (V : Option Addr) (c0 : Nat) (ws : List Int) (T : Option Addr) (ct : Nat) (t : List (Int × List Int)) (x : Int × (Int × Int)) (A : Option Addr) (c : Nat) (l : List Af) (w : World) (hz : ReadsInt w .u64 V ws.length ws) (hzw : Bm.Words ws) (_ : ws.length ≤ c0) (_ : ws.length ≤ 1048576) (ht : FnC w T t.length t) (hI : FnsIn t) (_ : t.length ≤ 1048576) (hb : ∀ f ∈ t, f.2.length ≤ 1048576) (hx : StkIn x) (hr : kAf.C w A l.length l) (_ : AfIn l) (_ : l.length ≤ 1048576) (_ : ∀ f ∈ l, f.2.length ≤ 1048576) (hT : Tab w) :
    Calls Tryd.prog 4 #[.slice V ws.length c0, .slice T t.length ct, .agg #[.int .i64 x.1, .int .i64 x.2.1, .int .i64 x.2.2], .slice A l.length c] w fun e w' => e = .returned (.bool true) ∧ Below w.heap.size w w' := by
  have hI' : FnsOk t := fnsOk_of hI hb (Nat.le_refl _)
  obtain ⟨x0, x1, x2⟩ := x
  by_cases h1 : newOk t = true
  · by_cases h2 : 256 < ws.length
    · exact inj_early V c0 ws T ct t x0 x1 x2 A c l w hz ht hI' hr hT (.inr (.inl h2))
    · by_cases h3 : greatL t = true
      · exact inj_early V c0 ws T ct t x0 x1 x2 A c l w hz ht hI' hr hT (.inr (.inr (.inl h3)))
      · by_cases h4 : great19L l = true
        · exact inj_early V c0 ws T ct t x0 x1 x2 A c l w hz ht hI' hr hT (.inr (.inr (.inr h4)))
        · exact inj_good V c0 ws T ct t x0 x1 x2 A c l w hz hzw ht hI' hx.2.1 hr hT h1 (by omega) (by simpa using h3) (by simpa using h4)
  · exact inj_early V c0 ws T ct t x0 x1 x2 A c l w hz ht hI' hr hT (.inl (by simpa using h1))
end Go.Proofs.YtcepafllgjnngaaDoor
