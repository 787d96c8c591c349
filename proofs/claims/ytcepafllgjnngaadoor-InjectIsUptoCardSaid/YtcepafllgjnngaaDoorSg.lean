/-
  The walk of the reference's Check; conditions: what is handed in reads as told.
-/
import Derived.Test.YtcepafllgjnngaaDoorSe
import Derived.Test.YtcepafllgjnngaaDoorSc
import Derived.StillTactics
namespace Go.Proofs.YtcepafllgjnngaaDoor
open Go.RowKit Go.Proofs.YtcepafllgjnngaaDoorW.PrintWords

theorem chk23_out {W : World} {g : Nat} {k d s : Int} {a : Act} {R : Ending → World → Prop} (hd : a.defers = []) (hE : W.heap[g]? = some (.cells #[.int .u8 k, .int .i64 0, .int .i64 d, .int .i64 s] 51 (0, 0))) (ht : a.tmps.getD 8 undef = .pointer (some ⟨g, 0, none⟩)) (hR : R (.returned (.agg #[.int .u8 k, .int .i64 0, .int .i64 d, .int .i64 s])) W) :
    bodyPost Tryd.prog Tryd.f24 R .ret a W :=
  bodyPost_ret (results_cell_row Tryd.results24 a.tmps W g 51 #[.int .u8 k, .int .i64 0, .int .i64 d, .int .i64 s] (0, 0) _ ht hE Tryd.underlying51 rfl (by kernel_rfl)) hd hR
set_option maxRecDepth 100000 in
set_option maxHeartbeats 6000000 in
theorem rcheck_any (V : Option Addr) (c0 : Nat) (ws : List Int) (T : Option Addr) (ct : Nat) (t : List (Int × List Int)) (x : Int × (Int × Int)) (A : Option Addr) (c : Nat) (l : List Af) (w : World) (hz : ReadsInt w .u64 V ws.length ws) (hzw : Bm.Words ws) (hzl : ws.length ≤ 65536) (ht : FnC w T t.length t) (hn : newOk t = true) (htw : ∀ f ∈ t, Bm.Words f.2) (hx : -9223372036854775808 ≤ x.2.1 ∧ x.2.1 ≤ 9223372036854775807) (hr : kAf.C w A l.length l) :
    Calls Tryd.prog 24 #[.slice V ws.length c0, .slice T t.length ct, .agg #[.int .i64 x.1, .int .i64 x.2.1, .int .i64 x.2.2], .slice A l.length c] w fun e w' => (∃ r : Int × (Int × Int), e = .returned (.agg #[.int .u8 r.1, .int .i64 0, .int .i64 r.2.1, .int .i64 r.2.2]) ∧ ChkP (framesA ws (t.map entryOf) x).1 (framesA ws (t.map entryOf) x).2 (lSize t) (getV (lSize t) (lPtr t) ws (framesA ws (t.map entryOf) x).1) l r) ∧ Below w.heap.size w w' := by
  have hm := hr.2.1
  have hs1 : (w.alloc (.cells #[.int .i64 x.1, .int .i64 x.2.1, .int .i64 x.2.2] 41)).heap.size = w.heap.size + 1 := by simp
  have h0 := below_alloc (below_alloc (Below.refl w.heap.size w) (.cells #[.int .i64 x.1, .int .i64 x.2.1, .int .i64 x.2.2] 41)) (.cells #[.int .u8 0, .int .i64 0, .int .i64 0, .int .i64 0] 51)
  have H0 := Lk.mk h0
  have HS0 := Lk.mk (blk_alloc (blk_new w (.cells #[.int .i64 x.1, .int .i64 x.2.1, .int .i64 x.2.2] 41)) (.cells #[.int .u8 0, .int .i64 0, .int .i64 0, .int .i64 0] 51))
  have hE0 := blk_new (w.alloc (.cells #[.int .i64 x.1, .int .i64 x.2.1, .int .i64 x.2.2] 41)) (.cells #[.int .u8 0, .int .i64 0, .int .i64 0, .int .i64 0] 51)
  rw [hs1] at hE0
  have HE0 := Lk.mk hE0
  have hfr := refFrames15_any V c0 ws T ct t x _ (hz.below h0) hzw (ht.below h0) hn hzl hx
  have HGT := Lk.mk (fun W (A1 : Option Addr) (c1 : Nat) (d i : Nat) (hb : Below w.heap.size w W) (hF : kFr.C W A1 (framesA ws (t.map entryOf) x).1.length (framesA ws (t.map entryOf) x).1) => rget_any V c0 ws T ct t A1 c1 (framesA ws (t.map entryOf) x).1 d i W (hz.below hb) hzw (ht.below hb) htw hF (lSize_rng hn))
  have HSZ := Lk.mk (fun W f (hb : Below w.heap.size w W) => refSize_any T ct t f W (ht.below hb))
  have HRC := Lk.mk hr
  clear hz hzw hzl ht hn htw hx hr h0 hE0 hs1
  generalize getV (lSize t) (lPtr t) ws (framesA ws (t.map entryOf) x).1 = gv at *
  generalize (framesA ws (t.map entryOf) x).1 = F at *
  generalize (framesA ws (t.map entryOf) x).2 = er at *
  generalize lSize t = sz at *
  obtain ⟨b0, b1, b2, _, _, _⟩ := cells3c HS0.out
  obtain ⟨x0, x1, x2⟩ := x
  dsimp only at *
  by_cases h1 : er = 0
  · by_cases h2 : F.length = l.length
    · subst h1
      rw [h2] at hfr HGT
      have HFR := Lk.mk hfr
      have HOK := Lk.mk h2
      clear hfr h2
      go_enter Tryd.func24, Tryd.ntmps24
      go_wp2_with (first
        | (go_at_call 65; (with_reducible refine (HFR.out).mono ?_); rintro e w1 ⟨hb, A1, c1, rfl, hF⟩; have HB1 := Lk.mk (below_then H0.out H0.out.size hb); have HE1 := Lk.mk (blk_below HE0.out hb); have HF1 := Lk.mk hF; have HRC1 := Lk.mk (Kd.C_below HRC.out HB1.out); clear hb hF))
      go_loopg [35] l.length (fun gg v35 wr => ∃ k : Nat, k ≤ l.length ∧ l.length - k ≤ gg ∧ v35 = .int .i64 k ∧ Lk (∀ j, j < k → okFn F sz l j) ∧ Lk (wr.heap[w.heap.size + 1]? = some (.cells #[.int .u8 0, .int .i64 0, .int .i64 0, .int .i64 0] 51 (0, 0))) ∧ Lk (Below w1.heap.size w1 wr))
      case atStart => exact ⟨0, by omega, by omega, rfl, ⟨fun j hj => absurd hj (by omega)⟩, HE1, ⟨Below.refl _ _⟩⟩
      case round =>
        obtain ⟨k, hk, hg, rfl, HK, HE, HB⟩ := hrel
        obtain ⟨wo, rfl⟩ : ∃ wo : World, wo = wr := ⟨_, rfl⟩
        by_cases hlt : k < l.length
        · have hltz : (k : Int) < (l.length : Int) := by omega
          obtain ⟨ad, A2, c2, rfl, e0, e1, _, _⟩ := kAf_at (Kd.C_below HRC1.out (below_drew HB.out)) k hlt
          obtain ⟨ad3, rfl, q0, q1, q2⟩ := kFr_at (Kd.C_below HF1.out (below_drew HB.out)) k hlt
          have HX1 := Lk.mk (fun (h : okFn F sz l k) => (fun j hj => by
            by_cases e : j = k
            · subst e; exact h
            · exact HK.out j (by omega) : ∀ j, j < k + 1 → okFn F sz l j))
          have HXN := Lk.mk (fun (h : ¬ okFn F sz l k) => ChkP.fn (gv := gv) HOK.out hlt HK.out h)
          unfold okFn at HX1 HXN
          generalize F.getD k Sl.dFr = y at *
          generalize l.getD k dAf = f at *
          obtain ⟨f0, f1⟩ := f
          obtain ⟨y0, y1, y2⟩ := y
          dsimp only at *
          have HBd := Lk.mk (below_drew HB.out)
          have HEd := Lk.mk (blk_drew HE.out)
          have HC := Lk.mk (HSZ.out _ f0 (below_then HB1.out HB1.out.size HBd.out))
          generalize sz f0 = z at *
          by_cases hy : y1 = f0
          · subst hy
            by_cases hz : z = (f1.length : Int)
            · subst hz
              have HK2 := Lk.mk (HX1.out ⟨rfl, rfl⟩)
              clear HX1 HXN
              go_wp2
              obtain ⟨W9, hW9⟩ : ∃ W9, W9 = wo.drew := ⟨_, rfl⟩
              rw [← hW9] at HBd HEd HC q1 e0 e1
              refine wp_region_still_lit (by kernel_rfl) (by kernel_rfl) ?_
              rw [show ({ wo with drawn := wo.drawn + 1 } : World) = W9 from hW9.symm]
              clear hW9
              obtain ⟨s0, s1, s2, s3, u0, u1, u2, u3⟩ := cells4z HEd.out
              repeat (with_reducible refine wpStill_step (fun K hK => ?_); go_simp; with_reducible refine hK _ ?_; clear hK K)
              (with_reducible refine wpStill_step (fun K hK => ?_); go_simp; with_reducible refine ⟨_, HC.out, hK _ ?_⟩; clear hK K)
              repeat (with_reducible refine wpStill_step (fun K hK => ?_); go_simp; with_reducible refine hK _ ?_; clear hK K)
              refine wpStill_nil ?_
              go_wp2
              go_roundg (l.length - (k + 1))
              case measure => omega
              case rel => exact ⟨k + 1, by omega, by omega, by go_num, HK2, HEd, HBd⟩
            · have hzb : (z != (f1.length : Int)) = true := bne_iff_ne.2 hz
              have HCK := Lk.mk (HXN.out (fun h => hz h.2))
              clear HX1 HXN hz
              go_wp2
              obtain ⟨W9, hW9⟩ : ∃ W9, W9 = wo.drew := ⟨_, rfl⟩
              rw [← hW9] at HBd HEd HC q1 e0 e1
              refine wp_region_still_lit (by kernel_rfl) (by kernel_rfl) ?_
              rw [show ({ wo with drawn := wo.drawn + 1 } : World) = W9 from hW9.symm]
              clear hW9
              obtain ⟨s0, s1, s2, s3, u0, u1, u2, u3⟩ := cells4z HEd.out
              repeat (with_reducible refine wpStill_step (fun K hK => ?_); go_simp; with_reducible refine hK _ ?_; clear hK K)
              (with_reducible refine wpStill_step (fun K hK => ?_); go_simp; with_reducible refine ⟨_, HC.out, hK _ ?_⟩; clear hK K)
              repeat (with_reducible refine wpStill_step (fun K hK => ?_); go_simp; with_reducible refine hK _ ?_; clear hK K)
              refine wpStill_nil ?_
              go_wp2
              exact chk23_out rfl (set4 HEd.out _ _ _ _) rfl ⟨⟨(4, ((k : Int), 0)), rfl, HCK.out⟩, belowF (below_then HB1.out HB1.out.size HBd.out) (Nat.le_succ _) _ _ _ _⟩
          · have hyb : Lk ((y1 != f0) = true) := ⟨bne_iff_ne.2 hy⟩
            have HCK := Lk.mk (HXN.out (fun h => hy h.1))
            clear HX1 HXN hy
            go_wp2
            obtain ⟨W9, hW9⟩ : ∃ W9, W9 = wo.drew := ⟨_, rfl⟩
            rw [← hW9] at HBd HEd HC q1 e0 e1
            refine wp_region_still_lit (by kernel_rfl) (by kernel_rfl) ?_
            rw [show ({ wo with drawn := wo.drawn + 1 } : World) = W9 from hW9.symm]
            clear hW9
            obtain ⟨s0, s1, s2, s3, u0, u1, u2, u3⟩ := cells4z HEd.out
            repeat (with_reducible refine wpStill_step (fun K hK => ?_); go_simp; with_reducible refine hK _ ?_; clear hK K)
            rw [hyb.out]
            iterate 14 with_reducible refine wpStill_skip (by kernel_rfl) ?_
            with_reducible refine wpStill_val (v := .bool true) (by kernel_rfl) (by kernel_rfl) ?_
            with_reducible refine wpStill_nil ?_
            simp only [Act.put, List.setIfInBounds_toArray, List.set_cons_zero, List.set_cons_succ]
            go_wp2
            exact chk23_out rfl (set4 HEd.out _ _ _ _) rfl ⟨⟨(4, ((k : Int), 0)), rfl, HCK.out⟩, belowF (below_then HB1.out HB1.out.size HBd.out) (Nat.le_succ _) _ _ _ _⟩
        · obtain rfl : k = l.length := by omega
          have hltz : ¬ (l.length : Int) < (l.length : Int) := by omega
          go_wp2
          go_loopg [70] l.length (fun gg v70 W2 => ∃ d : Nat, d ≤ l.length ∧ l.length - d ≤ gg ∧ v70 = .int .i64 d ∧ Lk (∀ j k : Nat, k < (l.getD j dAf).2.length → j < d → okSl gv l j k) ∧ Lk (W2.heap[w.heap.size + 1]? = some (.cells #[.int .u8 0, .int .i64 0, .int .i64 0, .int .i64 0] 51 (0, 0))) ∧ Lk (Below w1.heap.size w1 W2))
          case atStart => exact ⟨0, by omega, by omega, rfl, ⟨fun j k _ hj => absurd hj (by omega)⟩, HE, HB⟩
          case round =>
            obtain ⟨d, hd, hg2, rfl, HD2, HE2, HB2⟩ := hrel
            obtain ⟨w2, rfl⟩ : ∃ w2 : World, w2 = wr := ⟨_, rfl⟩
            clear HE HB
            by_cases hdl : d < l.length
            · have hdz : (d : Int) < (l.length : Int) := by omega
              obtain ⟨ad, A2, c2, rfl, e0, e1, _, hC1⟩ := kAf_at (Kd.C_below HRC1.out HB2.out) d hdl
              have HE1c := Lk.mk e1
              have HCV := Lk.mk hC1
              have hmx := hC1.2.1
              have HXS := Lk.mk (fun (h : ∀ i, i < (l.getD d dAf).2.length → okSl gv l d i) => (fun j k hk hj => by
                by_cases e : j = d
                · subst e; exact h k hk
                · exact HD2.out j k hk (by omega) : ∀ j k : Nat, k < (l.getD j dAf).2.length → j < d + 1 → okSl gv l j k))
              have HXN := Lk.mk (fun (i : Nat) (hi : i < (l.getD d dAf).2.length) (h1 : ∀ k, k < i → okSl gv l d k) (h2 : ¬ okSl gv l d i) => ChkP.sl (gv := gv) HOK.out HK.out hdl hi (fun j k hk hjk => by
                rcases hjk with hj | ⟨rfl, hk2⟩
                · exact HD2.out j k hk hj
                · exact h1 k hk2) h2)
              unfold okSl at HXS HXN
              have HGX := Lk.mk (fun W (i : Nat) (hb : Below w1.heap.size w1 W) => HGT.out W A1 c1 d i (below_then HB1.out HB1.out.size hb) (Kd.C_below HF1.out hb))
              generalize l.getD d dAf = f at *
              obtain ⟨f0, f1⟩ := f
              dsimp only at *
              clear hC1
              go_wp2
              go_loopg [79] f1.length (fun gg v79 W3 => ∃ i : Nat, i ≤ f1.length ∧ f1.length - i ≤ gg ∧ v79 = .int .i64 i ∧ Lk (∀ j : Nat, j < i → gv d j = (f1.getD j Sl.dVl, 0)) ∧ Lk (W3.heap[w.heap.size + 1]? = some (.cells #[.int .u8 0, .int .i64 0, .int .i64 0, .int .i64 0] 51 (0, 0))) ∧ Lk (Below w2.heap.size w2 W3))
              case atStart => exact ⟨0, by omega, by omega, rfl, ⟨fun j hj => absurd hj (by omega)⟩, HE2, ⟨Below.refl _ _⟩⟩
              case round =>
                obtain ⟨i, hi, hg3, rfl, HD3, HE3, HB3⟩ := hrel
                obtain ⟨w3, rfl⟩ : ∃ w3 : World, w3 = wr := ⟨_, rfl⟩
                clear e0 e1
                by_cases hil : i < f1.length
                · have hiz : (i : Int) < (f1.length : Int) := by omega
                  obtain ⟨ad1, rfl, z0, z1, z2, z3⟩ := kVl_at (Kd.C_below HCV.out HB3.out) i hil
                  have HZ := Lk.mk (show _ ∧ _ ∧ _ ∧ _ from ⟨z0, z1, z2, z3⟩)
                  have HX4 := Lk.mk (fun (h : gv d i = (f1.getD i Sl.dVl, 0)) => (fun j hj => by
                    by_cases e : j = i
                    · subst e; exact h
                    · exact HD3.out j (by omega) : ∀ j : Nat, j < i + 1 → gv d j = (f1.getD j Sl.dVl, 0)))
                  have HN4 := Lk.mk (HXN.out i hil HD3.out)
                  have HG4 := Lk.mk (HGX.out w3 i (below_then HB2.out HB2.out.size HB3.out))
                  generalize f1.getD i Sl.dVl = v at *
                  obtain ⟨v0, v1, v2, v3⟩ := v
                  generalize gv d i = q at *
                  obtain ⟨⟨a0, a1, a2, a3⟩, n⟩ := q
                  unfold GetL at HG4
                  dsimp only at *
                  clear z0 z1 z2 z3
                  by_cases hok : (((a0, a1, a2, a3), n) : Sl.Vl × Int) = ((v0, v1, v2, v3), 0)
                  · have HD4 := Lk.mk (HX4.out hok)
                    have hok2 := hok
                    simp only [Prod.mk.injEq] at hok2
                    obtain ⟨⟨rfl, rfl, rfl, rfl⟩, rfl⟩ := hok2
                    clear HX4 HN4 hok
                    go_wp2_with (first
                      | (go_at_call 67; (with_reducible refine (HG4.out).mono ?_); rintro e w4 ⟨rfl, hb⟩; have HB4 := Lk.mk (below_drew (below_alloc (below_then HB3.out HB3.out.size hb) (.cells #[.int .u8 a0, .int .u64 a1, .int .i64 a2, .int .i64 a3] 56))); have HE4 := Lk.mk (blk_drew (blk_alloc (blk_below HE3.out hb) (.cells #[.int .u8 a0, .int .u64 a1, .int .i64 a2, .int .i64 a3] 56))); have HT4 := Lk.mk (blk_drew (blk_new w4 (.cells #[.int .u8 a0, .int .u64 a1, .int .i64 a2, .int .i64 a3] 56))); have HW4 := Lk.mk (below_drew (below_alloc hb (.cells #[.int .u8 a0, .int .u64 a1, .int .i64 a2, .int .i64 a3] 56))); clear hb))
                    obtain ⟨t0, t1, t2, t3⟩ := cells4v HT4.out
                    have e1 := pw_cell_below HB4.out HE1c.out
                    have z0 := pw_cell_below HW4.out HZ.out.1
                    have z1 := pw_cell_below HW4.out HZ.out.2.1
                    have z2 := pw_cell_below HW4.out HZ.out.2.2.1
                    have z3 := pw_cell_below HW4.out HZ.out.2.2.2
                    obtain ⟨W9, hW9⟩ : ∃ W9, W9 = (w4.alloc (.cells #[.int .u8 a0, .int .u64 a1, .int .i64 a2, .int .i64 a3] 56)).drew := ⟨_, rfl⟩
                    rw [← hW9] at HB4 HE4 HT4 HW4 t0 t1 t2 t3 e1 z0 z1 z2 z3
                    refine wp_region_still_lit (by kernel_rfl) (by kernel_rfl) ?_
                    rw [show ({ w4.alloc (.cells #[.int .u8 a0, .int .u64 a1, .int .i64 a2, .int .i64 a3] 56) with drawn := (w4.alloc (.cells #[.int .u8 a0, .int .u64 a1, .int .i64 a2, .int .i64 a3] 56)).drawn + 1 } : World) = W9 from hW9.symm]
                    clear hW9
                    repeat (with_reducible refine wpStill_step (fun K hK => ?_); go_simp; with_reducible refine hK _ ?_; clear hK K)
                    refine wpStill_nil ?_
                    go_wp2
                    go_roundg (f1.length - (i + 1))
                    case measure => omega
                    case rel => exact ⟨i + 1, by omega, by omega, by go_num, HD4, HE4, HB4⟩
                  · have HCK := Lk.mk (HN4.out hok)
                    have hpart : Lk ((n != 0) = true) ∨ n = 0 ∧ ((a0 == v0) = false ∨ a0 = v0 ∧ ((a1 == v1) = false ∨ a1 = v1 ∧ ((a2 == v2) = false ∨ a2 = v2 ∧ (a3 == v3) = false))) := by
                      by_cases p0 : n = 0
                      · refine .inr ⟨p0, ?_⟩
                        by_cases p1 : a0 = v0
                        · refine .inr ⟨p1, ?_⟩
                          by_cases p2 : a1 = v1
                          · refine .inr ⟨p2, ?_⟩
                            by_cases p3 : a2 = v2
                            · exact .inr ⟨p3, beq_false_of_ne (fun p4 => hok (by rw [p0, p1, p2, p3, p4]))⟩
                            · exact .inl (beq_false_of_ne p3)
                          · exact .inl (beq_false_of_ne p2)
                        · exact .inl (beq_false_of_ne p1)
                      · exact .inl ⟨bne_iff_ne.2 p0⟩
                    clear HX4 HN4 hok
                    go_wp2_with (first
                      | (go_at_call 67; (with_reducible refine (HG4.out).mono ?_); rintro e w4 ⟨rfl, hb⟩; have HB4 := Lk.mk (below_drew (below_alloc (below_then HB3.out HB3.out.size hb) (.cells #[.int .u8 a0, .int .u64 a1, .int .i64 a2, .int .i64 a3] 56))); have HE4 := Lk.mk (blk_drew (blk_alloc (blk_below HE3.out hb) (.cells #[.int .u8 a0, .int .u64 a1, .int .i64 a2, .int .i64 a3] 56))); have HT4 := Lk.mk (blk_drew (blk_new w4 (.cells #[.int .u8 a0, .int .u64 a1, .int .i64 a2, .int .i64 a3] 56))); have HW4 := Lk.mk (below_drew (below_alloc hb (.cells #[.int .u8 a0, .int .u64 a1, .int .i64 a2, .int .i64 a3] 56))); clear hb))
                    obtain ⟨t0, t1, t2, t3⟩ := cells4v HT4.out
                    have e1 := pw_cell_below HB4.out HE1c.out
                    have z0 := pw_cell_below HW4.out HZ.out.1
                    have z1 := pw_cell_below HW4.out HZ.out.2.1
                    have z2 := pw_cell_below HW4.out HZ.out.2.2.1
                    have z3 := pw_cell_below HW4.out HZ.out.2.2.2
                    obtain ⟨W9, hW9⟩ : ∃ W9, W9 = (w4.alloc (.cells #[.int .u8 a0, .int .u64 a1, .int .i64 a2, .int .i64 a3] 56)).drew := ⟨_, rfl⟩
                    rw [← hW9] at HB4 HE4 HT4 HW4 t0 t1 t2 t3 e1 z0 z1 z2 z3
                    refine wp_region_still_lit (by kernel_rfl) (by kernel_rfl) ?_
                    rw [show ({ w4.alloc (.cells #[.int .u8 a0, .int .u64 a1, .int .i64 a2, .int .i64 a3] 56) with drawn := (w4.alloc (.cells #[.int .u8 a0, .int .u64 a1, .int .i64 a2, .int .i64 a3] 56)).drawn + 1 } : World) = W9 from hW9.symm]
                    clear hW9
                    obtain ⟨s0, s1, s2, s3, u0, u1, u2, u3⟩ := cells4z HE4.out
                    rcases hpart with p0 | ⟨rfl, hpart⟩
                    · repeat (with_reducible refine wpStill_step (fun K hK => ?_); go_simp; with_reducible refine hK _ ?_; clear hK K)
                      rw [p0.out]
                      iterate 10 with_reducible refine wpStill_skip (by kernel_rfl) ?_
                      with_reducible refine wpStill_val (v := .bool true) (by kernel_rfl) (by kernel_rfl) ?_
                      with_reducible refine wpStill_nil ?_
                      simp only [Act.put, List.setIfInBounds_toArray, List.set_cons_zero, List.set_cons_succ]
                      go_wp2
                      exact chk23_out rfl (set4 HE4.out _ _ _ _) rfl ⟨⟨(5, ((d : Int), (i : Int))), rfl, HCK.out⟩, belowF (below_then HB1.out HB1.out.size (below_then HB2.out HB2.out.size HB4.out)) (Nat.le_succ _) _ _ _ _⟩
                    · rcases hpart with p0 | ⟨rfl, p0 | ⟨rfl, p0 | ⟨rfl, p0⟩⟩⟩
                      all_goals
                        repeat (with_reducible refine wpStill_step (fun K hK => ?_); go_simp; with_reducible refine hK _ ?_; clear hK K)
                        refine wpStill_nil ?_
                        go_wp2
                        exact chk23_out rfl (set4 HE4.out _ _ _ _) rfl ⟨⟨(5, ((d : Int), (i : Int))), rfl, HCK.out⟩, belowF (below_then HB1.out HB1.out.size (below_then HB2.out HB2.out.size HB4.out)) (Nat.le_succ _) _ _ _ _⟩
                · have hiz : ¬ (i : Int) < (f1.length : Int) := by omega
                  go_wp2
                  go_roundg (l.length - (d + 1))
                  case measure => omega
                  case rel => exact ⟨d + 1, by omega, by omega, by go_num, ⟨HXS.out (fun j hj => HD3.out j (by omega))⟩, HE3, ⟨below_then HB2.out HB2.out.size HB3.out⟩⟩
            · have hdz : ¬ (d : Int) < (l.length : Int) := by omega
              obtain rfl : d = l.length := by omega
              obtain ⟨s0, s1, s2, s3, u0, u1, u2, u3⟩ := cells4z HE2.out
              go_wp2
              exact chk23_out rfl (set4 HE2.out _ _ _ _) rfl ⟨⟨0, 0, 0, rfl, ChkP.all_ HOK.out HK.out (fun j k hj hk => HD2.out j k hk hj)⟩, belowF (below_then HB1.out HB1.out.size HB2.out) (Nat.le_succ _) _ _ _ _⟩
    · subst h1
      have HFR := Lk.mk hfr
      have HCK := Lk.mk (ChkP.len (er := 0) (sz := sz) (gv := gv) h2)
      have hlb : ((F.length : Int) != (l.length : Int)) = true := bne_iff_ne.2 (by omega)
      clear hfr h2
      go_enter Tryd.func24, Tryd.ntmps24
      go_wp2_with (first
        | (go_at_call 65; (with_reducible refine (HFR.out).mono ?_); rintro e w1 ⟨hb, A1, c1, rfl, hF⟩; have HB1 := Lk.mk (below_then H0.out H0.out.size hb); have HE1 := Lk.mk (blk_below HE0.out hb); obtain ⟨s0, s1, s2, s3, u0, u1, u2, u3⟩ := cells4z HE1.out; clear hb hF))
      exact chk23_out rfl (set4 HE1.out _ _ _ _) rfl ⟨⟨(3, (0, 0)), rfl, HCK.out⟩, belowF HB1.out (Nat.le_succ _) _ _ _ _⟩
  · have HFR := Lk.mk hfr
    have HCK := Lk.mk (ChkP.err (F := F) (sz := sz) (gv := gv) (l := l) h1)
    have hlb : (er != 0) = true := bne_iff_ne.2 h1
    clear hfr h1
    go_enter Tryd.func24, Tryd.ntmps24
    go_wp2_with (first
      | (go_at_call 65; (with_reducible refine (HFR.out).mono ?_); rintro e w1 ⟨hb, A1, c1, rfl, hF⟩; have HB1 := Lk.mk (below_then H0.out H0.out.size hb); have HE1 := Lk.mk (blk_below HE0.out hb); obtain ⟨s0, s1, s2, s3, u0, u1, u2, u3⟩ := cells4z HE1.out; clear hb hF))
    exact chk23_out rfl (set4 HE1.out _ _ _ _) rfl ⟨⟨(3, (0, 0)), rfl, HCK.out⟩, belowF HB1.out (Nat.le_succ _) _ _ _ _⟩
end Go.Proofs.YtcepafllgjnngaaDoor
