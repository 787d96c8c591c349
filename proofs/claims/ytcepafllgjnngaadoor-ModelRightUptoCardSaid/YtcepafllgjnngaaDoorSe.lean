/-
  The walk of inject.Check; conditions: what is handed in reads as told.
-/
import Derived.Test.YtcepafllgjnngaaDoorSd
import Derived.Test.YtcepafllgjnngaaDoorMp
import Derived.StillTailTactics
namespace Go.Proofs.YtcepafllgjnngaaDoor
open Go.RowKit Go.Proofs.YtcepafllgjnngaaDoorW.PrintWords

theorem framesA_in {ws : List Int} {ent : List (Int × (List Int × List Int))} (he : EntIn ent) (hlen : ent.length ≤ 1048576) (hw : ws.length ≤ 65536) (hz : Bm.Words ws) (x : Int × (Int × Int)) : FrIn (framesA ws ent x).1 := by
  cases hm : mayS ws.length x with
  | false => rw [framesA_no hm]; intro y hy; cases hy
  | true =>
    obtain ⟨lo, size, sp, rfl, hl1, hl2, hl3⟩ := mayS_nat hm
    cases hl : Wk.walk (stp ws ent (lo + size)) (lo + size) sp with
    | none => rw [framesA_none hm hl]; intro y hy; cases hy
    | some l =>
      rw [framesA_some hm hl]
      intro y hy
      have hy' : y ∈ l := List.mem_reverse.1 hy
      obtain ⟨b, e, hb, hs⟩ := walk_mem (stp_says (ws := ws) (hi := lo + size) he).up (lo + size - sp) sp l (Nat.le_refl _) hl y hy'
      obtain ⟨h1, ⟨o1, o2, o3, o4⟩, rfl, _⟩ := stp_some he hs
      have h0 : 0 ≤ ws.getD b 0 := by
        rw [List.getD_eq_getElem?_getD]
        cases hk : ws[b]? with
        | none => exact Int.le_refl 0
        | some x => exact (hz x (List.mem_of_getElem? hk)).1
      exact ⟨⟨by show (-9223372036854775808 : Int) ≤ (b : Int); omega, by show (b : Int) ≤ 9223372036854775807; omega⟩, ⟨by show (-9223372036854775808 : Int) ≤ ws.getD (b + 1) 0 - 1; omega, by show ws.getD (b + 1) 0 - 1 ≤ 9223372036854775807; omega⟩, ⟨by show (-9223372036854775808 : Int) ≤ ws.getD b 0 - 1; omega, by show ws.getD b 0 - 1 ≤ 9223372036854775807; omega⟩⟩
theorem belowE {w W : World} {g : Nat} (h : Below w.heap.size w W) (hg : w.heap.size ≤ g) (o : Obj) (a b c d : Value) : Below w.heap.size w (((((W.alloc o).setCell ⟨g, 0, none⟩ a).setCell ⟨g, 1, none⟩ b).setCell ⟨g, 2, none⟩ c).setCell ⟨g, 3, none⟩ d) :=
  ((((below_alloc h o).setCell (p := ⟨g, 0, none⟩) hg _).setCell (p := ⟨g, 1, none⟩) hg _).setCell (p := ⟨g, 2, none⟩) hg _).setCell (p := ⟨g, 3, none⟩) hg _
theorem belowF {w W : World} {g : Nat} (h : Below w.heap.size w W) (hg : w.heap.size ≤ g) (a b c d : Value) : Below w.heap.size w ((((W.setCell ⟨g, 0, none⟩ a).setCell ⟨g, 1, none⟩ b).setCell ⟨g, 2, none⟩ c).setCell ⟨g, 3, none⟩ d) :=
  (((h.setCell (p := ⟨g, 0, none⟩) hg _).setCell (p := ⟨g, 1, none⟩) hg _).setCell (p := ⟨g, 2, none⟩) hg _).setCell (p := ⟨g, 3, none⟩) hg _
set_option maxRecDepth 100000 in
set_option maxHeartbeats 8000000 in
theorem check_any (g b : Nat) (ws : List Int) (p : Value) (ent : List (Int × (List Int × List Int))) (x : Int × (Int × Int)) (A : Option Addr) (c : Nat) (l : List Af) (w : World) (h : ArB w g b ws) (ht : TblOr w p ent) (he : EntIn ent) (hlen : ent.length ≤ 1048576) (hw : ∀ e ∈ ent, Bm.Words e.2.1) (hx : -9223372036854775808 ≤ x.2.1 ∧ x.2.1 ≤ 9223372036854775807) (hr : kAf.C w A l.length l) :
    Calls Tryd.prog 23 #[.pointer (some ⟨g, 0, none⟩), p, .agg #[.int .i64 x.1, .int .i64 x.2.1, .int .i64 x.2.2], .slice A l.length c] w fun e w' => (∃ r : Int × (Int × Int), e = .returned (.agg #[.int .u8 r.1, .int .i64 0, .int .i64 r.2.1, .int .i64 r.2.2]) ∧ ChkP (framesA ws ent x).1 (framesA ws ent x).2 (tSize ent) (getV (tSize ent) (tPtr ent) ws (framesA ws ent x).1) l r) ∧ Below w.heap.size w w' := by
  have hm := hr.2.1
  have hFI := framesA_in he hlen h.len h.words x
  have hs1 : (w.alloc (.cells #[.int .i64 x.1, .int .i64 x.2.1, .int .i64 x.2.2] 41)).heap.size = w.heap.size + 1 := by simp
  have h0 := below_alloc (below_alloc (Below.refl w.heap.size w) (.cells #[.int .i64 x.1, .int .i64 x.2.1, .int .i64 x.2.2] 41)) (.cells #[.int .u8 0, .int .i64 0, .int .i64 0, .int .i64 0] 51)
  have H0 := Lk.mk h0
  have HS0 := Lk.mk (blk_alloc (blk_new w (.cells #[.int .i64 x.1, .int .i64 x.2.1, .int .i64 x.2.2] 41)) (.cells #[.int .u8 0, .int .i64 0, .int .i64 0, .int .i64 0] 51))
  have hE0 := blk_new (w.alloc (.cells #[.int .i64 x.1, .int .i64 x.2.1, .int .i64 x.2.2] 41)) (.cells #[.int .u8 0, .int .i64 0, .int .i64 0, .int .i64 0] 51)
  rw [hs1] at hE0
  have HE0 := Lk.mk hE0
  have hfr := frames_all g b ws p ent x _ (h.below h0) (ht.below h0) he hx
  have HGT := Lk.mk (fun W (A1 : Option Addr) (c1 : Nat) (d i : Nat) (hb : Below w.heap.size w W) (hF : kFr.C W A1 (framesA ws ent x).1.length (framesA ws ent x).1) (hi : (i : Int) ≤ 9223372036854775807) => sget_any g b ws p ent A1 c1 (framesA ws ent x).1 d i W (h.below hb) (ht.below hb) hF hFI he hw hi)
  have HSZ := Lk.mk (fun W f (hb : Below w.heap.size w W) => size_any p ent f W (ht.below hb))
  have HRC := Lk.mk hr
  clear h ht he hlen hw hx hr h0 hE0 hs1 hFI
  generalize getV (tSize ent) (tPtr ent) ws (framesA ws ent x).1 = gv at *
  generalize (framesA ws ent x).1 = F at *
  generalize (framesA ws ent x).2 = er at *
  generalize tSize ent = sz at *
  obtain ⟨b0, b1, b2, _, _, _⟩ := cells3c HS0.out
  obtain ⟨x0, x1, x2⟩ := x
  dsimp only at *
  by_cases h1 : er = 0
  · by_cases h2 : F.length = l.length
    · subst h1
      rw [h2] at hfr HGT
      have HFR := Lk.mk hfr
      have HOK := Lk.mk h2
      clear hfr h2
      go_enter_defers Tryd.func23, Tryd.ntmps23
      go_wp2_with (first
        | (go_at_call 31; (with_reducible refine (HFR.out).mono ?_); rintro e w1 ⟨hb, A1, c1, rfl, hF⟩; have HB1 := Lk.mk (below_then H0.out H0.out.size hb); have HE1 := Lk.mk (blk_below HE0.out hb); have HF1 := Lk.mk hF; have HRC1 := Lk.mk (Kd.C_below HRC.out HB1.out); clear hb hF)
        | (go_at_call 62; (with_reducible refine (imust_ok _ _ _ _).mono ?_); rintro e w' ⟨rfl, hw⟩; obtain rfl := hw.symm; clear hw))
      go_loopg [39] l.length (fun gg v39 wr => ∃ k : Nat, k ≤ l.length ∧ l.length - k ≤ gg ∧ v39 = .int .i64 k ∧ Lk (∀ j, j < k → okFn F sz l j) ∧ Lk (wr.heap[w.heap.size + 1]? = some (.cells #[.int .u8 0, .int .i64 0, .int .i64 0, .int .i64 0] 51 (0, 0))) ∧ Lk (Below w1.heap.size w1 wr))
      case atStart => exact ⟨0, by omega, by omega, rfl, ⟨fun j hj => absurd hj (by omega)⟩, HE1, ⟨Below.refl _ _⟩⟩
      case round =>
        obtain ⟨k, hk, hg, rfl, HK, HE, HB⟩ := hrel
        obtain ⟨wo, rfl⟩ : ∃ wo : World, wo = wr := ⟨_, rfl⟩
        by_cases hlt : k < l.length
        · have hltz : (k : Int) < (l.length : Int) := by omega
          obtain ⟨ad, A2, c2, rfl, e0, e1, _, _⟩ := kAf_at (Kd.C_below HRC1.out HB.out) k hlt
          obtain ⟨ad3, rfl, q0, q1, q2⟩ := kFr_at (Kd.C_below HF1.out HB.out) k hlt
          have HX1 := Lk.mk (fun (h : okFn F sz l k) => (fun j hj => by
            by_cases e : j = k
            · subst e; exact h
            · exact HK.out j (by omega) : ∀ j, j < k + 1 → okFn F sz l j))
          have HXN := Lk.mk (fun (h : ¬ okFn F sz l k) => ChkP.fn (gv := gv) HOK.out hlt HK.out h)
          unfold okFn at HX1 HXN
          generalize F.getD k Sl.dFr = y at *
          generalize l.getD k dAf = f at *
          obtain ⟨f0, f1⟩ := f
          obtain ⟨y0, y1, y2⟩ := y
          dsimp only at *
          have HBd := Lk.mk (below_drew (below_alloc HB.out (.cells #[.int .i64 f0, .slice A2 f1.length c2] 113)))
          have HEd := Lk.mk (blk_drew (blk_alloc HE.out (.cells #[.int .i64 f0, .slice A2 f1.length c2] 113)))
          have HFd := Lk.mk (blk_drew (blk_new wo (.cells #[.int .i64 f0, .slice A2 f1.length c2] 113)))
          have HC := Lk.mk (HSZ.out _ f0 (below_then HB1.out HB1.out.size HBd.out))
          obtain ⟨r0, r1⟩ := cells2v HFd.out
          have q9 := pw_cell_below (below_drew (below_alloc (Below.refl wo.heap.size wo) (.cells #[.int .i64 f0, .slice A2 f1.length c2] 113))) q1
          generalize sz f0 = z at *
          by_cases hy : y1 = f0
          · subst hy
            by_cases hz : z = (f1.length : Int)
            · subst hz
              have HK2 := Lk.mk (HX1.out ⟨rfl, rfl⟩)
              clear HX1 HXN
              go_wp2
              go_region_held3 (fun W => W.cell? ⟨(ad3.add (k * 3)).block, (ad3.add (k * 3)).off + 1, none⟩ = some (.int .i64 y1) ∧ W.cell? ⟨wo.heap.size, 0, none⟩ = some (.int .i64 y1) ∧ W.cell? ⟨wo.heap.size, 1, none⟩ = some (.slice A2 f1.length c2)) (first | exact ⟨q9, r0, r1⟩) (first
                | (go_at_call 63; (with_reducible refine (HC.out).mono ?_); rintro e w' ⟨rfl, hw⟩; obtain rfl := hw.symm; clear hw)
                | (go_at_call 62; (with_reducible refine (imust_ok _ _ _ _).mono ?_); rintro e w' ⟨rfl, hw⟩; obtain rfl := hw.symm; clear hw))
              go_wp2
              go_roundg (l.length - (k + 1))
              case measure => omega
              case rel => exact ⟨k + 1, by omega, by omega, by go_num, HK2, HEd, HBd⟩
            · have hzb : (z == (f1.length : Int)) = false := beq_false_of_ne hz
              have HCK := Lk.mk (HXN.out (fun h => hz h.2))
              clear HX1 HXN hz
              go_wp2
              obtain ⟨W9, hW9⟩ : ∃ W9, W9 = (wo.alloc (.cells #[.int .i64 y1, .slice A2 f1.length c2] 113)).drew := ⟨_, rfl⟩
              rw [← hW9] at HBd HEd HFd HC r0 r1 q9
              refine wp_region_still_tail 19 (by kernel_rfl) (by kernel_rfl) ?_
              rw [show ({ wo.alloc (.cells #[.int .i64 y1, .slice A2 f1.length c2] 113) with drawn := (wo.alloc (.cells #[.int .i64 y1, .slice A2 f1.length c2] 113)).drawn + 1 } : World) = W9 from hW9.symm]
              clear hW9
              simp only [List.take_succ_cons, List.take_zero, List.drop_succ_cons, List.drop_zero]
              repeat still_step
              still_call HC.out
              repeat still_step
              refine wpStill_nil ?_
              go_wp2_with (go_at_call 62; (with_reducible refine (imust_no _ _ _ _).mono ?_); rintro e w' ⟨rfl, hw⟩; obtain rfl := hw.symm; clear hw)
              refine leaves_cons (f := 61) (args := #[.pointer (some ⟨w.heap.size + 1, 0, none⟩)]) (by simp) (by simp [go_sem]) ?_
              refine (chk1_thrown (w.heap.size + 1) 4 k 0 _ HEd.out).mono ?_
              rintro e u' w'' ⟨rfl, rfl, rfl⟩
              exact chk_out (by simp only [settle, List.dropWhile]) (set4 (blk_alloc HEd.out _) _ _ _ _) rfl ⟨⟨(4, ((k : Int), 0)), rfl, HCK.out⟩, belowE (below_then HB1.out HB1.out.size HBd.out) (Nat.le_succ _) _ _ _ _ _⟩
          · have hyb : Lk ((y1 == f0) = false) := ⟨beq_false_of_ne hy⟩
            have HCK := Lk.mk (HXN.out (fun h => hy h.1))
            clear HX1 HXN hy
            go_wp2
            obtain ⟨W9, hW9⟩ : ∃ W9, W9 = (wo.alloc (.cells #[.int .i64 f0, .slice A2 f1.length c2] 113)).drew := ⟨_, rfl⟩
            rw [← hW9] at HBd HEd HFd HC r0 r1 q9
            refine wp_region_still_tail 19 (by kernel_rfl) (by kernel_rfl) ?_
            rw [show ({ wo.alloc (.cells #[.int .i64 f0, .slice A2 f1.length c2] 113) with drawn := (wo.alloc (.cells #[.int .i64 f0, .slice A2 f1.length c2] 113)).drawn + 1 } : World) = W9 from hW9.symm]
            clear hW9
            simp only [List.take_succ_cons, List.take_zero, List.drop_succ_cons, List.drop_zero]
            repeat still_step
            rw [hyb.out]
            iterate 8 with_reducible refine wpStill_skip (by kernel_rfl) ?_
            with_reducible refine wpStill_val (v := .bool false) (by kernel_rfl) (by kernel_rfl) ?_
            with_reducible refine wpStill_val (v := .int .i64 (k : Int)) (by kernel_rfl) (by kernel_rfl) ?_
            with_reducible refine wpStill_nil ?_
            go_wp2_with (go_at_call 62; (with_reducible refine (imust_no _ _ _ _).mono ?_); rintro e w' ⟨rfl, hw⟩; obtain rfl := hw.symm; clear hw)
            refine leaves_cons (f := 61) (args := #[.pointer (some ⟨w.heap.size + 1, 0, none⟩)]) (by simp) (by simp [go_sem]) ?_
            refine (chk1_thrown (w.heap.size + 1) 4 k 0 _ HEd.out).mono ?_
            rintro e u' w'' ⟨rfl, rfl, rfl⟩
            exact chk_out (by simp only [settle, List.dropWhile]) (set4 (blk_alloc HEd.out _) _ _ _ _) rfl ⟨⟨(4, ((k : Int), 0)), rfl, HCK.out⟩, belowE (below_then HB1.out HB1.out.size HBd.out) (Nat.le_succ _) _ _ _ _ _⟩
        · obtain rfl : k = l.length := by omega
          have hltz : ¬ (l.length : Int) < (l.length : Int) := by omega
          go_wp2
          go_loopg [67] l.length (fun gg v67 W2 => ∃ d : Nat, d ≤ l.length ∧ l.length - d ≤ gg ∧ v67 = .int .i64 d ∧ Lk (∀ j k : Nat, k < (l.getD j dAf).2.length → j < d → okSl gv l j k) ∧ Lk (W2.heap[w.heap.size + 1]? = some (.cells #[.int .u8 0, .int .i64 0, .int .i64 0, .int .i64 0] 51 (0, 0))) ∧ Lk (Below w1.heap.size w1 W2))
          case atStart => exact ⟨0, by omega, by omega, rfl, ⟨fun j k _ hj => absurd hj (by omega)⟩, HE, HB⟩
          case round =>
            obtain ⟨d, hd, hg2, rfl, HD2, HE2, HB2⟩ := hrel
            obtain ⟨w2, rfl⟩ : ∃ w2 : World, w2 = wr := ⟨_, rfl⟩
            clear HE HB
            by_cases hdl : d < l.length
            · have hdz : (d : Int) < (l.length : Int) := by omega
              obtain ⟨ad, A2, c2, rfl, e0, e1, _, hC1⟩ := kAf_at (Kd.C_below HRC1.out HB2.out) d hdl
              have hmx := hC1.2.1
              have HXS := Lk.mk (fun (h : ∀ i, i < (l.getD d dAf).2.length → okSl gv l d i) => (fun j k hk hj => by
                by_cases e : j = d
                · subst e; exact h k hk
                · exact HD2.out j k hk (by omega) : ∀ j k : Nat, k < (l.getD j dAf).2.length → j < d + 1 → okSl gv l j k))
              have HXN := Lk.mk (fun (i : Nat) (hi : i < (l.getD d dAf).2.length) (h1 : ∀ k, k < i → okSl gv l d k) (h2 : ¬ okSl gv l d i) => ChkP.sl (gv := gv) HOK.out HK.out hdl hi (fun j k hk hjk => by
                rcases hjk with hj | ⟨rfl, hk2⟩
                · exact HD2.out j k hk hj
                · exact h1 k hk2) h2)
              unfold okSl at HXS HXN
              have HGX := Lk.mk (fun W (i : Nat) (hb : Below w1.heap.size w1 W) (hi : (i : Int) ≤ 9223372036854775807) => HGT.out W A1 c1 d i (below_then HB1.out HB1.out.size hb) (Kd.C_below HF1.out hb) hi)
              generalize l.getD d dAf = f at *
              obtain ⟨f0, f1⟩ := f
              dsimp only at *
              have HBa := Lk.mk (below_alloc HB2.out (.cells #[.int .i64 f0, .slice A2 f1.length c2] 113))
              have HEa := Lk.mk (blk_alloc HE2.out (.cells #[.int .i64 f0, .slice A2 f1.length c2] 113))
              have HCa := Lk.mk (Kd.C_below hC1 (below_alloc (Below.refl _ _) (.cells #[.int .i64 f0, .slice A2 f1.length c2] 113)))
              obtain ⟨y0, y1⟩ := cells2v (blk_new w2 (.cells #[.int .i64 f0, .slice A2 f1.length c2] 113))
              clear hC1
              go_wp2
              go_loopg [75] f1.length (fun gg v75 W3 => ∃ i : Nat, i ≤ f1.length ∧ f1.length - i ≤ gg ∧ v75 = .int .i64 i ∧ Lk (∀ j : Nat, j < i → gv d j = (f1.getD j Sl.dVl, 0)) ∧ Lk (W3.heap[w.heap.size + 1]? = some (.cells #[.int .u8 0, .int .i64 0, .int .i64 0, .int .i64 0] 51 (0, 0))) ∧ Lk (kVl.C W3 A2 f1.length f1) ∧ Lk (Below w1.heap.size w1 W3))
              case atStart => exact ⟨0, by omega, by omega, rfl, ⟨fun j hj => absurd hj (by omega)⟩, HEa, HCa, HBa⟩
              case round =>
                obtain ⟨i, hi, hg3, rfl, HD3, HE3, HC3, HB3⟩ := hrel
                obtain ⟨w3, rfl⟩ : ∃ w3 : World, w3 = wr := ⟨_, rfl⟩
                clear HEa HCa HBa y0 y1 e0 e1
                by_cases hil : i < f1.length
                · have hiz : (i : Int) < (f1.length : Int) := by omega
                  obtain ⟨ad1, rfl, z0, z1, z2, z3⟩ := kVl_at HC3.out i hil
                  have HX4 := Lk.mk (fun (h : gv d i = (f1.getD i Sl.dVl, 0)) => (fun j hj => by
                    by_cases e : j = i
                    · subst e; exact h
                    · exact HD3.out j (by omega) : ∀ j : Nat, j < i + 1 → gv d j = (f1.getD j Sl.dVl, 0)))
                  have HN4 := Lk.mk (HXN.out i hil HD3.out)
                  have HG4 := Lk.mk (fun o => HGX.out (w3.alloc o) i (below_alloc HB3.out o) (by omega))
                  generalize f1.getD i Sl.dVl = v at *
                  obtain ⟨v0, v1, v2, v3⟩ := v
                  generalize gv d i = q at *
                  obtain ⟨⟨a0, a1, a2, a3⟩, n⟩ := q
                  unfold GetL at HG4
                  dsimp only at *
                  have HBv := Lk.mk (below_alloc (Below.refl w3.heap.size w3) (.cells #[.int .u8 v0, .int .u64 v1, .int .i64 v2, .int .i64 v3] 56))
                  have HVv := Lk.mk (blk_new w3 (.cells #[.int .u8 v0, .int .u64 v1, .int .i64 v2, .int .i64 v3] 56))
                  have HEv := Lk.mk (blk_alloc HE3.out (.cells #[.int .u8 v0, .int .u64 v1, .int .i64 v2, .int .i64 v3] 56))
                  by_cases hok : (((a0, a1, a2, a3), n) : Sl.Vl × Int) = ((v0, v1, v2, v3), 0)
                  · have HD4 := Lk.mk (HX4.out hok)
                    have hok2 := hok
                    simp only [Prod.mk.injEq] at hok2
                    obtain ⟨⟨rfl, rfl, rfl, rfl⟩, rfl⟩ := hok2
                    clear HX4 HN4 hok
                    go_wp2_with (first
                      | (go_at_call 64; (with_reducible refine (HG4.out _).mono ?_); rintro e w4 ⟨rfl, hb⟩; have HB4 := Lk.mk (below_then HB3.out HB3.out.size (below_then HBv.out HBv.out.size hb)); have HE4 := Lk.mk (blk_alloc (blk_below HEv.out hb) (.cells #[.int .u8 a0, .int .u64 a1, .int .i64 a2, .int .i64 a3] 56)); have HV4 := Lk.mk (blk_alloc (blk_below HVv.out hb) (.cells #[.int .u8 a0, .int .u64 a1, .int .i64 a2, .int .i64 a3] 56)); have HC4 := Lk.mk (Kd.C_below (Kd.C_below HC3.out HBv.out) hb); obtain ⟨s0, s1, s2, s3⟩ := cells4v HV4.out; obtain ⟨t0, t1, t2, t3⟩ := cells4v (blk_new w4 (.cells #[.int .u8 a0, .int .u64 a1, .int .i64 a2, .int .i64 a3] 56)); clear hb)
                      | (go_at_call 62; (with_reducible refine (imust_ok _ _ _ _).mono ?_); rintro e w' ⟨rfl, hw⟩; obtain rfl := hw.symm; clear hw))
                    go_roundg (f1.length - (i + 1))
                    case measure => omega
                    case rel => exact ⟨i + 1, by omega, by omega, by go_num, HD4, HE4, ⟨Kd.C_below HC4.out (below_alloc (Below.refl _ _) _)⟩, ⟨below_alloc HB4.out _⟩⟩
                  · have HCK := Lk.mk (HN4.out hok)
                    have hpart : (n == 0) = false ∨ n = 0 ∧ ((a0 == v0) = false ∨ a0 = v0 ∧ ((a1 == v1) = false ∨ a1 = v1 ∧ ((a2 == v2) = false ∨ a2 = v2 ∧ (a3 == v3) = false))) := by
                      by_cases p0 : n = 0
                      · refine .inr ⟨p0, ?_⟩
                        by_cases p1 : a0 = v0
                        · refine .inr ⟨p1, ?_⟩
                          by_cases p2 : a1 = v1
                          · refine .inr ⟨p2, ?_⟩
                            by_cases p3 : a2 = v2
                            · exact .inr ⟨p3, beq_false_of_ne (fun p4 => hok (by rw [p0, p1, p2, p3, p4]))⟩
                            · exact .inl (beq_false_of_ne p3)
                          · exact .inl (beq_false_of_ne p2)
                        · exact .inl (beq_false_of_ne p1)
                      · exact .inl (beq_false_of_ne p0)
                    clear HX4 HN4 hok
                    rcases hpart with p0 | ⟨rfl, p0 | ⟨rfl, p0 | ⟨rfl, p0 | ⟨rfl, p0⟩⟩⟩⟩
                    all_goals
                      go_wp2_with (first
                        | (go_at_call 64; (with_reducible refine (HG4.out _).mono ?_); rintro e w4 ⟨rfl, hb⟩; have HB4 := Lk.mk (below_then HB3.out HB3.out.size (below_then HBv.out HBv.out.size hb)); have HE4 := Lk.mk (blk_alloc (blk_below HEv.out hb) (.cells #[.int .u8 a0, .int .u64 a1, .int .i64 a2, .int .i64 a3] 56)); have HV4 := Lk.mk (blk_alloc (blk_below HVv.out hb) (.cells #[.int .u8 a0, .int .u64 a1, .int .i64 a2, .int .i64 a3] 56)); obtain ⟨s0, s1, s2, s3⟩ := cells4v HV4.out; obtain ⟨t0, t1, t2, t3⟩ := cells4v (blk_new w4 (.cells #[.int .u8 a0, .int .u64 a1, .int .i64 a2, .int .i64 a3] 56)); clear hb)
                        | (go_at_call 62; (with_reducible refine (imust_no _ _ _ _).mono ?_); rintro e w' ⟨rfl, hw⟩; obtain rfl := hw.symm; clear hw))
                      refine leaves_cons (f := 61) (args := #[.pointer (some ⟨w.heap.size + 1, 0, none⟩)]) (by simp) (by simp [go_sem]) ?_
                      refine (chk1_thrown (w.heap.size + 1) 5 d i _ HE4.out).mono ?_
                      rintro e u' w'' ⟨rfl, rfl, rfl⟩
                      exact chk_out (by simp only [settle, List.dropWhile]) (set4 (blk_alloc HE4.out _) _ _ _ _) rfl ⟨⟨(5, ((d : Int), (i : Int))), rfl, HCK.out⟩, belowE (below_then HB1.out HB1.out.size (below_alloc HB4.out _)) (Nat.le_succ _) _ _ _ _ _⟩
                · have hiz : ¬ (i : Int) < (f1.length : Int) := by omega
                  go_wp2
                  go_roundg (l.length - (d + 1))
                  case measure => omega
                  case rel => exact ⟨d + 1, by omega, by omega, by go_num, ⟨HXS.out (fun j hj => HD3.out j (by omega))⟩, HE3, HB3⟩
            · have hdz : ¬ (d : Int) < (l.length : Int) := by omega
              obtain rfl : d = l.length := by omega
              obtain ⟨s0, s1, s2, s3, u0, u1, u2, u3⟩ := cells4z HE2.out
              go_wp2
              refine leaves_cons (f := 61) (args := #[.pointer (some ⟨w.heap.size + 1, 0, none⟩)]) (by simp) (by simp [go_sem]) ?_
              refine (chk1_idle _ _).mono ?_
              rintro e u' w'' ⟨rfl, rfl, rfl⟩
              exact chk_out rfl (set4 HE2.out _ _ _ _) rfl ⟨⟨0, 0, 0, rfl, ChkP.all_ HOK.out HK.out (fun j k hj hk => HD2.out j k hk hj)⟩, belowF (below_then HB1.out HB1.out.size HB2.out) (Nat.le_succ _) _ _ _ _⟩
    · subst h1
      have HFR := Lk.mk hfr
      have HCK := Lk.mk (ChkP.len (er := 0) (sz := sz) (gv := gv) h2)
      have hlb : ((F.length : Int) == (l.length : Int)) = false := beq_false_of_ne (by omega)
      clear hfr h2
      go_enter_defers Tryd.func23, Tryd.ntmps23
      go_wp2_with (first
        | (go_at_call 31; (with_reducible refine (HFR.out).mono ?_); rintro e w1 ⟨hb, A1, c1, rfl, hF⟩; have HB1 := Lk.mk (below_then H0.out H0.out.size hb); have HE1 := Lk.mk (blk_below HE0.out hb); clear hb hF)
        | (go_at_call 62; (with_reducible refine (imust_no _ _ _ _).mono ?_); rintro e w' ⟨rfl, hw⟩; obtain rfl := hw.symm; clear hw))
      refine leaves_cons (f := 61) (args := #[.pointer (some ⟨w.heap.size + 1, 0, none⟩)]) (by simp) (by simp [go_sem]) ?_
      refine (chk1_thrown (w.heap.size + 1) 3 0 0 _ HE1.out).mono ?_
      rintro e u' w'' ⟨rfl, rfl, rfl⟩
      exact chk_out (by simp only [settle, List.dropWhile]) (set4 (blk_alloc HE1.out _) _ _ _ _) rfl ⟨⟨(3, (0, 0)), rfl, HCK.out⟩, belowE HB1.out (Nat.le_succ _) _ _ _ _ _⟩
  · have HFR := Lk.mk hfr
    have HCK := Lk.mk (ChkP.err (F := F) (sz := sz) (gv := gv) (l := l) h1)
    have hlb : (er == 0) = false := beq_false_of_ne h1
    clear hfr h1
    go_enter_defers Tryd.func23, Tryd.ntmps23
    go_wp2_with (first
      | (go_at_call 31; (with_reducible refine (HFR.out).mono ?_); rintro e w1 ⟨hb, A1, c1, rfl, hF⟩; have HB1 := Lk.mk (below_then H0.out H0.out.size hb); have HE1 := Lk.mk (blk_below HE0.out hb); clear hb hF)
      | (go_at_call 62; (with_reducible refine (imust_no _ _ _ _).mono ?_); rintro e w' ⟨rfl, hw⟩; obtain rfl := hw.symm; clear hw))
    refine leaves_cons (f := 61) (args := #[.pointer (some ⟨w.heap.size + 1, 0, none⟩)]) (by simp) (by simp [go_sem]) ?_
    refine (chk1_thrown (w.heap.size + 1) 3 0 0 _ HE1.out).mono ?_
    rintro e u' w'' ⟨rfl, rfl, rfl⟩
    exact chk_out (by simp only [settle, List.dropWhile]) (set4 (blk_alloc HE1.out _) _ _ _ _) rfl ⟨⟨(3, (0, 0)), rfl, HCK.out⟩, belowE HB1.out (Nat.le_succ _) _ _ _ _ _⟩
end Go.Proofs.YtcepafllgjnngaaDoor
