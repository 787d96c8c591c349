/-
  The walk of the walks' reference Frames; conditions: what is handed in reads as told, the table may be.
-/
import Derived.Test.YtcepafllgjnngaaDoorMr
import Derived.Test.YtcepafllgjnngaaDoorK3
import Derived.Test.YtcepafllgjnngaaDoorK2
import Derived.Test.YtcepafllgjnngaaDoorCg
import Derived.Deep.RegionHeld3
namespace Go.Proofs.YtcepafllgjnngaaDoor
open Go.RowKit Go.Proofs.YtcepafllgjnngaaDoorW.PrintWords

/-- the frames of a stack, the bottom one first, and the error's number -/
noncomputable def framesA (ws : List Int) (ent : List (Int × (List Int × List Int))) (x : Int × (Int × Int)) : List Sl.Fr × Int :=
  if mayS ws.length x = true then (match Wk.walk (stp ws ent (x.1 + x.2.1).toNat) (x.1 + x.2.1).toNat x.2.2.toNat with | some l => (l.reverse, 0) | none => ([], 9)) else ([], 1)
theorem framesA_no {ws : List Int} {ent : List (Int × (List Int × List Int))} {x : Int × (Int × Int)} (h : mayS ws.length x = false) : framesA ws ent x = ([], 1) := by
  unfold framesA; rw [h]; rfl
theorem framesA_some {ws : List Int} {ent : List (Int × (List Int × List Int))} {lo size sp : Nat} {l : List Sl.Fr} (h : mayS ws.length ((lo : Int), ((size : Int), (sp : Int))) = true) (hl : Wk.walk (stp ws ent (lo + size)) (lo + size) sp = some l) : framesA ws ent ((lo : Int), ((size : Int), (sp : Int))) = (l.reverse, 0) := by
  unfold framesA
  rw [if_pos h]
  dsimp only
  rw [show ((lo : Int) + (size : Int)).toNat = lo + size by omega, Int.toNat_natCast, hl]
theorem framesA_none {ws : List Int} {ent : List (Int × (List Int × List Int))} {lo size sp : Nat} (h : mayS ws.length ((lo : Int), ((size : Int), (sp : Int))) = true) (hl : Wk.walk (stp ws ent (lo + size)) (lo + size) sp = none) : framesA ws ent ((lo : Int), ((size : Int), (sp : Int))) = ([], 9) := by
  unfold framesA
  rw [if_pos h]
  dsimp only
  rw [show ((lo : Int) + (size : Int)).toNat = lo + size by omega, Int.toNat_natCast, hl]
/-- what Frames answers -/
theorem frames_all (g b : Nat) (ws : List Int) (p : Value) (ent : List (Int × (List Int × List Int))) (x : Int × (Int × Int)) (w : World) (h : ArB w g b ws) (ht : TblOr w p ent) (he : EntIn ent) (hx : -9223372036854775808 ≤ x.2.1 ∧ x.2.1 ≤ 9223372036854775807) :
    Calls Tryd.prog 31 #[.pointer (some ⟨g, 0, none⟩), p, .agg #[.int .i64 x.1, .int .i64 x.2.1, .int .i64 x.2.2]] w fun e w' => Below w.heap.size w w' ∧ ∃ (A : Option Addr) (c : Nat), e = .returned (.tuple #[.slice A (framesA ws ent x).1.length c, .int .i64 (framesA ws ent x).2]) ∧ kFr.C w' A (framesA ws ent x).1.length (framesA ws ent x).1 := by
  cases hm : mayS ws.length x with
  | false =>
    rw [framesA_no hm]
    refine (frames_bad g b ws p x w h hx hm).mono ?_
    rintro e w' ⟨he, hb⟩
    exact ⟨hb, none, 0, he, Kd.C_nil kFr w'⟩
  | true =>
    obtain ⟨lo, size, sp, rfl, h1, h2, h3⟩ := mayS_nat hm
    refine (frames_any g b ws p ent lo size sp w h ht he h1 h3 hm).mono ?_
    rintro e w' ⟨hb, ⟨l, A, c, hl, he2, hC⟩ | ⟨hl, he2⟩⟩
    · rw [framesA_some hm hl]
      refine ⟨hb, A, c, ?_, ?_⟩
      · dsimp only; rw [List.length_reverse]; exact he2
      · dsimp only; rw [List.length_reverse]; exact hC
    · rw [framesA_none hm hl]
      exact ⟨hb, none, 0, he2, Kd.C_nil kFr w'⟩
/-- a row of one frame -/
theorem fr_lit (W : World) (a f k : Int) (base : Nat) (hb : base ≤ W.heap.size) : kFr.R 79 (W.alloc (.cells #[.int .i64 a, .int .i64 f, .int .i64 k] 79)) base (fun _ => True) (.slice (some ⟨W.heap.size, 0, none⟩) 1 1) [((a, (f, k)) : Sl.Fr)] := by
  refine ⟨fun _ _ => trivial, [.int .i64 a, .int .i64 f, .int .i64 k], ?_, ?_⟩
  · exact World.ownsRow_lit (base := base) (e := 79) (size := 3) W #[.int .i64 a, .int .i64 f, .int .i64 k] 1 hb (by decide) (by rfl)
  · refine ⟨by rfl, fun j p hj => ?_⟩
    cases j with
    | zero =>
      simp only [List.getElem?_cons_zero, Option.some.injEq] at hj
      subst hj
      exact ⟨[_], [_, _], rfl, rfl, [_], [_], rfl, rfl, rfl⟩
    | succ j => simp at hj
theorem fr_lit2 (W : World) (o : Obj) (a f k : Int) (base : Nat) (hb : base ≤ W.heap.size) : kFr.R 79 ((W.alloc o).alloc (.cells #[.int .i64 a, .int .i64 f, .int .i64 k] 79)) base (fun _ => True) (.slice (some ⟨W.heap.size + 1, 0, none⟩) 1 1) [((a, (f, k)) : Sl.Fr)] := by
  have hs : (W.alloc o).heap.size = W.heap.size + 1 := by simp
  have := fr_lit (W.alloc o) a f k base (by omega)
  rwa [hs] at this
theorem fr_nilC (W : World) (A : Option Addr) : kFr.C W A 0 ([] : List Sl.Fr) := ⟨rfl, by simp, fun h => absurd h (Nat.lt_irrefl 0)⟩
set_option maxRecDepth 100000 in
set_option maxHeartbeats 2000000 in
theorem refFrames15_any (A : Option Addr) (c : Nat) (ws : List Int) (B : Option Addr) (c' : Nat) (t : List (Int × List Int)) (x : Int × (Int × Int)) (w : World) (hr : ReadsInt w .u64 A ws.length ws) (hw : Bm.Words ws) (hq : FnC w B t.length t) (hn : newOk t = true) (hl : ws.length ≤ 65536) (hx : -9223372036854775808 ≤ x.2.1 ∧ x.2.1 ≤ 9223372036854775807) :
    Calls Tryd.prog 65 #[.slice A ws.length c, .slice B t.length c', .agg #[.int .i64 x.1, .int .i64 x.2.1, .int .i64 x.2.2]] w fun e w' => Below w.heap.size w w' ∧ ∃ (A : Option Addr) (c : Nat), e = .returned (.tuple #[.slice A (framesA ws (t.map entryOf) x).1.length c, .int .i64 (framesA ws (t.map entryOf) x).2]) ∧ kFr.C w' A (framesA ws (t.map entryOf) x).1.length (framesA ws (t.map entryOf) x).1 := by
  have hE := entIn_of hn
  have H0 := Lk.mk (below_alloc (below_alloc (Below.refl w.heap.size w) (.cells #[.int .i64 x.1, .int .i64 x.2.1, .int .i64 x.2.2] 41)) (.cells #[] 79))
  have HX0 := Lk.mk (blk_alloc (blk_new w (.cells #[.int .i64 x.1, .int .i64 x.2.1, .int .i64 x.2.2] 41)) (.cells #[] 79))
  have HM := Lk.mk (fun W => refSMay_any x ws.length W hl hx)
  cases hm : mayS ws.length x with
  | false =>
    rw [framesA_no hm]
    rw [hm] at HM
    obtain ⟨lo, sz, sp⟩ := x
    dsimp only at *
    clear hr hw hq hn hE hm
    obtain ⟨d0, d1, d2, _, _, _⟩ := cells3c HX0.out
    go_enter Tryd.func65, Tryd.ntmps65
    go_wp2_with (go_at_call 105; (with_reducible refine (HM.out _).mono ?_); rintro e w1 ⟨rfl, hb⟩; have HB := Lk.mk (below_then H0.out H0.out.size hb); clear hb)
    go_ret2
    exact ⟨HB.out, _, _, rfl, fr_nilC _ _⟩
  | true =>
    rw [hm] at HM
    have hmm := hm
    obtain ⟨lo, size, sp, rfl, h1, h2, h3⟩ := mayS_nat hm
    have HFS := Lk.mk (fun l (h : Wk.walk (stp ws (t.map entryOf) (lo + size)) (lo + size) sp = some l) => framesA_some hmm h)
    have HFN := Lk.mk (fun (h : Wk.walk (stp ws (t.map entryOf) (lo + size)) (lo + size) sp = none) => framesA_none hmm h)
    have hsy := stp_says (ws := ws) (hi := lo + size) hE
    have HU := Lk.mk hsy.up
    have HLE := Lk.mk hsy.le
    have HLK := Lk.mk hsy.link
    have HSO := Lk.mk (fun a e x (hs : stp ws (t.map entryOf) (lo + size) a = some (x, e)) => stp_some hE hs)
    have HSN := Lk.mk (fun a (hs : stp ws (t.map entryOf) (lo + size) a = none) => stp_none hs)
    have HTP := Lk.mk (fun a (ho : RdOk ws (t.map entryOf) a) => tw_pos hE ho)
    have HRO := Lk.mk (fun W (hb : Below w.heap.size w W) a hi ho => rread_ok A c ws B c' t a W (hr.below hb) hw (hq.below hb) hn (by omega) hi ho)
    have HRB := Lk.mk (fun W (hb : Below w.heap.size w W) a hi ho => rread_bad A c ws B c' t a W (hr.below hb) hw (hq.below hb) hn (by omega) hi ho)
    have HRX := Lk.mk (fun W at_ hi => rread_out A c ws B c' t at_ W (by omega) hi)
    have HWD := Lk.mk (fun W (hb : Below w.heap.size w W) f => refWords_any B c' t f W (hq.below hb) (by have := lSize_in hn f; omega))
    have HTM := Lk.mk (fun f => tWords_map hn f)
    have hwr : IntKind.i64.wrap ((lo : Int) + size) = lo + size := IntWalk.i64_in _ (by omega)
    dsimp only at *
    clear hr hw hq hn hE hm hmm hsy hx
    generalize framesA ws (t.map entryOf) ((lo : Int), ((size : Int), (sp : Int))) = fa at *
    obtain ⟨d0, d1, d2, _, _, _⟩ := cells3c HX0.out
    go_enter Tryd.func65, Tryd.ntmps65
    go_wp2_with (go_at_call 105; (with_reducible refine (HM.out _).mono ?_); rintro e w1 ⟨rfl, hb⟩; obtain ⟨e0, e1, e2, _, _, _⟩ := cells3c (blk_alloc (blk_below HX0.out hb) (.cells #[] 79)); have HB1 := Lk.mk (below_then H0.out H0.out.size hb); have HBa := Lk.mk (below_alloc HB1.out (.cells #[] 79)); clear hb)
    go_loopg [9, 11] (lo + size) (fun gg v9 v11 wr => ∃ (a : Nat) (acc : List Sl.Fr), a ≤ lo + size ∧ acc.length ≤ a ∧ lo + size - a ≤ gg ∧ v11 = .int .i64 a ∧ Lk (Wk.walk (stp ws (t.map entryOf) (lo + size)) (lo + size) sp = (Wk.walk (stp ws (t.map entryOf) (lo + size)) (lo + size) a).map (acc ++ ·)) ∧ Lk (kFr.R 79 wr w.heap.size (fun _ => True) v9 acc.reverse) ∧ Lk (Below w.heap.size w wr))
    case atStart => exact ⟨sp, [], by omega, Nat.zero_le _, by omega, rfl, ⟨by simp⟩, ⟨⟨fun _ _ => trivial, [], World.ownsRow_lit (base := w.heap.size) (e := 79) (size := 3) w1 #[] 0 HB1.out.size (by decide) (by rfl), Reps.none _ _⟩⟩, HBa⟩
    case round =>
      obtain ⟨a, acc, ha, hac, hg, rfl, HW, HR, HB⟩ := hrel
      obtain ⟨wo, rfl⟩ : ∃ wo : World, wo = wr := ⟨_, rfl⟩
      by_cases hlt : a < lo + size
      · have hltz : (a : Int) < (lo : Int) + size := by omega
        cases hst : stp ws (t.map entryOf) (lo + size) a with
        | none =>
          have HZ := Lk.mk (HFN.out (by rw [HW.out, Wk.walk_bad hlt hst]; rfl))
          have hno := HSN.out a hst
          by_cases hrd : a + 2 ≤ ws.length ∧ RdOk ws (t.map entryOf) a
          · have HC := Lk.mk (HRO.out wo HB.out a hrd.1 hrd.2)
            have htp := HTP.out a hrd.2
            have hno2 : ¬ ((a : Int) + tWords (t.map entryOf) (ws.getD (a + 1) 0 - 1) ≤ (lo + size : Nat) ∧ ws.getD a 0 - 1 = (if (a : Int) + tWords (t.map entryOf) (ws.getD (a + 1) 0 - 1) = (lo + size : Nat) then -1 else (a : Int) + tWords (t.map entryOf) (ws.getD (a + 1) 0 - 1))) := fun h => hno ⟨hrd.1, hrd.2, h.1, h.2⟩
            have HWC := Lk.mk (fun W hb => HWD.out W hb (ws.getD (a + 1) 0 - 1))
            rw [HTM.out] at htp hno2
            clear hno hrd HRO HRB HRX HSO HSN HTP HWD HTM HLK HU HLE HFS HFN HW HR
            generalize ws.getD (a + 1) 0 - 1 = f at *
            generalize ws.getD a 0 - 1 = k at *
            generalize lWords t f = tw at *
            have hwt : IntKind.i64.wrap ((a : Int) + tw) = a + tw := IntWalk.i64_in _ (by omega)
            by_cases c1 : (lo : Int) + size < a + tw
            · clear hno2
              go_wp2_with (first
                | (go_at_call 106; (with_reducible refine (HC.out).mono ?_); rintro r w2 ⟨rfl, hb⟩; have HB2 := Lk.mk (below_then HB.out HB.out.size hb); have HBa2 := Lk.mk (below_alloc HB2.out (.cells #[.int .i64 a, .int .i64 f, .int .i64 k] 79)); have HBz := Lk.mk (below_alloc hb (.cells #[.int .i64 a, .int .i64 f, .int .i64 k] 79)); obtain ⟨f0, f1, f2, _, _, _⟩ := cells3c (blk_new w2 (.cells #[.int .i64 a, .int .i64 f, .int .i64 k] 79)); clear hb)
                | (go_at_call 90; (with_reducible refine (HWC.out _ HBa2.out).mono ?_); rintro e w' ⟨rfl, hw⟩; obtain rfl := hw.symm; clear hw))
              go_ret2
              rw [HZ.out]
              exact ⟨HBa2.out, _, _, rfl, fr_nilC _ _⟩
            · by_cases c2 : (a : Int) + tw = lo + size
              · have c3 : ¬ k = -1 := fun h => hno2 ⟨by omega, by rw [if_pos (by omega)]; exact h⟩
                clear hno2
                go_wp2_with (first
                  | (go_at_call 106; (with_reducible refine (HC.out).mono ?_); rintro r w2 ⟨rfl, hb⟩; have HB2 := Lk.mk (below_then HB.out HB.out.size hb); have HBa2 := Lk.mk (below_alloc HB2.out (.cells #[.int .i64 a, .int .i64 f, .int .i64 k] 79)); have HBz := Lk.mk (below_alloc hb (.cells #[.int .i64 a, .int .i64 f, .int .i64 k] 79)); obtain ⟨f0, f1, f2, _, _, _⟩ := cells3c (blk_new w2 (.cells #[.int .i64 a, .int .i64 f, .int .i64 k] 79)); clear hb)
                  | (go_at_call 90; (with_reducible refine (HWC.out _ HBa2.out).mono ?_); rintro e w' ⟨rfl, hw⟩; obtain rfl := hw.symm; clear hw))
                go_ret2
                rw [HZ.out]
                exact ⟨HBa2.out, _, _, rfl, fr_nilC _ _⟩
              · have c3 : ¬ k = a + tw := fun h => hno2 ⟨by omega, by rw [if_neg (by omega)]; exact h⟩
                have c4 : (a : Int) + tw < lo + size := by omega
                clear hno2
                go_wp2_with (first
                  | (go_at_call 106; (with_reducible refine (HC.out).mono ?_); rintro r w2 ⟨rfl, hb⟩; have HB2 := Lk.mk (below_then HB.out HB.out.size hb); have HBa2 := Lk.mk (below_alloc HB2.out (.cells #[.int .i64 a, .int .i64 f, .int .i64 k] 79)); have HBz := Lk.mk (below_alloc hb (.cells #[.int .i64 a, .int .i64 f, .int .i64 k] 79)); obtain ⟨f0, f1, f2, _, _, _⟩ := cells3c (blk_new w2 (.cells #[.int .i64 a, .int .i64 f, .int .i64 k] 79)); clear hb)
                  | (go_at_call 90; (with_reducible refine (HWC.out _ HBa2.out).mono ?_); rintro e w' ⟨rfl, hw⟩; obtain rfl := hw.symm; clear hw))
                go_ret2
                rw [HZ.out]
                exact ⟨HBa2.out, _, _, rfl, fr_nilC _ _⟩
          · have HC : ∃ n : Int, ¬ n = 0 ∧ Calls Tryd.prog 106 #[.slice A ws.length c, .slice B t.length c', .int .i64 a] wo fun e w' => e = .returned (.tuple #[.agg #[.int .i64 0, .int .i64 0, .int .i64 0], .int .i64 n]) ∧ Below wo.heap.size wo w' := by
              by_cases q : a + 2 ≤ ws.length
              · exact ⟨9, by decide, HRB.out wo HB.out a q (fun h => hrd ⟨q, h⟩)⟩
              · exact ⟨2, by decide, HRX.out wo (a : Int) (by omega)⟩
            obtain ⟨n, hnz, HC⟩ := HC
            have HC := Lk.mk HC
            clear hno hrd HRO HRB HRX HSO HSN HTP HWD HTM HLK HU HLE HFS HFN HW HR
            go_wp2_with (go_at_call 106; (with_reducible refine (HC.out).mono ?_); rintro r w2 ⟨rfl, hb⟩; have HBa2 := Lk.mk (below_alloc (below_then HB.out HB.out.size hb) (.cells #[.int .i64 0, .int .i64 0, .int .i64 0] 79)); clear hb)
            go_ret2
            rw [HZ.out]
            exact ⟨HBa2.out, _, _, rfl, fr_nilC _ _⟩
        | some q =>
          obtain ⟨x, e⟩ := q
          obtain ⟨c1, c2, c3, c4, c5, c6, c7⟩ := HSO.out a e x hst
          have HC := Lk.mk (HRO.out wo HB.out a c1 c2)
          have HW2 := Lk.mk (show Wk.walk (stp ws (t.map entryOf) (lo + size)) (lo + size) sp = (Wk.walk (stp ws (t.map entryOf) (lo + size)) (lo + size) e).map ((acc ++ [x]) ++ ·) by
            rw [HW.out, Wk.walk_step HU.out hlt hst, Option.map_map]
            congr 1
            funext m
            simp)
          have HWC := Lk.mk (fun W hb => HWD.out W hb (ws.getD (a + 1) 0 - 1))
          rw [HTM.out] at c4
          subst c3
          dsimp only at c7
          obtain ⟨A0, c0, rfl, _, hC0⟩ := Kd.R_reads HR.out
          rw [List.length_reverse] at hC0 ⊢
          have hC0 := Lk.mk hC0
          clear HRO HRB HRX HSO HSN HTP HWD HTM HLK HU HLE HFS HFN HW HR c2
          generalize ws.getD (a + 1) 0 - 1 = f at *
          generalize ws.getD a 0 - 1 = k at *
          generalize lWords t f = tw at *
          have hwt : IntKind.i64.wrap ((a : Int) + tw) = e := by rw [IntWalk.i64_in _ (by omega)]; omega
          have hz1 : ¬ ((lo : Int) + size < e) := by omega
          have C4 := Lk.mk c4
          clear c4
          by_cases q : e = lo + size
          · rw [if_pos q] at c7
            subst c7
            subst q
            rw [Int.natCast_add] at hwt
            go_wp2_with (first
              | (go_at_call 106; (with_reducible refine (HC.out).mono ?_); rintro r w2 ⟨rfl, hb⟩; have HB2 := Lk.mk (below_then HB.out HB.out.size hb); have HBa2 := Lk.mk (below_alloc HB2.out (.cells #[.int .i64 a, .int .i64 f, .int .i64 (-1)] 79)); have HBz := Lk.mk (below_alloc hb (.cells #[.int .i64 a, .int .i64 f, .int .i64 (-1)] 79)); obtain ⟨f0, f1, f2, _, _, _⟩ := cells3c (blk_new w2 (.cells #[.int .i64 a, .int .i64 f, .int .i64 (-1)] 79)); clear hb)
              | (go_at_call 90; (with_reducible refine (HWC.out _ HBa2.out).mono ?_); rintro e w' ⟨rfl, hw⟩; obtain rfl := hw.symm; clear hw)
              | (at_builtin
                 refine Kd.R_append_rows (w0 := w) kFr w.heap.size rfl _ _ 65 79 _ 24 rfl Tryd.underlying65 infoFr rfl (show 0 < (3 : Nat) from by decide) (show 0 < (24 : Nat) from by decide) _ [((a : Int), (f, (-1 : Int)))] acc.reverse A0 acc.length c0 (fun _ => True) (fun _ => False) rfl rfl (fr_lit2 _ _ (a : Int) f (-1) w.heap.size HB2.out.size) (Kd.C_below hC0.out (below_alloc HBz.out _)) (fun _ _ h => h) (fun _ h => h.elim) (fun _ _ => trivial) (below_alloc HBa2.out _) (below_alloc HBa2.out _).size ?q2 ?_
                 case q2 => (simp only [List.length_reverse, List.length_cons, List.length_nil]; omega)
                 intro v4 w4 hR4 hb4 _ _
                 have HR4 := Lk.mk hR4
                 have HB4 := Lk.mk hb4
                 clear hR4 hb4))
            go_roundg (lo + size - (lo + size))
            case measure => omega
            case rel => exact ⟨lo + size, acc ++ [((a : Int), (f, (-1 : Int)))], c6, by simp; omega, Nat.le_refl _, by rw [Int.natCast_add], HW2, ⟨by rw [List.reverse_append]; exact HR4.out⟩, HB4⟩
          · rw [if_neg q] at c7
            subst c7
            have hz2 : ¬ (e : Int) = lo + size := by omega
            have hz3 : (e : Int) < lo + size := by omega
            go_wp2_with (first
              | (go_at_call 106; (with_reducible refine (HC.out).mono ?_); rintro r w2 ⟨rfl, hb⟩; have HB2 := Lk.mk (below_then HB.out HB.out.size hb); have HBa2 := Lk.mk (below_alloc HB2.out (.cells #[.int .i64 a, .int .i64 f, .int .i64 e] 79)); have HBz := Lk.mk (below_alloc hb (.cells #[.int .i64 a, .int .i64 f, .int .i64 e] 79)); obtain ⟨f0, f1, f2, _, _, _⟩ := cells3c (blk_new w2 (.cells #[.int .i64 a, .int .i64 f, .int .i64 e] 79)); clear hb)
              | (go_at_call 90; (with_reducible refine (HWC.out _ HBa2.out).mono ?_); rintro e w' ⟨rfl, hw⟩; obtain rfl := hw.symm; clear hw)
              | (at_builtin
                 refine Kd.R_append_rows (w0 := w) kFr w.heap.size rfl _ _ 65 79 _ 24 rfl Tryd.underlying65 infoFr rfl (show 0 < (3 : Nat) from by decide) (show 0 < (24 : Nat) from by decide) _ [((a : Int), (f, (e : Int)))] acc.reverse A0 acc.length c0 (fun _ => True) (fun _ => False) rfl rfl (fr_lit2 _ _ (a : Int) f (e : Int) w.heap.size HB2.out.size) (Kd.C_below hC0.out (below_alloc HBz.out _)) (fun _ _ h => h) (fun _ h => h.elim) (fun _ _ => trivial) (below_alloc HBa2.out _) (below_alloc HBa2.out _).size ?q2 ?_
                 case q2 => (simp only [List.length_reverse, List.length_cons, List.length_nil]; omega)
                 intro v4 w4 hR4 hb4 _ _
                 have HR4 := Lk.mk hR4
                 have HB4 := Lk.mk hb4
                 clear hR4 hb4))
            go_roundg (lo + size - e)
            case measure => omega
            case rel => exact ⟨e, acc ++ [((a : Int), (f, (e : Int)))], c6, by simp; omega, Nat.le_refl _, rfl, HW2, ⟨by rw [List.reverse_append]; exact HR4.out⟩, HB4⟩
      · have hltz : ¬ (a : Int) < (lo : Int) + size := by omega
        have HZ := Lk.mk (HFS.out acc (by rw [HW.out, Wk.walk_end hlt]; simp))
        obtain ⟨A0, c0, rfl, _, hC0⟩ := Kd.R_reads HR.out
        rw [List.length_reverse] at hC0 ⊢
        have HC0 := Lk.mk hC0
        clear hC0
        go_wp2
        go_ret2
        rw [HZ.out]
        dsimp only
        rw [List.length_reverse]
        exact ⟨HB.out, A0, ⟨c0, rfl⟩, HC0.out⟩
end Go.Proofs.YtcepafllgjnngaaDoor
