/-
  The walk of the model's fits; conditions: the row and the table read as told.
-/
import Derived.Test.YtcepafllgjnngaaDoorPc
namespace Go.Proofs.YtcepafllgjnngaaDoor
open Go.RowKit Go.Proofs.YtcepafllgjnngaaDoorW.PrintWords

/-- a way out by panic within a region: what is shown there; and a false goal for the walk to go on with -/
theorem as_panic {P : Program} {fn : Func} {R : Ending → World → Prop} {c : List PanicEntry} {a : Act} {w : World} {K : Act → World → Prop} (hp : bodyPost P fn R (.panic c) a w) (_ : False → K a w) : bodyPost P fn R (.panic c) a w := hp
theorem vl_lit (W : World) (v : Sl.Vl) : kVl.C (W.alloc (.cells #[.int .u8 v.1, .int .u64 v.2.1, .int .i64 v.2.2.1, .int .i64 v.2.2.2] 56)) (some ⟨W.heap.size, 0, none⟩) ([v] : List Sl.Vl).length [v] := by
  have h := blk_new W (.cells #[.int .u8 v.1, .int .u64 v.2.1, .int .i64 v.2.2.1, .int .i64 v.2.2.2] 56)
  exact kVl_one (ad := ⟨W.heap.size, 0, none⟩) (by rw [add_plain]; exact (blk_cell h 0).trans rfl) (by rw [add_plain]; exact (blk_cell h 1).trans rfl) (by rw [add_plain]; exact (blk_cell h 2).trans rfl) (by rw [add_plain]; exact (blk_cell h 3).trans rfl)
theorem cells4v {w : World} {g : Nat} {t : TypeId} {a b c d : Value} (h : w.heap[g]? = some (.cells #[a, b, c, d] t (0, 0))) : w.cell? ⟨g, 0, none⟩ = some a ∧ w.cell? ⟨g, 1, none⟩ = some b ∧ w.cell? ⟨g, 2, none⟩ = some c ∧ w.cell? ⟨g, 3, none⟩ = some d :=
  ⟨by rw [blk_cell h 0]; rfl, by rw [blk_cell h 1]; rfl, by rw [blk_cell h 2]; rfl, by rw [blk_cell h 3]; rfl⟩
theorem cells2v {w : World} {g : Nat} {t : TypeId} {a b : Value} (h : w.heap[g]? = some (.cells #[a, b] t (0, 0))) : w.cell? ⟨g, 0, none⟩ = some a ∧ w.cell? ⟨g, 1, none⟩ = some b :=
  ⟨by rw [blk_cell h 0]; rfl, by rw [blk_cell h 1]; rfl⟩
/-- what fits answers: nothing, or what it throws -/
def FitsE (n : Int) (r : Ending) : Prop := (n = 0 ∧ r = .returned (.tuple #[])) ∨ (¬ n = 0 ∧ r = .panicked (wrongC n))
set_option maxRecDepth 100000 in
set_option maxHeartbeats 2000000 in
theorem mfits_any (p : Value) (ent : List (Int × (List Int × List Int))) (A : Option Addr) (c : Nat) (l : List Af) (k : Nat) (s : Int) (v : Sl.Vl) (w : World) (ht : TblOr w p ent) (hw : ∀ e ∈ ent, Bm.Words e.2.1) (hr : kAf.C w A l.length l) (hk : k < l.length) (hs : s ≤ 9223372036854775807) (hv : VlIn v) :
    Calls Tryd.prog 118 #[.agg #[p, .slice A l.length c], .int .i64 k, .int .i64 s, .agg #[.int .u8 v.1, .int .u64 v.2.1, .int .i64 v.2.2.1, .int .i64 v.2.2.2]] w fun e w' => FitsE (fitsN (tPtr ent) l k s v) e ∧ Below w.heap.size w w' := by
  have H0 := Lk.mk (below_alloc (below_alloc (Below.refl w.heap.size w) (.cells #[p, .slice A l.length c] 179)) (.cells #[.int .u8 v.1, .int .u64 v.2.1, .int .i64 v.2.2.1, .int .i64 v.2.2.2] 56))
  have HR0 := Lk.mk (blk_alloc (blk_new w (.cells #[p, .slice A l.length c] 179)) (.cells #[.int .u8 v.1, .int .u64 v.2.1, .int .i64 v.2.2.1, .int .i64 v.2.2.2] 56))
  have hs1 : (w.alloc (.cells #[p, .slice A l.length c] 179)).heap.size = w.heap.size + 1 := by simp
  have hvb := blk_new (w.alloc (.cells #[p, .slice A l.length c] 179)) (.cells #[.int .u8 v.1, .int .u64 v.2.1, .int .i64 v.2.2.1, .int .i64 v.2.2.2] 56)
  rw [hs1] at hvb
  have HV0 := Lk.mk hvb
  have hs2 : ((w.alloc (.cells #[p, .slice A l.length c] 179)).alloc (.cells #[.int .u8 v.1, .int .u64 v.2.1, .int .i64 v.2.2.1, .int .i64 v.2.2.2] 56)).heap.size = w.heap.size + 1 + 1 := by simp
  have hma := smayAll_any (some ⟨_, 0, none⟩) 1 [v] _ (vl_lit ((w.alloc (.cells #[p, .slice A l.length c] 179)).alloc (.cells #[.int .u8 v.1, .int .u64 v.2.1, .int .i64 v.2.2.1, .int .i64 v.2.2.2] 56)) v) (fun y hy => by obtain rfl : y = v := (by simpa using hy); exact hv)
  rw [hs2, show ([v] : List Sl.Vl).length = 1 from rfl] at hma
  have hmv : Sl.mayVs [v] = Sl.mayV v := by unfold Sl.mayVs; simp
  rw [hmv] at hma
  have HMA := Lk.mk hma
  have HPT := Lk.mk (fun W (hb : Below w.heap.size w W) => mptr_any p ent A c l k s W (ht.below hb) hw (Kd.C_below hr hb) hk hs)
  have HHS := Lk.mk (fun W (hb : Below w.heap.size w W) => mhas_any p A c l v.2.2.1 v.2.2.2 W (Kd.C_below hr hb))
  have HN := Lk.mk (show fitsN (tPtr ent) l k s v = if Sl.mayV v = true then (if tPtr ent (l.getD k dAf).1 s = !(decide (v.1 = 1)) then (if v.1 = 2 then (if hasA l v.2.2.1 v.2.2.2 = true then (if v.2.2.1 ≤ k then 0 else 7) else 2) else 0) else 5) else 1 from rfl)
  obtain ⟨v0, v1, v2, v3⟩ := v
  dsimp only at *
  obtain ⟨a0, a1⟩ := cells2v HR0.out
  obtain ⟨b0, b1, b2, b3⟩ := cells4v HV0.out
  have HBl := Lk.mk (below_alloc H0.out (.cells #[.int .u8 v0, .int .u64 v1, .int .i64 v2, .int .i64 v3] 56))
  have HRl := Lk.mk (blk_alloc HR0.out (.cells #[.int .u8 v0, .int .u64 v1, .int .i64 v2, .int .i64 v3] 56))
  have HVl := Lk.mk (blk_alloc HV0.out (.cells #[.int .u8 v0, .int .u64 v1, .int .i64 v2, .int .i64 v3] 56))
  clear ht hr hw hv hvb hma hmv hs1 hs2
  generalize fitsN (tPtr ent) l k s (v0, v1, v2, v3) = n at *
  generalize tPtr ent (l.getD k dAf).1 s = pt at *
  generalize hasA l v2 v3 = hz at *
  cases hmy : Sl.mayV (v0, v1, v2, v3) with
  | false =>
    rw [hmy] at HMA HN
    rw [if_neg (by decide)] at HN
    go_enter Tryd.func118, Tryd.ntmps118
    go_wp2_with (first
      | (go_at_call 155; (with_reducible refine (HMA.out).mono ?_); rintro e w1 ⟨rfl, hb⟩; have HB1 := Lk.mk (below_then HBl.out HBl.out.size hb); clear hb)
      | (go_at_call 112; (with_reducible refine (mmust_no _ _).mono ?_); rintro e w' ⟨rfl, hw⟩; obtain rfl := hw.symm; clear hw))
    exact ⟨rfl, .inr ⟨by rw [HN.out]; decide, by rw [HN.out]⟩, HB1.out⟩
  | true =>
    rw [hmy] at HMA HN
    rw [if_pos rfl] at HN
    clear hmy
    by_cases h1 : v0 = 1
    · subst h1
      cases pt with
      | true =>
        rw [if_neg (by simp)] at HN
        go_enter Tryd.func118, Tryd.ntmps118
        go_wp2_with (first
          | (go_at_call 155; (with_reducible refine (HMA.out).mono ?_); rintro e w1 ⟨rfl, hb⟩; have HB1 := Lk.mk (below_then HBl.out HBl.out.size hb); have HR1 := Lk.mk (blk_below HRl.out hb); have HV1 := Lk.mk (blk_below HVl.out hb); clear hb)
          | (go_at_call 112; (with_reducible refine (mmust_ok _ _).mono ?_); rintro e w' ⟨rfl, hw⟩; obtain rfl := hw.symm; clear hw))
        obtain ⟨c0, c1⟩ := cells2v (blk_drew HR1.out)
        obtain ⟨d0, d1, d2, d3⟩ := cells4v (blk_drew HV1.out)
        have HB1d := Lk.mk (below_drew HB1.out)
        go_region_with (first
          | (go_at_call 124; (with_reducible refine (HPT.out _ HB1d.out).mono ?_); rintro e w2 ⟨rfl, hb⟩; have HR2 := Lk.mk (blk_below (blk_drew HR1.out) hb); have HV2 := Lk.mk (blk_below (blk_drew HV1.out) hb); obtain ⟨f0, f1⟩ := cells2v HR2.out; obtain ⟨g0, g1, g2, g3⟩ := cells4v HV2.out; have HB2 := Lk.mk (below_then HB1d.out HB1d.out.size hb); clear hb)
          | (go_at_call 112; (with_reducible refine (mmust_no _ _).mono ?_); rintro e w' ⟨rfl, hw⟩; obtain rfl := hw.symm; clear hw; refine as_panic (K := ‹Act → World → Prop›) ⟨rfl, .inr ⟨by rw [HN.out]; decide, by rw [HN.out]⟩, HB2.out⟩ ?_; intro hF))
        all_goals exact hF.elim
      | false =>
        rw [if_pos (by simp), if_neg (by decide)] at HN
        go_enter Tryd.func118, Tryd.ntmps118
        go_wp2_with (first
          | (go_at_call 155; (with_reducible refine (HMA.out).mono ?_); rintro e w1 ⟨rfl, hb⟩; have HB1 := Lk.mk (below_then HBl.out HBl.out.size hb); have HR1 := Lk.mk (blk_below HRl.out hb); have HV1 := Lk.mk (blk_below HVl.out hb); clear hb)
          | (go_at_call 112; (with_reducible refine (mmust_ok _ _).mono ?_); rintro e w' ⟨rfl, hw⟩; obtain rfl := hw.symm; clear hw))
        obtain ⟨c0, c1⟩ := cells2v (blk_drew HR1.out)
        obtain ⟨d0, d1, d2, d3⟩ := cells4v (blk_drew HV1.out)
        have HB1d := Lk.mk (below_drew HB1.out)
        go_region_held3 (fun W => W.cell? ⟨w.heap.size, 0, none⟩ = some p ∧ W.cell? ⟨w.heap.size, 1, none⟩ = some (.slice A l.length c) ∧ W.cell? ⟨w.heap.size + 1, 0, none⟩ = some (.int .u8 1)) (first | exact ⟨c0, c1, d0⟩ | exact ⟨f0, f1, g0⟩) (first
          | (go_at_call 124; (with_reducible refine (HPT.out _ HB1d.out).mono ?_); rintro e w2 ⟨rfl, hb⟩; have HR2 := Lk.mk (blk_below (blk_drew HR1.out) hb); have HV2 := Lk.mk (blk_below (blk_drew HV1.out) hb); obtain ⟨f0, f1⟩ := cells2v HR2.out; obtain ⟨g0, g1, g2, g3⟩ := cells4v HV2.out; have HB2 := Lk.mk (below_then HB1d.out HB1d.out.size hb); clear hb)
          | (go_at_call 112; (with_reducible refine (mmust_ok _ _).mono ?_); rintro e w' ⟨rfl, hw⟩; obtain rfl := hw.symm; clear hw))
        go_wp2
        simp [bodyPost, results, Tryd.results118]
        exact ⟨.inl ⟨HN.out, rfl⟩, HB2.out⟩
    · have h1b : (v0 == 1) = false := beq_false_of_ne h1
      have h1c : (v0 != 1) = true := by simp [bne, h1b]
      rw [decide_eq_false h1] at HN
      cases pt with
      | false =>
        rw [if_neg (by simp)] at HN
        go_enter Tryd.func118, Tryd.ntmps118
        go_wp2_with (first
          | (go_at_call 155; (with_reducible refine (HMA.out).mono ?_); rintro e w1 ⟨rfl, hb⟩; have HB1 := Lk.mk (below_then HBl.out HBl.out.size hb); have HR1 := Lk.mk (blk_below HRl.out hb); have HV1 := Lk.mk (blk_below HVl.out hb); clear hb)
          | (go_at_call 112; (with_reducible refine (mmust_ok _ _).mono ?_); rintro e w' ⟨rfl, hw⟩; obtain rfl := hw.symm; clear hw))
        obtain ⟨c0, c1⟩ := cells2v (blk_drew HR1.out)
        obtain ⟨d0, d1, d2, d3⟩ := cells4v (blk_drew HV1.out)
        have HB1d := Lk.mk (below_drew HB1.out)
        go_region_with (first
          | (go_at_call 124; (with_reducible refine (HPT.out _ HB1d.out).mono ?_); rintro e w2 ⟨rfl, hb⟩; have HR2 := Lk.mk (blk_below (blk_drew HR1.out) hb); have HV2 := Lk.mk (blk_below (blk_drew HV1.out) hb); obtain ⟨f0, f1⟩ := cells2v HR2.out; obtain ⟨g0, g1, g2, g3⟩ := cells4v HV2.out; have HB2 := Lk.mk (below_then HB1d.out HB1d.out.size hb); clear hb)
          | (go_at_call 112; (with_reducible refine (mmust_no _ _).mono ?_); rintro e w' ⟨rfl, hw⟩; obtain rfl := hw.symm; clear hw; refine as_panic (K := ‹Act → World → Prop›) ⟨rfl, .inr ⟨by rw [HN.out]; decide, by rw [HN.out]⟩, HB2.out⟩ ?_; intro hF))
        all_goals exact hF.elim
      | true =>
        rw [if_pos (by simp)] at HN
        by_cases h2 : v0 = 2
        · subst h2
          rw [if_pos rfl] at HN
          cases hz with
          | false =>
            rw [if_neg (by decide)] at HN
            go_enter Tryd.func118, Tryd.ntmps118
            go_wp2_with (first
              | (go_at_call 155; (with_reducible refine (HMA.out).mono ?_); rintro e w1 ⟨rfl, hb⟩; have HB1 := Lk.mk (below_then HBl.out HBl.out.size hb); have HR1 := Lk.mk (blk_below HRl.out hb); have HV1 := Lk.mk (blk_below HVl.out hb); clear hb)
              | (go_at_call 112; (with_reducible refine (mmust_ok _ _).mono ?_); rintro e w' ⟨rfl, hw⟩; obtain rfl := hw.symm; clear hw))
            obtain ⟨c0, c1⟩ := cells2v (blk_drew HR1.out)
            obtain ⟨d0, d1, d2, d3⟩ := cells4v (blk_drew HV1.out)
            have HB1d := Lk.mk (below_drew HB1.out)
            go_region_held3 (fun W => W.cell? ⟨w.heap.size, 0, none⟩ = some p ∧ W.cell? ⟨w.heap.size, 1, none⟩ = some (.slice A l.length c) ∧ W.cell? ⟨w.heap.size + 1, 0, none⟩ = some (.int .u8 2)) (first | exact ⟨c0, c1, d0⟩ | exact ⟨f0, f1, g0⟩) (first
              | (go_at_call 124; (with_reducible refine (HPT.out _ HB1d.out).mono ?_); rintro e w2 ⟨rfl, hb⟩; have HR2 := Lk.mk (blk_below (blk_drew HR1.out) hb); have HV2 := Lk.mk (blk_below (blk_drew HV1.out) hb); obtain ⟨f0, f1⟩ := cells2v HR2.out; obtain ⟨g0, g1, g2, g3⟩ := cells4v HV2.out; have HB2 := Lk.mk (below_then HB1d.out HB1d.out.size hb); clear hb)
              | (go_at_call 112; (with_reducible refine (mmust_ok _ _).mono ?_); rintro e w' ⟨rfl, hw⟩; obtain rfl := hw.symm; clear hw))
            go_wp2_with (first
              | (go_at_call 117; (with_reducible refine (HHS.out _ HB2.out).mono ?_); rintro e w3 ⟨rfl, hb⟩; have HV3 := Lk.mk (blk_below HV2.out hb); obtain ⟨i0, i1, i2, i3⟩ := cells4v HV3.out; have HB3 := Lk.mk (below_then HB2.out HB2.out.size hb); clear hb)
              | (go_at_call 112; (with_reducible refine (mmust_no _ _).mono ?_); rintro e w' ⟨rfl, hw⟩; obtain rfl := hw.symm; clear hw))
            exact ⟨rfl, .inr ⟨by rw [HN.out]; decide, by rw [HN.out]⟩, HB3.out⟩
          | true =>
            rw [if_pos rfl] at HN
            by_cases h3 : v2 ≤ k
            · rw [if_pos h3] at HN
              go_enter Tryd.func118, Tryd.ntmps118
              go_wp2_with (first
                | (go_at_call 155; (with_reducible refine (HMA.out).mono ?_); rintro e w1 ⟨rfl, hb⟩; have HB1 := Lk.mk (below_then HBl.out HBl.out.size hb); have HR1 := Lk.mk (blk_below HRl.out hb); have HV1 := Lk.mk (blk_below HVl.out hb); clear hb)
                | (go_at_call 112; (with_reducible refine (mmust_ok _ _).mono ?_); rintro e w' ⟨rfl, hw⟩; obtain rfl := hw.symm; clear hw))
              obtain ⟨c0, c1⟩ := cells2v (blk_drew HR1.out)
              obtain ⟨d0, d1, d2, d3⟩ := cells4v (blk_drew HV1.out)
              have HB1d := Lk.mk (below_drew HB1.out)
              go_region_held3 (fun W => W.cell? ⟨w.heap.size, 0, none⟩ = some p ∧ W.cell? ⟨w.heap.size, 1, none⟩ = some (.slice A l.length c) ∧ W.cell? ⟨w.heap.size + 1, 0, none⟩ = some (.int .u8 2)) (first | exact ⟨c0, c1, d0⟩ | exact ⟨f0, f1, g0⟩) (first
                | (go_at_call 124; (with_reducible refine (HPT.out _ HB1d.out).mono ?_); rintro e w2 ⟨rfl, hb⟩; have HR2 := Lk.mk (blk_below (blk_drew HR1.out) hb); have HV2 := Lk.mk (blk_below (blk_drew HV1.out) hb); obtain ⟨f0, f1⟩ := cells2v HR2.out; obtain ⟨g0, g1, g2, g3⟩ := cells4v HV2.out; have HB2 := Lk.mk (below_then HB1d.out HB1d.out.size hb); clear hb)
                | (go_at_call 112; (with_reducible refine (mmust_ok _ _).mono ?_); rintro e w' ⟨rfl, hw⟩; obtain rfl := hw.symm; clear hw))
              go_wp2_with (first
                | (go_at_call 117; (with_reducible refine (HHS.out _ HB2.out).mono ?_); rintro e w3 ⟨rfl, hb⟩; have HV3 := Lk.mk (blk_below HV2.out hb); obtain ⟨i0, i1, i2, i3⟩ := cells4v HV3.out; have HB3 := Lk.mk (below_then HB2.out HB2.out.size hb); clear hb)
                | (go_at_call 112; (with_reducible refine (mmust_ok _ _).mono ?_); rintro e w' ⟨rfl, hw⟩; obtain rfl := hw.symm; clear hw))
              simp [bodyPost, results, Tryd.results118]
              exact ⟨.inl ⟨HN.out, rfl⟩, HB3.out⟩
            · rw [if_neg h3] at HN
              have h3b : decide (v2 ≤ (k : Int)) = false := decide_eq_false h3
              have h3c : ¬ v2 ≤ (k : Int) := h3
              go_enter Tryd.func118, Tryd.ntmps118
              go_wp2_with (first
                | (go_at_call 155; (with_reducible refine (HMA.out).mono ?_); rintro e w1 ⟨rfl, hb⟩; have HB1 := Lk.mk (below_then HBl.out HBl.out.size hb); have HR1 := Lk.mk (blk_below HRl.out hb); have HV1 := Lk.mk (blk_below HVl.out hb); clear hb)
                | (go_at_call 112; (with_reducible refine (mmust_ok _ _).mono ?_); rintro e w' ⟨rfl, hw⟩; obtain rfl := hw.symm; clear hw))
              obtain ⟨c0, c1⟩ := cells2v (blk_drew HR1.out)
              obtain ⟨d0, d1, d2, d3⟩ := cells4v (blk_drew HV1.out)
              have HB1d := Lk.mk (below_drew HB1.out)
              go_region_held3 (fun W => W.cell? ⟨w.heap.size, 0, none⟩ = some p ∧ W.cell? ⟨w.heap.size, 1, none⟩ = some (.slice A l.length c) ∧ W.cell? ⟨w.heap.size + 1, 0, none⟩ = some (.int .u8 2)) (first | exact ⟨c0, c1, d0⟩ | exact ⟨f0, f1, g0⟩) (first
                | (go_at_call 124; (with_reducible refine (HPT.out _ HB1d.out).mono ?_); rintro e w2 ⟨rfl, hb⟩; have HR2 := Lk.mk (blk_below (blk_drew HR1.out) hb); have HV2 := Lk.mk (blk_below (blk_drew HV1.out) hb); obtain ⟨f0, f1⟩ := cells2v HR2.out; obtain ⟨g0, g1, g2, g3⟩ := cells4v HV2.out; have HB2 := Lk.mk (below_then HB1d.out HB1d.out.size hb); clear hb)
                | (go_at_call 112; (with_reducible refine (mmust_ok _ _).mono ?_); rintro e w' ⟨rfl, hw⟩; obtain rfl := hw.symm; clear hw))
              go_wp2_with (first
                | (go_at_call 117; (with_reducible refine (HHS.out _ HB2.out).mono ?_); rintro e w3 ⟨rfl, hb⟩; have HV3 := Lk.mk (blk_below HV2.out hb); obtain ⟨i0, i1, i2, i3⟩ := cells4v HV3.out; have HB3 := Lk.mk (below_then HB2.out HB2.out.size hb); clear hb)
                | (go_at_call 112; (with_reducible refine (mmust_ok _ _).mono ?_); rintro e w' ⟨rfl, hw⟩; obtain rfl := hw.symm; clear hw)
                | (go_at_call 112; (with_reducible refine (mmust_no _ _).mono ?_); rintro e w' ⟨rfl, hw⟩; obtain rfl := hw.symm; clear hw))
              exact ⟨rfl, .inr ⟨by rw [HN.out]; decide, by rw [HN.out]⟩, HB3.out⟩
        · have h2b : (v0 == 2) = false := beq_false_of_ne h2
          rw [if_neg h2] at HN
          go_enter Tryd.func118, Tryd.ntmps118
          go_wp2_with (first
            | (go_at_call 155; (with_reducible refine (HMA.out).mono ?_); rintro e w1 ⟨rfl, hb⟩; have HB1 := Lk.mk (below_then HBl.out HBl.out.size hb); have HR1 := Lk.mk (blk_below HRl.out hb); have HV1 := Lk.mk (blk_below HVl.out hb); clear hb)
            | (go_at_call 112; (with_reducible refine (mmust_ok _ _).mono ?_); rintro e w' ⟨rfl, hw⟩; obtain rfl := hw.symm; clear hw))
          obtain ⟨c0, c1⟩ := cells2v (blk_drew HR1.out)
          obtain ⟨d0, d1, d2, d3⟩ := cells4v (blk_drew HV1.out)
          have HB1d := Lk.mk (below_drew HB1.out)
          go_region_held3 (fun W => W.cell? ⟨w.heap.size, 0, none⟩ = some p ∧ W.cell? ⟨w.heap.size, 1, none⟩ = some (.slice A l.length c) ∧ W.cell? ⟨w.heap.size + 1, 0, none⟩ = some (.int .u8 v0)) (first | exact ⟨c0, c1, d0⟩ | exact ⟨f0, f1, g0⟩) (first
            | (go_at_call 124; (with_reducible refine (HPT.out _ HB1d.out).mono ?_); rintro e w2 ⟨rfl, hb⟩; have HR2 := Lk.mk (blk_below (blk_drew HR1.out) hb); have HV2 := Lk.mk (blk_below (blk_drew HV1.out) hb); obtain ⟨f0, f1⟩ := cells2v HR2.out; obtain ⟨g0, g1, g2, g3⟩ := cells4v HV2.out; have HB2 := Lk.mk (below_then HB1d.out HB1d.out.size hb); clear hb)
            | (go_at_call 112; (with_reducible refine (mmust_ok _ _).mono ?_); rintro e w' ⟨rfl, hw⟩; obtain rfl := hw.symm; clear hw))
          go_wp2
          simp [bodyPost, results, Tryd.results118]
          exact ⟨.inl ⟨HN.out, rfl⟩, HB2.out⟩
end Go.Proofs.YtcepafllgjnngaaDoor
