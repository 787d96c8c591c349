/-
  The walk of the law FrameSlots; conditions: what is handed in reads as told, the table of deBruijn stands.
-/
import Derived.Test.YtbikdngpannekaaDoorDj
import Derived.Deep.RegionHeld3
namespace Go.Proofs.YtbikdngpannekaaDoor
open Go.RowKit Go.Proofs.YtbikdngpannekaaDoorW.PrintWords

def frB (x : Sl.Fr) : Obj := .cells #[.int .i64 x.1, .int .i64 x.2.1, .int .i64 x.2.2] 52
theorem tHas_nil (f : Int) : tHas [] f = false := by
  cases h : tHas [] f with
  | false => rfl
  | true =>
    have := tHas_true h
    simp at this
    omega
set_option maxRecDepth 100000 in
set_option maxHeartbeats 2000000 in
theorem slots_early (B : Option Addr) (c' : Nat) (t : List (Int × List Int)) (x : Sl.Fr) (i : Int) (w : World) (hq : FnC w B t.length t) (hT : Tab w) (h : greatL t = true ∨ 1099511627776 < x.1 ∨ x.1 < -1099511627776) :
    Calls Tryd.prog 7 #[.slice B t.length c', .agg #[.int .i64 x.1, .int .i64 x.2.1, .int .i64 x.2.2], .int .i64 i] w fun e w' => e = .returned (.bool true) ∧ Below w.heap.size w w' := by
  obtain ⟨a, f, k⟩ := x
  have hba := below_alloc (Below.refl w.heap.size w) (.cells #[.int .i64 a, .int .i64 f, .int .i64 k] 52)
  have HG := Lk.mk (great_any B c' t _ (hq.below hba))
  have HT := Lk.mk (hT.below hba)
  have HB := Lk.mk hba
  dsimp only at h ⊢
  clear hq hT hba
  generalize greatL t = g at *
  go_enter Tryd.func7, Tryd.ntmps7
  cases g with
  | true =>
    go_wp2_with (first
      | (go_at_call 24; (with_reducible refine (HG.out).mono ?_); rintro e w' ⟨rfl, hw⟩; obtain rfl := hw.symm; clear hw)
      | (go_at_call 25; (with_reducible refine (awake14_any _ HT.out).mono ?_); rintro e w' ⟨rfl, hb⟩; have HB := Lk.mk (below_then HB.out HB.out.size hb); clear hb))
    go_ret
    exact ⟨rfl, HB.out⟩
  | false =>
    by_cases h1 : 1099511627776 < a
    · go_wp2_with (first
        | (go_at_call 24; (with_reducible refine (HG.out).mono ?_); rintro e w' ⟨rfl, hw⟩; obtain rfl := hw.symm; clear hw)
        | (go_at_call 25; (with_reducible refine (awake14_any _ HT.out).mono ?_); rintro e w' ⟨rfl, hb⟩; have HB := Lk.mk (below_then HB.out HB.out.size hb); clear hb))
      go_ret
      exact ⟨rfl, HB.out⟩
    · have h2 : a < -1099511627776 := by
        rcases h with h | h | h
        · cases h
        · exact absurd h h1
        · exact h
      go_wp2_with (first
        | (go_at_call 24; (with_reducible refine (HG.out).mono ?_); rintro e w' ⟨rfl, hw⟩; obtain rfl := hw.symm; clear hw)
        | (go_at_call 25; (with_reducible refine (awake14_any _ HT.out).mono ?_); rintro e w' ⟨rfl, hb⟩; have HB := Lk.mk (below_then HB.out HB.out.size hb); clear hb))
      go_ret
      exact ⟨rfl, HB.out⟩
set_option maxRecDepth 100000 in
set_option maxHeartbeats 2000000 in
theorem slots_none (B : Option Addr) (c' : Nat) (t : List (Int × List Int)) (x : Sl.Fr) (i : Int) (w : World) (hq : FnC w B t.length t) (hI : FnsOk t) (hT : Tab w) (h1 : ¬ 1099511627776 < x.1) (h2 : ¬ x.1 < -1099511627776) (hg : greatL t = false) (hn : newOk t = false) :
    Calls Tryd.prog 7 #[.slice B t.length c', .agg #[.int .i64 x.1, .int .i64 x.2.1, .int .i64 x.2.2], .int .i64 i] w fun e w' => e = .returned (.bool true) ∧ Below w.heap.size w w' := by
  have HS := Lk.mk (fun W => fslot_bad (.pointer none) [] x i W (.inl ⟨rfl, rfl⟩) (by unfold tSize; rw [tHas_nil, if_neg (by decide)]; omega))
  have HE := Lk.mk (fun W => end_any (.pointer none) [] x W (.inl ⟨rfl, rfl⟩) (by omega) (fun e h => by cases h))
  rw [show tWords [] x.2.1 = -1 by (unfold tWords; rw [tHas_nil, if_neg (by decide)]), if_pos (by decide)] at HE
  obtain ⟨a, f, k⟩ := x
  have hba := below_alloc (Below.refl w.heap.size w) (.cells #[.int .i64 a, .int .i64 f, .int .i64 k] 52)
  have HG := Lk.mk (hg ▸ great_any B c' t _ (hq.below hba))
  have HN := Lk.mk (new_bad B c' t _ (hq.below hba) hI (hT.below hba) hn)
  have HL := Lk.mk (fun W (hb : Below w.heap.size w W) => hn ▸ refAll_any B c' t W (hq.below hb) (fun f hf => ⟨(hI f hf).1, by have := great_le hg f hf; omega⟩))
  have HT := Lk.mk hT
  have HB := Lk.mk hba
  have HX := Lk.mk (blk_new w (.cells #[.int .i64 a, .int .i64 f, .int .i64 k] 52))
  dsimp only at h1 h2 HS HE ⊢
  clear hq hT hba hI hn hg
  go_enter Tryd.func7, Tryd.ntmps7
  go_wp2_with (first
    | (go_at_call 24; (with_reducible refine (HG.out).mono ?_); rintro e w' ⟨rfl, hw⟩; obtain rfl := hw.symm; clear hw)
    | (go_at_call 18; (with_reducible refine (HN.out).mono ?_); rintro e w1 ⟨rfl, hb⟩; have HX1 := Lk.mk (blk_below HX.out hb); obtain ⟨p0, p1, p2, _, _, _⟩ := cells3 HX1.out; have HB := Lk.mk (below_then HB.out HB.out.size hb); clear hb)
    | (go_at_call 33; (with_reducible refine (HS.out _).mono ?_); rintro e w2 ⟨rfl, hb⟩; have HX2 := Lk.mk (blk_below HX1.out hb); obtain ⟨q0, q1, q2, _, _, _⟩ := cells3 HX2.out; have HB := Lk.mk (below_then HB.out HB.out.size hb); clear hb)
    | (go_at_call 34; (with_reducible refine (HE.out _).mono ?_); rintro e w3 ⟨rfl, hb⟩; have HX3 := Lk.mk (blk_below HX2.out hb); obtain ⟨r0, r1, r2, _, _, _⟩ := cells3 HX3.out; have HB := Lk.mk (below_then HB.out HB.out.size hb); clear hb)
    | (go_at_call 27; (with_reducible refine (HL.out _ HB.out).mono ?_); rintro e w' ⟨rfl, hb⟩; have HB := Lk.mk (below_then HB.out HB.out.size hb); clear hb)
    | (go_at_call 25; (with_reducible refine (awake14_any _ (HT.out.below HB.out)).mono ?_); rintro e w' ⟨rfl, hb⟩; have HB := Lk.mk (below_then HB.out HB.out.size hb); clear hb))
  go_ret
  exact ⟨rfl, HB.out⟩
set_option maxRecDepth 100000 in
set_option maxHeartbeats 2000000 in
theorem slots_neg (B : Option Addr) (c' : Nat) (t : List (Int × List Int)) (x : Sl.Fr) (i : Int) (w : World) (hq : FnC w B t.length t) (hI : FnsOk t) (hT : Tab w) (h1 : ¬ 1099511627776 < x.1) (h2 : ¬ x.1 < -1099511627776) (hg : greatL t = false) (hn : newOk t = true) (hs : lSize t x.2.1 < 0) :
    Calls Tryd.prog 7 #[.slice B t.length c', .agg #[.int .i64 x.1, .int .i64 x.2.1, .int .i64 x.2.2], .int .i64 i] w fun e w' => e = .returned (.bool true) ∧ Below w.heap.size w w' := by
  have hEi := entOk_of hn
  have HSL := Lk.mk (fun W p (ht : TblAt W p (t.map entryOf)) => fslot_bad p (t.map entryOf) x i W ht.or (by rw [tSize_map]; omega))
  have HE := Lk.mk (fun W p (ht : TblAt W p (t.map entryOf)) => end_any p (t.map entryOf) x W ht.or (by omega) hEi)
  rw [tWords_map hn] at HE
  have hsr := lSize_in hn x.2.1
  have hwd : lWords t x.2.1 = -1 := by unfold lWords; rw [if_pos hs]
  rw [hwd, if_pos (by decide)] at HE
  have HSZ := Lk.mk (fun W (hb : Below w.heap.size w W) => refSize_any B c' t x.2.1 W (hq.below hb))
  have HWD := Lk.mk (fun W (hb : Below w.heap.size w W) => refWords_any B c' t x.2.1 W (hq.below hb) (by omega))
  obtain ⟨a, f, k⟩ := x
  have hba := below_alloc (Below.refl w.heap.size w) (.cells #[.int .i64 a, .int .i64 f, .int .i64 k] 52)
  have HG := Lk.mk (hg ▸ great_any B c' t _ (hq.below hba))
  have HN := Lk.mk (new_good B c' t _ (hq.below hba) hI (hT.below hba) hn)
  have HL := Lk.mk (fun W (hb : Below w.heap.size w W) => hn ▸ refAll_any B c' t W (hq.below hb) (fun g hf => ⟨(hI g hf).1, by have := great_le hg g hf; omega⟩))
  have HT := Lk.mk hT
  have HB := Lk.mk hba
  have HX := Lk.mk (blk_new w (.cells #[.int .i64 a, .int .i64 f, .int .i64 k] 52))
  dsimp only at *
  clear hT hba hI hn hg hEi hq
  generalize lWords t f = wd at *
  generalize lSize t f = sz at *
  go_enter Tryd.func7, Tryd.ntmps7
  go_wp2_with (first
    | (go_at_call 24; (with_reducible refine (HG.out).mono ?_); rintro e w' ⟨rfl, hw⟩; obtain rfl := hw.symm; clear hw)
    | (go_at_call 18; (with_reducible refine (HN.out).mono ?_); rintro e w1 ⟨p, rfl, htb, hb⟩; have HTB := Lk.mk htb; have HX1 := Lk.mk (blk_below HX.out hb); obtain ⟨p0, p1, p2, _, _, _⟩ := cells3 HX1.out; have HB := Lk.mk (below_then HB.out HB.out.size hb); clear hb htb)
    | (go_at_call 33; (with_reducible refine (HSL.out _ _ HTB.out).mono ?_); rintro e w2 ⟨rfl, hb⟩; have HX2 := Lk.mk (blk_below HX1.out hb); have HTB := Lk.mk (HTB.out.below hb); obtain ⟨q0, q1, q2, _, _, _⟩ := cells3 HX2.out; have HB := Lk.mk (below_then HB.out HB.out.size hb); clear hb)
    | (go_at_call 34; (with_reducible refine (HE.out _ _ HTB.out).mono ?_); rintro e w3 ⟨rfl, hb⟩; have HX3 := Lk.mk (blk_below HX2.out hb); obtain ⟨r0, r1, r2, _, _, _⟩ := cells3 HX3.out; have HB := Lk.mk (below_then HB.out HB.out.size hb); clear hb)
    | (go_at_call 27; (with_reducible refine (HL.out _ HB.out).mono ?_); rintro e w4 ⟨rfl, hb⟩; have HX4 := Lk.mk (blk_below HX3.out hb); obtain ⟨s0, s1, s2, _, _, _⟩ := cells3 HX4.out; have HB := Lk.mk (below_then HB.out HB.out.size hb); clear hb)
    | (go_at_call 35; (with_reducible refine (HSZ.out _ HB.out).mono ?_); rintro e w' ⟨rfl, hw⟩; obtain rfl := hw.symm; clear hw)
    | (go_at_call 36; (with_reducible refine (HWD.out _ HB.out).mono ?_); rintro e w' ⟨rfl, hw⟩; obtain rfl := hw.symm; clear hw)
    | (go_at_call 25; (with_reducible refine (awake14_any _ (HT.out.below HB.out)).mono ?_); rintro e w' ⟨rfl, hb⟩; have HB := Lk.mk (below_then HB.out HB.out.size hb); clear hb))
  go_ret
  exact ⟨rfl, HB.out⟩
set_option maxRecDepth 100000 in
set_option maxHeartbeats 2000000 in
theorem slots_out (B : Option Addr) (c' : Nat) (t : List (Int × List Int)) (x : Sl.Fr) (i : Int) (w : World) (hq : FnC w B t.length t) (hI : FnsOk t) (hT : Tab w) (h1 : ¬ 1099511627776 < x.1) (h2 : ¬ x.1 < -1099511627776) (hg : greatL t = false) (hn : newOk t = true) (hs : 0 ≤ lSize t x.2.1) (hi : ¬ (0 ≤ i ∧ i < lSize t x.2.1)) :
    Calls Tryd.prog 7 #[.slice B t.length c', .agg #[.int .i64 x.1, .int .i64 x.2.1, .int .i64 x.2.2], .int .i64 i] w fun e w' => e = .returned (.bool true) ∧ Below w.heap.size w w' := by
  have hEi := entOk_of hn
  have HSL := Lk.mk (fun W p (ht : TblAt W p (t.map entryOf)) => fslot_bad p (t.map entryOf) x i W ht.or (by rw [tSize_map]; omega))
  have HE := Lk.mk (fun W p (ht : TblAt W p (t.map entryOf)) => end_any p (t.map entryOf) x W ht.or (by omega) hEi)
  rw [tWords_map hn] at HE
  have hsr := lSize_in hn x.2.1
  have hwd : lWords t x.2.1 = lSize t x.2.1 + 2 := by unfold lWords; rw [if_neg (by omega)]
  rw [if_neg (by omega)] at HE
  have HSZ := Lk.mk (fun W (hb : Below w.heap.size w W) => refSize_any B c' t x.2.1 W (hq.below hb))
  have HWD := Lk.mk (fun W (hb : Below w.heap.size w W) => refWords_any B c' t x.2.1 W (hq.below hb) (by omega))
  rw [hwd] at HWD HE
  have hwr : IntKind.i64.wrap (x.1 + (lSize t x.2.1 + 2)) = x.1 + (lSize t x.2.1 + 2) := IntWalk.i64_in _ (by omega)
  clear hwd
  obtain ⟨a, f, k⟩ := x
  have hba := below_alloc (Below.refl w.heap.size w) (.cells #[.int .i64 a, .int .i64 f, .int .i64 k] 52)
  have HG := Lk.mk (hg ▸ great_any B c' t _ (hq.below hba))
  have HN := Lk.mk (new_good B c' t _ (hq.below hba) hI (hT.below hba) hn)
  have HL := Lk.mk (fun W (hb : Below w.heap.size w W) => hn ▸ refAll_any B c' t W (hq.below hb) (fun g hf => ⟨(hI g hf).1, by have := great_le hg g hf; omega⟩))
  have HT := Lk.mk hT
  have HB := Lk.mk hba
  have HX := Lk.mk (blk_new w (.cells #[.int .i64 a, .int .i64 f, .int .i64 k] 52))
  have hf : 0 ≤ f ∧ f < t.length := by
    rcases Decidable.em (0 ≤ f ∧ f < t.length) with g | g
    · exact g
    · have : lSize t f = -1 := by unfold lSize; rw [if_neg g]
      dsimp only at hs
      omega
  obtain ⟨fn, rfl⟩ : ∃ fn : Nat, f = (fn : Int) := ⟨f.toNat, by omega⟩
  have hsv : (t.getD fn dF).1 = lSize t fn := by unfold lSize; rw [if_pos hf, Int.toNat_natCast]
  obtain ⟨ad, A1, c1, rfl, hc0, _⟩ := hq.at_ fn (by omega)
  rw [hsv] at hc0
  have HC := Lk.mk (fun W (hb : Below w.heap.size w W) => pw_cell_below hb hc0)
  have hfl : (fn : Int) < (t.length : Int) := hf.2
  clear hsv hf hc0
  dsimp only at *
  clear hT hba hI hn hg hEi hq
  generalize lSize t (fn : Int) = sz at *
  go_enter Tryd.func7, Tryd.ntmps7
  go_wp2_with (first
    | (go_at_call 24; (with_reducible refine (HG.out).mono ?_); rintro e w' ⟨rfl, hw⟩; obtain rfl := hw.symm; clear hw)
    | (go_at_call 18; (with_reducible refine (HN.out).mono ?_); rintro e w1 ⟨p, rfl, htb, hb⟩; have HTB := Lk.mk htb; have HX1 := Lk.mk (blk_below HX.out hb); obtain ⟨p0, p1, p2, _, _, _⟩ := cells3 HX1.out; have HB := Lk.mk (below_then HB.out HB.out.size hb); clear hb htb)
    | (go_at_call 33; (with_reducible refine (HSL.out _ _ HTB.out).mono ?_); rintro e w2 ⟨rfl, hb⟩; have HX2 := Lk.mk (blk_below HX1.out hb); have HTB := Lk.mk (HTB.out.below hb); obtain ⟨q0, q1, q2, _, _, _⟩ := cells3 HX2.out; have HB := Lk.mk (below_then HB.out HB.out.size hb); clear hb)
    | (go_at_call 34; (with_reducible refine (HE.out _ _ HTB.out).mono ?_); rintro e w3 ⟨rfl, hb⟩; have HX3 := Lk.mk (blk_below HX2.out hb); obtain ⟨r0, r1, r2, _, _, _⟩ := cells3 HX3.out; have HB := Lk.mk (below_then HB.out HB.out.size hb); clear hb)
    | (go_at_call 27; (with_reducible refine (HL.out _ HB.out).mono ?_); rintro e w4 ⟨rfl, hb⟩; have HX4 := Lk.mk (blk_below HX3.out hb); obtain ⟨s0, s1, s2, _, _, _⟩ := cells3 HX4.out; have HB := Lk.mk (below_then HB.out HB.out.size hb); clear hb; have hcs := HC.out _ HB.out)
    | (go_at_call 35; (with_reducible refine (HSZ.out _ HB.out).mono ?_); rintro e w' ⟨rfl, hw⟩; obtain rfl := hw.symm; clear hw)
    | (go_at_call 36; (with_reducible refine (HWD.out _ HB.out).mono ?_); rintro e w' ⟨rfl, hw⟩; obtain rfl := hw.symm; clear hw)
    | (go_at_call 25; (with_reducible refine (awake14_any _ (HT.out.below HB.out)).mono ?_); rintro e w' ⟨rfl, hb⟩; have HB := Lk.mk (below_then HB.out HB.out.size hb); clear hb))
  obtain ⟨t0, t1, t2, _, _, _⟩ := cells3 (blk_drew HX4.out)
  have HBd := Lk.mk (below_drew HB.out)
  go_region_held3 (fun W => W.cell? ⟨w.heap.size, 0, none⟩ = some (.int .i64 a) ∧ W.cell? ⟨w.heap.size, 1, none⟩ = some (.int .i64 fn) ∧ W.cell? ⟨w.heap.size, 2, none⟩ = some (.int .i64 k)) (first | exact ⟨t0, t1, t2⟩) (first
    | (go_at_call 36; (with_reducible refine (HWD.out _ HBd.out).mono ?_); rintro e w' ⟨rfl, hw⟩; obtain rfl := hw.symm; clear hw))
  have HB := Lk.mk HBd.out
  go_wp2_with (first
    | (go_at_call 36; (with_reducible refine (HWD.out _ HBd.out).mono ?_); rintro e w' ⟨rfl, hw⟩; obtain rfl := hw.symm; clear hw)
    | (go_at_call 25; (with_reducible refine (awake14_any _ (HT.out.below HB.out)).mono ?_); rintro e w' ⟨rfl, hb⟩; have HB := Lk.mk (below_then HB.out HB.out.size hb); clear hb))
  all_goals (go_ret; exact ⟨rfl, HB.out⟩)
set_option maxRecDepth 100000 in
set_option maxHeartbeats 2000000 in
theorem slots_in (B : Option Addr) (c' : Nat) (t : List (Int × List Int)) (x : Sl.Fr) (i : Int) (w : World) (hq : FnC w B t.length t) (hI : FnsOk t) (hT : Tab w) (h1 : ¬ 1099511627776 < x.1) (h2 : ¬ x.1 < -1099511627776) (hg : greatL t = false) (hn : newOk t = true) (hs : 0 ≤ lSize t x.2.1) (hi : 0 ≤ i ∧ i < lSize t x.2.1) :
    Calls Tryd.prog 7 #[.slice B t.length c', .agg #[.int .i64 x.1, .int .i64 x.2.1, .int .i64 x.2.2], .int .i64 i] w fun e w' => e = .returned (.bool true) ∧ Below w.heap.size w w' := by
  have hEi := entOk_of hn
  have HSL := Lk.mk (fun W p (ht : TblAt W p (t.map entryOf)) => fslot_ok p (t.map entryOf) x i W ht.or (by omega) hEi (by rw [tSize_map]; omega))
  have HE := Lk.mk (fun W p (ht : TblAt W p (t.map entryOf)) => end_any p (t.map entryOf) x W ht.or (by omega) hEi)
  rw [tWords_map hn] at HE
  have hsr := lSize_in hn x.2.1
  have hwd : lWords t x.2.1 = lSize t x.2.1 + 2 := by unfold lWords; rw [if_neg (by omega)]
  rw [if_neg (by omega)] at HE
  have HSZ := Lk.mk (fun W (hb : Below w.heap.size w W) => refSize_any B c' t x.2.1 W (hq.below hb))
  have HWD := Lk.mk (fun W (hb : Below w.heap.size w W) => refWords_any B c' t x.2.1 W (hq.below hb) (by omega))
  rw [hwd] at HWD HE
  have hwr : IntKind.i64.wrap (x.1 + (lSize t x.2.1 + 2)) = x.1 + (lSize t x.2.1 + 2) := IntWalk.i64_in _ (by omega)
  clear hwd
  obtain ⟨a, f, k⟩ := x
  have hba := below_alloc (Below.refl w.heap.size w) (.cells #[.int .i64 a, .int .i64 f, .int .i64 k] 52)
  have HG := Lk.mk (hg ▸ great_any B c' t _ (hq.below hba))
  have HN := Lk.mk (new_good B c' t _ (hq.below hba) hI (hT.below hba) hn)
  have HL := Lk.mk (fun W (hb : Below w.heap.size w W) => hn ▸ refAll_any B c' t W (hq.below hb) (fun g hf => ⟨(hI g hf).1, by have := great_le hg g hf; omega⟩))
  have HT := Lk.mk hT
  have HB := Lk.mk hba
  have HX := Lk.mk (blk_new w (.cells #[.int .i64 a, .int .i64 f, .int .i64 k] 52))
  have hf : 0 ≤ f ∧ f < t.length := by
    rcases Decidable.em (0 ≤ f ∧ f < t.length) with g | g
    · exact g
    · have : lSize t f = -1 := by unfold lSize; rw [if_neg g]
      dsimp only at hs
      omega
  obtain ⟨fn, rfl⟩ : ∃ fn : Nat, f = (fn : Int) := ⟨f.toNat, by omega⟩
  have hsv : (t.getD fn dF).1 = lSize t fn := by unfold lSize; rw [if_pos hf, Int.toNat_natCast]
  obtain ⟨ad, A1, c1, rfl, hc0, _⟩ := hq.at_ fn (by omega)
  rw [hsv] at hc0
  have HC := Lk.mk (fun W (hb : Below w.heap.size w W) => pw_cell_below hb hc0)
  have hfl : (fn : Int) < (t.length : Int) := hf.2
  clear hsv hf hc0
  dsimp only at *
  clear hT hba hI hn hg hEi hq
  generalize lSize t (fn : Int) = sz at *
  go_enter Tryd.func7, Tryd.ntmps7
  go_wp2_with (first
    | (go_at_call 24; (with_reducible refine (HG.out).mono ?_); rintro e w' ⟨rfl, hw⟩; obtain rfl := hw.symm; clear hw)
    | (go_at_call 18; (with_reducible refine (HN.out).mono ?_); rintro e w1 ⟨p, rfl, htb, hb⟩; have HTB := Lk.mk htb; have HX1 := Lk.mk (blk_below HX.out hb); obtain ⟨p0, p1, p2, _, _, _⟩ := cells3 HX1.out; have HB := Lk.mk (below_then HB.out HB.out.size hb); clear hb htb)
    | (go_at_call 33; (with_reducible refine (HSL.out _ _ HTB.out).mono ?_); rintro e w2 ⟨rfl, hb⟩; have HX2 := Lk.mk (blk_below HX1.out hb); have HTB := Lk.mk (HTB.out.below hb); obtain ⟨q0, q1, q2, _, _, _⟩ := cells3 HX2.out; have HB := Lk.mk (below_then HB.out HB.out.size hb); clear hb)
    | (go_at_call 34; (with_reducible refine (HE.out _ _ HTB.out).mono ?_); rintro e w3 ⟨rfl, hb⟩; have HX3 := Lk.mk (blk_below HX2.out hb); obtain ⟨r0, r1, r2, _, _, _⟩ := cells3 HX3.out; have HB := Lk.mk (below_then HB.out HB.out.size hb); clear hb)
    | (go_at_call 27; (with_reducible refine (HL.out _ HB.out).mono ?_); rintro e w4 ⟨rfl, hb⟩; have HX4 := Lk.mk (blk_below HX3.out hb); obtain ⟨s0, s1, s2, _, _, _⟩ := cells3 HX4.out; have HB := Lk.mk (below_then HB.out HB.out.size hb); clear hb; have hcs := HC.out _ HB.out)
    | (go_at_call 35; (with_reducible refine (HSZ.out _ HB.out).mono ?_); rintro e w' ⟨rfl, hw⟩; obtain rfl := hw.symm; clear hw)
    | (go_at_call 36; (with_reducible refine (HWD.out _ HB.out).mono ?_); rintro e w' ⟨rfl, hw⟩; obtain rfl := hw.symm; clear hw)
    | (go_at_call 25; (with_reducible refine (awake14_any _ (HT.out.below HB.out)).mono ?_); rintro e w' ⟨rfl, hb⟩; have HB := Lk.mk (below_then HB.out HB.out.size hb); clear hb))
  obtain ⟨t0, t1, t2, _, _, _⟩ := cells3 (blk_drew HX4.out)
  have HBd := Lk.mk (below_drew HB.out)
  go_region_held3 (fun W => W.cell? ⟨w.heap.size, 0, none⟩ = some (.int .i64 a) ∧ W.cell? ⟨w.heap.size, 1, none⟩ = some (.int .i64 fn) ∧ W.cell? ⟨w.heap.size, 2, none⟩ = some (.int .i64 k)) (first | exact ⟨t0, t1, t2⟩) (first
    | (go_at_call 36; (with_reducible refine (HWD.out _ HBd.out).mono ?_); rintro e w' ⟨rfl, hw⟩; obtain rfl := hw.symm; clear hw))
  have HB := Lk.mk HBd.out
  go_wp2_with (first
    | (go_at_call 36; (with_reducible refine (HWD.out _ HBd.out).mono ?_); rintro e w' ⟨rfl, hw⟩; obtain rfl := hw.symm; clear hw)
    | (go_at_call 25; (with_reducible refine (awake14_any _ (HT.out.below HB.out)).mono ?_); rintro e w' ⟨rfl, hb⟩; have HB := Lk.mk (below_then HB.out HB.out.size hb); clear hb))
  all_goals (go_ret; exact ⟨rfl, HB.out⟩)
theorem lawOfFrameSlots (B : Option Addr) (c' : Nat) (t : List (Int × List Int)) (x : Sl.Fr) (i : Int) (w : World) (hq : FnC w B t.length t) (hI : FnsIn t) (_ : FrIn [x]) (_ : -9223372036854775808 ≤ i ∧ i ≤ 9223372036854775807) (hT : Tab w) :
    Calls Tryd.prog 7 #[.slice B t.length c', .agg #[.int .i64 x.1, .int .i64 x.2.1, .int .i64 x.2.2], .int .i64 i] w fun e w' => e = .returned (.bool true) ∧ Below w.heap.size w w' := by
  by_cases h : greatL t = true ∨ 1099511627776 < x.1 ∨ x.1 < -1099511627776
  · exact slots_early B c' t x i w hq hT h
  · have h0 : greatL t = false := by
      cases g : greatL t with
      | false => rfl
      | true => exact absurd (.inl g) h
    have h1 : ¬ 1099511627776 < x.1 := fun g => h (.inr (.inl g))
    have h2 : ¬ x.1 < -1099511627776 := fun g => h (.inr (.inr g))
    cases hn : newOk t with
    | false => exact slots_none B c' t x i w hq (hI.ok h0) hT h1 h2 h0 hn
    | true =>
      by_cases hs : lSize t x.2.1 < 0
      · exact slots_neg B c' t x i w hq (hI.ok h0) hT h1 h2 h0 hn hs
      · by_cases hi : 0 ≤ i ∧ i < lSize t x.2.1
        · exact slots_in B c' t x i w hq (hI.ok h0) hT h1 h2 h0 hn (by omega) hi
        · exact slots_out B c' t x i w hq (hI.ok h0) hT h1 h2 h0 hn (by omega) hi
end Go.Proofs.YtbikdngpannekaaDoor
