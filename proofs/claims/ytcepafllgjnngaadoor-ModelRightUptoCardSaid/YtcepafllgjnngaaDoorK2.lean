/-
  Several texts as one.
-/
import Derived.Test.YtcepafllgjnngaaDoorK1
import Derived.Deep.RegionHeld3
import Derived.Laws.CopyOwn
import Derived.Recover
import Derived.Laws.Pointers
import Derived.WalkLawsBesides
import Derived.Lib.SliceRun
import Derived.Deep.RegionLaw
import Derived.Defers
/-
  Plain: frames' slots: sizes, addresses, and which slot has an address.
-/
namespace Sl

/-- a frame: its address, its function, its link -/
abbrev Fr := Int × (Int × Int)
def dFr : Fr := (0, (0, 0))
/-- how many slots a frame has; sz: how many its function has -/
def sizeS (sz : Int → Int) (x : Fr) : Int := if x.1 < 0 ∨ 1099511627776 < x.1 then 0 else max 0 (sz x.2.1)
def addrOk (sz : Int → Int) (l : List Fr) (d s : Int) : Bool := decide (0 ≤ d) && decide (d < l.length) && decide (0 ≤ s) && decide (s < sizeS sz (l.getD d.toNat dFr))
def addr (sz : Int → Int) (l : List Fr) (d s : Int) : Int := if addrOk sz l d s = true then (l.getD d.toNat dFr).1 + 2 + s else -1
def hit (sz : Int → Int) (a : Int) (x : Fr) : Bool := decide (0 ≤ x.1) && decide (x.1 ≤ 1099511627776) && decide (x.1 + 2 ≤ a) && decide (a - x.1 - 2 < sz x.2.1)
def findAt (sz : Int → Int) (l : List Fr) (a : Int) : Option Nat := l.findIdx? (hit sz a)
def findD (sz : Int → Int) (l : List Fr) (a : Int) : Int := match findAt sz l a with | some d => (d : Int) | none => 0
def findI (sz : Int → Int) (l : List Fr) (a : Int) : Int := match findAt sz l a with | some d => a - (l.getD d dFr).1 - 2 | none => 0
def findB (sz : Int → Int) (l : List Fr) (a : Int) : Bool := match findAt sz l a with | some _ => true | none => false

theorem findAt_some {sz : Int → Int} {l : List Fr} {a : Int} {k : Nat} (h : k < l.length) (hn : ∀ j, j < k → hit sz a (l.getD j dFr) = false) (hk : hit sz a (l.getD k dFr) = true) : findAt sz l a = some k := by
  unfold findAt
  rw [List.findIdx?_eq_some_iff_getElem]
  refine ⟨h, ?_, fun j hj => ?_⟩
  · rwa [List.getD_eq_getElem?_getD, List.getElem?_eq_getElem h] at hk
  · have := hn j hj
    rw [List.getD_eq_getElem?_getD, List.getElem?_eq_getElem (Nat.lt_trans hj h)] at this
    simpa using this
theorem findAt_none {sz : Int → Int} {l : List Fr} {a : Int} (hn : ∀ j, j < l.length → hit sz a (l.getD j dFr) = false) : findAt sz l a = none := by
  unfold findAt
  rw [List.findIdx?_eq_none_iff]
  intro x hx
  obtain ⟨j, hj, rfl⟩ := List.getElem_of_mem hx
  have := hn j hj
  rwa [List.getD_eq_getElem?_getD, List.getElem?_eq_getElem hj] at this
theorem find_yes {sz : Int → Int} {l : List Fr} {a : Int} {k : Nat} (h : findAt sz l a = some k) : findD sz l a = k ∧ findI sz l a = a - (l.getD k dFr).1 - 2 ∧ findB sz l a = true := by
  unfold findD findI findB; rw [h]; exact ⟨rfl, rfl, rfl⟩
theorem find_no {sz : Int → Int} {l : List Fr} {a : Int} (h : findAt sz l a = none) : findD sz l a = 0 ∧ findI sz l a = 0 ∧ findB sz l a = false := by
  unfold findD findI findB; rw [h]; exact ⟨rfl, rfl, rfl⟩

/-- a value: its kind, bits, depth, slot -/
abbrev Vl := Int × (Int × (Int × Int))
def dVl : Vl := (0, (0, (0, 0)))
/-- may a value be -/
def mayV (v : Vl) : Bool :=
  if v.1 = 0 then decide (v.2.1 = 0) && decide (v.2.2.1 = 0) && decide (v.2.2.2 = 0)
  else if v.1 = 1 then decide (v.2.2.1 = 0) && decide (v.2.2.2 = 0)
  else if v.1 = 2 then decide (v.2.1 = 0) && decide (0 ≤ v.2.2.1) && decide (0 ≤ v.2.2.2)
  else false
theorem mayV_iff (v : Vl) : mayV v = true ↔ (v.1 = 0 ∧ v.2.1 = 0 ∧ v.2.2.1 = 0 ∧ v.2.2.2 = 0) ∨ (v.1 = 1 ∧ v.2.2.1 = 0 ∧ v.2.2.2 = 0) ∨ (v.1 = 2 ∧ v.2.1 = 0 ∧ 0 ≤ v.2.2.1 ∧ 0 ≤ v.2.2.2) := by
  unfold mayV
  by_cases h0 : v.1 = 0
  · rw [if_pos h0]; simp only [Bool.and_eq_true, decide_eq_true_eq]; omega
  · rw [if_neg h0]
    by_cases h1 : v.1 = 1
    · rw [if_pos h1]; simp only [Bool.and_eq_true, decide_eq_true_eq]; omega
    · rw [if_neg h1]
      by_cases h2 : v.1 = 2
      · rw [if_pos h2]; simp only [Bool.and_eq_true, decide_eq_true_eq]; omega
      · rw [if_neg h2]; simp only [Bool.false_eq_true, false_iff]; omega
def mayVs (l : List Vl) : Bool := !(l.any fun v => !(mayV v))
end Sl

/-
  Rows of frames that are read; the walks of slots.size, frame.Slot and slots.Address, and of the reference's Size and Address; conditions: what is handed in reads as told.
-/
namespace Go.Proofs.YtcepafllgjnngaaDoor
open Go.RowKit Go.Proofs.YtcepafllgjnngaaDoorW.PrintWords

def kFr : Kd Sl.Fr := Kd.pair (Kd.int .i64) (Kd.pair (Kd.int .i64) (Kd.int .i64))
theorem kFr_at {w : World} {A : Option Addr} {n : Nat} {l : List Sl.Fr} (h : kFr.C w A n l) (k : Nat) (hk : k < n) : ∃ ad, A = some ad ∧ w.cell? (ad.add (k * 3)) = some (.int .i64 (l.getD k Sl.dFr).1) ∧ w.cell? ⟨(ad.add (k * 3)).block, (ad.add (k * 3)).off + 1, none⟩ = some (.int .i64 (l.getD k Sl.dFr).2.1) ∧ w.cell? ⟨(ad.add (k * 3)).block, (ad.add (k * 3)).off + 2, none⟩ = some (.int .i64 (l.getD k Sl.dFr).2.2) := by
  obtain ⟨ad, c, e, _, ⟨c0, c', rfl, rfl, c1, c2, rfl, rfl, rfl⟩, hc⟩ := ReadsRow.get_ h Sl.dFr (k : Int) (by omega) (by omega)
  rw [Int.toNat_natCast] at hc
  have hc0 := hc 0 _ rfl
  have hc1 := hc 1 _ rfl
  have hc2 := hc 2 _ rfl
  rw [Nat.add_zero] at hc0
  refine ⟨ad, e, hc0, ?_, ?_⟩
  · rw [← add_field _ _ 1 (by omega)]; exact hc1
  · rw [← add_field _ _ 2 (by omega)]; exact hc2
/-- what the machine's types say of frames -/
def FrIn (l : List Sl.Fr) : Prop := ∀ x ∈ l, (-9223372036854775808 ≤ x.1 ∧ x.1 ≤ 9223372036854775807) ∧ (-9223372036854775808 ≤ x.2.1 ∧ x.2.1 ≤ 9223372036854775807) ∧ (-9223372036854775808 ≤ x.2.2 ∧ x.2.2 ≤ 9223372036854775807)
/-- sizes of a table's functions -/
def EntIn (ent : List (Int × (List Int × List Int))) : Prop := ∀ e ∈ ent, 0 ≤ e.1 ∧ e.1 ≤ 1000
theorem tSize_in {ent : List (Int × (List Int × List Int))} (h : EntIn ent) (f : Int) : -1 ≤ tSize ent f ∧ tSize ent f ≤ 1000 := by
  unfold tSize
  cases hf : tHas ent f with
  | false => simp
  | true =>
    have h1 := tHas_true hf
    have := h (ent.getD f.toNat dE) (getD_mem _ (by omega))
    rw [if_pos rfl]; omega

set_option maxRecDepth 100000 in
set_option maxHeartbeats 2000000 in
theorem ssize_any (p : Value) (ent : List (Int × (List Int × List Int))) (x : Sl.Fr) (w : World) (h : TblOr w p ent) (he : EntIn ent) :
    Calls Tryd.prog 81 #[p, .agg #[.int .i64 x.1, .int .i64 x.2.1, .int .i64 x.2.2]] w fun e w' => e = .returned (.int .i64 (Sl.sizeS (tSize ent) x)) ∧ Below w.heap.size w w' := by
  obtain ⟨a, f, k⟩ := x
  have h0 : Below w.heap.size w (w.alloc (.cells #[.int .i64 a, .int .i64 f, .int .i64 k] 79)) := below_alloc (Below.refl _ _) _
  have HS := Lk.mk (size_any p ent f _ (h.below h0))
  have H0 := Lk.mk h0
  have hn := tSize_in he f
  have H := Lk.mk (show Sl.sizeS (tSize ent) (a, f, k) = if a < 0 ∨ 1099511627776 < a then 0 else max 0 (tSize ent f) from rfl)
  generalize Sl.sizeS (tSize ent) (a, f, k) = r at *
  generalize tSize ent f = n at *
  clear h h0 he
  go_enter Tryd.func81, Tryd.ntmps81
  go_wp2_with (go_at_call 63; (with_reducible refine (HS.out).mono ?_); rintro e w' ⟨rfl, hw⟩; obtain rfl := hw.symm; clear hw)
  all_goals go_ret
  all_goals refine ⟨ret_int ?_, H0.out⟩
  all_goals rw [H.out]
  all_goals (first | (rw [if_pos (by omega)]) | (rw [if_neg (by omega)]; omega))

set_option maxRecDepth 100000 in
set_option maxHeartbeats 2000000 in
theorem fslot_ok (p : Value) (ent : List (Int × (List Int × List Int))) (x : Sl.Fr) (i : Int) (w : World) (h : TblOr w p ent) (hx : -1099511627776 ≤ x.1 ∧ x.1 ≤ 1099511627776) (he : EntIn ent) (hi : 0 ≤ i ∧ i < tSize ent x.2.1) :
    Calls Tryd.prog 135 #[p, .agg #[.int .i64 x.1, .int .i64 x.2.1, .int .i64 x.2.2], .int .i64 i] w fun e w' => e = .returned (.tuple #[.int .i64 (x.1 + 2 + i), .int .i64 0]) ∧ Below w.heap.size w w' := by
  obtain ⟨a, f, k⟩ := x
  have h0 : Below w.heap.size w (w.alloc (.cells #[.int .i64 a, .int .i64 f, .int .i64 k] 79)) := below_alloc (Below.refl _ _) _
  have HS := Lk.mk (size_any p ent f _ (h.below h0))
  have H0 := Lk.mk h0
  have hn := tSize_in he f
  dsimp only at hx hi ⊢
  generalize tSize ent f = n at *
  clear h h0 he
  obtain ⟨h1, h2⟩ := hi
  have hw1 : IntKind.i64.wrap (a + 2) = a + 2 := IntWalk.i64_in _ (by omega)
  have hw2 : IntKind.i64.wrap (a + 2 + i) = a + 2 + i := IntWalk.i64_in _ (by omega)
  go_enter Tryd.func135, Tryd.ntmps135
  go_wp2_with (go_at_call 63; (with_reducible refine (HS.out).mono ?_); rintro e w' ⟨rfl, hw⟩; obtain rfl := hw.symm; clear hw)
  go_ret2
  exact ⟨rfl, H0.out⟩
set_option maxRecDepth 100000 in
set_option maxHeartbeats 2000000 in
theorem fslot_bad (p : Value) (ent : List (Int × (List Int × List Int))) (x : Sl.Fr) (i : Int) (w : World) (h : TblOr w p ent) (hi : ¬ (0 ≤ i ∧ i < tSize ent x.2.1)) :
    Calls Tryd.prog 135 #[p, .agg #[.int .i64 x.1, .int .i64 x.2.1, .int .i64 x.2.2], .int .i64 i] w fun e w' => e = .returned (.tuple #[.int .i64 0, .int .i64 2]) ∧ Below w.heap.size w w' := by
  obtain ⟨a, f, k⟩ := x
  have h0 : Below w.heap.size w (w.alloc (.cells #[.int .i64 a, .int .i64 f, .int .i64 k] 79)) := below_alloc (Below.refl _ _) _
  have HS := Lk.mk (size_any p ent f _ (h.below h0))
  have H0 := Lk.mk h0
  dsimp only at hi ⊢
  generalize tSize ent f = n at *
  clear h h0
  by_cases h1 : i < 0
  · go_enter Tryd.func135, Tryd.ntmps135
    go_wp2_with (go_at_call 63; (with_reducible refine (HS.out).mono ?_); rintro e w' ⟨rfl, hw⟩; obtain rfl := hw.symm; clear hw)
    go_ret2
    exact ⟨rfl, H0.out⟩
  · have h2 : n ≤ i := by omega
    clear hi
    go_enter Tryd.func135, Tryd.ntmps135
    go_wp2_with (go_at_call 63; (with_reducible refine (HS.out).mono ?_); rintro e w' ⟨rfl, hw⟩; obtain rfl := hw.symm; clear hw)
    go_ret2
    exact ⟨rfl, H0.out⟩

theorem addrOk_true {sz : Int → Int} {l : List Sl.Fr} {d s : Int} (h : Sl.addrOk sz l d s = true) : 0 ≤ d ∧ d < l.length ∧ 0 ≤ s ∧ s < Sl.sizeS sz (l.getD d.toNat Sl.dFr) := by
  unfold Sl.addrOk at h; simp only [Bool.and_eq_true, decide_eq_true_eq] at h; omega
theorem addrOk_false {sz : Int → Int} {l : List Sl.Fr} {d s : Int} (h : Sl.addrOk sz l d s = false) : d < 0 ∨ l.length ≤ d ∨ s < 0 ∨ Sl.sizeS sz (l.getD d.toNat Sl.dFr) ≤ s := by
  by_cases h1 : d < 0 ∨ l.length ≤ d ∨ s < 0 ∨ Sl.sizeS sz (l.getD d.toNat Sl.dFr) ≤ s
  · exact h1
  · have : Sl.addrOk sz l d s = true := by unfold Sl.addrOk; simp only [Bool.and_eq_true, decide_eq_true_eq]; omega
    rw [this] at h; cases h
theorem sizeS_in {sz : Int → Int} {x : Sl.Fr} {s : Int} (h0 : 0 ≤ s) (h : s < Sl.sizeS sz x) : 0 ≤ x.1 ∧ x.1 ≤ 1099511627776 ∧ s < sz x.2.1 := by
  unfold Sl.sizeS at h
  by_cases hx : x.1 < 0 ∨ 1099511627776 < x.1
  · rw [if_pos hx] at h; omega
  · rw [if_neg hx] at h; omega

set_option maxRecDepth 100000 in
set_option maxHeartbeats 2000000 in
theorem address_ok (p : Value) (ent : List (Int × (List Int × List Int))) (A : Option Addr) (c : Nat) (l : List Sl.Fr) (d s : Int) (w : World) (h : TblOr w p ent) (hr : kFr.C w A l.length l) (he : EntIn ent) (ho : Sl.addrOk (tSize ent) l d s = true) :
    Calls Tryd.prog 103 #[p, .slice A l.length c, .int .i64 d, .int .i64 s] w fun e w' => e = .returned (.tuple #[.int .i64 ((l.getD d.toNat Sl.dFr).1 + 2 + s), .int .i64 0]) ∧ Below w.heap.size w w' := by
  obtain ⟨h0, h1, h2, h3⟩ := addrOk_true ho
  obtain ⟨k, rfl⟩ := Int.eq_ofNat_of_zero_le h0
  rw [Int.toNat_natCast] at h3 ⊢
  have hs := sizeS_in h2 h3
  obtain ⟨ad, rfl, c0, c1, c2⟩ := kFr_at hr k (by omega)
  have hm := hr.2.1
  have HS := Lk.mk (fun W (hb : Below w.heap.size w W) => ssize_any p ent (l.getD k Sl.dFr) W (h.below hb) he)
  have HF := Lk.mk (fun W (hb : Below w.heap.size w W) => fslot_ok p ent (l.getD k Sl.dFr) s W (h.below hb) (by omega) he (by omega))
  have HC := Lk.mk (show ∀ W, Below w.heap.size w W → W.cell? (ad.add (k * 3)) = some (.int .i64 (l.getD k Sl.dFr).1) ∧ W.cell? ⟨(ad.add (k * 3)).block, (ad.add (k * 3)).off + 1, none⟩ = some (.int .i64 (l.getD k Sl.dFr).2.1) ∧ W.cell? ⟨(ad.add (k * 3)).block, (ad.add (k * 3)).off + 2, none⟩ = some (.int .i64 (l.getD k Sl.dFr).2.2) from fun W hb => ⟨pw_cell_below hb c0, pw_cell_below hb c1, pw_cell_below hb c2⟩)
  clear ho hr h he
  generalize Sl.sizeS (tSize ent) (l.getD k Sl.dFr) = z at *
  generalize tSize ent (l.getD k Sl.dFr).2.1 = n at *
  generalize l.getD k Sl.dFr = x at *
  go_enter Tryd.func103, Tryd.ntmps103
  go_wp2_with (first
    | (go_at_call 81; (with_reducible refine (HS.out _ (Below.refl _ _)).mono ?_); rintro e w1 ⟨rfl, hb⟩; have HB := Lk.mk hb; obtain ⟨d0, d1, d2⟩ := HC.out _ hb; clear hb)
    | (go_at_call 135; (with_reducible refine (HF.out _ HB.out).mono ?_); rintro e w2 ⟨rfl, hb⟩))
  go_ret2
  exact ⟨rfl, below_then HB.out HB.out.size hb⟩

set_option maxRecDepth 100000 in
set_option maxHeartbeats 2000000 in
theorem address_bad (p : Value) (ent : List (Int × (List Int × List Int))) (A : Option Addr) (c : Nat) (l : List Sl.Fr) (d s : Int) (w : World) (h : TblOr w p ent) (hr : kFr.C w A l.length l) (he : EntIn ent) (ho : Sl.addrOk (tSize ent) l d s = false) :
    Calls Tryd.prog 103 #[p, .slice A l.length c, .int .i64 d, .int .i64 s] w fun e w' => e = .returned (.tuple #[.int .i64 0, .int .i64 2]) ∧ Below w.heap.size w w' := by
  have hm := hr.2.1
  have hf := addrOk_false ho
  by_cases h0 : d < 0
  · clear ho hr h he hf
    go_enter Tryd.func103, Tryd.ntmps103
    go_wp2
    go_ret2
    exact ⟨rfl, Below.refl _ _⟩
  · obtain ⟨k, rfl⟩ := Int.eq_ofNat_of_zero_le (show 0 ≤ d by omega)
    by_cases h1 : l.length ≤ k
    · have h1z : (l.length : Int) ≤ (k : Int) := by omega
      clear ho hr h he hf
      go_enter Tryd.func103, Tryd.ntmps103
      go_wp2
      go_ret2
      exact ⟨rfl, Below.refl _ _⟩
    · rw [Int.toNat_natCast] at hf
      have h1z : (k : Int) < (l.length : Int) := by omega
      obtain ⟨ad, rfl, c0, c1, c2⟩ := kFr_at hr k (by omega)
      have HS := Lk.mk (fun W (hb : Below w.heap.size w W) => ssize_any p ent (l.getD k Sl.dFr) W (h.below hb) he)
      have HF := Lk.mk (fun W (hb : Below w.heap.size w W) (hs : s < 0) => fslot_bad p ent (l.getD k Sl.dFr) s W (h.below hb) (by omega))
      have HC := Lk.mk (show ∀ W, Below w.heap.size w W → W.cell? (ad.add (k * 3)) = some (.int .i64 (l.getD k Sl.dFr).1) ∧ W.cell? ⟨(ad.add (k * 3)).block, (ad.add (k * 3)).off + 1, none⟩ = some (.int .i64 (l.getD k Sl.dFr).2.1) ∧ W.cell? ⟨(ad.add (k * 3)).block, (ad.add (k * 3)).off + 2, none⟩ = some (.int .i64 (l.getD k Sl.dFr).2.2) from fun W hb => ⟨pw_cell_below hb c0, pw_cell_below hb c1, pw_cell_below hb c2⟩)
      clear ho hr h he
      generalize Sl.sizeS (tSize ent) (l.getD k Sl.dFr) = z at *
      generalize l.getD k Sl.dFr = x at *
      by_cases h2 : z ≤ s
      · clear hf
        go_enter Tryd.func103, Tryd.ntmps103
        go_wp2_with (first
          | (go_at_call 81; (with_reducible refine (HS.out _ (Below.refl _ _)).mono ?_); rintro e w1 ⟨rfl, hb⟩; have HB := Lk.mk hb; obtain ⟨d0, d1, d2⟩ := HC.out _ hb; clear hb))
        go_ret2
        exact ⟨rfl, HB.out⟩
      · have h3 : s < 0 := by omega
        have h2' : s < z := by omega
        clear hf h2
        go_enter Tryd.func103, Tryd.ntmps103
        go_wp2_with (first
          | (go_at_call 81; (with_reducible refine (HS.out _ (Below.refl _ _)).mono ?_); rintro e w1 ⟨rfl, hb⟩; have HB := Lk.mk hb; obtain ⟨d0, d1, d2⟩ := HC.out _ hb; clear hb)
          | (go_at_call 135; (with_reducible refine (HF.out _ HB.out h3).mono ?_); rintro e w2 ⟨rfl, hb⟩))
        go_ret2
        exact ⟨rfl, below_then HB.out HB.out.size hb⟩
end Go.Proofs.YtcepafllgjnngaaDoor

/-
  Rows of values that are read; the walks of slots.may, of the library's IndexFunc and ContainsFunc at values, of slots.May, and of the reference's May; conditions: what is handed in reads as told.
-/
namespace Go.Proofs.YtcepafllgjnngaaDoor
open Go.RowKit Go.Proofs.YtcepafllgjnngaaDoorW.PrintWords

def kVl : Kd Sl.Vl := Kd.pair (Kd.int .u8) (Kd.pair (Kd.int .u64) (Kd.pair (Kd.int .i64) (Kd.int .i64)))
/-- a value as Go has it -/
def vAgg (v : Sl.Vl) : Value := .agg #[.int .u8 v.1, .int .u64 v.2.1, .int .i64 v.2.2.1, .int .i64 v.2.2.2]
theorem kVl_at {w : World} {A : Option Addr} {n : Nat} {l : List Sl.Vl} (h : kVl.C w A n l) (k : Nat) (hk : k < n) : ∃ ad, A = some ad ∧ w.cell? (ad.add (k * 4)) = some (.int .u8 (l.getD k Sl.dVl).1) ∧ w.cell? ⟨(ad.add (k * 4)).block, (ad.add (k * 4)).off + 1, none⟩ = some (.int .u64 (l.getD k Sl.dVl).2.1) ∧ w.cell? ⟨(ad.add (k * 4)).block, (ad.add (k * 4)).off + 2, none⟩ = some (.int .i64 (l.getD k Sl.dVl).2.2.1) ∧ w.cell? ⟨(ad.add (k * 4)).block, (ad.add (k * 4)).off + 3, none⟩ = some (.int .i64 (l.getD k Sl.dVl).2.2.2) := by
  obtain ⟨ad, c, e, _, ⟨c0, c', rfl, rfl, c1, c2, rfl, rfl, c3, c4, rfl, rfl, rfl⟩, hc⟩ := ReadsRow.get_ h Sl.dVl (k : Int) (by omega) (by omega)
  rw [Int.toNat_natCast] at hc
  have hc0 := hc 0 _ rfl
  have hc1 := hc 1 _ rfl
  have hc2 := hc 2 _ rfl
  have hc3 := hc 3 _ rfl
  rw [Nat.add_zero] at hc0
  refine ⟨ad, e, hc0, ?_, ?_, ?_⟩
  · rw [← add_field _ _ 1 (by omega)]; exact hc1
  · rw [← add_field _ _ 2 (by omega)]; exact hc2
  · rw [← add_field _ _ 3 (by omega)]; exact hc3
/-- what the machine's types say of a value -/
def VlIn (v : Sl.Vl) : Prop := (0 ≤ v.1 ∧ v.1 ≤ 255) ∧ (0 ≤ v.2.1 ∧ v.2.1 ≤ 18446744073709551615) ∧ (-9223372036854775808 ≤ v.2.2.1 ∧ v.2.2.1 ≤ 9223372036854775807) ∧ (-9223372036854775808 ≤ v.2.2.2 ∧ v.2.2.2 ≤ 9223372036854775807)

set_option maxRecDepth 100000 in
set_option maxHeartbeats 2000000 in
theorem smay_any (v : Sl.Vl) (w : World) (hv : VlIn v) : Calls Tryd.prog 174 #[.agg #[.int .u8 v.1, .int .u64 v.2.1, .int .i64 v.2.2.1, .int .i64 v.2.2.2]] w fun e w' => e = .returned (.bool (Sl.mayV v)) ∧ Below w.heap.size w w' := by
  obtain ⟨k, b, d, s⟩ := v
  have h0 : Below w.heap.size w (w.alloc (.cells #[.int .u8 k, .int .u64 b, .int .i64 d, .int .i64 s] 56)) := below_alloc (Below.refl _ _) _
  have H0 := Lk.mk h0
  have H := Lk.mk (Sl.mayV_iff (k, b, d, s))
  dsimp only at H
  have hv' := hv
  obtain ⟨hk, hb, hd, hs⟩ := hv
  dsimp only at hk hb hd hs ⊢
  clear h0 hv'
  generalize Sl.mayV (k, b, d, s) = r at *
  go_enter Tryd.func174, Tryd.ntmps174
  go_wp2
  all_goals go_ret
  all_goals refine ⟨ret_bool ?_, below_alloc (Below.refl _ _) _⟩
  all_goals rw [Bool.eq_iff_iff, H.out]
  all_goals clear H H0
  all_goals (simp only [beq_iff_eq, bne_iff_ne, beq_eq_false_iff_ne, bne_eq_false_iff_eq, decide_eq_true_eq, decide_eq_false_iff_not, ne_eq, Bool.false_eq_true, Bool.true_eq_false, Bool.and_eq_true, Bool.or_eq_true, Bool.not_eq_true', not_true_eq_false, not_false_eq_true, false_iff, true_iff, iff_true, iff_false, or_false, false_or, or_true, true_or, and_true, true_and, and_false, false_and] at * <;> omega)

set_option maxRecDepth 100000 in
set_option maxHeartbeats 2000000 in
theorem index_vals (A : Option Addr) (c : Nat) (l : List Sl.Vl) (p : Sl.Vl → Bool) (g : Nat) (lb : Array Value) (w : World) (eg : ∀ args w, (callFunc g args).run Tryd.prog w = .ok (.enter g args) w) (hr : kVl.C w A l.length l)
    (hp : ∀ W f, f ∈ l → Below w.heap.size w W → Calls Tryd.prog g (#[.agg #[.int .u8 f.1, .int .u64 f.2.1, .int .i64 f.2.2.1, .int .i64 f.2.2.2]] ++ lb) W fun e W' => e = .returned (.bool (p f)) ∧ Below W.heap.size W W') :
    Calls Tryd.prog 191 #[.slice A l.length c, .func (.func g) #[] lb] w fun e w' => (∃ j : Int, e = .returned (.int .i64 j) ∧ decide (0 ≤ j) = l.any p) ∧ Below w.heap.size w w' := by
  have HR := Lk.mk hr
  have HP := Lk.mk hp
  have hm := hr.2.1
  clear hr hp
  go_enter Tryd.func191, Tryd.ntmps191
  go_wp2
  go_loopg [5, 8] l.length (fun gg _ v8 wr => ∃ kk : Nat, kk ≤ l.length ∧ l.length - kk ≤ gg ∧ v8 = .int .i64 kk ∧ Lk (∀ j, j < kk → p (l.getD j Sl.dVl) = false) ∧ Lk (Below w.heap.size w wr))
  case atStart => exact ⟨0, by omega, by omega, rfl, ⟨fun j hj => absurd hj (by omega)⟩, ⟨Below.refl _ _⟩⟩
  case round =>
    obtain ⟨kk, hk, hg, rfl, HN, HB⟩ := hrel
    by_cases hlt : kk < l.length
    · obtain ⟨ad, rfl, hcell0, hcell1, hcell2, hcell3⟩ := kVl_at (Kd.C_below HR.out HB.out) kk hlt
      have hltz : (kk : Int) < (l.length : Int) := by omega
      obtain ⟨f, hf⟩ : ∃ f, f = l.getD kk Sl.dVl := ⟨_, rfl⟩
      rw [← hf] at hcell0 hcell1 hcell2 hcell3
      have HM := Lk.mk (show f ∈ l by rw [hf]; exact getD_mem _ hlt)
      have HF := Lk.mk hf
      have hq := Lk.mk (HP.out wr f HM.out HB.out)
      clear hf
      cases hpx : p f with
      | true =>
        rw [hpx] at hq
        have HPX := Lk.mk hpx
        clear hpx
        go_wp2_with (go_at_fn g; (with_reducible refine hq.out.mono ?_); rintro e w' ⟨rfl, hb⟩)
        go_ret
        refine ⟨⟨_, rfl, ?_⟩, below_then HB.out HB.out.size hb⟩
        have : l.any p = true := List.any_eq_true.2 ⟨f, HM.out, HPX.out⟩
        rw [this]; simp
      | false =>
        rw [hpx] at hq
        have HPX := Lk.mk hpx
        clear hpx
        go_wp2_with (go_at_fn g; (with_reducible refine hq.out.mono ?_); rintro e w' ⟨rfl, hb⟩)
        go_roundg (l.length - (kk + 1))
        case measure => omega
        case rel =>
          refine ⟨kk + 1, by omega, by omega, by go_num, ⟨fun j hj => ?_⟩, ⟨below_then HB.out HB.out.size hb⟩⟩
          by_cases e : j = kk
          · subst e; rw [← HF.out]; exact HPX.out
          · exact HN.out j (by omega)
    · have hltz : ¬ (kk : Int) < (l.length : Int) := by omega
      obtain rfl : kk = l.length := by omega
      go_wp2
      go_ret
      refine ⟨⟨_, rfl, ?_⟩, HB.out⟩
      have : l.any p = false := by
        rw [List.any_eq_false]
        intro x hx
        obtain ⟨j, hj, rfl⟩ := List.getElem_of_mem hx
        have := HN.out j hj
        rw [List.getD_eq_getElem?_getD, List.getElem?_eq_getElem hj] at this
        simpa using this
      rw [this]; simp
set_option maxRecDepth 100000 in
set_option maxHeartbeats 2000000 in
theorem contains_vals (A : Option Addr) (c : Nat) (l : List Sl.Vl) (p : Sl.Vl → Bool) (g : Nat) (lb : Array Value) (w : World) (eg : ∀ args w, (callFunc g args).run Tryd.prog w = .ok (.enter g args) w) (hr : kVl.C w A l.length l)
    (hp : ∀ W f, f ∈ l → Below w.heap.size w W → Calls Tryd.prog g (#[.agg #[.int .u8 f.1, .int .u64 f.2.1, .int .i64 f.2.2.1, .int .i64 f.2.2.2]] ++ lb) W fun e W' => e = .returned (.bool (p f)) ∧ Below W.heap.size W W') :
    Calls Tryd.prog 172 #[.slice A l.length c, .func (.func g) #[] lb] w fun e w' => e = .returned (.bool (l.any p)) ∧ Below w.heap.size w w' := by
  have HI := Lk.mk (index_vals A c l p g lb w eg hr hp)
  clear hr hp
  generalize l.any p = r at *
  go_enter Tryd.func172, Tryd.ntmps172
  go_wp2_with (go_at_call 191; (with_reducible refine (HI.out).mono ?_); rintro e w' ⟨⟨j, rfl, hj⟩, hb⟩; have HJ := Lk.mk hj; clear hj)
  all_goals go_ret
  all_goals exact ⟨ret_bool (by rw [← HJ.out]), hb⟩

set_option maxRecDepth 100000 in
set_option maxHeartbeats 2000000 in
theorem smayLit_any (v : Sl.Vl) (w : World) (hv : VlIn v) : Calls Tryd.prog 173 #[.agg #[.int .u8 v.1, .int .u64 v.2.1, .int .i64 v.2.2.1, .int .i64 v.2.2.2]] w fun e w' => e = .returned (.bool (!(Sl.mayV v))) ∧ Below w.heap.size w w' := by
  have h0 : Below w.heap.size w (w.alloc (.cells #[.int .u8 v.1, .int .u64 v.2.1, .int .i64 v.2.2.1, .int .i64 v.2.2.2] 56)) := below_alloc (Below.refl _ _) _
  have HM := Lk.mk (fun W => smay_any v W hv)
  have H0 := Lk.mk h0
  clear h0
  generalize Sl.mayV v = r at *
  go_enter Tryd.func173, Tryd.ntmps173
  go_wp2_with (go_at_call 174; (with_reducible refine (HM.out _).mono ?_); rintro e w' ⟨rfl, hb⟩)
  go_ret
  exact ⟨rfl, below_then H0.out H0.out.size hb⟩

def VlsIn (l : List Sl.Vl) : Prop := ∀ v ∈ l, VlIn v
set_option maxRecDepth 100000 in
set_option maxHeartbeats 2000000 in
theorem smayAll_any (A : Option Addr) (c : Nat) (l : List Sl.Vl) (w : World) (hr : kVl.C w A l.length l) (hv : VlsIn l) :
    Calls Tryd.prog 155 #[.slice A l.length c] w fun e w' => e = .returned (.bool (Sl.mayVs l)) ∧ Below w.heap.size w w' := by
  have HC := Lk.mk (contains_vals A c l (fun v => !(Sl.mayV v)) 173 #[] w (enters_of Tryd.func173 (by kernel_rfl) rfl) hr
    (fun W f hf hb => smayLit_any f W (hv f hf)))
  have H := Lk.mk (show Sl.mayVs l = !(l.any fun v => !(Sl.mayV v)) from rfl)
  clear hr
  generalize Sl.mayVs l = r at *
  generalize (l.any fun v => !(Sl.mayV v)) = q at *
  go_enter Tryd.func155, Tryd.ntmps155
  go_wp2_with (go_at_call 172; (with_reducible refine (HC.out).mono ?_); rintro e w' ⟨rfl, hb⟩)
  go_ret
  exact ⟨ret_bool (by rw [H.out]), hb⟩
set_option maxRecDepth 100000 in
set_option maxHeartbeats 2000000 in
theorem refVMay_any (v : Sl.Vl) (w : World) (hv : VlIn v) : Calls Tryd.prog 114 #[.agg #[.int .u8 v.1, .int .u64 v.2.1, .int .i64 v.2.2.1, .int .i64 v.2.2.2]] w fun e w' => e = .returned (.bool (Sl.mayV v)) ∧ Below w.heap.size w w' := by
  obtain ⟨k, b, d, s⟩ := v
  have h0 : Below w.heap.size w (w.alloc (.cells #[.int .u8 k, .int .u64 b, .int .i64 d, .int .i64 s] 56)) := below_alloc (Below.refl _ _) _
  have H0 := Lk.mk h0
  have H := Lk.mk (Sl.mayV_iff (k, b, d, s))
  dsimp only at H
  obtain ⟨hk, hb, hd, hs⟩ := hv
  dsimp only at hk hb hd hs ⊢
  clear h0
  generalize Sl.mayV (k, b, d, s) = r at *
  go_enter Tryd.func114, Tryd.ntmps114
  go_wp2
  all_goals go_ret
  all_goals refine ⟨ret_bool ?_, below_alloc (Below.refl _ _) _⟩
  all_goals rw [Bool.eq_iff_iff, H.out]
  all_goals clear H H0
  all_goals (simp only [beq_iff_eq, bne_iff_ne, beq_eq_false_iff_ne, bne_eq_false_iff_eq, decide_eq_true_eq, decide_eq_false_iff_not, ne_eq, Bool.false_eq_true, Bool.true_eq_false, Bool.and_eq_true, Bool.or_eq_true, Bool.not_eq_true', not_true_eq_false, not_false_eq_true, false_iff, true_iff, iff_true, iff_false, or_false, false_or, or_true, true_or, and_true, true_and, and_false, false_and] at * <;> omega)
end Go.Proofs.YtcepafllgjnngaaDoor

/-
  The walks of slots.Find and of the reference's Size, Address, Find; conditions: what is handed in reads as told.
-/
namespace Go.Proofs.YtcepafllgjnngaaDoor
open Go.RowKit Go.Proofs.YtcepafllgjnngaaDoorW.PrintWords

theorem hit_iff (sz : Int → Int) (a : Int) (x : Sl.Fr) : Sl.hit sz a x = true ↔ 0 ≤ x.1 ∧ x.1 ≤ 1099511627776 ∧ x.1 + 2 ≤ a ∧ a - x.1 - 2 < sz x.2.1 := by
  unfold Sl.hit; simp only [Bool.and_eq_true, decide_eq_true_eq]; omega
theorem sizeS_cases (sz : Int → Int) (x : Sl.Fr) : Sl.sizeS sz x = 0 ∨ (Sl.sizeS sz x = sz x.2.1 ∧ 0 ≤ x.1 ∧ x.1 ≤ 1099511627776) := by
  unfold Sl.sizeS
  by_cases h : x.1 < 0 ∨ 1099511627776 < x.1
  · rw [if_pos h]; omega
  · rw [if_neg h]; omega
/-- what the program asks of a frame: is the address one of its slots' -/
theorem hit_size {sz : Int → Int} {a : Int} {x : Sl.Fr} : Sl.hit sz a x = true ↔ x.1 ≤ a ∧ 0 ≤ a - x.1 - 2 ∧ a - x.1 - 2 < Sl.sizeS sz x := by
  rw [hit_iff]
  unfold Sl.sizeS
  by_cases h : x.1 < 0 ∨ 1099511627776 < x.1
  · rw [if_pos h]; omega
  · rw [if_neg h]; omega
theorem ret_iib {a b a' b' : Int} {c c' : Bool} (h1 : a = a') (h2 : b = b') (h3 : c = c') : Ending.returned (.tuple #[.int .i64 a, .int .i64 b, .bool c]) = .returned (.tuple #[.int .i64 a', .int .i64 b', .bool c']) := by rw [h1, h2, h3]
theorem find_yes' {sz : Int → Int} {l : List Sl.Fr} {a : Int} {k : Nat} {x : Sl.Fr} (h : Sl.findAt sz l a = some k) (hx : x = l.getD k Sl.dFr) : Sl.findD sz l a = k ∧ Sl.findI sz l a = a - x.1 - 2 ∧ Sl.findB sz l a = true := by
  subst hx; exact Sl.find_yes h

set_option maxRecDepth 100000 in
set_option maxHeartbeats 2000000 in
theorem find_any (p : Value) (ent : List (Int × (List Int × List Int))) (A : Option Addr) (c : Nat) (l : List Sl.Fr) (a : Int) (w : World) (h : TblOr w p ent) (hr : kFr.C w A l.length l) (hI : FrIn l) (he : EntIn ent) (ha : -9223372036854775808 ≤ a ∧ a ≤ 9223372036854775807) :
    Calls Tryd.prog 104 #[p, .slice A l.length c, .int .i64 a] w fun e w' => e = .returned (.tuple #[.int .i64 (Sl.findD (tSize ent) l a), .int .i64 (Sl.findI (tSize ent) l a), .bool (Sl.findB (tSize ent) l a)]) ∧ Below w.heap.size w w' := by
  have hm := hr.2.1
  have HR := Lk.mk hr
  have HI := Lk.mk hI
  have HS := Lk.mk (fun W (hb : Below w.heap.size w W) x => ssize_any p ent x W (h.below hb) he)
  clear h hr hI
  go_enter Tryd.func104, Tryd.ntmps104
  go_wp2
  go_loopg [14] l.length (fun gg v14 wr => ∃ kk : Nat, kk ≤ l.length ∧ l.length - kk ≤ gg ∧ v14 = .int .i64 kk ∧ Lk (∀ j, j < kk → Sl.hit (tSize ent) a (l.getD j Sl.dFr) = false) ∧ Lk (Below w.heap.size w wr))
  case atStart => exact ⟨0, by omega, by omega, rfl, ⟨fun j hj => absurd hj (by omega)⟩, ⟨Below.refl _ _⟩⟩
  case round =>
    obtain ⟨kk, hk, hg, rfl, HN, HB⟩ := hrel
    by_cases hlt : kk < l.length
    · obtain ⟨ad, rfl, c0, c1, c2⟩ := kFr_at (Kd.C_below HR.out HB.out) kk hlt
      have hltz : (kk : Int) < (l.length : Int) := by omega
      obtain ⟨x, hx⟩ : ∃ x, x = l.getD kk Sl.dFr := ⟨_, rfl⟩
      rw [← hx] at c0 c1 c2
      have hxi := HI.out x (by rw [hx]; exact getD_mem _ hlt)
      have HX := Lk.mk hx
      have HN2 := Lk.mk (show Sl.hit (tSize ent) a x = false → ∀ j, j < kk + 1 → Sl.hit (tSize ent) a (l.getD j Sl.dFr) = false from fun h j hj => by
        by_cases e : j = kk
        · subst e; rw [← HX.out]; exact h
        · exact HN.out j (by omega))
      have HH := Lk.mk (hit_size (sz := tSize ent) (a := a) (x := x))
      have HB1 := Lk.mk (below_alloc HB.out (.cells #[.int .i64 x.1, .int .i64 x.2.1, .int .i64 x.2.2] 79))
      have HZ := Lk.mk (HS.out _ HB1.out x)
      clear hx
      have HQ := Lk.mk (sizeS_cases (tSize ent) x)
      have HF := Lk.mk (fun h : Sl.hit (tSize ent) a x = true => find_yes' (Sl.findAt_some hlt HN.out (by rw [← HX.out]; exact h)) HX.out)
      generalize Sl.hit (tSize ent) a x = b at *
      generalize Sl.sizeS (tSize ent) x = z at *
      by_cases h1 : a < x.1
      · have hb : b = false := by
          cases b with
          | false => rfl
          | true => have := HH.out.1 rfl; omega
        subst hb
        go_wp2
        go_roundg (l.length - (kk + 1))
        case measure => omega
        case rel => exact ⟨kk + 1, by omega, by omega, by go_num, ⟨HN2.out (by first | rfl | trivial)⟩, HB1⟩
      · have h1' : x.1 ≤ a := by omega
        by_cases h2 : 0 ≤ x.1 ∧ x.1 ≤ 1099511627776
        · by_cases h3 : 0 ≤ a - x.1 - 2 ∧ a - x.1 - 2 < z
          · have hb : b = true := HH.out.2 ⟨h1', h3.1, h3.2⟩
            subst hb
            obtain ⟨e1, e2, e3⟩ := HF.out rfl
            have HE := Lk.mk (And.intro e1 (And.intro e2 e3))
            clear e1 e2 e3
            obtain ⟨h31, h32⟩ := h3
            have h31' : 2 ≤ a - x.1 := by omega
            go_wp2_with (go_at_call 81; (with_reducible refine (HZ.out).mono ?_); rintro e w1 ⟨rfl, hb⟩)
            obtain ⟨e1, e2, e3⟩ := HE.out
            go_ret3
            exact ⟨ret_iib e1.symm e2.symm e3.symm, below_then HB1.out HB1.out.size hb⟩
          · have hb : b = false := by
              cases b with
              | false => rfl
              | true => have := HH.out.1 rfl; omega
            subst hb
            by_cases h4 : a - x.1 < 2
            · go_wp2
              go_roundg (l.length - (kk + 1))
              case measure => omega
              case rel => exact ⟨kk + 1, by omega, by omega, by go_num, ⟨HN2.out (by first | rfl | trivial)⟩, HB1⟩
            · have h5 : z ≤ a - x.1 - 2 := by omega
              have h6 : 2 ≤ a - x.1 := by omega
              clear h3
              go_wp2_with (go_at_call 81; (with_reducible refine (HZ.out).mono ?_); rintro e w1 ⟨rfl, hb⟩; have HB2 := Lk.mk (below_then HB1.out HB1.out.size hb); clear hb)
              go_roundg (l.length - (kk + 1))
              case measure => omega
              case rel => exact ⟨kk + 1, by omega, by omega, by go_num, ⟨HN2.out (by first | rfl | trivial)⟩, HB2⟩
        · have hz : z = 0 := by have := HQ.out; omega
          subst hz
          have hb : b = false := by
            cases b with
            | false => rfl
            | true => have := HH.out.1 rfl; omega
          subst hb
          by_cases h4 : wrap64 (wrap64 (a - x.1) - 2) < 0
          · go_wp2
            go_roundg (l.length - (kk + 1))
            case measure => omega
            case rel => exact ⟨kk + 1, by omega, by omega, by go_num, ⟨HN2.out (by first | rfl | trivial)⟩, HB1⟩
          · go_wp2_with (go_at_call 81; (with_reducible refine (HZ.out).mono ?_); rintro e w1 ⟨rfl, hb⟩; have HB2 := Lk.mk (below_then HB1.out HB1.out.size hb); clear hb)
            go_roundg (l.length - (kk + 1))
            case measure => omega
            case rel => exact ⟨kk + 1, by omega, by omega, by go_num, ⟨HN2.out (by first | rfl | trivial)⟩, HB2⟩
    · have hltz : ¬ (kk : Int) < (l.length : Int) := by omega
      obtain rfl : kk = l.length := by omega
      have HE := Lk.mk (Sl.find_no (Sl.findAt_none HN.out))
      go_wp2
      go_ret3
      obtain ⟨e1, e2, e3⟩ := HE.out
      exact ⟨ret_iib e1.symm e2.symm e3.symm, HB.out⟩
end Go.Proofs.YtcepafllgjnngaaDoor

/-
  The walks of the reference's Size, Address and Find of slots; conditions: what is handed in reads as told.
-/
namespace Go.Proofs.YtcepafllgjnngaaDoor
open Go.RowKit Go.Proofs.YtcepafllgjnngaaDoorW.PrintWords

set_option maxRecDepth 100000 in
set_option maxHeartbeats 2000000 in
theorem refSSize_any (A : Option Addr) (c : Nat) (t : List (Int × List Int)) (x : Sl.Fr) (w : World) (hr : FnC w A t.length t) (he : ∀ f, -1 ≤ lSize t f ∧ lSize t f ≤ 1000) :
    Calls Tryd.prog 150 #[.slice A t.length c, .agg #[.int .i64 x.1, .int .i64 x.2.1, .int .i64 x.2.2]] w fun e w' => e = .returned (.int .i64 (Sl.sizeS (lSize t) x)) ∧ Below w.heap.size w w' := by
  obtain ⟨a, f, k⟩ := x
  have h0 : Below w.heap.size w (w.alloc (.cells #[.int .i64 a, .int .i64 f, .int .i64 k] 79)) := below_alloc (Below.refl _ _) _
  have HS := Lk.mk (refSize_any A c t f _ (hr.below h0))
  have H0 := Lk.mk h0
  have hn := he f
  have H := Lk.mk (show Sl.sizeS (lSize t) (a, f, k) = if a < 0 ∨ 1099511627776 < a then 0 else max 0 (lSize t f) from rfl)
  generalize Sl.sizeS (lSize t) (a, f, k) = r at *
  generalize lSize t f = n at *
  clear hr h0 he
  go_enter Tryd.func150, Tryd.ntmps150
  go_wp2_with (go_at_call 66; (with_reducible refine (HS.out).mono ?_); rintro e w' ⟨rfl, hw⟩; obtain rfl := hw.symm; clear hw)
  all_goals go_ret
  all_goals refine ⟨ret_int ?_, H0.out⟩
  all_goals rw [H.out]
  all_goals (first | (rw [if_pos (by omega)]) | (rw [if_neg (by omega)]; omega) | (rw [if_neg (by omega)]; omega) | (split <;> omega))

set_option maxRecDepth 100000 in
set_option maxHeartbeats 2000000 in
theorem refAddress_any (A : Option Addr) (c : Nat) (t : List (Int × List Int)) (B : Option Addr) (c' : Nat) (l : List Sl.Fr) (d s : Int) (w : World) (hr : FnC w A t.length t) (hl : kFr.C w B l.length l) (he : ∀ f, -1 ≤ lSize t f ∧ lSize t f ≤ 1000) :
    Calls Tryd.prog 107 #[.slice A t.length c, .slice B l.length c', .int .i64 d, .int .i64 s] w fun e w' => e = .returned (.int .i64 (Sl.addr (lSize t) l d s)) ∧ Below w.heap.size w w' := by
  have hm := hl.2.1
  have HH := Lk.mk (show Sl.addr (lSize t) l d s = if Sl.addrOk (lSize t) l d s = true then (l.getD d.toNat Sl.dFr).1 + 2 + s else -1 from rfl)
  by_cases h0 : d < 0
  · have H := Lk.mk (show Sl.addr (lSize t) l d s = -1 by rw [HH.out, if_neg (fun h => by have := addrOk_true h; omega)])
    clear hr hl he
    go_enter Tryd.func107, Tryd.ntmps107
    go_wp2
    go_ret
    exact ⟨ret_int H.out.symm, Below.refl _ _⟩
  · obtain ⟨k, rfl⟩ := Int.eq_ofNat_of_zero_le (show 0 ≤ d by omega)
    by_cases h1 : l.length ≤ k
    · have h1z : (l.length : Int) ≤ (k : Int) := by omega
      have H := Lk.mk (show Sl.addr (lSize t) l k s = -1 by rw [HH.out, if_neg (fun h => by have := addrOk_true h; omega)])
      clear hr hl he
      go_enter Tryd.func107, Tryd.ntmps107
      go_wp2
      go_ret
      exact ⟨ret_int H.out.symm, Below.refl _ _⟩
    · have h1z : (k : Int) < (l.length : Int) := by omega
      by_cases h2 : s < 0
      · have H := Lk.mk (show Sl.addr (lSize t) l k s = -1 by rw [HH.out, if_neg (fun h => by have := addrOk_true h; omega)])
        clear hr hl he
        go_enter Tryd.func107, Tryd.ntmps107
        go_wp2
        go_ret
        exact ⟨ret_int H.out.symm, Below.refl _ _⟩
      · obtain ⟨ad, rfl, c0, c1, c2⟩ := kFr_at hl k (by omega)
        have HS := Lk.mk (fun W (hb : Below w.heap.size w W) => refSSize_any A c t (l.getD k Sl.dFr) W (hr.below hb) he)
        have HC := Lk.mk (show ∀ W, Below w.heap.size w W → W.cell? (ad.add (k * 3)) = some (.int .i64 (l.getD k Sl.dFr).1) ∧ W.cell? ⟨(ad.add (k * 3)).block, (ad.add (k * 3)).off + 1, none⟩ = some (.int .i64 (l.getD k Sl.dFr).2.1) ∧ W.cell? ⟨(ad.add (k * 3)).block, (ad.add (k * 3)).off + 2, none⟩ = some (.int .i64 (l.getD k Sl.dFr).2.2) from fun W hb => ⟨pw_cell_below hb c0, pw_cell_below hb c1, pw_cell_below hb c2⟩)
        by_cases h3 : s < Sl.sizeS (lSize t) (l.getD k Sl.dFr)
        · have H := Lk.mk (show Sl.addr (lSize t) l k s = (l.getD k Sl.dFr).1 + 2 + s by
            rw [HH.out, if_pos (by unfold Sl.addrOk; simp only [Bool.and_eq_true, decide_eq_true_eq, Int.toNat_natCast]; omega), Int.toNat_natCast])
          have hs := sizeS_in (show 0 ≤ s by omega) h3
          have hsz := he (l.getD k Sl.dFr).2.1
          clear hr hl he HH
          generalize Sl.sizeS (lSize t) (l.getD k Sl.dFr) = z at *
          generalize l.getD k Sl.dFr = x at *
          go_enter Tryd.func107, Tryd.ntmps107
          go_wp2_with (go_at_call 150; (with_reducible refine (HS.out _ (Below.refl _ _)).mono ?_); rintro e w1 ⟨rfl, hb⟩; have HB := Lk.mk hb; obtain ⟨d0, d1, d2⟩ := HC.out _ hb; clear hb)
          go_ret
          exact ⟨ret_int H.out.symm, HB.out⟩
        · have H := Lk.mk (show Sl.addr (lSize t) l k s = -1 by rw [HH.out, if_neg (fun h => by have := addrOk_true h; rw [Int.toNat_natCast] at this; omega)])
          have h3' : Sl.sizeS (lSize t) (l.getD k Sl.dFr) ≤ s := by omega
          clear hr hl he HH h3
          generalize Sl.sizeS (lSize t) (l.getD k Sl.dFr) = z at *
          generalize l.getD k Sl.dFr = x at *
          go_enter Tryd.func107, Tryd.ntmps107
          go_wp2_with (go_at_call 150; (with_reducible refine (HS.out _ (Below.refl _ _)).mono ?_); rintro e w1 ⟨rfl, hb⟩; have HB := Lk.mk hb; clear hb)
          go_ret
          exact ⟨ret_int H.out.symm, HB.out⟩

set_option maxRecDepth 100000 in
set_option maxHeartbeats 2000000 in
theorem refFind_any (A : Option Addr) (c : Nat) (t : List (Int × List Int)) (B : Option Addr) (c' : Nat) (l : List Sl.Fr) (a : Int) (w : World) (hr : FnC w A t.length t) (hl : kFr.C w B l.length l) (he : ∀ f, -1 ≤ lSize t f ∧ lSize t f ≤ 1000) :
    Calls Tryd.prog 109 #[.slice A t.length c, .slice B l.length c', .int .i64 a] w fun e w' => e = .returned (.tuple #[.int .i64 (Sl.findD (lSize t) l a), .int .i64 (Sl.findI (lSize t) l a), .bool (Sl.findB (lSize t) l a)]) ∧ Below w.heap.size w w' := by
  have hm := hl.2.1
  have HL := Lk.mk hl
  have HS := Lk.mk (fun W (hb : Below w.heap.size w W) x => refSSize_any A c t x W (hr.below hb) he)
  clear hr hl
  go_enter Tryd.func109, Tryd.ntmps109
  go_wp2
  go_loopg [13] l.length (fun gg v13 wr => ∃ kk : Nat, kk ≤ l.length ∧ l.length - kk ≤ gg ∧ v13 = .int .i64 kk ∧ Lk (∀ j, j < kk → Sl.hit (lSize t) a (l.getD j Sl.dFr) = false) ∧ Lk (Below w.heap.size w wr))
  case atStart => exact ⟨0, by omega, by omega, rfl, ⟨fun j hj => absurd hj (by omega)⟩, ⟨Below.refl _ _⟩⟩
  case round =>
    obtain ⟨kk, hk, hg, rfl, HN, HB⟩ := hrel
    by_cases hlt : kk < l.length
    · have hltz : (kk : Int) < (l.length : Int) := by omega
      obtain ⟨wo, rfl⟩ : ∃ wo : World, wo = wr := ⟨_, rfl⟩
      obtain ⟨ad, rfl, c0, c1, c2⟩ := kFr_at (Kd.C_below HL.out HB.out) kk hlt
      have HC := Lk.mk (show ∀ W, Below wo.heap.size wo W → W.cell? (ad.add (kk * 3)) = some (.int .i64 (l.getD kk Sl.dFr).1) ∧ W.cell? ⟨(ad.add (kk * 3)).block, (ad.add (kk * 3)).off + 1, none⟩ = some (.int .i64 (l.getD kk Sl.dFr).2.1) ∧ W.cell? ⟨(ad.add (kk * 3)).block, (ad.add (kk * 3)).off + 2, none⟩ = some (.int .i64 (l.getD kk Sl.dFr).2.2) from fun W hb => ⟨pw_cell_below hb c0, pw_cell_below hb c1, pw_cell_below hb c2⟩)
      have HZ := Lk.mk (fun W (hb : Below wo.heap.size wo W) => HS.out W (below_then HB.out HB.out.size hb) (l.getD kk Sl.dFr))
      have HH := Lk.mk (hit_size (sz := lSize t) (a := a) (x := l.getD kk Sl.dFr))
      have hzc := sizeS_cases (lSize t) (l.getD kk Sl.dFr)
      have hzl := he (l.getD kk Sl.dFr).2.1
      have HF := Lk.mk (fun h : Sl.hit (lSize t) a (l.getD kk Sl.dFr) = true => Sl.find_yes (Sl.findAt_some hlt HN.out h))
      have HN2 := Lk.mk (show Sl.hit (lSize t) a (l.getD kk Sl.dFr) = false → ∀ j, j < kk + 1 → Sl.hit (lSize t) a (l.getD j Sl.dFr) = false from fun h j hj => by
        by_cases e : j = kk
        · subst e; exact h
        · exact HN.out j (by omega))
      clear c0 c1 c2
      generalize Sl.hit (lSize t) a (l.getD kk Sl.dFr) = b at *
      generalize Sl.sizeS (lSize t) (l.getD kk Sl.dFr) = z at *
      generalize l.getD kk Sl.dFr = x at *
      have hzr : z ≤ 1000 ∧ (0 < z → 0 ≤ x.1 ∧ x.1 ≤ 1099511627776) := by omega
      clear hzc hzl
      obtain ⟨hz1, hz2⟩ := hzr
      go_wp2
      go_loopg [10] z.toNat (fun gi v10 wi => ∃ i : Nat, i ≤ z.toNat ∧ z.toNat - i ≤ gi ∧ v10 = .int .i64 i ∧ Lk (∀ j : Nat, j < i → x.1 + 2 + (j : Int) ≠ a) ∧ Lk (Below wo.heap.size wo wi))
      case atStart => exact ⟨0, by omega, by omega, rfl, ⟨fun j hj => absurd hj (by omega)⟩, ⟨Below.refl _ _⟩⟩
      case round =>
        obtain ⟨i, hi, hgi, rfl, HNi, HBi⟩ := hrel
        obtain ⟨d0, d1, d2⟩ := HC.out _ HBi.out
        obtain ⟨wp, rfl⟩ : ∃ wp : World, wp = wr := ⟨_, rfl⟩
        by_cases hiz : (i : Int) < z
        · have hx := hz2 (by omega)
          by_cases hq : x.1 + 2 + (i : Int) = a
          · have hb : b = true := HH.out.2 (by omega)
            subst hb
            have HE := Lk.mk (HF.out rfl)
            have HQ := Lk.mk hq
            have hqb : (x.1 + 2 + (i : Int) == a) = true := by simpa using hq
            clear hq
            go_wp2_with (go_at_call 150; (with_reducible refine (HZ.out _ HBi.out).mono ?_); rintro e w1 ⟨rfl, hb⟩; have HB2 := Lk.mk (below_then HBi.out HBi.out.size hb); clear hb d0 d1 d2; obtain ⟨d0, d1, d2⟩ := HC.out _ HB2.out)
            go_ret3
            obtain ⟨e1, e2, e3⟩ := HE.out
            exact ⟨ret_iib e1.symm (by rw [e2]; have := HQ.out; omega) e3.symm, below_then HB.out HB.out.size HB2.out⟩
          · have HQ := Lk.mk hq
            have hqb : (x.1 + 2 + (i : Int) == a) = false := by simpa using hq
            clear hq
            go_wp2_with (go_at_call 150; (with_reducible refine (HZ.out _ HBi.out).mono ?_); rintro e w1 ⟨rfl, hb⟩; have HB2 := Lk.mk (below_then HBi.out HBi.out.size hb); clear hb d0 d1 d2; obtain ⟨d0, d1, d2⟩ := HC.out _ HB2.out)
            go_roundg (z.toNat - (i + 1))
            case measure => omega
            case rel =>
              refine ⟨i + 1, by omega, by omega, by go_num, ⟨fun j hj => ?_⟩, HB2⟩
              by_cases e : j = i
              · subst e; exact HQ.out
              · exact HNi.out j (by omega)
        · have hiz' : z ≤ (i : Int) := by omega
          have hb : b = false := by
            cases b with
            | false => rfl
            | true =>
              have h1 := HH.out.1 rfl
              exact absurd (show x.1 + 2 + ((a - x.1 - 2).toNat : Int) = a by omega) (HNi.out (a - x.1 - 2).toNat (by omega))
          subst hb
          clear hiz
          go_wp2_with (go_at_call 150; (with_reducible refine (HZ.out _ HBi.out).mono ?_); rintro e w1 ⟨rfl, hb⟩; have HB2 := Lk.mk (below_then HBi.out HBi.out.size hb); clear hb)
          go_roundg (l.length - (kk + 1))
          case measure => omega
          case rel => exact ⟨kk + 1, by omega, by omega, by go_num, ⟨HN2.out (by first | rfl | trivial)⟩, ⟨below_then HB.out HB.out.size HB2.out⟩⟩
    · have hltz : ¬ (kk : Int) < (l.length : Int) := by omega
      obtain rfl : kk = l.length := by omega
      have HE := Lk.mk (Sl.find_no (Sl.findAt_none HN.out))
      go_wp2
      go_ret3
      obtain ⟨e1, e2, e3⟩ := HE.out
      exact ⟨ret_iib e1.symm e2.symm e3.symm, HB.out⟩
end Go.Proofs.YtcepafllgjnngaaDoor

/-
  The walks of the slots' great and awake; conditions: what is handed in reads as told.
-/
namespace Go.Proofs.YtcepafllgjnngaaDoor
open Go.RowKit Go.Proofs.YtcepafllgjnngaaDoorW.PrintWords

/-- the functions of the layer's awake -/
def lS : List (Int × List Int) := [(3, [])]
theorem lS_ok : newOk lS = true := by decide +kernel
theorem lS_words : FnsOk lS := by
  intro f hf
  obtain rfl : f = (3, []) := by simpa [lS] using hf
  exact ⟨(fun x hx => by cases hx), by decide, by decide, by decide⟩
theorem tS : tSize (lS.map entryOf) 0 = 3 ∧ EntIn (lS.map entryOf) := by
  refine ⟨by decide +kernel, fun e he => ?_⟩
  obtain rfl : e = entryOf (3, []) := by simpa [lS] using he
  decide +kernel
def frS : List Sl.Fr := [(59, (0, -1))]
theorem kFr_one {w : World} {ad : Addr} {a f k : Int} (h0 : w.cell? (ad.add 0) = some (.int .i64 a)) (h1 : w.cell? (ad.add 1) = some (.int .i64 f)) (h2 : w.cell? (ad.add 2) = some (.int .i64 k)) : kFr.C w (some ad) ([(a, (f, k))] : List Sl.Fr).length [(a, (f, k))] := by
  refine ⟨rfl, by simp, fun _ => ⟨ad, rfl, fun j p hj => ?_⟩⟩
  cases j with
  | zero =>
    obtain rfl : p = (a, (f, k)) := by simpa using hj.symm
    refine ⟨[.int .i64 a, .int .i64 f, .int .i64 k], rfl, ⟨[_], [_, _], rfl, rfl, [_], [_], rfl, rfl, rfl⟩, fun i u hu => ?_⟩
    cases i with
    | zero => obtain rfl : u = _ := by simpa using hu.symm
              simpa using h0
    | succ i => cases i with
      | zero => obtain rfl : u = _ := by simpa using hu.symm
                simpa using h1
      | succ i => cases i with
        | zero => obtain rfl : u = _ := by simpa using hu.symm
                  simpa using h2
        | succ i => simp at hu
  | succ j => simp at hj
theorem kVl_one {w : World} {ad : Addr} {a b c d : Int} (h0 : w.cell? (ad.add 0) = some (.int .u8 a)) (h1 : w.cell? (ad.add 1) = some (.int .u64 b)) (h2 : w.cell? (ad.add 2) = some (.int .i64 c)) (h3 : w.cell? (ad.add 3) = some (.int .i64 d)) : kVl.C w (some ad) ([(a, (b, (c, d)))] : List Sl.Vl).length [(a, (b, (c, d)))] := by
  refine ⟨rfl, by simp, fun _ => ⟨ad, rfl, fun j p hj => ?_⟩⟩
  cases j with
  | zero =>
    obtain rfl : p = (a, (b, (c, d))) := by simpa using hj.symm
    refine ⟨[.int .u8 a, .int .u64 b, .int .i64 c, .int .i64 d], rfl, ⟨[_], [_, _, _], rfl, rfl, [_], [_, _], rfl, rfl, [_], [_], rfl, rfl, rfl⟩, fun i u hu => ?_⟩
    cases i with
    | zero => obtain rfl : u = _ := by simpa using hu.symm
              simpa using h0
    | succ i => cases i with
      | zero => obtain rfl : u = _ := by simpa using hu.symm
                simpa using h1
      | succ i => cases i with
        | zero => obtain rfl : u = _ := by simpa using hu.symm
                  simpa using h2
        | succ i => cases i with
          | zero => obtain rfl : u = _ := by simpa using hu.symm
                    simpa using h3
          | succ i => simp at hu
  | succ j => simp at hj
theorem fnC_new {w : World} (s : Int) : FnC (w.alloc (.cells #[.int .i64 s, .slice none 0 0] 28)) (some ⟨w.heap.size, 0, none⟩) 1 [(s, [])] :=
  fnC_one (A1 := none) (c1 := 0) (m := []) (by simp [Addr.add]) (by simp [Addr.add]) (by decide) ⟨rfl, by simp, fun h => by simp at h⟩

theorem sA1 (W : World) (p : Value) (h : TblAt W p (lS.map entryOf)) : Calls Tryd.prog 103 #[p, .slice (some ⟨W.heap.size, 0, none⟩) 1 1, .int .i64 0, .int .i64 0] (W.alloc (.cells #[.int .i64 59, .int .i64 0, .int .i64 (-1)] 79)) fun e w' => e = .returned (.tuple #[.int .i64 61, .int .i64 0]) ∧ Below W.heap.size W w' := by
  have h0 := below_alloc (Below.refl W.heap.size W) (.cells #[.int .i64 59, .int .i64 0, .int .i64 (-1)] 79)
  have := address_ok p (lS.map entryOf) (some ⟨W.heap.size, 0, none⟩) 1 frS 0 0 (W.alloc (.cells #[.int .i64 59, .int .i64 0, .int .i64 (-1)] 79)) (h.or.below h0) (kFr_one (by simp [Addr.add]) (by simp [Addr.add]) (by simp [Addr.add])) tS.2 (by decide +kernel)
  exact this.mono fun e w' ⟨he, hb⟩ => ⟨he, below_then h0 h0.size hb⟩
theorem sM1 (W : World) : Calls Tryd.prog 155 #[.slice (some ⟨W.heap.size, 0, none⟩) 1 1] (W.alloc (.cells #[.int .u8 1, .int .u64 7, .int .i64 0, .int .i64 0] 56)) fun e w' => e = .returned (.bool true) ∧ Below W.heap.size W w' := by
  have h0 := below_alloc (Below.refl W.heap.size W) (.cells #[.int .u8 1, .int .u64 7, .int .i64 0, .int .i64 0] 56)
  have := smayAll_any (some ⟨W.heap.size, 0, none⟩) 1 [(1, (7, (0, 0)))] (W.alloc (.cells #[.int .u8 1, .int .u64 7, .int .i64 0, .int .i64 0] 56)) (kVl_one (by simp [Addr.add]) (by simp [Addr.add]) (by simp [Addr.add]) (by simp [Addr.add])) (by intro v hv; obtain rfl : v = _ := (by simpa using hv); unfold VlIn; decide)
  exact this.mono fun e w' ⟨he, hb⟩ => ⟨he, below_then h0 h0.size hb⟩
theorem sM2 (W : World) : Calls Tryd.prog 155 #[.slice (some ⟨W.heap.size, 0, none⟩) 1 1] (W.alloc (.cells #[.int .u8 0, .int .u64 7, .int .i64 0, .int .i64 0] 56)) fun e w' => e = .returned (.bool false) ∧ Below W.heap.size W w' := by
  have h0 := below_alloc (Below.refl W.heap.size W) (.cells #[.int .u8 0, .int .u64 7, .int .i64 0, .int .i64 0] 56)
  have := smayAll_any (some ⟨W.heap.size, 0, none⟩) 1 [(0, (7, (0, 0)))] (W.alloc (.cells #[.int .u8 0, .int .u64 7, .int .i64 0, .int .i64 0] 56)) (kVl_one (by simp [Addr.add]) (by simp [Addr.add]) (by simp [Addr.add]) (by simp [Addr.add])) (by intro v hv; obtain rfl : v = _ := (by simpa using hv); unfold VlIn; decide)
  exact this.mono fun e w' ⟨he, hb⟩ => ⟨he, below_then h0 h0.size hb⟩
end Go.Proofs.YtcepafllgjnngaaDoor

/-
  Plain: when two bitmaps have the same bits.
-/
namespace Bm

def sameB (a b : List Int) : Bool := (List.range (max a.length b.length)).all fun k => a.getD k 0 == b.getD k 0
theorem sameB_iff (a b : List Int) : sameB a b = true ↔ ∀ k, a.getD k 0 = b.getD k 0 := by
  unfold sameB
  rw [List.all_eq_true]
  constructor
  · intro h k
    by_cases hk : k < max a.length b.length
    · simpa using h k (List.mem_range.2 hk)
    · rw [List.getD_eq_getElem?_getD, List.getD_eq_getElem?_getD, List.getElem?_eq_none (by omega), List.getElem?_eq_none (by omega)]
  · intro h k _
    simpa using h k
theorem cut_getD (l : List Int) (k : Nat) : (cutL l).getD k 0 = l.getD k 0 := by
  obtain ⟨n, e, _⟩ := cut_ex l
  rw [List.getD_eq_getElem?_getD, List.getD_eq_getElem?_getD]
  conv => rhs; rw [e]
  by_cases h : k < (cutL l).length
  · rw [List.getElem?_append_left h]
  · rw [List.getElem?_eq_none (by omega), List.getElem?_append_right (by omega), List.getElem?_replicate]
    split <;> rfl
theorem cut_tight (l : List Int) (h : (cutL l).length ≠ 0) : (cutL l).getD ((cutL l).length - 1) 0 ≠ 0 := by
  obtain ⟨n, e, hh⟩ := cut_ex l
  rcases hh with hh | ⟨m, x, hm, hx⟩
  · rw [hh] at h; simp at h
  · rw [hm, List.getD_eq_getElem?_getD, List.length_append, List.length_singleton, Nat.add_sub_cancel, List.getElem?_append_right (Nat.le_refl _)]
    simpa using hx
theorem same_cut (a b : List Int) : sameB a b = decide (cutL a = cutL b) := by
  rw [Bool.eq_iff_iff, sameB_iff, decide_eq_true_eq]
  constructor
  · intro h
    have hg : ∀ k, (cutL a).getD k 0 = (cutL b).getD k 0 := fun k => by rw [cut_getD, cut_getD]; exact h k
    have hlen : (cutL a).length = (cutL b).length := by
      rcases Nat.lt_trichotomy (cutL a).length (cutL b).length with hl | hl | hl
      · have h1 := cut_tight b (by omega)
        rw [← hg, List.getD_eq_getElem?_getD, List.getElem?_eq_none (by omega)] at h1
        exact absurd rfl h1
      · exact hl
      · have h1 := cut_tight a (by omega)
        rw [hg, List.getD_eq_getElem?_getD, List.getElem?_eq_none (by omega)] at h1
        exact absurd rfl h1
    apply List.ext_getElem hlen
    intro i h1 h2
    have := hg i
    rwa [List.getD_eq_getElem?_getD, List.getD_eq_getElem?_getD, List.getElem?_eq_getElem h1, List.getElem?_eq_getElem h2] at this
  · intro h k
    rw [← cut_getD a, ← cut_getD b, h]
/-- the same bits: the same words -/
theorem word_ext {x y : Nat} (h : ∀ j, j < 64 → x.testBit j = y.testBit j) (hx : x < 2 ^ 64) (hy : y < 2 ^ 64) : x = y := by
  apply Nat.eq_of_testBit_eq
  intro j
  by_cases hj : j < 64
  · exact h j hj
  · rw [Nat.testBit_lt_two_pow (Nat.lt_of_lt_of_le hx (Nat.pow_le_pow_right (by omega) (by omega))), Nat.testBit_lt_two_pow (Nat.lt_of_lt_of_le hy (Nat.pow_le_pow_right (by omega) (by omega)))]
theorem word_nn {l : List Int} (h : Words l) (k : Nat) : 0 ≤ l.getD k 0 ∧ l.getD k 0 < 18446744073709551616 := by
  rw [List.getD_eq_getElem?_getD]
  rcases Nat.lt_or_ge k l.length with hk | hk
  · rw [List.getElem?_eq_getElem hk]; exact h _ (List.getElem_mem hk)
  · rw [List.getElem?_eq_none hk]; exact ⟨by decide, by decide⟩
theorem same_bits {a b : List Int} (ha : Words a) (hb : Words b) (h : ∀ i, bitAt a i = bitAt b i) : sameB a b = true := by
  rw [sameB_iff]
  intro k
  have h1 := word_nn ha k
  have h2 := word_nn hb k
  have : (a.getD k 0).toNat = (b.getD k 0).toNat := by
    apply word_ext _ (by omega) (by omega)
    intro j hj
    have := h (64 * k + j)
    unfold bitAt at this
    rwa [show (64 * k + j) / 64 = k by omega, show (64 * k + j) % 64 = j by omega] at this
  omega
def tightL (l : List Int) : Bool := decide (l.length = 0) || decide (l.getD (l.length - 1) 0 ≠ 0)
theorem tight_cut (l : List Int) : tightL (cutL l) = true := by
  unfold tightL
  by_cases h : (cutL l).length = 0
  · rw [decide_eq_true h]; rfl
  · rw [decide_eq_true (cut_tight l h), Bool.or_true]
theorem with_cut (l : List Int) (i : Int) (on : Bool) : ∃ m, withL l i on = cutL m := by
  unfold withL
  split
  · exact ⟨_, rfl⟩
  · exact ⟨_, rfl⟩
theorem tight_with (l : List Int) (i : Int) (on : Bool) : tightL (withL l i on) = true := by
  obtain ⟨m, e⟩ := with_cut l i on
  rw [e]; exact tight_cut m
theorem of_cut (l : List Int) : ofL l = [] ∨ ∃ m, ofL l = cutL m := by
  unfold ofL
  suffices h : ∀ (l b : List Int), (b = [] ∨ ∃ m, b = cutL m) → (l.foldl (fun b i => if fits i then withL b i true else b) b = [] ∨ ∃ m, l.foldl (fun b i => if fits i then withL b i true else b) b = cutL m) from h l [] (Or.inl rfl)
  intro l
  induction l with
  | nil => intro b hb; exact hb
  | cons x l ih =>
    intro b hb
    rw [List.foldl_cons]
    apply ih
    split
    · exact Or.inr (with_cut _ _ _)
    · exact hb
theorem tight_of (l : List Int) : tightL (ofL l) = true := by
  rcases of_cut l with e | ⟨m, e⟩
  · rw [e]; rfl
  · rw [e]; exact tight_cut m
end Bm

/-
  The arena: words that are written while all else stays; the walks of arena.New, Words, In; conditions: what is handed in reads as told.
-/
namespace Go.Proofs.YtcepafllgjnngaaDoor
open Go.RowKit Go.Proofs.YtcepafllgjnngaaDoorW.PrintWords

/-- of what was there only block b may have changed -/
structure KeepW (b : Nat) (w w' : World) : Prop where
  os : w'.os = w.os
  tape : w'.tape = w.tape
  output : w'.output = w.output
  size : w.heap.size ≤ w'.heap.size
  block : ∀ k, k < w.heap.size → k ≠ b → w'.heap[k]? = w.heap[k]?
theorem KeepW.refl (b : Nat) (w : World) : KeepW b w w := ⟨rfl, rfl, rfl, Nat.le_refl _, fun _ _ _ => rfl⟩
theorem KeepW.trans {b : Nat} {w w1 w2 : World} (h : KeepW b w w1) (k : KeepW b w1 w2) : KeepW b w w2 :=
  ⟨k.os.trans h.os, k.tape.trans h.tape, k.output.trans h.output, Nat.le_trans h.size k.size, fun i hi hb => (k.block i (Nat.lt_of_lt_of_le hi h.size) hb).trans (h.block i hi hb)⟩
theorem KeepW.of_below {w w' : World} (h : Below w.heap.size w w') (b : Nat) : KeepW b w w' := ⟨h.os, h.tape, h.output, h.size, fun k hk _ => h.block k hk⟩
theorem KeepW.then_ {b : Nat} {w w1 w2 : World} (h : KeepW b w w1) (k : Below w1.heap.size w1 w2) : KeepW b w w2 := h.trans (KeepW.of_below k b)
theorem KeepW.setCell {b : Nat} {w w1 : World} (h : KeepW b w w1) (j : Nat) (u : Value) : KeepW b w (w1.setCell ⟨b, j, none⟩ u) :=
  h.trans ⟨rfl, rfl, rfl, by simp [World.setCell], fun k _ hb => Below.heap_setCell w1 ⟨b, j, none⟩ u k hb⟩
theorem KeepW.below {b B : Nat} {w0 w w' : World} (h : KeepW b w w') (hb : Below B w0 w) (h1 : B ≤ b) (h2 : B ≤ w.heap.size) : Below B w0 w' :=
  hb.trans ⟨h.os, h.tape, h.output, h.size, fun k hk => h.block k (by omega) (by omega)⟩
/-- P holds, and goes on to hold whatever is written into block b -/
def Stab (b : Nat) (P : World → Prop) (w : World) : Prop := ∀ w', KeepW b w w' → P w'
theorem Stab.now {b : Nat} {P : World → Prop} {w : World} (h : Stab b P w) : P w := h w (KeepW.refl b w)
theorem Stab.keep {b : Nat} {P : World → Prop} {w w' : World} (h : Stab b P w) (k : KeepW b w w') : Stab b P w' := fun w2 h2 => h w2 (k.trans h2)
theorem Stab.of_old {b : Nat} {P : World → Prop} {w0 w : World} (h : ∀ w', Below w0.heap.size w0 w' → P w') (hb : Below w0.heap.size w0 w) (h1 : w0.heap.size ≤ b) : Stab b P w := fun _ k => h _ (k.below hb h1 hb.size)
theorem Stab.mono {b : Nat} {P Q : World → Prop} {w : World} (h : Stab b P w) (hq : ∀ w, P w → Q w) : Stab b Q w := fun w' k => hq _ (h w' k)

/-- the arena: g its struct's block, b its words' -/
structure ArB (w : World) (g b : Nat) (ws : List Int) : Prop where
  head : w.heap[g]? = some (.cells #[.slice (some ⟨b, 0, none⟩) ws.length ws.length] 110 (0, 0))
  row : w.heap[b]? = some (.cells (nums .u64 ws).toArray 23 (0, 0))
  words : Bm.Words ws
  pos : 0 < ws.length
  len : ws.length ≤ 65536
theorem ArB.below {w w1 : World} {g b : Nat} {ws : List Int} (h : ArB w g b ws) (hb : Below w.heap.size w w1) : ArB w1 g b ws := ⟨blk_below h.head hb, blk_below h.row hb, h.words, h.pos, h.len⟩
theorem ArB.ne {w : World} {g b : Nat} {ws : List Int} (h : ArB w g b ws) : g ≠ b := blk_ne h.head h.row (by decide)
theorem ArB.lt {w : World} {g b : Nat} {ws : List Int} (h : ArB w g b ws) : b < w.heap.size := blk_lt h.row
theorem ArB.head_ {w : World} {g b : Nat} {ws : List Int} (h : ArB w g b ws) : w.cell? ⟨g, 0, none⟩ = some (.slice (some ⟨b, 0, none⟩) ws.length ws.length) := by
  rw [blk_cell h.head 0]; rfl
theorem nums_get (k : IntKind) (l : List Int) (j : Nat) (h : j < l.length) : (nums k l)[j]? = some (.int k (l.getD j 0)) := by
  unfold nums; rw [List.getElem?_map, List.getD_eq_getElem?_getD, List.getElem?_eq_getElem h]; rfl
theorem ArB.at_ {w : World} {g b : Nat} {ws : List Int} (h : ArB w g b ws) (j : Nat) (hj : j < ws.length) : w.cell? ⟨b, j, none⟩ = some (.int .u64 (ws.getD j 0)) := by
  rw [blk_cell h.row j, List.getElem?_toArray]; exact nums_get _ _ _ hj
theorem ArB.reads {w : World} {g b : Nat} {ws : List Int} (h : ArB w g b ws) : ReadsInt w .u64 (some ⟨b, 0, none⟩) ws.length ws :=
  ⟨rfl, by have := h.len; omega, fun _ => ⟨_, rfl, fun j hj => by rw [add_plain]; exact h.at_ j hj⟩⟩

/-- are n words there from an address on -/
def inL (len : Nat) (at_ n : Int) : Bool := decide (0 ≤ n) && decide (0 ≤ at_) && decide (at_ ≤ len) && decide (n ≤ len - at_)
theorem inL_true {len : Nat} {a n : Int} (h : inL len a n = true) : 0 ≤ n ∧ 0 ≤ a ∧ a + n ≤ len := by
  unfold inL at h; simp only [Bool.and_eq_true, decide_eq_true_eq] at h; omega
theorem inL_false {len : Nat} {a n : Int} (h : inL len a n = false) : n < 0 ∨ a < 0 ∨ len < a ∨ len < a + n := by
  by_cases h1 : n < 0 ∨ a < 0 ∨ (len : Int) < a ∨ (len : Int) < a + n
  · exact h1
  · have : inL len a n = true := by unfold inL; simp only [Bool.and_eq_true, decide_eq_true_eq]; omega
    rw [this] at h; cases h

theorem awords_any (g b : Nat) (ws : List Int) (w : World) (h : ArB w g b ws) : Calls Tryd.prog 148 #[.pointer (some ⟨g, 0, none⟩)] w fun e w' => e = .returned (.int .i64 ws.length) ∧ w = w' := by
  have hc := h.head_
  clear h
  go_enter Tryd.func148, Tryd.ntmps148
  go_wp2
  go_ret
  exact ⟨rfl, rfl⟩
set_option maxRecDepth 100000 in
set_option maxHeartbeats 2000000 in
theorem ain_any (g b : Nat) (ws : List Int) (at_ n : Int) (w : World) (h : ArB w g b ws) : Calls Tryd.prog 102 #[.pointer (some ⟨g, 0, none⟩), .int .i64 at_, .int .i64 n] w fun e w' => e = .returned (.bool (inL ws.length at_ n)) ∧ w = w' := by
  have HW := Lk.mk (awords_any g b ws w h)
  have hl := h.len
  have H := Lk.mk (show inL ws.length at_ n = (decide (0 ≤ n) && decide (0 ≤ at_) && decide (at_ ≤ ws.length) && decide (n ≤ ws.length - at_)) from rfl)
  generalize inL ws.length at_ n = r at *
  clear h
  go_enter Tryd.func102, Tryd.ntmps102
  go_wp2_with (go_at_call 148; (with_reducible refine (HW.out).mono ?_); rintro e w' ⟨rfl, rfl⟩)
  all_goals go_ret
  all_goals refine ⟨ret_bool ?_, rfl⟩
  all_goals rw [H.out]
  all_goals clear H HW
  all_goals simp_all
  all_goals (first | omega | (intro _; omega) | done)

theorem made_nums (m : Nat) : madeCells #[Value.int .u64 0] m = (nums .u64 (List.replicate m 0)).toArray := by
  apply Array.ext
  · simp [nums, madeCells]
  · intro i h1 h2
    simp [nums, madeCells, Nat.mod_one]
theorem words_zero (m : Nat) : Bm.Words (List.replicate m 0) := by
  intro x hx
  obtain rfl := (List.mem_replicate.1 hx).2
  decide
set_option maxRecDepth 100000 in
set_option maxHeartbeats 2000000 in
theorem anew_any (n : Nat) (w : World) (h4 : 4 ≤ n) (hn : n ≤ 1024) : Calls Tryd.prog 18 #[.int .i64 n] w fun e w' => e = .returned (.tuple #[.pointer (some ⟨w.heap.size + 1, 0, none⟩), .int .i64 0]) ∧ ArB w' (w.heap.size + 1) w.heap.size (List.replicate (64 * n) 0) ∧ Below w.heap.size w w' := by
  obtain ⟨ws, hws⟩ : ∃ ws : List Int, ws = List.replicate (64 * n) 0 := ⟨_, rfl⟩
  have HL := Lk.mk (show ws.length = 64 * n by rw [hws, List.length_replicate])
  have HW := Lk.mk (show Bm.Words ws by rw [hws]; exact words_zero _)
  have hmk : ∀ W : World, (Instr.makeSlice 26 (.int .i64 ((n : Int) * 64)) (.int .i64 ((n : Int) * 64))).run Tryd.prog W = .ok (.slice (some ⟨W.heap.size, 0, none⟩) ws.length ws.length) (W.alloc (.cells (nums .u64 ws).toArray 23)) := by
    intro W
    have := print_make 26 23 .u64 8 Tryd.underlying26 info23 (by decide) (64 * n) (by omega) W
    rw [made_nums, ← hws, show (((64 * n : Nat)) : Int) = (n : Int) * 64 by omega] at this
    rw [HL.out]; exact this
  rw [← hws]
  have hm : ws.length ≤ 65536 := by rw [HL.out]; omega
  clear hws
  go_enter Tryd.func18, Tryd.ntmps18
  go_wp2
  go_ret2
  refine ⟨rfl, ⟨?_, ?_, HW.out, by rw [HL.out]; omega, hm⟩, below_alloc (below_alloc (Below.refl _ _) _) _⟩
  · have := blk_new (w.alloc (.cells (nums .u64 ws).toArray 23)) (.cells #[.slice (some ⟨w.heap.size, 0, none⟩) ws.length ws.length] 110)
    simpa using this
  · exact blk_alloc (blk_new w _) _
end Go.Proofs.YtcepafllgjnngaaDoor

/-
  The arena's caught, as a deferred call of a frame that returns and of one that panics; part; conditions: the arena reads as told.
-/
namespace Go.Proofs.YtcepafllgjnngaaDoor
open Go.RowKit Go.Proofs.YtcepafllgjnngaaDoorW.PrintWords

set_option maxRecDepth 100000 in
set_option maxHeartbeats 2000000 in
theorem caught_idle (p : Addr) (w : World) :
    CallsD Tryd.prog 59 #[.pointer (some p)] .returning w fun e u' w' => e = .returned (.tuple #[]) ∧ u' = .returning ∧ w' = w := by
  refine callsD_of_wpS Tryd.func59 rfl fun c₀ cs hu => ?_
  apply wpS_seq
  apply wpS_region
  simp [wpOpsS, go_sem, recoverD, hu, Tryd.ntmps59, Exit.thenS]
  refine wpS_of_wp ?_
  go_wp2
  cases c₀
  simp_all [bodyPostS, results, Tryd.results59]
set_option maxRecDepth 100000 in
set_option maxHeartbeats 2000000 in
theorem caught_thrown (g : Nat) (x : Int) (w : World) (hc : w.cell? ⟨g, 0, none⟩ = some (.int .i64 x)) (hz : w.frozen? ⟨g, 0, none⟩ = false) :
    CallsD Tryd.prog 59 #[.pointer (some ⟨g, 0, none⟩)] (.panicking [{ v := .iface 165 (.agg #[]), recovered := false }]) w fun e u' w' => e = .returned (.tuple #[]) ∧ u' = .panicking [{ v := .iface 165 (.agg #[]), recovered := true }] ∧ w' = (w.setCell ⟨g, 0, none⟩ (.int .i64 2)).alloc (.cells #[] 165) := by
  have hlt := World.block_lt_of_cell? w _ hc
  have hta : ∀ w : World, (Instr.typeAssert (.iface 165 (.agg #[])) 20 165 true).run Tryd.prog w = .ok (.tuple #[.agg #[], .bool true]) w := fun _ => by kernel_rfl
  refine callsD_of_wpS Tryd.func59 rfl fun c₀ cs hu => ?_
  apply wpS_seq
  apply wpS_region
  simp [wpOpsS, go_sem, recoverD, hu, Tryd.ntmps59, Exit.thenS]
  refine wpS_of_wp ?_
  go_wp2
  cases c₀
  simp_all [bodyPostS, results, Tryd.results59]
/-- what part throws -/
def outChain : List PanicEntry := [{ v := .iface 165 (.agg #[]), recovered := false }]
set_option maxRecDepth 100000 in
set_option maxHeartbeats 2000000 in
theorem part_bad (g b : Nat) (ws : List Int) (at_ n : Int) (w : World) (h : ArB w g b ws) (hi : inL ws.length at_ n = false) :
    Calls Tryd.prog 60 #[.pointer (some ⟨g, 0, none⟩), .int .i64 at_, .int .i64 n] w fun e w' => e = .panicked outChain ∧ w = w' := by
  have HI := Lk.mk (hi ▸ ain_any g b ws at_ n w h)
  clear h hi
  go_enter Tryd.func60, Tryd.ntmps60
  go_wp2_with (go_at_call 102; (with_reducible refine (HI.out).mono ?_); rintro e w' ⟨rfl, rfl⟩)
  exact ⟨rfl, rfl, rfl⟩
set_option maxRecDepth 100000 in
set_option maxHeartbeats 2000000 in
theorem part_none (g b : Nat) (ws : List Int) (at_ : Int) (w : World) (h : ArB w g b ws) (hi : inL ws.length at_ 0 = true) :
    Calls Tryd.prog 60 #[.pointer (some ⟨g, 0, none⟩), .int .i64 at_, .int .i64 0] w fun e w' => e = .returned (.slice none 0 0) ∧ w = w' := by
  have HI := Lk.mk (hi ▸ ain_any g b ws at_ 0 w h)
  clear h hi
  go_enter Tryd.func60, Tryd.ntmps60
  go_wp2_with (go_at_call 102; (with_reducible refine (HI.out).mono ?_); rintro e w' ⟨rfl, rfl⟩)
  go_ret
  exact ⟨rfl, rfl⟩
set_option maxRecDepth 100000 in
set_option maxHeartbeats 2000000 in
theorem part_some (g b : Nat) (ws : List Int) (at_ n : Nat) (w : World) (h : ArB w g b ws) (hi : at_ + n ≤ ws.length) (hn : 0 < n) :
    Calls Tryd.prog 60 #[.pointer (some ⟨g, 0, none⟩), .int .i64 at_, .int .i64 n] w fun e w' => e = .returned (.slice (some ⟨b, at_, none⟩) n (ws.length - at_)) ∧ w = w' := by
  have hin : inL ws.length at_ n = true := by unfold inL; simp only [Bool.and_eq_true, decide_eq_true_eq]; omega
  have HI := Lk.mk (hin ▸ ain_any g b ws at_ n w h)
  have hc := h.head_
  have hl := h.len
  have hnz : ((n : Int) == 0) = false := by simp; omega
  clear h hin
  go_enter Tryd.func60, Tryd.ntmps60
  go_wp2_with (go_at_call 102; (with_reducible refine (HI.out).mono ?_); rintro e w' ⟨rfl, rfl⟩)
  go_ret
  exact ⟨by rw [← show at_ + n - at_ = n by omega]; simp, rfl⟩
theorem ArB.part {w : World} {g b : Nat} {ws : List Int} (h : ArB w g b ws) (at_ n : Nat) (hi : at_ + n ≤ ws.length) : ReadsInt w .u64 (some ⟨b, at_, none⟩) ((ws.drop at_).take n).length ((ws.drop at_).take n) := by
  have hl := h.len
  have e : ((ws.drop at_).take n).length = n := by rw [List.length_take, List.length_drop]; omega
  refine ⟨rfl, by omega, fun _ => ⟨_, rfl, fun j hj => ?_⟩⟩
  have ha : (⟨b, at_, none⟩ : Addr).add j = ⟨b, at_ + j, none⟩ := by unfold Addr.add; split <;> simp_all
  rw [ha, h.at_ (at_ + j) (by omega)]
  congr 2
  rw [List.getD_eq_getElem?_getD, List.getD_eq_getElem?_getD, List.getElem?_take, if_pos (by omega), List.getElem?_drop]
set_option maxRecDepth 100000 in
set_option maxHeartbeats 2000000 in
theorem row_ok (g b : Nat) (ws : List Int) (at_ n : Nat) (w : World) (h : ArB w g b ws) (hi : at_ + n ≤ ws.length) :
    Calls Tryd.prog 33 #[.pointer (some ⟨g, 0, none⟩), .int .i64 at_, .int .i64 n] w fun e w' => ∃ v, e = .returned (.tuple #[v, .int .i64 0]) ∧ w'.ownsRow w.heap.size 23 1 v ((ws.drop at_).take n).length (nums .u64 ((ws.drop at_).take n)) ∧ Below w.heap.size w w' := by
  have h0 : Below w.heap.size w (w.alloc (.cells #[.int .i64 0] 30)) := below_alloc (Below.refl _ _) _
  have hl := h.len
  have H0 := Lk.mk h0
  have HA := Lk.mk (h.below h0)
  by_cases hn : n = 0
  · subst hn
    have HP := Lk.mk (part_none g b ws at_ _ HA.out (by unfold inL; simp only [Bool.and_eq_true, decide_eq_true_eq]; omega))
    have HC := Lk.mk (clone64 none 0 [] (w.alloc (.cells #[.int .i64 0] 30)) ⟨rfl, by simp, fun h => by simp at h⟩ (by simp))
    rw [show ([] : List Int).length = 0 from rfl] at HC
    rw [List.take_zero, show ([] : List Int).length = 0 from rfl]
    clear h h0
    go_enter_defers Tryd.func33, Tryd.ntmps33
    go_wp2_with (first | (go_at_call 60; (with_reducible refine (HP.out).mono ?_); rintro e w' ⟨rfl, rfl⟩) | (go_at_call 53; (with_reducible refine (HC.out).mono ?_); rintro e w1 ⟨v, rfl, ho, hb⟩; have HO := Lk.mk ho; have HB := Lk.mk hb; have hE := blk_below (blk_new w (.cells #[.int .i64 0] 30)) hb; have hcE := blk_cell hE 0; have hzE := blk_frozen hE 0; have HE := Lk.mk hE; simp only [List.getElem?_toArray, List.getElem?_cons_zero] at hcE; clear ho hb hE))
    have hv := own_setCell (own_weaken HO.out (show w.heap.size ≤ _ from H0.out.size)) (p := ⟨w.heap.size, 0, none⟩) (fun e => by have := own_base HO.out w.heap.size e.symm; simp at this; omega) (.int .i64 0)
    have HV := Lk.mk hv
    clear hv
    refine leaves_cons (f := 59) (args := #[.pointer (some ⟨w.heap.size, 0, none⟩)]) (by simp) (by simp [go_sem]) ?_
    refine (caught_idle _ _).mono ?_
    rintro e u' w'' ⟨rfl, rfl, rfl⟩
    have hcE2 := blk_cell (blk_put (cs' := #[.int .i64 0]) HE.out 0 (.int .i64 0) rfl) 0
    simp only [List.getElem?_toArray, List.getElem?_cons_zero] at hcE2
    simp [Leaves, settle, results, Tryd.results33, go_sem]
    rw [hcE2]
    exact ⟨_, rfl, _, rfl, HV.out, (below_then H0.out H0.out.size HB.out).setCell (p := ⟨w.heap.size, 0, none⟩) (Nat.le_refl _) _⟩
  · have HP := Lk.mk (part_some g b ws at_ n _ HA.out hi (by omega))
    have hlen : ((ws.drop at_).take n).length = n := by rw [List.length_take, List.length_drop]; omega
    have hq := clone64 (some ⟨b, at_, none⟩) (ws.length - at_) ((ws.drop at_).take n) (w.alloc (.cells #[.int .i64 0] 30)) (HA.out.part at_ n hi) (by omega)
    rw [hlen] at hq
    have HC := Lk.mk hq
    rw [hlen]
    clear h h0 hq
    go_enter_defers Tryd.func33, Tryd.ntmps33
    go_wp2_with (first | (go_at_call 60; (with_reducible refine (HP.out).mono ?_); rintro e w' ⟨rfl, rfl⟩) | (go_at_call 53; (with_reducible refine (HC.out).mono ?_); rintro e w1 ⟨v, rfl, ho, hb⟩; have HO := Lk.mk ho; have HB := Lk.mk hb; have hE := blk_below (blk_new w (.cells #[.int .i64 0] 30)) hb; have hcE := blk_cell hE 0; have hzE := blk_frozen hE 0; have HE := Lk.mk hE; simp only [List.getElem?_toArray, List.getElem?_cons_zero] at hcE; clear ho hb hE))
    have hv := own_setCell (own_weaken HO.out (show w.heap.size ≤ _ from H0.out.size)) (p := ⟨w.heap.size, 0, none⟩) (fun e => by have := own_base HO.out w.heap.size e.symm; simp at this; omega) (.int .i64 0)
    have HV := Lk.mk hv
    clear hv
    refine leaves_cons (f := 59) (args := #[.pointer (some ⟨w.heap.size, 0, none⟩)]) (by simp) (by simp [go_sem]) ?_
    refine (caught_idle _ _).mono ?_
    rintro e u' w'' ⟨rfl, rfl, rfl⟩
    have hcE2 := blk_cell (blk_put (cs' := #[.int .i64 0]) HE.out 0 (.int .i64 0) rfl) 0
    simp only [List.getElem?_toArray, List.getElem?_cons_zero] at hcE2
    simp [Leaves, settle, results, Tryd.results33, go_sem]
    rw [hcE2]
    exact ⟨_, rfl, _, rfl, HV.out, (below_then H0.out H0.out.size HB.out).setCell (p := ⟨w.heap.size, 0, none⟩) (Nat.le_refl _) _⟩
set_option maxRecDepth 100000 in
set_option maxHeartbeats 2000000 in
theorem row_bad (g b : Nat) (ws : List Int) (at_ n : Int) (w : World) (h : ArB w g b ws) (hi : inL ws.length at_ n = false) :
    Calls Tryd.prog 33 #[.pointer (some ⟨g, 0, none⟩), .int .i64 at_, .int .i64 n] w fun e w' => e = .returned (.tuple #[.slice none 0 0, .int .i64 2]) ∧ Below w.heap.size w w' := by
  have h0 : Below w.heap.size w (w.alloc (.cells #[.int .i64 0] 30)) := below_alloc (Below.refl _ _) _
  have HP := Lk.mk (part_bad g b ws at_ n _ (h.below h0) hi)
  have HB := Lk.mk (below_alloc (h0.setCell (p := ⟨w.heap.size, 0, none⟩) (Nat.le_refl _) (.int .i64 2)) (.cells #[] 165))
  have HE := Lk.mk (blk_new w (.cells #[.int .i64 0] 30))
  clear h hi h0
  go_enter_defers Tryd.func33, Tryd.ntmps33
  go_wp2_with (go_at_call 60; (with_reducible refine (HP.out).mono ?_); rintro e w' ⟨rfl, rfl⟩)
  refine leaves_cons (f := 59) (args := #[.pointer (some ⟨w.heap.size, 0, none⟩)]) (by simp) (by simp [go_sem]) ?_
  refine (caught_thrown w.heap.size 0 _ ?_ ?_).mono ?_
  · rw [blk_cell HE.out 0]; rfl
  · exact blk_frozen HE.out 0
  rintro e u' w'' ⟨rfl, rfl, rfl⟩
  have hcE2 := blk_cell (blk_alloc (blk_put (cs' := #[.int .i64 2]) HE.out 0 (.int .i64 2) rfl) (.cells #[] 165)) 0
  simp only [List.getElem?_toArray, List.getElem?_cons_zero] at hcE2
  simp [Leaves, settle, results, Tryd.results33, go_sem]
  exact below_alloc (below_alloc (Below.refl _ _) _) _
end Go.Proofs.YtcepafllgjnngaaDoor

/-
  The walks of the arena's Store and Zero; conditions: the arena reads as told.
-/
namespace Go.Proofs.YtcepafllgjnngaaDoor
open Go.RowKit Go.Proofs.YtcepafllgjnngaaDoorW.PrintWords

def putW (ws : List Int) (a : Nat) (l : List Int) : List Int := ws.take a ++ (l ++ ws.drop (a + l.length))
theorem putW_length (ws : List Int) (a : Nat) (l : List Int) (h : a + l.length ≤ ws.length) : (putW ws a l).length = ws.length := by
  unfold putW; simp only [List.length_append, List.length_take, List.length_drop]; omega
theorem putW_nil (ws : List Int) (a : Nat) : putW ws a [] = ws := by
  unfold putW; simp
theorem putW_words {ws : List Int} {a : Nat} {l : List Int} (h : Bm.Words ws) (hl : Bm.Words l) : Bm.Words (putW ws a l) := by
  intro x hx
  unfold putW at hx
  rw [List.mem_append, List.mem_append] at hx
  rcases hx with hx | hx | hx
  · exact h x (List.mem_of_mem_take hx)
  · exact hl x hx
  · exact h x (List.mem_of_mem_drop hx)
theorem putW_nums (ws : List Int) (a : Nat) (l : List Int) : nums .u64 (putW ws a l) = (nums .u64 ws).take a ++ (nums .u64 l ++ (nums .u64 ws).drop (a + (nums .u64 l).length)) := by
  unfold putW nums
  rw [List.map_append, List.map_append, List.map_take, List.map_drop, List.length_map]
theorem ArB.wrote {w w' : World} {g b : Nat} {ws : List Int} (h : ArB w g b ws) (k : KeepW b w w') (a : Nat) (l : List Int) (ha : a + l.length ≤ ws.length) (hl : Bm.Words l) (hr : w'.heap[b]? = some (.cells (nums .u64 (putW ws a l)).toArray 23 (0, 0))) : ArB w' g b (putW ws a l) := by
  have e := putW_length ws a l ha
  refine ⟨?_, hr, putW_words h.words hl, by rw [e]; exact h.pos, by rw [e]; exact h.len⟩
  rw [k.block g (blk_lt h.head) h.ne, e]; exact h.head

/-- copy into the arena's words -/
theorem copy_arena {W : World} {ops : Array Oper} {rest : List Oper} {o : Oper} {a : Act} {Q : Exit → Act → World → Prop} (hgd : o.guard = none) (d s : Operand) (ho : o.op = .call { callee := .builtin .copy, args := #[d, s], argTypes := #[26, 26] })
    (g b : Nat) (ws : List Int) (at_ n cp : Nat) (A : Option Addr) (m c : Nat) (l : List Int) (hA : ArB W g b ws) (hn : 0 < l.length) (hd : a.eval d = .slice (some ⟨b, at_, none⟩) n cp) (hs : a.eval s = .slice A m c) (hm : l.length = Nat.min m n) (hr : ReadsInt W .u64 A l.length l) (hi : at_ + l.length ≤ ws.length)
    (h : ∀ W2, Lk (W2.heap[b]? = some (.cells (nums .u64 (putW ws at_ l)).toArray 23 (0, 0))) → Lk (KeepW b W W2) → wpList Tryd.prog ops Q rest (a.put o.dst (goInt l.length)) W2) : wpList Tryd.prog ops Q (o :: rest) a W := by
  obtain ⟨ad, rfl, _⟩ := hr.2.2 hn
  have hsrc : ∀ j v, (nums .u64 l)[j]? = some v → W.cell? (ad.add j) = some v := by
    intro j v hj
    have hjl : j < l.length := by
      rcases Nat.lt_or_ge j l.length with h | h
      · exact h
      · rw [List.getElem?_eq_none (by rw [nums_length]; exact h)] at hj; cases hj
    obtain ⟨ad', e, hc⟩ := hr.at_ (j : Int) (by omega) (by omega)
    obtain rfl := Option.some.inj e
    rw [Int.toNat_natCast] at hc
    rw [hc, ← hj, nums_get _ _ _ hjl, rd_getD]
  refine wpList_copy_own hgd d s 26 26 ho 23 Tryd.underlying26 (by kernel_rfl) b at_ n cp ad m c hd hs (nums .u64 ws).toArray 23 hA.row (nums .u64 l) (by rw [nums_length]; exact hm) hsrc (by rw [nums_length, List.size_toArray, nums_length]; exact hi) (by intro v hv; unfold nums at hv; obtain ⟨x, _, rfl⟩ := List.mem_map.1 hv; rfl) ?_
  rw [nums_length]
  refine h _ ⟨?_⟩ ⟨⟨rfl, rfl, rfl, by simp [World.setRow], fun k _ hk => setRow_other W b k _ hk⟩⟩
  rw [putW_nums, nums_length]
  exact setRow_heap W b _ _ _ _ hA.row

set_option maxRecDepth 100000 in
set_option maxHeartbeats 2000000 in
theorem store_bad (g b : Nat) (ws : List Int) (at_ : Int) (A : Option Addr) (c : Nat) (l : List Int) (w : World) (h : ArB w g b ws) (hr : ReadsInt w .u64 A l.length l) (hi : inL ws.length at_ l.length = false) :
    Calls Tryd.prog 22 #[.pointer (some ⟨g, 0, none⟩), .int .i64 at_, .slice A l.length c] w fun e w' => e = .returned (.int .i64 2) ∧ Below w.heap.size w w' := by
  have h0 : Below w.heap.size w (w.alloc (.cells #[.int .i64 0] 30)) := below_alloc (Below.refl _ _) _
  have HP := Lk.mk (part_bad g b ws at_ l.length _ (h.below h0) hi)
  have HE := Lk.mk (blk_new w (.cells #[.int .i64 0] 30))
  have hm := hr.2.1
  clear h hi h0 hr
  go_enter_defers Tryd.func22, Tryd.ntmps22
  go_wp2_with (go_at_call 60; (with_reducible refine (HP.out).mono ?_); rintro e w' ⟨rfl, rfl⟩)
  refine leaves_cons (f := 59) (args := #[.pointer (some ⟨w.heap.size, 0, none⟩)]) (by simp) (by simp [go_sem]) ?_
  refine (caught_thrown w.heap.size 0 _ ?_ ?_).mono ?_
  · rw [blk_cell HE.out 0]; rfl
  · exact blk_frozen HE.out 0
  rintro e u' w'' ⟨rfl, rfl, rfl⟩
  simp [Leaves, settle, results, Tryd.results22, go_sem]
  exact below_alloc (below_alloc (Below.refl _ _) _) _

set_option maxRecDepth 100000 in
set_option maxHeartbeats 2000000 in
theorem store_none (g b : Nat) (ws : List Int) (at_ : Int) (A : Option Addr) (c : Nat) (w : World) (h : ArB w g b ws) (hi : inL ws.length at_ 0 = true) :
    Calls Tryd.prog 22 #[.pointer (some ⟨g, 0, none⟩), .int .i64 at_, .slice A 0 c] w fun e w' => e = .returned (.int .i64 0) ∧ Below w.heap.size w w' := by
  have h0 : Below w.heap.size w (w.alloc (.cells #[.int .i64 0] 30)) := below_alloc (Below.refl _ _) _
  have HP := Lk.mk (part_none g b ws at_ _ (h.below h0) hi)
  have HE := Lk.mk (blk_new w (.cells #[.int .i64 0] 30))
  clear h hi h0
  go_enter_defers Tryd.func22, Tryd.ntmps22
  go_wp2_with (first | (go_at_call 60; (with_reducible refine (HP.out).mono ?_); rintro e w' ⟨rfl, rfl⟩) | (with_reducible refine wpList_copy_nothing rfl (.tmp 11) (.tmp 12) 26 26 rfl 23 Tryd.underlying26 (by kernel_rfl) none A 0 0 0 c rfl rfl rfl ?_))
  refine leaves_cons (f := 59) (args := #[.pointer (some ⟨w.heap.size, 0, none⟩)]) (by simp) (by simp [go_sem]) ?_
  refine (caught_idle _ _).mono ?_
  rintro e u' w'' ⟨rfl, rfl, rfl⟩
  simp [Leaves, settle, results, Tryd.results22, go_sem]
  exact below_alloc (Below.refl _ _) _

set_option maxRecDepth 100000 in
set_option maxHeartbeats 2000000 in
theorem store_some (g b : Nat) (ws : List Int) (at_ : Nat) (ad : Addr) (c : Nat) (l : List Int) (w : World) (h : ArB w g b ws) (hr : ReadsInt w .u64 (some ad) l.length l) (hw : Bm.Words l) (hi : at_ + l.length ≤ ws.length) (hn : 0 < l.length) :
    Calls Tryd.prog 22 #[.pointer (some ⟨g, 0, none⟩), .int .i64 at_, .slice (some ad) l.length c] w fun e w' => e = .returned (.int .i64 0) ∧ ArB w' g b (putW ws at_ l) ∧ KeepW b w w' := by
  have h0 : Below w.heap.size w (w.alloc (.cells #[.int .i64 0] 30)) := below_alloc (Below.refl _ _) _
  have hA := h.below h0
  have HP := Lk.mk (part_some g b ws at_ l.length _ hA hi hn)
  have HE := Lk.mk (blk_new w (.cells #[.int .i64 0] 30))
  have HR := Lk.mk (hr.below h0)
  have HA := Lk.mk hA
  have HW := Lk.mk hw
  have hm := hr.2.1
  have hbl := h.lt
  have HI := Lk.mk hi
  have HN := Lk.mk hn
  have HA0 := Lk.mk h
  clear h h0 hr hw hA
  go_enter_defers Tryd.func22, Tryd.ntmps22
  go_wp2_with (first | (go_at_call 60; (with_reducible refine (HP.out).mono ?_); rintro e w' ⟨rfl, rfl⟩) | ((with_reducible refine copy_arena rfl (.tmp 11) (.tmp 12) rfl g b ws at_ l.length (ws.length - at_) (some ad) l.length c l HA.out HN.out rfl rfl (Nat.min_self _).symm HR.out HI.out ?_); intro W2 HROW HK; have hE2 := (HK.out.block w.heap.size (blk_lt HE.out) (Nat.ne_of_gt hbl)).trans HE.out; have hcE := blk_cell hE2 0; have hzE := blk_frozen hE2 0; have HE2 := Lk.mk hE2; simp only [List.getElem?_toArray, List.getElem?_cons_zero] at hcE; clear hE2))
  refine leaves_cons (f := 59) (args := #[.pointer (some ⟨w.heap.size, 0, none⟩)]) (by simp) (by simp [go_sem]) ?_
  refine (caught_idle _ _).mono ?_
  rintro e u' w'' ⟨rfl, rfl, rfl⟩
  have hcE2 := blk_cell (blk_put (cs' := #[.int .i64 0]) HE2.out 0 (.int .i64 0) rfl) 0
  simp only [List.getElem?_toArray, List.getElem?_cons_zero] at hcE2
  have HK2 := (KeepW.of_below (below_alloc (Below.refl w.heap.size w) (.cells #[.int .i64 0] 30)) b).trans HK.out
  have HK3 : KeepW b w (W2.setCell ⟨w.heap.size, 0, none⟩ (.int .i64 0)) := ⟨HK2.os, HK2.tape, HK2.output, by simpa [World.setCell] using HK2.size, fun k hk hkb => (Below.heap_setCell W2 ⟨w.heap.size, 0, none⟩ _ k (by show k ≠ w.heap.size; omega)).trans (HK2.block k hk hkb)⟩
  simp [Leaves, settle, results, Tryd.results22, go_sem]
  rw [hcE2]
  exact ⟨_, rfl, rfl, HA0.out.wrote HK3 at_ l hi HW.out (blk_far HROW.out (p := ⟨w.heap.size, 0, none⟩) (Nat.ne_of_lt hbl) _), HK3⟩
theorem store_ok (g b : Nat) (ws : List Int) (at_ : Nat) (A : Option Addr) (c : Nat) (l : List Int) (w : World) (h : ArB w g b ws) (hr : ReadsInt w .u64 A l.length l) (hw : Bm.Words l) (hi : at_ + l.length ≤ ws.length) :
    Calls Tryd.prog 22 #[.pointer (some ⟨g, 0, none⟩), .int .i64 at_, .slice A l.length c] w fun e w' => e = .returned (.int .i64 0) ∧ ArB w' g b (putW ws at_ l) ∧ KeepW b w w' := by
  rcases Nat.eq_zero_or_pos l.length with h0 | h0
  · obtain rfl := List.eq_nil_of_length_eq_zero h0
    refine (store_none g b ws at_ A c w h (by unfold inL; simp only [Bool.and_eq_true, decide_eq_true_eq]; simp at hi; omega)).mono ?_
    rintro e w' ⟨rfl, hb⟩
    rw [putW_nil]
    exact ⟨rfl, h.below hb, KeepW.of_below hb b⟩
  · obtain ⟨ad, rfl, _⟩ := hr.2.2 h0
    exact store_some g b ws at_ ad c l w h hr hw hi h0
theorem zero64 (w : World) : (zeroValue 23).run Tryd.prog w = .ok (.int .u64 0) w := by kernel_rfl
theorem clear_arena {W : World} {g b : Nat} {ws : List Int} (hA : ArB W g b ws) (at_ n cp : Nat) (hn : 0 < n) (hi : at_ + n ≤ ws.length) :
    ∃ W2, (∀ ty, (Builtin.clear_ #[26] ty #[.slice (some ⟨b, at_, none⟩) n cp]).run Tryd.prog W = .ok (.tuple #[]) W2) ∧ W2.heap[b]? = some (.cells (nums .u64 (putW ws at_ (List.replicate n 0))).toArray 23 (0, 0)) ∧ KeepW b W W2 := by
  have hrow := hA.row
  have hlen : (nums .u64 ws).toArray.size = ws.length := by rw [List.size_toArray, nums_length]
  refine ⟨W.setCells b at_ (List.replicate n (.int .u64 0)), fun ty => Lib.run_clear_slice W 26 23 ty (.int .u64 0) Tryd.underlying26 zero64 rfl rfl b at_ n cp hn (fun j hj => ?_) (fun j hj => blk_frozen hrow _), ?_, ?_⟩
  · rw [hA.at_ (at_ + j) (by omega)]; rfl
  · obtain ⟨cur', h1, _, h3⟩ := setCells_row (List.replicate n (.int .u64 0)) at_ W _ hrow (by rw [List.length_replicate, hlen]; exact hi)
    rw [h1]
    have e1 : nums .u64 (List.replicate n 0) = List.replicate n (.int .u64 0) := by unfold nums; rw [List.map_replicate]
    have e : cur' = (nums .u64 (putW ws at_ (List.replicate n 0))).toArray := by
      rw [← Array.toArray_toList (xs := cur'), h3, putW_nums, nums_length, List.length_replicate, List.length_replicate, e1]
      simp
    rw [e]
  · obtain ⟨h1, h2, h3, h4⟩ := setCells_same b (List.replicate n (.int .u64 0)) at_ W
    exact ⟨h1, h2, h3, by rw [h4]; exact Nat.le_refl _, fun k _ hk => setCells_far _ _ k hk⟩
set_option maxRecDepth 100000 in
set_option maxHeartbeats 2000000 in
theorem zero_some (g b : Nat) (ws : List Int) (at_ n : Nat) (w : World) (h : ArB w g b ws) (hi : at_ + n ≤ ws.length) (hn : 0 < n) :
    Calls Tryd.prog 41 #[.pointer (some ⟨g, 0, none⟩), .int .i64 at_, .int .i64 n] w fun e w' => e = .returned (.int .i64 0) ∧ ArB w' g b (putW ws at_ (List.replicate n 0)) ∧ KeepW b w w' := by
  have h0 : Below w.heap.size w (w.alloc (.cells #[.int .i64 0] 30)) := below_alloc (Below.refl _ _) _
  have hA := h.below h0
  have HP := Lk.mk (part_some g b ws at_ n _ hA hi hn)
  have HE := Lk.mk (blk_new w (.cells #[.int .i64 0] 30))
  have hbl := h.lt
  obtain ⟨W2, hcl, hrow, hk⟩ := clear_arena hA at_ n (ws.length - at_) hn hi
  have hE2 := (hk.block w.heap.size (blk_lt HE.out) (Nat.ne_of_gt hbl)).trans HE.out
  have hcE := blk_cell hE2 0
  have hzE := blk_frozen hE2 0
  have HE2 := Lk.mk hE2
  simp only [List.getElem?_toArray, List.getElem?_cons_zero] at hcE
  have HK := Lk.mk hk
  have HROW := Lk.mk hrow
  have HA0 := Lk.mk h
  clear h h0 hA hE2 hk hrow
  go_enter_defers Tryd.func41, Tryd.ntmps41
  go_wp2_with (go_at_call 60; (with_reducible refine (HP.out).mono ?_); rintro e w' ⟨rfl, rfl⟩)
  refine leaves_cons (f := 59) (args := #[.pointer (some ⟨w.heap.size, 0, none⟩)]) (by simp) (by simp [go_sem]) ?_
  refine (caught_idle _ _).mono ?_
  rintro e u' w'' ⟨rfl, rfl, rfl⟩
  have hcE2 := blk_cell (blk_put (cs' := #[.int .i64 0]) HE2.out 0 (.int .i64 0) rfl) 0
  simp only [List.getElem?_toArray, List.getElem?_cons_zero] at hcE2
  have HK2 := (KeepW.of_below (below_alloc (Below.refl w.heap.size w) (.cells #[.int .i64 0] 30)) b).trans HK.out
  have HK3 : KeepW b w (W2.setCell ⟨w.heap.size, 0, none⟩ (.int .i64 0)) := ⟨HK2.os, HK2.tape, HK2.output, by simpa [World.setCell] using HK2.size, fun k hk hkb => (Below.heap_setCell W2 ⟨w.heap.size, 0, none⟩ _ k (by show k ≠ w.heap.size; omega)).trans (HK2.block k hk hkb)⟩
  simp [Leaves, settle, results, Tryd.results41, go_sem]
  rw [hcE2]
  exact ⟨_, rfl, rfl, HA0.out.wrote HK3 at_ _ (by rw [List.length_replicate]; exact hi) (words_zero _) (blk_far HROW.out (p := ⟨w.heap.size, 0, none⟩) (Nat.ne_of_lt hbl) _), HK3⟩
end Go.Proofs.YtcepafllgjnngaaDoor

/-
  The walks of frame.word, frame.End, frame.Read and of the reference's; conditions: the arena and the table read as told.
-/
namespace Go.Proofs.YtcepafllgjnngaaDoor
open Go.RowKit Go.Proofs.YtcepafllgjnngaaDoorW.PrintWords

/-- a base as a link -/
def linkW (n : Int) : Int := (if n < -1 then -1 else n) + 1
set_option maxRecDepth 100000 in
set_option maxHeartbeats 2000000 in
theorem end_any (p : Value) (ent : List (Int × (List Int × List Int))) (x : Sl.Fr) (w : World) (h : TblOr w p ent) (hx : -1099511627776 ≤ x.1 ∧ x.1 ≤ 1099511627776) (he : EntIn ent) :
    Calls Tryd.prog 164 #[p, .agg #[.int .i64 x.1, .int .i64 x.2.1, .int .i64 x.2.2]] w fun e w' => e = .returned (.int .i64 (if tWords ent x.2.1 < 0 then -1 else x.1 + tWords ent x.2.1)) ∧ Below w.heap.size w w' := by
  obtain ⟨a, f, k⟩ := x
  have h0 : Below w.heap.size w (w.alloc (.cells #[.int .i64 a, .int .i64 f, .int .i64 k] 79)) := below_alloc (Below.refl _ _) _
  have HS := Lk.mk (words_any p ent f _ (h.below h0) (fun e hm => ⟨by have := (he e hm).1; omega, by have := (he e hm).2; omega⟩))
  have H0 := Lk.mk h0
  have hw : -1 ≤ tWords ent f ∧ tWords ent f ≤ 1002 := by
    unfold tWords
    cases hf : tHas ent f with
    | false => simp
    | true =>
      have h1 := tHas_true hf
      have := he (ent.getD f.toNat dE) (getD_mem _ (by omega))
      rw [if_pos rfl]; omega
  dsimp only at hx ⊢
  generalize tWords ent f = n at *
  clear h h0 he
  go_enter Tryd.func164, Tryd.ntmps164
  go_wp2_with (go_at_call 48; (with_reducible refine (HS.out).mono ?_); rintro e w' ⟨rfl, hw⟩; obtain rfl := hw.symm; clear hw)
  all_goals go_ret
  all_goals refine ⟨ret_int ?_, H0.out⟩
  all_goals (first | rfl | (rw [if_pos (by omega)]) | (rw [if_neg (by omega)]) | (split <;> omega))

theorem two_of (ws : List Int) (a : Nat) (h : a + 2 ≤ ws.length) : (ws.drop a).take 2 = [ws.getD a 0, ws.getD (a + 1) 0] := by
  apply List.ext_getElem
  · simp; omega
  · intro i h1 h2
    have hi : i = 0 ∨ i = 1 := by simp at h2; omega
    rcases hi with rfl | rfl
    · simp [List.getD_eq_getElem?_getD, List.getElem?_eq_getElem (show a < ws.length by omega)]
    · simp [List.getD_eq_getElem?_getD, List.getElem?_eq_getElem (show a + 1 < ws.length by omega)]
/-- the frame's own block, zeros -/
theorem fr0 (w : World) {w1 : World} (hb : Below (w.alloc (.cells #[.int .i64 0, .int .i64 0, .int .i64 0] 79)).heap.size (w.alloc (.cells #[.int .i64 0, .int .i64 0, .int .i64 0] 79)) w1) : w1.heap[w.heap.size]? = some (.cells #[.int .i64 0, .int .i64 0, .int .i64 0] 79 (0, 0)) := blk_below (blk_new w _) hb
theorem cells3 {w : World} {g : Nat} {t : TypeId} {a b c : Value} (h : w.heap[g]? = some (.cells #[a, b, c] t (0, 0))) : w.cell? ⟨g, 0, none⟩ = some a ∧ w.cell? ⟨g, 1, none⟩ = some b ∧ w.cell? ⟨g, 2, none⟩ = some c ∧ w.frozen? ⟨g, 0, none⟩ = false ∧ w.frozen? ⟨g, 1, none⟩ = false ∧ w.frozen? ⟨g, 2, none⟩ = false :=
  ⟨by rw [blk_cell h 0]; rfl, by rw [blk_cell h 1]; rfl, by rw [blk_cell h 2]; rfl, blk_frozen h 0, blk_frozen h 1, blk_frozen h 2⟩
theorem set3 {w : World} {g : Nat} {t : TypeId} {a b c : Value} (h : w.heap[g]? = some (.cells #[a, b, c] t (0, 0))) (a' b' c' : Value) : (((w.setCell ⟨g, 0, none⟩ a').setCell ⟨g, 1, none⟩ b').setCell ⟨g, 2, none⟩ c').heap[g]? = some (.cells #[a', b', c'] t (0, 0)) :=
  blk_put (blk_put (blk_put h 0 a' rfl) 1 b' rfl) 2 c' rfl
theorem below3 {w w1 : World} (h : Below w.heap.size w w1) (a' b' c' : Value) : Below w.heap.size w (((w1.setCell ⟨w.heap.size, 0, none⟩ a').setCell ⟨w.heap.size, 1, none⟩ b').setCell ⟨w.heap.size, 2, none⟩ c') :=
  ((h.setCell (p := ⟨w.heap.size, 0, none⟩) (Nat.le_refl _) _).setCell (p := ⟨w.heap.size, 1, none⟩) (Nat.le_refl _) _).setCell (p := ⟨w.heap.size, 2, none⟩) (Nat.le_refl _) _
set_option maxRecDepth 100000 in
set_option maxHeartbeats 2000000 in
theorem read_out (g b : Nat) (ws : List Int) (p : Value) (at_ : Int) (w : World) (h : ArB w g b ws) (hi : ¬ (0 ≤ at_ ∧ at_ + 2 ≤ ws.length)) :
    Calls Tryd.prog 163 #[.pointer (some ⟨g, 0, none⟩), p, .int .i64 at_] w fun e w' => e = .returned (.tuple #[.agg #[.int .i64 0, .int .i64 0, .int .i64 0], .int .i64 2]) ∧ Below w.heap.size w w' := by
  have hin : inL ws.length at_ 2 = false := by
    cases hq : inL ws.length at_ 2 with
    | false => rfl
    | true => have := inL_true hq; omega
  have h0 : Below w.heap.size w (w.alloc (.cells #[.int .i64 0, .int .i64 0, .int .i64 0] 79)) := below_alloc (Below.refl _ _) _
  have HR := Lk.mk (row_bad g b ws at_ 2 _ (h.below h0) hin)
  have H0 := Lk.mk h0
  clear h hin h0
  go_enter Tryd.func163, Tryd.ntmps163
  go_wp2_with (go_at_call 33; (with_reducible refine (HR.out).mono ?_); rintro e w1 ⟨rfl, hb⟩; have HB := Lk.mk (below_then H0.out H0.out.size hb); obtain ⟨c0, c1, c2, z0, z1, z2⟩ := cells3 (fr0 w hb); have HE := Lk.mk (fr0 w hb); clear hb)
  exact bodyPost_ret (results_ct Tryd.results163 _ _ w.heap.size 79 #[.int .i64 0, .int .i64 0, .int .i64 0] (0, 0) _ rfl (set3 HE.out _ _ _) Tryd.underlying79 rfl (by kernel_rfl)) rfl ⟨rfl, below3 HB.out _ _ _⟩
/-- what stands at an address is a frame -/
def RdOk (ws : List Int) (ent : List (Int × (List Int × List Int))) (a : Nat) : Prop := ws.getD a 0 ≤ ws.length ∧ 1 ≤ ws.getD (a + 1) 0 ∧ ws.getD (a + 1) 0 ≤ ent.length ∧ (a : Int) + tWords ent (ws.getD (a + 1) 0 - 1) ≤ ws.length
set_option maxRecDepth 100000 in
set_option maxHeartbeats 2000000 in
theorem read_ok (g b : Nat) (ws : List Int) (p : Value) (ent : List (Int × (List Int × List Int))) (a : Nat) (w : World) (h : ArB w g b ws) (ht : TblOr w p ent) (he : EntIn ent) (hi : a + 2 ≤ ws.length) (ho : RdOk ws ent a) :
    Calls Tryd.prog 163 #[.pointer (some ⟨g, 0, none⟩), p, .int .i64 a] w fun e w' => e = .returned (.tuple #[.agg #[.int .i64 a, .int .i64 (ws.getD (a + 1) 0 - 1), .int .i64 (ws.getD a 0 - 1)], .int .i64 0]) ∧ Below w.heap.size w w' := by
  obtain ⟨o1, o2, o3, o4⟩ := ho
  have hl := h.len
  have hx0 := Bm.word_nn h.words a
  have h0 : Below w.heap.size w (w.alloc (.cells #[.int .i64 0, .int .i64 0, .int .i64 0] 79)) := below_alloc (Below.refl _ _) _
  have hrow := row_ok g b ws a 2 _ (h.below h0) hi
  rw [two_of ws a hi, show (((2 : Nat)) : Int) = 2 from rfl] at hrow
  have HR := Lk.mk hrow
  have H0 := Lk.mk h0
  have HL := Lk.mk (fun W (hb : Below w.heap.size w W) => len_any p ent W (ht.below hb))
  have HW := Lk.mk (fun W (hb : Below w.heap.size w W) => awords_any g b ws W (h.below hb))
  have HTW := Lk.mk (fun W (hb : Below w.heap.size w W) => words_any p ent (ws.getD (a + 1) 0 - 1) W (ht.below hb) (fun e hm => ⟨by have := (he e hm).1; omega, by have := (he e hm).2; omega⟩))
  have HIN := Lk.mk (fun W (hb : Below w.heap.size w W) => ain_any g b ws a (tWords ent (ws.getD (a + 1) 0 - 1)) W (h.below hb))
  have hel : ent.length ≤ 9223372036854775807 := by
    rcases ht with ⟨_, rfl⟩ | ⟨_, _, _, _, _, _, hC⟩
    · simp
    · exact (kE_len hC).2
  have hn : 1 ≤ ws.getD (a + 1) 0 → ws.getD (a + 1) 0 ≤ ent.length → 2 ≤ tWords ent (ws.getD (a + 1) 0 - 1) := by
    intro o2 o3
    unfold tWords
    have hh : tHas ent (ws.getD (a + 1) 0 - 1) = true := by unfold tHas; simp only [Bool.and_eq_true, decide_eq_true_eq]; omega
    rw [if_pos hh]
    have := he (ent.getD (ws.getD (a + 1) 0 - 1).toNat dE) (getD_mem _ (by omega))
    omega
  have hin : inL ws.length a (tWords ent (ws.getD (a + 1) 0 - 1)) = true := by have := hn o2 o3; unfold inL; simp only [Bool.and_eq_true, decide_eq_true_eq]; omega
  rw [hin] at HIN
  clear h ht he hrow hin hn h0
  generalize tWords ent (ws.getD (a + 1) 0 - 1) = tw at *
  generalize ws.getD (a + 1) 0 = f at *
  generalize ws.getD a 0 = k at *
  go_enter Tryd.func163, Tryd.ntmps163
  go_wp2_with (go_at_call 33; (with_reducible refine (HR.out).mono ?_); rintro e w1 ⟨v, rfl, ho, hb⟩; obtain ⟨g1, c1, rfl, _, _⟩ := ho.form (by simp); have HB0 := Lk.mk (below_then H0.out H0.out.size hb); have HB := Lk.mk (below_drew HB0.out); have HE := Lk.mk (fr0 w hb); have hc0 := (own_at ho 0 (by decide) (by simp)).1; have hc1 := (own_at ho 1 (by decide) (by simp)).1; clear hb ho; simp only [show rd [k, f] 0 = k from rfl, show rd [k, f] 1 = f from rfl, show (0 : Int).toNat = 0 from rfl, show (1 : Int).toNat = 1 from rfl] at hc0 hc1)
  have hd0 := pw_cell_below (below_drew (Below.refl w1.heap.size w1)) hc0
  have hd1 := pw_cell_below (below_drew (Below.refl w1.heap.size w1)) hc1
  go_region
  clear hc0 hc1 hd0 hd1
  obtain ⟨c0, c1, c2, z0, z1, z2⟩ := cells3 HE.out
  go_wp2_with (first
    | (go_at_call 52; (with_reducible refine (HL.out _ HB.out).mono ?_); rintro e w' ⟨rfl, hw⟩; obtain rfl := hw.symm; clear hw)
    | (go_at_call 148; (with_reducible refine (HW.out _ HB.out).mono ?_); rintro e w' ⟨rfl, rfl⟩)
    | (go_at_call 48; (with_reducible refine (HTW.out _ HB.out).mono ?_); rintro e w' ⟨rfl, hw⟩; obtain rfl := hw.symm; clear hw)
    | (go_at_call 102; (with_reducible refine (HIN.out _ HB.out).mono ?_); rintro e w' ⟨rfl, rfl⟩))
  exact bodyPost_ret (results_ct Tryd.results163 _ _ w.heap.size 79 #[.int .i64 a, .int .i64 (f - 1), .int .i64 (k - 1)] (0, 0) _ rfl (blk_drew (set3 HE.out _ _ _)) Tryd.underlying79 rfl (by kernel_rfl)) rfl ⟨rfl, below_drew (below3 HB0.out _ _ _)⟩
set_option maxRecDepth 100000 in
set_option maxHeartbeats 2000000 in
theorem read_bad (g b : Nat) (ws : List Int) (p : Value) (ent : List (Int × (List Int × List Int))) (a : Nat) (w : World) (h : ArB w g b ws) (ht : TblOr w p ent) (he : EntIn ent) (hi : a + 2 ≤ ws.length) (ho : ¬ RdOk ws ent a) :
    Calls Tryd.prog 163 #[.pointer (some ⟨g, 0, none⟩), p, .int .i64 a] w fun e w' => e = .returned (.tuple #[.agg #[.int .i64 0, .int .i64 0, .int .i64 0], .int .i64 9]) ∧ Below w.heap.size w w' := by
  have hl := h.len
  have hx0 := Bm.word_nn h.words a
  have hx1 := Bm.word_nn h.words (a + 1)
  have h0 : Below w.heap.size w (w.alloc (.cells #[.int .i64 0, .int .i64 0, .int .i64 0] 79)) := below_alloc (Below.refl _ _) _
  have hrow := row_ok g b ws a 2 _ (h.below h0) hi
  rw [two_of ws a hi, show (((2 : Nat)) : Int) = 2 from rfl] at hrow
  have HR := Lk.mk hrow
  have H0 := Lk.mk h0
  have HL := Lk.mk (fun W (hb : Below w.heap.size w W) => len_any p ent W (ht.below hb))
  have HW := Lk.mk (fun W (hb : Below w.heap.size w W) => awords_any g b ws W (h.below hb))
  have HTW := Lk.mk (fun W (hb : Below w.heap.size w W) => words_any p ent (ws.getD (a + 1) 0 - 1) W (ht.below hb) (fun e hm => ⟨by have := (he e hm).1; omega, by have := (he e hm).2; omega⟩))
  have HIN := Lk.mk (fun W (hb : Below w.heap.size w W) => ain_any g b ws a (tWords ent (ws.getD (a + 1) 0 - 1)) W (h.below hb))
  have hel : ent.length ≤ 9223372036854775807 := by
    rcases ht with ⟨_, rfl⟩ | ⟨_, _, _, _, _, _, hC⟩
    · simp
    · exact (kE_len hC).2
  have hn : 1 ≤ ws.getD (a + 1) 0 → ws.getD (a + 1) 0 ≤ ent.length → 2 ≤ tWords ent (ws.getD (a + 1) 0 - 1) := by
    intro o2 o3
    unfold tWords
    have hh : tHas ent (ws.getD (a + 1) 0 - 1) = true := by unfold tHas; simp only [Bool.and_eq_true, decide_eq_true_eq]; omega
    rw [if_pos hh]
    have := he (ent.getD (ws.getD (a + 1) 0 - 1).toNat dE) (getD_mem _ (by omega))
    omega
  have hrd : ¬ (ws.getD a 0 ≤ ws.length ∧ 1 ≤ ws.getD (a + 1) 0 ∧ ws.getD (a + 1) 0 ≤ ent.length ∧ (a : Int) + tWords ent (ws.getD (a + 1) 0 - 1) ≤ ws.length) := ho
  have hin : 1 ≤ ws.getD (a + 1) 0 → ws.getD (a + 1) 0 ≤ ent.length → ws.getD a 0 ≤ ws.length → inL ws.length a (tWords ent (ws.getD (a + 1) 0 - 1)) = false := by
    intro q1 q2 q3
    cases hq : inL ws.length a (tWords ent (ws.getD (a + 1) 0 - 1)) with
    | false => rfl
    | true => have := inL_true hq; have := hn q1 q2; exact absurd ⟨q3, q1, q2, by omega⟩ hrd
  clear hrd
  clear h ht he hrow hn h0
  generalize tWords ent (ws.getD (a + 1) 0 - 1) = tw at *
  generalize ws.getD (a + 1) 0 = f at *
  generalize ws.getD a 0 = k at *
  by_cases q1 : f < 1
  · clear hin
    go_enter Tryd.func163, Tryd.ntmps163
    go_wp2_with (go_at_call 33; (with_reducible refine (HR.out).mono ?_); rintro e w1 ⟨v, rfl, ho, hb⟩; obtain ⟨g1, c1, rfl, _, _⟩ := ho.form (by simp); have HB0 := Lk.mk (below_then H0.out H0.out.size hb); have HB := Lk.mk (below_drew HB0.out); have HE := Lk.mk (fr0 w hb); have hc0 := (own_at ho 0 (by decide) (by simp)).1; have hc1 := (own_at ho 1 (by decide) (by simp)).1; clear hb ho; simp only [show rd [k, f] 0 = k from rfl, show rd [k, f] 1 = f from rfl, show (0 : Int).toNat = 0 from rfl, show (1 : Int).toNat = 1 from rfl] at hc0 hc1)
    have hd0 := pw_cell_below (below_drew (Below.refl w1.heap.size w1)) hc0
    have hd1 := pw_cell_below (below_drew (Below.refl w1.heap.size w1)) hc1
    go_region
    clear hc0 hc1 hd0 hd1
    obtain ⟨c0, c1, c2, z0, z1, z2⟩ := cells3 HE.out
    go_wp2_with (first
      | (go_at_call 52; (with_reducible refine (HL.out _ HB.out).mono ?_); rintro e w' ⟨rfl, hw⟩; obtain rfl := hw.symm; clear hw)
      | (go_at_call 148; (with_reducible refine (HW.out _ HB.out).mono ?_); rintro e w' ⟨rfl, rfl⟩)
      | (go_at_call 48; (with_reducible refine (HTW.out _ HB.out).mono ?_); rintro e w' ⟨rfl, hw⟩; obtain rfl := hw.symm; clear hw)
      | (go_at_call 102; (with_reducible refine (HIN.out _ HB.out).mono ?_); rintro e w' ⟨rfl, rfl⟩))
    exact bodyPost_ret (results_ct Tryd.results163 _ _ w.heap.size 79 #[.int .i64 0, .int .i64 0, .int .i64 0] (0, 0) _ rfl (blk_drew (set3 HE.out _ _ _)) Tryd.underlying79 rfl (by kernel_rfl)) rfl ⟨rfl, below_drew (below3 HB0.out _ _ _)⟩
  · by_cases q2 : (ent.length : Int) < f
    · clear hin
      go_enter Tryd.func163, Tryd.ntmps163
      go_wp2_with (go_at_call 33; (with_reducible refine (HR.out).mono ?_); rintro e w1 ⟨v, rfl, ho, hb⟩; obtain ⟨g1, c1, rfl, _, _⟩ := ho.form (by simp); have HB0 := Lk.mk (below_then H0.out H0.out.size hb); have HB := Lk.mk (below_drew HB0.out); have HE := Lk.mk (fr0 w hb); have hc0 := (own_at ho 0 (by decide) (by simp)).1; have hc1 := (own_at ho 1 (by decide) (by simp)).1; clear hb ho; simp only [show rd [k, f] 0 = k from rfl, show rd [k, f] 1 = f from rfl, show (0 : Int).toNat = 0 from rfl, show (1 : Int).toNat = 1 from rfl] at hc0 hc1)
      have hd0 := pw_cell_below (below_drew (Below.refl w1.heap.size w1)) hc0
      have hd1 := pw_cell_below (below_drew (Below.refl w1.heap.size w1)) hc1
      go_region
      clear hc0 hc1 hd0 hd1
      obtain ⟨c0, c1, c2, z0, z1, z2⟩ := cells3 HE.out
      go_wp2_with (first
        | (go_at_call 52; (with_reducible refine (HL.out _ HB.out).mono ?_); rintro e w' ⟨rfl, hw⟩; obtain rfl := hw.symm; clear hw)
        | (go_at_call 148; (with_reducible refine (HW.out _ HB.out).mono ?_); rintro e w' ⟨rfl, rfl⟩)
        | (go_at_call 48; (with_reducible refine (HTW.out _ HB.out).mono ?_); rintro e w' ⟨rfl, hw⟩; obtain rfl := hw.symm; clear hw)
        | (go_at_call 102; (with_reducible refine (HIN.out _ HB.out).mono ?_); rintro e w' ⟨rfl, rfl⟩))
      exact bodyPost_ret (results_ct Tryd.results163 _ _ w.heap.size 79 #[.int .i64 0, .int .i64 0, .int .i64 0] (0, 0) _ rfl (blk_drew (set3 HE.out _ _ _)) Tryd.underlying79 rfl (by kernel_rfl)) rfl ⟨rfl, below_drew (below3 HB0.out _ _ _)⟩
    · by_cases q3 : (ws.length : Int) < k
      · clear hin
        go_enter Tryd.func163, Tryd.ntmps163
        go_wp2_with (go_at_call 33; (with_reducible refine (HR.out).mono ?_); rintro e w1 ⟨v, rfl, ho, hb⟩; obtain ⟨g1, c1, rfl, _, _⟩ := ho.form (by simp); have HB0 := Lk.mk (below_then H0.out H0.out.size hb); have HB := Lk.mk (below_drew HB0.out); have HE := Lk.mk (fr0 w hb); have hc0 := (own_at ho 0 (by decide) (by simp)).1; have hc1 := (own_at ho 1 (by decide) (by simp)).1; clear hb ho; simp only [show rd [k, f] 0 = k from rfl, show rd [k, f] 1 = f from rfl, show (0 : Int).toNat = 0 from rfl, show (1 : Int).toNat = 1 from rfl] at hc0 hc1)
        have hd0 := pw_cell_below (below_drew (Below.refl w1.heap.size w1)) hc0
        have hd1 := pw_cell_below (below_drew (Below.refl w1.heap.size w1)) hc1
        go_region
        clear hc0 hc1 hd0 hd1
        obtain ⟨c0, c1, c2, z0, z1, z2⟩ := cells3 HE.out
        go_wp2_with (first
          | (go_at_call 52; (with_reducible refine (HL.out _ HB.out).mono ?_); rintro e w' ⟨rfl, hw⟩; obtain rfl := hw.symm; clear hw)
          | (go_at_call 148; (with_reducible refine (HW.out _ HB.out).mono ?_); rintro e w' ⟨rfl, rfl⟩)
          | (go_at_call 48; (with_reducible refine (HTW.out _ HB.out).mono ?_); rintro e w' ⟨rfl, hw⟩; obtain rfl := hw.symm; clear hw)
          | (go_at_call 102; (with_reducible refine (HIN.out _ HB.out).mono ?_); rintro e w' ⟨rfl, rfl⟩))
        exact bodyPost_ret (results_ct Tryd.results163 _ _ w.heap.size 79 #[.int .i64 0, .int .i64 0, .int .i64 0] (0, 0) _ rfl (blk_drew (set3 HE.out _ _ _)) Tryd.underlying79 rfl (by kernel_rfl)) rfl ⟨rfl, below_drew (below3 HB0.out _ _ _)⟩
      · rw [hin (by omega) (by omega) (by omega)] at HIN
        clear hin
        go_enter Tryd.func163, Tryd.ntmps163
        go_wp2_with (go_at_call 33; (with_reducible refine (HR.out).mono ?_); rintro e w1 ⟨v, rfl, ho, hb⟩; obtain ⟨g1, c1, rfl, _, _⟩ := ho.form (by simp); have HB0 := Lk.mk (below_then H0.out H0.out.size hb); have HB := Lk.mk (below_drew HB0.out); have HE := Lk.mk (fr0 w hb); have hc0 := (own_at ho 0 (by decide) (by simp)).1; have hc1 := (own_at ho 1 (by decide) (by simp)).1; clear hb ho; simp only [show rd [k, f] 0 = k from rfl, show rd [k, f] 1 = f from rfl, show (0 : Int).toNat = 0 from rfl, show (1 : Int).toNat = 1 from rfl] at hc0 hc1)
        have hd0 := pw_cell_below (below_drew (Below.refl w1.heap.size w1)) hc0
        have hd1 := pw_cell_below (below_drew (Below.refl w1.heap.size w1)) hc1
        go_region
        clear hc0 hc1 hd0 hd1
        obtain ⟨c0, c1, c2, z0, z1, z2⟩ := cells3 HE.out
        go_wp2_with (first
          | (go_at_call 52; (with_reducible refine (HL.out _ HB.out).mono ?_); rintro e w' ⟨rfl, hw⟩; obtain rfl := hw.symm; clear hw)
          | (go_at_call 148; (with_reducible refine (HW.out _ HB.out).mono ?_); rintro e w' ⟨rfl, rfl⟩)
          | (go_at_call 48; (with_reducible refine (HTW.out _ HB.out).mono ?_); rintro e w' ⟨rfl, hw⟩; obtain rfl := hw.symm; clear hw)
          | (go_at_call 102; (with_reducible refine (HIN.out _ HB.out).mono ?_); rintro e w' ⟨rfl, rfl⟩))
        exact bodyPost_ret (results_ct Tryd.results163 _ _ w.heap.size 79 #[.int .i64 0, .int .i64 0, .int .i64 0] (0, 0) _ rfl (blk_drew (set3 HE.out _ _ _)) Tryd.underlying79 rfl (by kernel_rfl)) rfl ⟨rfl, below_drew (below3 HB0.out _ _ _)⟩
end Go.Proofs.YtcepafllgjnngaaDoor

/-
  The walk of frame.Push; conditions: the arena and the table read as told.
-/
namespace Go.Proofs.YtcepafllgjnngaaDoor
open Go.RowKit Go.Proofs.YtcepafllgjnngaaDoorW.PrintWords

/-- the words behind a push -/
def pushW (ws : List Int) (base n : Nat) (link f : Int) : List Int := putW (putW ws base (List.replicate n 0)) base [linkW link, f + 1]
end Go.Proofs.YtcepafllgjnngaaDoor

/-
  The walk of the frames' awake; conditions: the table of deBruijn stands.
-/
namespace Go.Proofs.YtcepafllgjnngaaDoor
open Go.RowKit Go.Proofs.YtcepafllgjnngaaDoorW.PrintWords

theorem tbl_stab {b : Nat} {w w' : World} {p : Value} {ents : List (Int × (List Int × List Int))} (h : ∀ W : World, (∀ k, w.heap.size ≤ k → k < w'.heap.size → W.heap[k]? = w'.heap[k]?) → TblAt W p ents) (hb : b < w.heap.size) : Stab b (TblAt · p ents) w' :=
  fun W k => h W (fun j h1 h2 => k.block j h2 (by omega))
def awW : List Int := pushW (List.replicate (64 * 4) 0) 59 5 (-1) 0
def entS : List (Int × (List Int × List Int)) := lS.map entryOf
theorem awW_rd : RdOk awW entS 59 := by
  refine ⟨?_, ?_, ?_, ?_⟩ <;> decide +kernel
theorem aR14 (g b : Nat) (p : Value) (w : World) (h : ArB w g b awW) (ht : TblOr w p entS) : Calls Tryd.prog 163 #[.pointer (some ⟨g, 0, none⟩), p, .int .i64 59] w fun e w' => e = .returned (.tuple #[.agg #[.int .i64 59, .int .i64 0, .int .i64 (-1)], .int .i64 0]) ∧ Below w.heap.size w w' :=
  read_ok g b awW p entS 59 w h ht tS.2 (by decide +kernel) awW_rd
end Go.Proofs.YtcepafllgjnngaaDoor

/-
  The walks of the words' reference: In, Store; conditions: what is handed in reads as told.
-/
namespace Go.Proofs.YtcepafllgjnngaaDoor
open Go.RowKit Go.Proofs.YtcepafllgjnngaaDoorW.PrintWords

set_option maxRecDepth 100000 in
set_option maxHeartbeats 2000000 in
theorem refIn04_any (A : Option Addr) (c m : Nat) (at_ n : Int) (w : World) (hm : m ≤ 9223372036854775807) : Calls Tryd.prog 58 #[.slice A m c, .int .i64 at_, .int .i64 n] w fun e w' => e = .returned (.bool (inL m at_ n)) ∧ w' = w := by
  have H := Lk.mk (show inL m at_ n = (decide (0 ≤ n) && decide (0 ≤ at_) && decide (at_ ≤ m) && decide (n ≤ m - at_)) from rfl)
  generalize inL m at_ n = r at *
  go_enter Tryd.func58, Tryd.ntmps58
  go_wp2
  all_goals go_ret
  all_goals refine ⟨ret_bool ?_, rfl⟩
  all_goals rw [H.out]
  all_goals clear H
  all_goals simp_all
  all_goals (first | omega | (intro _; omega) | done)
theorem rdk (l : List Int) (k : Nat) : rd l k = l.getD k 0 := by unfold rd; rw [Int.toNat_natCast]
/-- the words while they are being written -/
def midW (ws l : List Int) (k : Nat) : List Int := l.take k ++ ws.drop k
theorem midW_length (ws l : List Int) (k : Nat) (hk : k ≤ l.length) (hl : l.length ≤ ws.length) : (midW ws l k).length = ws.length := by
  unfold midW; simp; omega
theorem midW_next (ws l : List Int) (k : Nat) (hk : k < l.length) (hl : l.length ≤ ws.length) : (midW ws l k).set k (l.getD k 0) = midW ws l (k + 1) := by
  unfold midW
  apply List.ext_getElem?
  intro i
  rw [List.getElem?_set]
  simp only [List.getElem?_append, List.length_append, List.length_take, List.length_drop, List.getElem?_take, List.getElem?_drop, Nat.min_eq_left (Nat.le_of_lt hk), Nat.min_eq_left (show k + 1 ≤ l.length by omega)]
  by_cases h : k = i
  · subst h
    rw [if_pos rfl, if_pos (by omega), if_pos (by omega), if_pos (by omega)]
    simp [List.getD_eq_getElem?_getD, List.getElem?_eq_getElem hk]
  · rw [if_neg h]
    by_cases h2 : i < k
    · rw [if_pos h2, if_pos h2, if_pos (by omega), if_pos (by omega)]
    · rw [if_neg h2, if_neg (by omega)]
      congr 1; omega
theorem midW_end (ws l : List Int) : midW ws l l.length = putW ws 0 l := by
  unfold midW putW; simp
set_option maxRecDepth 100000 in
set_option maxHeartbeats 2000000 in
theorem refStore04_any (A : Option Addr) (c : Nat) (ws : List Int) (V : Option Addr) (c' : Nat) (l : List Int) (w : World) (hr : ReadsInt w .u64 A ws.length ws) (hq : ReadsInt w .u64 V l.length l) (hl : l.length ≤ ws.length) (hw : ws.length ≤ 1000000) :
    Calls Tryd.prog 21 #[.slice A ws.length c, .int .i64 0, .slice V l.length c'] w fun e w' => ∃ v, e = .returned (.tuple #[v, .int .i64 0]) ∧ w'.ownsRow w.heap.size 23 1 v (putW ws 0 l).length (nums .u64 (putW ws 0 l)) ∧ Below w.heap.size w w' := by
  have HIN := Lk.mk (fun W => refIn04_any A c ws.length 0 l.length W (by omega))
  have hin : inL ws.length 0 l.length = true := by unfold inL; simp; omega
  rw [hin] at HIN
  have HR := Lk.mk hr
  have HQ := Lk.mk hq
  clear hr hq hin
  go_enter Tryd.func21, Tryd.ntmps21
  go_wp2_with (first
    | (go_at_call 58; (with_reducible refine (HIN.out _).mono ?_); rintro e w' ⟨rfl, hw⟩; obtain rfl := hw.symm; clear hw)
    | (at_builtin; refine print_append_row (w0 := w) w.heap.size rfl _ _ 26 23 .u64 8 rfl Tryd.underlying26 info23 (by decide) (.slice (some ⟨w.heap.size, 0, none⟩) 0 0) [] ws A ws.length c rfl rfl (own_lit w w.heap.size 23 .u64 [] (Nat.le_refl _) (by simp)) (HR.out.below (below_alloc (Below.refl _ _) _)) (below_alloc (Below.refl _ _) _) (by simp) (by simp; omega) ?_; intro v1 w1 hown hb _ _; rw [List.nil_append] at hown; have HO := Lk.mk hown; have HB := Lk.mk hb; clear hown hb))
  go_loopg [9, 22] l.length (fun gg v9 v22 wr => ∃ k : Nat, k ≤ l.length ∧ l.length - k ≤ gg ∧ v22 = .int .i64 k ∧ Lk (wr.ownsRow w.heap.size 23 1 v1 ws.length (nums .u64 (midW ws l k))) ∧ Lk (Below w.heap.size w wr))
  case atStart => exact ⟨0, by omega, by omega, rfl, ⟨HO.out⟩, ⟨HB.out⟩⟩
  case round =>
    obtain ⟨k, hk, hg, rfl, HO1, HB1⟩ := hrel
    clear HO HB
    by_cases hlt : k < l.length
    · have hltz : (k : Int) < (l.length : Int) := by omega
      have hml := midW_length ws l k hk hl
      have HML := Lk.mk hml
      obtain ⟨g, cap, rfl, _, _⟩ := HO1.out.form (by omega)
      obtain ⟨ad, hV, hc⟩ := (HQ.out.below HB1.out).at_ (k : Int) (by omega) hltz
      subst hV
      rw [Int.toNat_natCast, rdk] at hc
      obtain ⟨hce, hf⟩ := own_at HO1.out (k : Int) (by omega) (by omega)
      rw [Int.toNat_natCast] at hf
      rw [Int.toNat_natCast, rdk] at hce
      generalize (midW ws l k).getD k 0 = old at *
      have hs := (own_store HO1.out (k : Int) (l.getD k 0)).1
      rw [Int.toNat_natCast, midW_next ws l k hlt hl] at hs
      have HS := Lk.mk hs
      have HB2 := Lk.mk (HB1.out.setCell (p := ⟨g, k, none⟩) (own_base HO1.out g rfl) (.int .u64 (l.getD k 0)))
      clear hs HO1 HB1 HIN
      generalize l.getD k 0 = x at *
      go_wp2
      go_roundg (l.length - (k + 1))
      case measure => omega
      case rel => exact ⟨k + 1, by omega, by omega, by go_num, HS, HB2⟩
    · have hltz : ¬ (k : Int) < (l.length : Int) := by omega
      obtain rfl : k = l.length := by omega
      rw [midW_end] at HO1
      have hpl := Lk.mk (putW_length ws 0 l (by omega))
      go_wp2
      go_ret2
      exact ⟨_, rfl, by rw [hpl.out]; exact HO1.out, HB1.out⟩
end Go.Proofs.YtcepafllgjnngaaDoor

/-
  The walk of the reference's Read; conditions: what is handed in reads as told, the table may be.
-/
namespace Go.Proofs.YtcepafllgjnngaaDoor
open Go.RowKit Go.Proofs.YtcepafllgjnngaaDoorW.PrintWords

set_option maxRecDepth 100000 in
set_option maxHeartbeats 2000000 in
theorem rread_out (A : Option Addr) (c : Nat) (ws : List Int) (B : Option Addr) (c' : Nat) (t : List (Int × List Int)) (at_ : Int) (w : World) (hl : ws.length ≤ 1099511627776) (hi : ¬ (0 ≤ at_ ∧ at_ + 2 ≤ ws.length)) :
    Calls Tryd.prog 106 #[.slice A ws.length c, .slice B t.length c', .int .i64 at_] w fun e w' => e = .returned (.tuple #[.agg #[.int .i64 0, .int .i64 0, .int .i64 0], .int .i64 2]) ∧ Below w.heap.size w w' := by
  have hcase : at_ < 0 ∨ (0 ≤ at_ ∧ (ws.length : Int) ≤ at_) ∨ (0 ≤ at_ ∧ at_ < ws.length ∧ (ws.length : Int) < at_ + 2) := by omega
  clear hi
  have H0 := Lk.mk (show Below w.heap.size w (w.alloc (.cells #[.int .i64 0, .int .i64 0, .int .i64 0] 79)) from below_alloc (Below.refl _ _) _)
  have HE := Lk.mk (fr0 w (Below.refl _ _))
  obtain ⟨c0, c1, c2, z0, z1, z2⟩ := cells3 HE.out
  go_enter Tryd.func106, Tryd.ntmps106
  rcases hcase with h1 | ⟨h1, h2⟩ | ⟨h1, h2, h3⟩
  · go_wp2
    exact bodyPost_ret (results_ct Tryd.results106 _ _ w.heap.size 79 #[.int .i64 0, .int .i64 0, .int .i64 0] (0, 0) _ rfl HE.out Tryd.underlying79 rfl (by kernel_rfl)) rfl ⟨rfl, H0.out⟩
  · have h1z : ¬ at_ < 0 := by omega
    go_wp2
    exact bodyPost_ret (results_ct Tryd.results106 _ _ w.heap.size 79 #[.int .i64 0, .int .i64 0, .int .i64 0] (0, 0) _ rfl HE.out Tryd.underlying79 rfl (by kernel_rfl)) rfl ⟨rfl, H0.out⟩
  · have h1z : ¬ at_ < 0 := by omega
    have h2z : ¬ (ws.length : Int) ≤ at_ := by omega
    go_wp2
    exact bodyPost_ret (results_ct Tryd.results106 _ _ w.heap.size 79 #[.int .i64 0, .int .i64 0, .int .i64 0] (0, 0) _ rfl HE.out Tryd.underlying79 rfl (by kernel_rfl)) rfl ⟨rfl, H0.out⟩
theorem read_at2 {w : World} {A : Option Addr} {ws : List Int} {a : Nat} (h : ReadsInt w .u64 A ws.length ws) (hi : a + 2 ≤ ws.length) : ∃ ad, A = some ad ∧ w.cell? (ad.add a) = some (.int .u64 (ws.getD a 0)) ∧ w.cell? (ad.add (a + 1)) = some (.int .u64 (ws.getD (a + 1) 0)) := by
  obtain ⟨ad, rfl, hc⟩ := h.at_ (a : Int) (by omega) (by omega)
  obtain ⟨ad', h', hc'⟩ := h.at_ ((a : Int) + 1) (by omega) (by omega)
  injection h' with h'
  subst h'
  rw [Int.toNat_natCast, rdk] at hc
  rw [show ((a : Int) + 1).toNat = a + 1 by omega, show (a : Int) + 1 = ((a + 1 : Nat) : Int) by omega, rdk] at hc'
  exact ⟨ad, rfl, hc, hc'⟩
set_option maxRecDepth 100000 in
set_option maxHeartbeats 2000000 in
theorem rread_ok (A : Option Addr) (c : Nat) (ws : List Int) (B : Option Addr) (c' : Nat) (t : List (Int × List Int)) (a : Nat) (w : World) (hr : ReadsInt w .u64 A ws.length ws) (hw : Bm.Words ws) (hq : FnC w B t.length t) (hn : newOk t = true) (hl : ws.length ≤ 1099511627776) (hi : a + 2 ≤ ws.length) (ho : RdOk ws (t.map entryOf) a) :
    Calls Tryd.prog 106 #[.slice A ws.length c, .slice B t.length c', .int .i64 a] w fun e w' => e = .returned (.tuple #[.agg #[.int .i64 a, .int .i64 (ws.getD (a + 1) 0 - 1), .int .i64 (ws.getD a 0 - 1)], .int .i64 0]) ∧ Below w.heap.size w w' := by
  obtain ⟨o1, o2, o3, o4⟩ := ho
  rw [tWords_map hn] at o4
  rw [List.length_map] at o3
  have hx0 := Bm.word_nn hw a
  have htl := hq.2.1
  have HTW := Lk.mk (fun W (hb : Below w.heap.size w W) => refWords_any B c' t (ws.getD (a + 1) 0 - 1) W (hq.below hb) (by have := lSize_in hn (ws.getD (a + 1) 0 - 1); omega))
  have h0 : Below w.heap.size w (w.alloc (.cells #[.int .i64 0, .int .i64 0, .int .i64 0] 79)) := below_alloc (Below.refl _ _) _
  obtain ⟨ad, rfl, k0, k1⟩ := read_at2 (hr.below h0) hi
  rw [show ad.add (a + 1) = ⟨ad.block, ad.off + (a + 1), none⟩ from rfl] at k1
  have H0 := Lk.mk h0
  have HE := Lk.mk (fr0 w (Below.refl _ _))
  obtain ⟨c0, c1, c2, z0, z1, z2⟩ := cells3 HE.out
  have hwn : -1 ≤ lWords t (ws.getD (a + 1) 0 - 1) ∧ lWords t (ws.getD (a + 1) 0 - 1) ≤ 1002 := by
    have := lSize_in hn (ws.getD (a + 1) 0 - 1)
    unfold lWords
    split <;> omega
  clear hr hw hq hn h0
  generalize lWords t (ws.getD (a + 1) 0 - 1) = tw at *
  generalize ws.getD (a + 1) 0 = f at *
  generalize ws.getD a 0 = k at *
  have hf0 : ¬ f = 0 := by omega
  have hft : ¬ (t.length : Int) < f := by omega
  have hkl : ¬ (ws.length : Int) < k := by omega
  have htw : ¬ (ws.length : Int) < a + tw := by omega
  have haz : ¬ (a : Int) < 0 := by omega
  have hal : ¬ (ws.length : Int) ≤ a := by omega
  have hal2 : ¬ (ws.length : Int) < a + 2 := by omega
  go_enter Tryd.func106, Tryd.ntmps106
  go_wp2_with (go_at_call 90; (with_reducible refine (HTW.out _ (below_alloc H0.out _)).mono ?_); rintro e w' ⟨rfl, hw⟩; obtain rfl := hw.symm; clear hw)
  all_goals exact bodyPost_ret (results_ct Tryd.results106 _ _ w.heap.size 79 #[.int .i64 a, .int .i64 (f - 1), .int .i64 (k - 1)] (0, 0) _ rfl (blk_below (blk_new w _) (below_alloc (Below.refl _ _) _)) Tryd.underlying79 rfl (by kernel_rfl)) rfl ⟨rfl, below_alloc (below_alloc (Below.refl _ _) _) _⟩
set_option maxRecDepth 100000 in
set_option maxHeartbeats 2000000 in
theorem rread_bad (A : Option Addr) (c : Nat) (ws : List Int) (B : Option Addr) (c' : Nat) (t : List (Int × List Int)) (a : Nat) (w : World) (hr : ReadsInt w .u64 A ws.length ws) (hw : Bm.Words ws) (hq : FnC w B t.length t) (hn : newOk t = true) (hl : ws.length ≤ 1099511627776) (hi : a + 2 ≤ ws.length) (ho : ¬ RdOk ws (t.map entryOf) a) :
    Calls Tryd.prog 106 #[.slice A ws.length c, .slice B t.length c', .int .i64 a] w fun e w' => e = .returned (.tuple #[.agg #[.int .i64 0, .int .i64 0, .int .i64 0], .int .i64 9]) ∧ Below w.heap.size w w' := by
  unfold RdOk at ho
  rw [tWords_map hn, List.length_map] at ho
  have hx0 := Bm.word_nn hw a
  have hx1 := Bm.word_nn hw (a + 1)
  have htl := hq.2.1
  have HTW := Lk.mk (fun W (hb : Below w.heap.size w W) => refWords_any B c' t (ws.getD (a + 1) 0 - 1) W (hq.below hb) (by have := lSize_in hn (ws.getD (a + 1) 0 - 1); omega))
  have h0 : Below w.heap.size w (w.alloc (.cells #[.int .i64 0, .int .i64 0, .int .i64 0] 79)) := below_alloc (Below.refl _ _) _
  obtain ⟨ad, rfl, k0, k1⟩ := read_at2 (hr.below h0) hi
  rw [show ad.add (a + 1) = ⟨ad.block, ad.off + (a + 1), none⟩ from rfl] at k1
  have H0 := Lk.mk h0
  have HE := Lk.mk (fr0 w (Below.refl _ _))
  obtain ⟨c0, c1, c2, z0, z1, z2⟩ := cells3 HE.out
  have hwn : -1 ≤ lWords t (ws.getD (a + 1) 0 - 1) ∧ lWords t (ws.getD (a + 1) 0 - 1) ≤ 1002 := by
    have := lSize_in hn (ws.getD (a + 1) 0 - 1)
    unfold lWords
    split <;> omega
  clear hr hw hq hn h0
  generalize lWords t (ws.getD (a + 1) 0 - 1) = tw at *
  generalize ws.getD (a + 1) 0 = f at *
  generalize ws.getD a 0 = k at *
  have haz : ¬ (a : Int) < 0 := by omega
  have hal : ¬ (ws.length : Int) ≤ a := by omega
  have hal2 : ¬ (ws.length : Int) < a + 2 := by omega
  by_cases q1 : f < 1
  · obtain rfl : f = 0 := by omega
    go_enter Tryd.func106, Tryd.ntmps106
    go_wp2
    all_goals exact bodyPost_ret (results_ct Tryd.results106 _ _ w.heap.size 79 #[.int .i64 0, .int .i64 0, .int .i64 0] (0, 0) _ rfl HE.out Tryd.underlying79 rfl (by kernel_rfl)) rfl ⟨rfl, H0.out⟩
  · have hf0 : ¬ f = 0 := by omega
    by_cases q2 : (t.length : Int) < f
    · go_enter Tryd.func106, Tryd.ntmps106
      go_wp2
      all_goals exact bodyPost_ret (results_ct Tryd.results106 _ _ w.heap.size 79 #[.int .i64 0, .int .i64 0, .int .i64 0] (0, 0) _ rfl HE.out Tryd.underlying79 rfl (by kernel_rfl)) rfl ⟨rfl, H0.out⟩
    · by_cases q3 : (ws.length : Int) < k
      · go_enter Tryd.func106, Tryd.ntmps106
        go_wp2
        all_goals exact bodyPost_ret (results_ct Tryd.results106 _ _ w.heap.size 79 #[.int .i64 0, .int .i64 0, .int .i64 0] (0, 0) _ rfl HE.out Tryd.underlying79 rfl (by kernel_rfl)) rfl ⟨rfl, H0.out⟩
      · have htw : (ws.length : Int) < a + tw := by
          rcases Int.lt_or_le (ws.length : Int) (a + tw) with h | h
          · exact h
          · exact absurd ⟨by omega, by omega, by omega, h⟩ ho
        clear ho
        go_enter Tryd.func106, Tryd.ntmps106
        go_wp2_with (go_at_call 90; (with_reducible refine (HTW.out _ (below_alloc H0.out _)).mono ?_); rintro e w' ⟨rfl, hw⟩; obtain rfl := hw.symm; clear hw)
        all_goals exact bodyPost_ret (results_ct Tryd.results106 _ _ w.heap.size 79 #[.int .i64 0, .int .i64 0, .int .i64 0] (0, 0) _ rfl (blk_below (blk_new w _) (below_alloc (Below.refl _ _) _)) Tryd.underlying79 rfl (by kernel_rfl)) rfl ⟨rfl, below_alloc (below_alloc (Below.refl _ _) _) _⟩
end Go.Proofs.YtcepafllgjnngaaDoor
