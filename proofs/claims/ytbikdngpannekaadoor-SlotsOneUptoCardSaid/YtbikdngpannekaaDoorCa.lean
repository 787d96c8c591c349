/-
  Rows of frames that are read; the walks of slots.size, frame.Slot and slots.Address, and of the reference's Size and Address; conditions: what is handed in reads as told.
-/
import Derived.Test.YtbikdngpannekaaDoorC1
import Derived.Test.YtbikdngpannekaaDoorBp
import Derived.Deep.RegionHeld3
namespace Go.Proofs.YtbikdngpannekaaDoor
open Go.RowKit Go.Proofs.YtbikdngpannekaaDoorW.PrintWords

def kFr : Kd Sl.Fr := Kd.pair (Kd.int .i64) (Kd.pair (Kd.int .i64) (Kd.int .i64))
theorem kFr_at {w : World} {A : Option Addr} {n : Nat} {l : List Sl.Fr} (h : kFr.C w A n l) (k : Nat) (hk : k < n) : ∃ ad, A = some ad ∧ w.cell? (ad.add (k * 3)) = some (.int .i64 (l.getD k Sl.dFr).1) ∧ w.cell? ⟨(ad.add (k * 3)).block, (ad.add (k * 3)).off + 1, none⟩ = some (.int .i64 (l.getD k Sl.dFr).2.1) ∧ w.cell? ⟨(ad.add (k * 3)).block, (ad.add (k * 3)).off + 2, none⟩ = some (.int .i64 (l.getD k Sl.dFr).2.2) := by
  obtain ⟨ad, c, e, _, ⟨c0, c', rfl, rfl, c1, c2, rfl, rfl, rfl⟩, hc⟩ := ReadsRow.get_ h Sl.dFr (k : Int) (by omega) (by omega)
  rw [Int.toNat_natCast] at hc
  have hc0 := hc 0 _ rfl
  have hc1 := hc 1 _ rfl
  have hc2 := hc 2 _ rfl
  rw [Nat.add_zero] at hc0
  refine ⟨ad, e, hc0, ?_, ?_⟩
  · rw [← add_field _ _ 1 (by omega)]; exact hc1
  · rw [← add_field _ _ 2 (by omega)]; exact hc2
/-- what the machine's types say of frames -/
def FrIn (l : List Sl.Fr) : Prop := ∀ x ∈ l, (-9223372036854775808 ≤ x.1 ∧ x.1 ≤ 9223372036854775807) ∧ (-9223372036854775808 ≤ x.2.1 ∧ x.2.1 ≤ 9223372036854775807) ∧ (-9223372036854775808 ≤ x.2.2 ∧ x.2.2 ≤ 9223372036854775807)
/-- sizes of a table's functions -/
def EntIn (ent : List (Int × (List Int × List Int))) : Prop := ∀ e ∈ ent, 0 ≤ e.1 ∧ e.1 ≤ 1000
theorem tSize_in {ent : List (Int × (List Int × List Int))} (h : EntIn ent) (f : Int) : -1 ≤ tSize ent f ∧ tSize ent f ≤ 1000 := by
  unfold tSize
  cases hf : tHas ent f with
  | false => simp
  | true =>
    have h1 := tHas_true hf
    have := h (ent.getD f.toNat dE) (getD_mem _ (by omega))
    rw [if_pos rfl]; omega

set_option maxRecDepth 100000 in
set_option maxHeartbeats 2000000 in
theorem ssize_any (p : Value) (ent : List (Int × (List Int × List Int))) (x : Sl.Fr) (w : World) (h : TblOr w p ent) (he : EntIn ent) :
    Calls Tryd.prog 68 #[p, .agg #[.int .i64 x.1, .int .i64 x.2.1, .int .i64 x.2.2]] w fun e w' => e = .returned (.int .i64 (Sl.sizeS (tSize ent) x)) ∧ Below w.heap.size w w' := by
  obtain ⟨a, f, k⟩ := x
  have h0 : Below w.heap.size w (w.alloc (.cells #[.int .i64 a, .int .i64 f, .int .i64 k] 52)) := below_alloc (Below.refl _ _) _
  have HS := Lk.mk (size_any p ent f _ (h.below h0))
  have H0 := Lk.mk h0
  have hn := tSize_in he f
  have H := Lk.mk (show Sl.sizeS (tSize ent) (a, f, k) = if a < 0 ∨ 1099511627776 < a then 0 else max 0 (tSize ent f) from rfl)
  generalize Sl.sizeS (tSize ent) (a, f, k) = r at *
  generalize tSize ent f = n at *
  clear h h0 he
  go_enter Tryd.func68, Tryd.ntmps68
  go_wp2_with (go_at_call 82; (with_reducible refine (HS.out).mono ?_); rintro e w' ⟨rfl, hw⟩; obtain rfl := hw.symm; clear hw)
  all_goals go_ret
  all_goals refine ⟨ret_int ?_, H0.out⟩
  all_goals rw [H.out]
  all_goals (first | (rw [if_pos (by omega)]) | (rw [if_neg (by omega)]; omega))

set_option maxRecDepth 100000 in
set_option maxHeartbeats 2000000 in
theorem fslot_ok (p : Value) (ent : List (Int × (List Int × List Int))) (x : Sl.Fr) (i : Int) (w : World) (h : TblOr w p ent) (hx : -1099511627776 ≤ x.1 ∧ x.1 ≤ 1099511627776) (he : EntIn ent) (hi : 0 ≤ i ∧ i < tSize ent x.2.1) :
    Calls Tryd.prog 33 #[p, .agg #[.int .i64 x.1, .int .i64 x.2.1, .int .i64 x.2.2], .int .i64 i] w fun e w' => e = .returned (.tuple #[.int .i64 (x.1 + 2 + i), .int .i64 0]) ∧ Below w.heap.size w w' := by
  obtain ⟨a, f, k⟩ := x
  have h0 : Below w.heap.size w (w.alloc (.cells #[.int .i64 a, .int .i64 f, .int .i64 k] 52)) := below_alloc (Below.refl _ _) _
  have HS := Lk.mk (size_any p ent f _ (h.below h0))
  have H0 := Lk.mk h0
  have hn := tSize_in he f
  dsimp only at hx hi ⊢
  generalize tSize ent f = n at *
  clear h h0 he
  obtain ⟨h1, h2⟩ := hi
  have hw1 : IntKind.i64.wrap (a + 2) = a + 2 := IntWalk.i64_in _ (by omega)
  have hw2 : IntKind.i64.wrap (a + 2 + i) = a + 2 + i := IntWalk.i64_in _ (by omega)
  go_enter Tryd.func33, Tryd.ntmps33
  go_wp2_with (go_at_call 82; (with_reducible refine (HS.out).mono ?_); rintro e w' ⟨rfl, hw⟩; obtain rfl := hw.symm; clear hw)
  go_ret2
  exact ⟨rfl, H0.out⟩
set_option maxRecDepth 100000 in
set_option maxHeartbeats 2000000 in
theorem fslot_bad (p : Value) (ent : List (Int × (List Int × List Int))) (x : Sl.Fr) (i : Int) (w : World) (h : TblOr w p ent) (hi : ¬ (0 ≤ i ∧ i < tSize ent x.2.1)) :
    Calls Tryd.prog 33 #[p, .agg #[.int .i64 x.1, .int .i64 x.2.1, .int .i64 x.2.2], .int .i64 i] w fun e w' => e = .returned (.tuple #[.int .i64 0, .int .i64 2]) ∧ Below w.heap.size w w' := by
  obtain ⟨a, f, k⟩ := x
  have h0 : Below w.heap.size w (w.alloc (.cells #[.int .i64 a, .int .i64 f, .int .i64 k] 52)) := below_alloc (Below.refl _ _) _
  have HS := Lk.mk (size_any p ent f _ (h.below h0))
  have H0 := Lk.mk h0
  dsimp only at hi ⊢
  generalize tSize ent f = n at *
  clear h h0
  by_cases h1 : i < 0
  · go_enter Tryd.func33, Tryd.ntmps33
    go_wp2_with (go_at_call 82; (with_reducible refine (HS.out).mono ?_); rintro e w' ⟨rfl, hw⟩; obtain rfl := hw.symm; clear hw)
    go_ret2
    exact ⟨rfl, H0.out⟩
  · have h2 : n ≤ i := by omega
    clear hi
    go_enter Tryd.func33, Tryd.ntmps33
    go_wp2_with (go_at_call 82; (with_reducible refine (HS.out).mono ?_); rintro e w' ⟨rfl, hw⟩; obtain rfl := hw.symm; clear hw)
    go_ret2
    exact ⟨rfl, H0.out⟩

theorem addrOk_true {sz : Int → Int} {l : List Sl.Fr} {d s : Int} (h : Sl.addrOk sz l d s = true) : 0 ≤ d ∧ d < l.length ∧ 0 ≤ s ∧ s < Sl.sizeS sz (l.getD d.toNat Sl.dFr) := by
  unfold Sl.addrOk at h; simp only [Bool.and_eq_true, decide_eq_true_eq] at h; omega
theorem addrOk_false {sz : Int → Int} {l : List Sl.Fr} {d s : Int} (h : Sl.addrOk sz l d s = false) : d < 0 ∨ l.length ≤ d ∨ s < 0 ∨ Sl.sizeS sz (l.getD d.toNat Sl.dFr) ≤ s := by
  by_cases h1 : d < 0 ∨ l.length ≤ d ∨ s < 0 ∨ Sl.sizeS sz (l.getD d.toNat Sl.dFr) ≤ s
  · exact h1
  · have : Sl.addrOk sz l d s = true := by unfold Sl.addrOk; simp only [Bool.and_eq_true, decide_eq_true_eq]; omega
    rw [this] at h; cases h
theorem sizeS_in {sz : Int → Int} {x : Sl.Fr} {s : Int} (h0 : 0 ≤ s) (h : s < Sl.sizeS sz x) : 0 ≤ x.1 ∧ x.1 ≤ 1099511627776 ∧ s < sz x.2.1 := by
  unfold Sl.sizeS at h
  by_cases hx : x.1 < 0 ∨ 1099511627776 < x.1
  · rw [if_pos hx] at h; omega
  · rw [if_neg hx] at h; omega

set_option maxRecDepth 100000 in
set_option maxHeartbeats 2000000 in
theorem address_ok (p : Value) (ent : List (Int × (List Int × List Int))) (A : Option Addr) (c : Nat) (l : List Sl.Fr) (d s : Int) (w : World) (h : TblOr w p ent) (hr : kFr.C w A l.length l) (he : EntIn ent) (ho : Sl.addrOk (tSize ent) l d s = true) :
    Calls Tryd.prog 20 #[p, .slice A l.length c, .int .i64 d, .int .i64 s] w fun e w' => e = .returned (.tuple #[.int .i64 ((l.getD d.toNat Sl.dFr).1 + 2 + s), .int .i64 0]) ∧ Below w.heap.size w w' := by
  obtain ⟨h0, h1, h2, h3⟩ := addrOk_true ho
  obtain ⟨k, rfl⟩ := Int.eq_ofNat_of_zero_le h0
  rw [Int.toNat_natCast] at h3 ⊢
  have hs := sizeS_in h2 h3
  obtain ⟨ad, rfl, c0, c1, c2⟩ := kFr_at hr k (by omega)
  have hm := hr.2.1
  have HS := Lk.mk (fun W (hb : Below w.heap.size w W) => ssize_any p ent (l.getD k Sl.dFr) W (h.below hb) he)
  have HF := Lk.mk (fun W (hb : Below w.heap.size w W) => fslot_ok p ent (l.getD k Sl.dFr) s W (h.below hb) (by omega) he (by omega))
  have HC := Lk.mk (show ∀ W, Below w.heap.size w W → W.cell? (ad.add (k * 3)) = some (.int .i64 (l.getD k Sl.dFr).1) ∧ W.cell? ⟨(ad.add (k * 3)).block, (ad.add (k * 3)).off + 1, none⟩ = some (.int .i64 (l.getD k Sl.dFr).2.1) ∧ W.cell? ⟨(ad.add (k * 3)).block, (ad.add (k * 3)).off + 2, none⟩ = some (.int .i64 (l.getD k Sl.dFr).2.2) from fun W hb => ⟨pw_cell_below hb c0, pw_cell_below hb c1, pw_cell_below hb c2⟩)
  clear ho hr h he
  generalize Sl.sizeS (tSize ent) (l.getD k Sl.dFr) = z at *
  generalize tSize ent (l.getD k Sl.dFr).2.1 = n at *
  generalize l.getD k Sl.dFr = x at *
  go_enter Tryd.func20, Tryd.ntmps20
  go_wp2_with (first
    | (go_at_call 68; (with_reducible refine (HS.out _ (Below.refl _ _)).mono ?_); rintro e w1 ⟨rfl, hb⟩; have HB := Lk.mk hb; obtain ⟨d0, d1, d2⟩ := HC.out _ hb; clear hb)
    | (go_at_call 33; (with_reducible refine (HF.out _ HB.out).mono ?_); rintro e w2 ⟨rfl, hb⟩))
  go_ret2
  exact ⟨rfl, below_then HB.out HB.out.size hb⟩

set_option maxRecDepth 100000 in
set_option maxHeartbeats 2000000 in
theorem address_bad (p : Value) (ent : List (Int × (List Int × List Int))) (A : Option Addr) (c : Nat) (l : List Sl.Fr) (d s : Int) (w : World) (h : TblOr w p ent) (hr : kFr.C w A l.length l) (he : EntIn ent) (ho : Sl.addrOk (tSize ent) l d s = false) :
    Calls Tryd.prog 20 #[p, .slice A l.length c, .int .i64 d, .int .i64 s] w fun e w' => e = .returned (.tuple #[.int .i64 0, .int .i64 2]) ∧ Below w.heap.size w w' := by
  have hm := hr.2.1
  have hf := addrOk_false ho
  by_cases h0 : d < 0
  · clear ho hr h he hf
    go_enter Tryd.func20, Tryd.ntmps20
    go_wp2
    go_ret2
    exact ⟨rfl, Below.refl _ _⟩
  · obtain ⟨k, rfl⟩ := Int.eq_ofNat_of_zero_le (show 0 ≤ d by omega)
    by_cases h1 : l.length ≤ k
    · have h1z : (l.length : Int) ≤ (k : Int) := by omega
      clear ho hr h he hf
      go_enter Tryd.func20, Tryd.ntmps20
      go_wp2
      go_ret2
      exact ⟨rfl, Below.refl _ _⟩
    · rw [Int.toNat_natCast] at hf
      have h1z : (k : Int) < (l.length : Int) := by omega
      obtain ⟨ad, rfl, c0, c1, c2⟩ := kFr_at hr k (by omega)
      have HS := Lk.mk (fun W (hb : Below w.heap.size w W) => ssize_any p ent (l.getD k Sl.dFr) W (h.below hb) he)
      have HF := Lk.mk (fun W (hb : Below w.heap.size w W) (hs : s < 0) => fslot_bad p ent (l.getD k Sl.dFr) s W (h.below hb) (by omega))
      have HC := Lk.mk (show ∀ W, Below w.heap.size w W → W.cell? (ad.add (k * 3)) = some (.int .i64 (l.getD k Sl.dFr).1) ∧ W.cell? ⟨(ad.add (k * 3)).block, (ad.add (k * 3)).off + 1, none⟩ = some (.int .i64 (l.getD k Sl.dFr).2.1) ∧ W.cell? ⟨(ad.add (k * 3)).block, (ad.add (k * 3)).off + 2, none⟩ = some (.int .i64 (l.getD k Sl.dFr).2.2) from fun W hb => ⟨pw_cell_below hb c0, pw_cell_below hb c1, pw_cell_below hb c2⟩)
      clear ho hr h he
      generalize Sl.sizeS (tSize ent) (l.getD k Sl.dFr) = z at *
      generalize l.getD k Sl.dFr = x at *
      by_cases h2 : z ≤ s
      · clear hf
        go_enter Tryd.func20, Tryd.ntmps20
        go_wp2_with (first
          | (go_at_call 68; (with_reducible refine (HS.out _ (Below.refl _ _)).mono ?_); rintro e w1 ⟨rfl, hb⟩; have HB := Lk.mk hb; obtain ⟨d0, d1, d2⟩ := HC.out _ hb; clear hb))
        go_ret2
        exact ⟨rfl, HB.out⟩
      · have h3 : s < 0 := by omega
        have h2' : s < z := by omega
        clear hf h2
        go_enter Tryd.func20, Tryd.ntmps20
        go_wp2_with (first
          | (go_at_call 68; (with_reducible refine (HS.out _ (Below.refl _ _)).mono ?_); rintro e w1 ⟨rfl, hb⟩; have HB := Lk.mk hb; obtain ⟨d0, d1, d2⟩ := HC.out _ hb; clear hb)
          | (go_at_call 33; (with_reducible refine (HF.out _ HB.out h3).mono ?_); rintro e w2 ⟨rfl, hb⟩))
        go_ret2
        exact ⟨rfl, below_then HB.out HB.out.size hb⟩
end Go.Proofs.YtbikdngpannekaaDoor
