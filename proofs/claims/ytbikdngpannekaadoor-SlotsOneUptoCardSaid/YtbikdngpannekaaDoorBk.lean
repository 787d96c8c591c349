/-
  The walks of a table's Len, has, Size, Words, Ptr, Ptrs; conditions: the table reads as told, or is nil.
-/
import Derived.Test.YtbikdngpannekaaDoorBj
import Derived.Test.YtbikdngpannekaaDoorBd
namespace Go.Proofs.YtbikdngpannekaaDoor
open Go.RowKit Go.Proofs.YtbikdngpannekaaDoorW.PrintWords

/-- a table, or nil, which has no functions -/
def TblOr (w : World) (p : Value) (ent : List (Int × (List Int × List Int))) : Prop := (p = .pointer none ∧ ent = []) ∨ TblAt w p ent
theorem TblOr.below {w w1 : World} {p : Value} {ent : List (Int × (List Int × List Int))} (h : TblOr w p ent) (hb : Below w.heap.size w w1) : TblOr w1 p ent := h.imp id (fun h => h.below hb)
def dE : Int × (List Int × List Int) := (0, ([], []))
theorem kE_at {w : World} {A : Option Addr} {n : Nat} {l : List (Int × (List Int × List Int))} (h : kE.C w A n l) (k : Nat) (hk : k < n) : ∃ ad A1 c1 A2 c2, A = some ad ∧ w.cell? (ad.add (k * 3)) = some (.int .i64 (l.getD k dE).1) ∧ w.cell? ⟨(ad.add (k * 3)).block, (ad.add (k * 3)).off + 1, none⟩ = some (.slice A1 (l.getD k dE).2.1.length c1) ∧ w.cell? ⟨(ad.add (k * 3)).block, (ad.add (k * 3)).off + 2, none⟩ = some (.slice A2 (l.getD k dE).2.2.length c2) ∧ ReadsInt w .u64 A1 (l.getD k dE).2.1.length (l.getD k dE).2.1 ∧ ReadsInt w .i64 A2 (l.getD k dE).2.2.length (l.getD k dE).2.2 := by
  obtain ⟨ad, c, e, _, ⟨c0, c', rfl, rfl, c1', c2', rfl, ⟨A1, n1, rfl, hl1, h1⟩, ⟨A2, n2, rfl, hl2, h2⟩⟩, hc⟩ := ReadsRow.get_ h dE (k : Int) (by omega) (by omega)
  rw [Int.toNat_natCast] at h1 h2 hc
  have hc0 := hc 0 _ rfl
  have hc1 := hc 1 _ rfl
  have hc2 := hc 2 _ rfl
  rw [Nat.add_zero] at hc0
  refine ⟨ad, A1, n1, A2, n2, e, hc0, ?_, ?_, Kd.reads_of_C h1, Kd.reads_of_C h2⟩
  · rw [← add_field _ _ 1 (by omega)]; exact hc1
  · rw [← add_field _ _ 2 (by omega)]; exact hc2
theorem kE_len {w : World} {A : Option Addr} {n : Nat} {l : List (Int × (List Int × List Int))} (h : kE.C w A n l) : l.length = n ∧ n ≤ 9223372036854775807 := ⟨h.1, h.2.1⟩

theorem len_any (p : Value) (ent : List (Int × (List Int × List Int))) (w : World) (h : TblOr w p ent) : Calls Tryd.prog 73 #[p] w fun e w' => e = .returned (.int .i64 ent.length) ∧ w' = w := by
  rcases h with ⟨rfl, rfl⟩ | ⟨g, A, c, rfl, hc, hl, hC⟩
  · go_enter Tryd.func73, Tryd.ntmps73
    go_wp2
    go_ret
    exact ⟨rfl, rfl⟩
  · have HC := Lk.mk hC
    clear hC
    go_enter Tryd.func73, Tryd.ntmps73
    go_wp2
    go_ret
    exact ⟨rfl, rfl⟩
def tHas (ent : List (Int × (List Int × List Int))) (f : Int) : Bool := decide (0 ≤ f) && decide (f < ent.length)
theorem thas_any (p : Value) (ent : List (Int × (List Int × List Int))) (f : Int) (w : World) (h : TblOr w p ent) : Calls Tryd.prog 121 #[p, .int .i64 f] w fun e w' => e = .returned (.bool (tHas ent f)) ∧ w' = w := by
  have HL := Lk.mk (len_any p ent w h)
  have H := Lk.mk (show tHas ent f = (decide (0 ≤ f) && decide (f < ent.length)) from rfl)
  clear h
  generalize tHas ent f = r at *
  go_enter Tryd.func121, Tryd.ntmps121
  go_wp2_with (go_at_call 73; (with_reducible refine HL.out.mono ?_); rintro e w' ⟨rfl, rfl⟩)
  all_goals go_ret
  all_goals refine ⟨ret_bool ?_, rfl⟩
  all_goals rw [H.out]
  all_goals clear H HL
  all_goals simp_all
  all_goals (first | omega | (intro _; omega))
theorem tHas_true {ent : List (Int × (List Int × List Int))} {f : Int} (h : tHas ent f = true) : 0 ≤ f ∧ f < ent.length := by simpa [tHas] using h
def tSize (ent : List (Int × (List Int × List Int))) (f : Int) : Int := if tHas ent f then (ent.getD f.toNat dE).1 else -1
def tWords (ent : List (Int × (List Int × List Int))) (f : Int) : Int := if tHas ent f then (ent.getD f.toNat dE).1 + 2 else -1
def tPtr (ent : List (Int × (List Int × List Int))) (f i : Int) : Bool := tHas ent f && Bm.hasL (ent.getD f.toNat dE).2.1 i
def tPtrs (ent : List (Int × (List Int × List Int))) (f : Int) : List Int := if tHas ent f then (ent.getD f.toNat dE).2.2 else []
theorem TblOr.open_ {w : World} {p : Value} {ent : List (Int × (List Int × List Int))} (h : TblOr w p ent) {f : Int} (hf : tHas ent f = true) : ∃ g ad c A1 c1 A2 c2, ∃ k : Nat, p = .pointer (some ⟨g, 0, none⟩) ∧ w.cell? ⟨g, 0, none⟩ = some (.slice (some ad) ent.length c) ∧ f = k ∧ (k : Int) < ent.length ∧ w.cell? (ad.add (k * 3)) = some (.int .i64 (ent.getD k dE).1) ∧ w.cell? ⟨(ad.add (k * 3)).block, (ad.add (k * 3)).off + 1, none⟩ = some (.slice A1 (ent.getD k dE).2.1.length c1) ∧ w.cell? ⟨(ad.add (k * 3)).block, (ad.add (k * 3)).off + 2, none⟩ = some (.slice A2 (ent.getD k dE).2.2.length c2) ∧ ReadsInt w .u64 A1 (ent.getD k dE).2.1.length (ent.getD k dE).2.1 ∧ ReadsInt w .i64 A2 (ent.getD k dE).2.2.length (ent.getD k dE).2.2 := by
  obtain ⟨h0, h1⟩ := tHas_true hf
  rcases h with ⟨_, rfl⟩ | ⟨g, A, c, rfl, hc, hl, hC⟩
  · simp at h1; omega
  · obtain ⟨ad, A1, c1, A2, c2, rfl, q⟩ := kE_at hC f.toNat (by omega)
    exact ⟨g, ad, c, A1, c1, A2, c2, f.toNat, rfl, hc, by omega, by omega, q⟩

theorem size_any (p : Value) (ent : List (Int × (List Int × List Int))) (f : Int) (w : World) (h : TblOr w p ent) : Calls Tryd.prog 82 #[p, .int .i64 f] w fun e w' => e = .returned (.int .i64 (tSize ent f)) ∧ w' = w := by
  have HH := Lk.mk (thas_any p ent f w h)
  cases hf : tHas ent f with
  | false =>
    have H := Lk.mk (show tSize ent f = -1 by unfold tSize; rw [hf]; rfl)
    rw [hf] at HH
    clear h hf
    generalize tSize ent f = r at *
    go_enter Tryd.func82, Tryd.ntmps82
    go_wp2_with (go_at_call 121; (with_reducible refine HH.out.mono ?_); rintro e w' ⟨rfl, rfl⟩)
    go_ret
    exact ⟨ret_int H.out.symm, rfl⟩
  | true =>
    obtain ⟨g, ad, c, A1, c1, A2, c2, k, rfl, hc, rfl, hk, hc0, hc1, hc2, h1, h2⟩ := h.open_ hf
    have H := Lk.mk (show tSize ent k = (ent.getD k dE).1 by unfold tSize; rw [hf]; rfl)
    rw [hf] at HH
    clear h hf h1 h2 hc1 hc2
    generalize tSize ent k = r at *
    generalize ent.getD k dE = en at *
    go_enter Tryd.func82, Tryd.ntmps82
    go_wp2_with (go_at_call 121; (with_reducible refine HH.out.mono ?_); rintro e w' ⟨rfl, rfl⟩)
    go_ret
    exact ⟨ret_int H.out.symm, rfl⟩
theorem words_any (p : Value) (ent : List (Int × (List Int × List Int))) (f : Int) (w : World) (h : TblOr w p ent) (hs : ∀ e ∈ ent, -9223372036854775808 ≤ e.1 ∧ e.1 ≤ 9223372036854775805) : Calls Tryd.prog 76 #[p, .int .i64 f] w fun e w' => e = .returned (.int .i64 (tWords ent f)) ∧ w' = w := by
  have HH := Lk.mk (thas_any p ent f w h)
  cases hf : tHas ent f with
  | false =>
    have H := Lk.mk (show tWords ent f = -1 by unfold tWords; rw [hf]; rfl)
    rw [hf] at HH
    clear h hf hs
    generalize tWords ent f = r at *
    go_enter Tryd.func76, Tryd.ntmps76
    go_wp2_with (go_at_call 121; (with_reducible refine HH.out.mono ?_); rintro e w' ⟨rfl, rfl⟩)
    go_ret
    exact ⟨ret_int H.out.symm, rfl⟩
  | true =>
    obtain ⟨g, ad, c, A1, c1, A2, c2, k, rfl, hc, rfl, hk, hc0, hc1, hc2, h1, h2⟩ := h.open_ hf
    have H := Lk.mk (show tWords ent k = (ent.getD k dE).1 + 2 by unfold tWords; rw [hf]; rfl)
    obtain ⟨hs0, hs1⟩ := hs (ent.getD k dE) (getD_mem _ (by omega))
    rw [hf] at HH
    clear h hf h1 h2 hc1 hc2 hs
    generalize tWords ent k = r at *
    generalize ent.getD k dE = en at *
    have hw : IntKind.i64.wrap (en.1 + 2) = en.1 + 2 := IntWalk.i64_in _ (by omega)
    go_enter Tryd.func76, Tryd.ntmps76
    go_wp2_with (go_at_call 121; (with_reducible refine HH.out.mono ?_); rintro e w' ⟨rfl, rfl⟩)
    go_ret
    exact ⟨ret_int H.out.symm, rfl⟩

set_option maxHeartbeats 1000000 in
theorem ptr_any (p : Value) (ent : List (Int × (List Int × List Int))) (f i : Int) (w : World) (h : TblOr w p ent) (hw : ∀ e ∈ ent, Bm.Words e.2.1) (hi : i ≤ 9223372036854775807) : Calls Tryd.prog 87 #[p, .int .i64 f, .int .i64 i] w fun e w' => e = .returned (.bool (tPtr ent f i)) ∧ Below w.heap.size w w' := by
  have HH := Lk.mk (thas_any p ent f w h)
  cases hf : tHas ent f with
  | false =>
    have H := Lk.mk (show tPtr ent f i = false by unfold tPtr; rw [hf]; rfl)
    rw [hf] at HH
    clear h hf hw
    generalize tPtr ent f i = r at *
    go_enter Tryd.func87, Tryd.ntmps87
    go_wp2_with (go_at_call 121; (with_reducible refine HH.out.mono ?_); rintro e w' ⟨rfl, rfl⟩)
    go_ret
    exact ⟨ret_bool H.out.symm, Below.refl _ _⟩
  | true =>
    obtain ⟨g, ad, c, A1, c1, A2, c2, k, rfl, hc, rfl, hk, hc0, hc1, hc2, h1, h2⟩ := h.open_ hf
    have hwk := hw (ent.getD k dE) (getD_mem _ (by omega))
    have h0 : Below w.heap.size w (w.alloc (.cells #[.int .i64 i] 3)) := below_alloc (Below.refl _ _) _
    have hr : ReadsInt (w.alloc (.cells #[.int .i64 i] 3)) .i64 (some ⟨w.heap.size, 0, none⟩) ([i] : List Int).length [i] := own_reads' (own_lit w w.heap.size 3 .i64 [i] (Nat.le_refl _) (by simp))
    have HK0 := (hasAll_any A1 c1 (ent.getD k dE).2.1 (some ⟨w.heap.size, 0, none⟩) 1 [i] _ (h1.below h0) hwk hr (by simpa using hi))
    rw [show ([i] : List Int).length = 1 from rfl] at HK0
    have HK := Lk.mk HK0
    have H0 := Lk.mk h0
    have H := Lk.mk (show tPtr ent k i = hasAll (ent.getD k dE).2.1 [i] by unfold tPtr hasAll; rw [hf]; simp)
    rw [hf] at HH
    clear h hf h1 h2 hc2 hw hwk hr h0 HK0
    generalize tPtr ent k i = r at *
    generalize hasAll (ent.getD k dE).2.1 [i] = r2 at *
    generalize ent.getD k dE = en at *
    go_enter Tryd.func87, Tryd.ntmps87
    go_wp2_with (first
      | (go_at_call 121; (with_reducible refine HH.out.mono ?_); rintro e w' ⟨rfl, rfl⟩)
      | (go_at_call 128; (with_reducible refine HK.out.mono ?_); rintro e w' ⟨rfl, hb⟩))
    go_ret
    exact ⟨ret_bool (by rw [H.out]), below_then H0.out H0.out.size hb⟩

end Go.Proofs.YtbikdngpannekaaDoor
