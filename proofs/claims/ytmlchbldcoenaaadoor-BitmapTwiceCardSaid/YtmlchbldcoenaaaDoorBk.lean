/-
  The walks of a table's Len, has, Size, Words, Ptr, Ptrs; conditions: the table reads as told, or is nil.
-/
import Derived.Test.YtmlchbldcoenaaaDoorBj
import Derived.Test.YtmlchbldcoenaaaDoorBd
namespace Go.Proofs.YtmlchbldcoenaaaDoor
open Go.RowKit Go.Proofs.YtmlchbldcoenaaaDoorW.PrintWords

/-- a table, or nil, which has no functions -/
def TblOr (w : World) (p : Value) (ent : List (Int × (List Int × List Int))) : Prop := (p = .pointer none ∧ ent = []) ∨ TblAt w p ent
theorem TblOr.below {w w1 : World} {p : Value} {ent : List (Int × (List Int × List Int))} (h : TblOr w p ent) (hb : Below w.heap.size w w1) : TblOr w1 p ent := h.imp id (fun h => h.below hb)
def dE : Int × (List Int × List Int) := (0, ([], []))
theorem kE_at {w : World} {A : Option Addr} {n : Nat} {l : List (Int × (List Int × List Int))} (h : kE.C w A n l) (k : Nat) (hk : k < n) : ∃ ad A1 c1 A2 c2, A = some ad ∧ w.cell? (ad.add (k * 3)) = some (.int .i64 (l.getD k dE).1) ∧ w.cell? ⟨(ad.add (k * 3)).block, (ad.add (k * 3)).off + 1, none⟩ = some (.slice A1 (l.getD k dE).2.1.length c1) ∧ w.cell? ⟨(ad.add (k * 3)).block, (ad.add (k * 3)).off + 2, none⟩ = some (.slice A2 (l.getD k dE).2.2.length c2) ∧ ReadsInt w .u64 A1 (l.getD k dE).2.1.length (l.getD k dE).2.1 ∧ ReadsInt w .i64 A2 (l.getD k dE).2.2.length (l.getD k dE).2.2 := by
  obtain ⟨ad, c, e, _, ⟨c0, c', rfl, rfl, c1', c2', rfl, ⟨A1, n1, rfl, hl1, h1⟩, ⟨A2, n2, rfl, hl2, h2⟩⟩, hc⟩ := ReadsRow.get_ h dE (k : Int) (by omega) (by omega)
  rw [Int.toNat_natCast] at h1 h2 hc
  have hc0 := hc 0 _ rfl
  have hc1 := hc 1 _ rfl
  have hc2 := hc 2 _ rfl
  rw [Nat.add_zero] at hc0
  refine ⟨ad, A1, n1, A2, n2, e, hc0, ?_, ?_, Kd.reads_of_C h1, Kd.reads_of_C h2⟩
  · rw [← add_field _ _ 1 (by omega)]; exact hc1
  · rw [← add_field _ _ 2 (by omega)]; exact hc2
theorem kE_len {w : World} {A : Option Addr} {n : Nat} {l : List (Int × (List Int × List Int))} (h : kE.C w A n l) : l.length = n ∧ n ≤ 9223372036854775807 := ⟨h.1, h.2.1⟩

theorem len_any (p : Value) (ent : List (Int × (List Int × List Int))) (w : World) (h : TblOr w p ent) : Calls Tryd.prog 24 #[p] w fun e w' => e = .returned (.int .i64 ent.length) ∧ w' = w := by
  rcases h with ⟨rfl, rfl⟩ | ⟨g, A, c, rfl, hc, hl, hC⟩
  · go_enter Tryd.func24, Tryd.ntmps24
    go_wp2
    go_ret
    exact ⟨rfl, rfl⟩
  · have HC := Lk.mk hC
    clear hC
    go_enter Tryd.func24, Tryd.ntmps24
    go_wp2
    go_ret
    exact ⟨rfl, rfl⟩
def tHas (ent : List (Int × (List Int × List Int))) (f : Int) : Bool := decide (0 ≤ f) && decide (f < ent.length)
theorem thas_any (p : Value) (ent : List (Int × (List Int × List Int))) (f : Int) (w : World) (h : TblOr w p ent) : Calls Tryd.prog 47 #[p, .int .i64 f] w fun e w' => e = .returned (.bool (tHas ent f)) ∧ w' = w := by
  have HL := Lk.mk (len_any p ent w h)
  have H := Lk.mk (show tHas ent f = (decide (0 ≤ f) && decide (f < ent.length)) from rfl)
  clear h
  generalize tHas ent f = r at *
  go_enter Tryd.func47, Tryd.ntmps47
  go_wp2_with (go_at_call 24; (with_reducible refine HL.out.mono ?_); rintro e w' ⟨rfl, rfl⟩)
  all_goals go_ret
  all_goals refine ⟨ret_bool ?_, rfl⟩
  all_goals rw [H.out]
  all_goals clear H HL
  all_goals simp_all
  all_goals (first | omega | (intro _; omega))
theorem tHas_true {ent : List (Int × (List Int × List Int))} {f : Int} (h : tHas ent f = true) : 0 ≤ f ∧ f < ent.length := by simpa [tHas] using h
def tSize (ent : List (Int × (List Int × List Int))) (f : Int) : Int := if tHas ent f then (ent.getD f.toNat dE).1 else -1
def tWords (ent : List (Int × (List Int × List Int))) (f : Int) : Int := if tHas ent f then (ent.getD f.toNat dE).1 + 2 else -1
def tPtr (ent : List (Int × (List Int × List Int))) (f i : Int) : Bool := tHas ent f && Bm.hasL (ent.getD f.toNat dE).2.1 i
def tPtrs (ent : List (Int × (List Int × List Int))) (f : Int) : List Int := if tHas ent f then (ent.getD f.toNat dE).2.2 else []
theorem TblOr.open_ {w : World} {p : Value} {ent : List (Int × (List Int × List Int))} (h : TblOr w p ent) {f : Int} (hf : tHas ent f = true) : ∃ g ad c A1 c1 A2 c2, ∃ k : Nat, p = .pointer (some ⟨g, 0, none⟩) ∧ w.cell? ⟨g, 0, none⟩ = some (.slice (some ad) ent.length c) ∧ f = k ∧ (k : Int) < ent.length ∧ w.cell? (ad.add (k * 3)) = some (.int .i64 (ent.getD k dE).1) ∧ w.cell? ⟨(ad.add (k * 3)).block, (ad.add (k * 3)).off + 1, none⟩ = some (.slice A1 (ent.getD k dE).2.1.length c1) ∧ w.cell? ⟨(ad.add (k * 3)).block, (ad.add (k * 3)).off + 2, none⟩ = some (.slice A2 (ent.getD k dE).2.2.length c2) ∧ ReadsInt w .u64 A1 (ent.getD k dE).2.1.length (ent.getD k dE).2.1 ∧ ReadsInt w .i64 A2 (ent.getD k dE).2.2.length (ent.getD k dE).2.2 := by
  obtain ⟨h0, h1⟩ := tHas_true hf
  rcases h with ⟨_, rfl⟩ | ⟨g, A, c, rfl, hc, hl, hC⟩
  · simp at h1; omega
  · obtain ⟨ad, A1, c1, A2, c2, rfl, q⟩ := kE_at hC f.toNat (by omega)
    exact ⟨g, ad, c, A1, c1, A2, c2, f.toNat, rfl, hc, by omega, by omega, q⟩

theorem size_any (p : Value) (ent : List (Int × (List Int × List Int))) (f : Int) (w : World) (h : TblOr w p ent) : Calls Tryd.prog 25 #[p, .int .i64 f] w fun e w' => e = .returned (.int .i64 (tSize ent f)) ∧ w' = w := by
  have HH := Lk.mk (thas_any p ent f w h)
  cases hf : tHas ent f with
  | false =>
    have H := Lk.mk (show tSize ent f = -1 by unfold tSize; rw [hf]; rfl)
    rw [hf] at HH
    clear h hf
    generalize tSize ent f = r at *
    go_enter Tryd.func25, Tryd.ntmps25
    go_wp2_with (go_at_call 47; (with_reducible refine HH.out.mono ?_); rintro e w' ⟨rfl, rfl⟩)
    go_ret
    exact ⟨ret_int H.out.symm, rfl⟩
  | true =>
    obtain ⟨g, ad, c, A1, c1, A2, c2, k, rfl, hc, rfl, hk, hc0, hc1, hc2, h1, h2⟩ := h.open_ hf
    have H := Lk.mk (show tSize ent k = (ent.getD k dE).1 by unfold tSize; rw [hf]; rfl)
    rw [hf] at HH
    clear h hf h1 h2 hc1 hc2
    generalize tSize ent k = r at *
    generalize ent.getD k dE = en at *
    go_enter Tryd.func25, Tryd.ntmps25
    go_wp2_with (go_at_call 47; (with_reducible refine HH.out.mono ?_); rintro e w' ⟨rfl, rfl⟩)
    go_ret
    exact ⟨ret_int H.out.symm, rfl⟩
theorem words_any (p : Value) (ent : List (Int × (List Int × List Int))) (f : Int) (w : World) (h : TblOr w p ent) (hs : ∀ e ∈ ent, -9223372036854775808 ≤ e.1 ∧ e.1 ≤ 9223372036854775805) : Calls Tryd.prog 26 #[p, .int .i64 f] w fun e w' => e = .returned (.int .i64 (tWords ent f)) ∧ w' = w := by
  have HH := Lk.mk (thas_any p ent f w h)
  cases hf : tHas ent f with
  | false =>
    have H := Lk.mk (show tWords ent f = -1 by unfold tWords; rw [hf]; rfl)
    rw [hf] at HH
    clear h hf hs
    generalize tWords ent f = r at *
    go_enter Tryd.func26, Tryd.ntmps26
    go_wp2_with (go_at_call 47; (with_reducible refine HH.out.mono ?_); rintro e w' ⟨rfl, rfl⟩)
    go_ret
    exact ⟨ret_int H.out.symm, rfl⟩
  | true =>
    obtain ⟨g, ad, c, A1, c1, A2, c2, k, rfl, hc, rfl, hk, hc0, hc1, hc2, h1, h2⟩ := h.open_ hf
    have H := Lk.mk (show tWords ent k = (ent.getD k dE).1 + 2 by unfold tWords; rw [hf]; rfl)
    obtain ⟨hs0, hs1⟩ := hs (ent.getD k dE) (getD_mem _ (by omega))
    rw [hf] at HH
    clear h hf h1 h2 hc1 hc2 hs
    generalize tWords ent k = r at *
    generalize ent.getD k dE = en at *
    have hw : IntKind.i64.wrap (en.1 + 2) = en.1 + 2 := IntWalk.i64_in _ (by omega)
    go_enter Tryd.func26, Tryd.ntmps26
    go_wp2_with (go_at_call 47; (with_reducible refine HH.out.mono ?_); rintro e w' ⟨rfl, rfl⟩)
    go_ret
    exact ⟨ret_int H.out.symm, rfl⟩

set_option maxHeartbeats 1000000 in
theorem ptr_any (p : Value) (ent : List (Int × (List Int × List Int))) (f i : Int) (w : World) (h : TblOr w p ent) (hw : ∀ e ∈ ent, Bm.Words e.2.1) (hi : i ≤ 9223372036854775807) : Calls Tryd.prog 27 #[p, .int .i64 f, .int .i64 i] w fun e w' => e = .returned (.bool (tPtr ent f i)) ∧ Below w.heap.size w w' := by
  have HH := Lk.mk (thas_any p ent f w h)
  cases hf : tHas ent f with
  | false =>
    have H := Lk.mk (show tPtr ent f i = false by unfold tPtr; rw [hf]; rfl)
    rw [hf] at HH
    clear h hf hw
    generalize tPtr ent f i = r at *
    go_enter Tryd.func27, Tryd.ntmps27
    go_wp2_with (go_at_call 47; (with_reducible refine HH.out.mono ?_); rintro e w' ⟨rfl, rfl⟩)
    go_ret
    exact ⟨ret_bool H.out.symm, Below.refl _ _⟩
  | true =>
    obtain ⟨g, ad, c, A1, c1, A2, c2, k, rfl, hc, rfl, hk, hc0, hc1, hc2, h1, h2⟩ := h.open_ hf
    have hwk := hw (ent.getD k dE) (getD_mem _ (by omega))
    have h0 : Below w.heap.size w (w.alloc (.cells #[.int .i64 i] 3)) := below_alloc (Below.refl _ _) _
    have hr : ReadsInt (w.alloc (.cells #[.int .i64 i] 3)) .i64 (some ⟨w.heap.size, 0, none⟩) ([i] : List Int).length [i] := own_reads' (own_lit w w.heap.size 3 .i64 [i] (Nat.le_refl _) (by simp))
    have HK0 := (hasAll_any A1 c1 (ent.getD k dE).2.1 (some ⟨w.heap.size, 0, none⟩) 1 [i] _ (h1.below h0) hwk hr (by simpa using hi))
    rw [show ([i] : List Int).length = 1 from rfl] at HK0
    have HK := Lk.mk HK0
    have H0 := Lk.mk h0
    have H := Lk.mk (show tPtr ent k i = hasAll (ent.getD k dE).2.1 [i] by unfold tPtr hasAll; rw [hf]; simp)
    rw [hf] at HH
    clear h hf h1 h2 hc2 hw hwk hr h0 HK0
    generalize tPtr ent k i = r at *
    generalize hasAll (ent.getD k dE).2.1 [i] = r2 at *
    generalize ent.getD k dE = en at *
    go_enter Tryd.func27, Tryd.ntmps27
    go_wp2_with (first
      | (go_at_call 47; (with_reducible refine HH.out.mono ?_); rintro e w' ⟨rfl, rfl⟩)
      | (go_at_call 37; (with_reducible refine HK.out.mono ?_); rintro e w' ⟨rfl, hb⟩))
    go_ret
    exact ⟨ret_bool (by rw [H.out]), below_then H0.out H0.out.size hb⟩

-- a copy of a row of numbers: memory of the call's own
set_option maxHeartbeats 1000000 in
theorem cloneInt (A : Option Addr) (c : Nat) (l : List Int) (w : World) (hr : ReadsInt w .i64 A l.length l) (hl : l.length * 8 ≤ 140737488355328) :
    Calls Tryd.prog 48 #[.slice A l.length c] w fun e w' => ∃ v, e = .returned v ∧ w'.ownsRow w.heap.size 3 1 v l.length (nums .i64 l) ∧ Below w.heap.size w w' := by
  have q : ∀ (w : World) (a : Option Addr) (n c n' c' : Nat), (binOp .eql 34 (.slice a n c) (.slice none n' c')).run Tryd.prog w = .ok (.bool a.isNone) w := fun w a n c n' c' => Lib.run_eql_slice_nil w _ _ a n c n' c' Tryd.underlying34
  have HR := Lk.mk hr
  have HL := Lk.mk hl
  clear hr hl
  cases A with
  | none =>
    have e : l = [] := by
      rcases Nat.eq_zero_or_pos l.length with h | h
      · exact List.eq_nil_of_length_eq_zero h
      · obtain ⟨ad, h, _⟩ := HR.out.2.2 h; cases h
    subst e
    go_enter Tryd.func48, Tryd.ntmps48
    go_wp2
    go_ret
    exact ⟨_, rfl, own_nil _ _ _ _, Below.refl _ _⟩
  | some ad =>
    go_enter Tryd.func48, Tryd.ntmps48
    go_wp2_with (at_builtin; refine print_append_row (w0 := w) w.heap.size rfl _ _ 34 3 .i64 8 rfl Tryd.underlying34 info3 (by decide) (.slice (some ⟨w.heap.size, 0, none⟩) 0 0) [] l (some ad) l.length c rfl rfl ?q1 ?q2 ?q3 ?q4 ?q5 ?_)
    case q1 => exact own_lit w w.heap.size 3 .i64 [] (Nat.le_refl _) (by simp)
    case q2 => exact HR.out.below (below_alloc (Below.refl _ _) _)
    case q3 => exact below_alloc (Below.refl _ _) _
    case q4 => simp
    case q5 => simpa using HL.out
    intro v1 w1 hown hb _ _
    go_wp2
    go_ret
    exact ⟨_, rfl, by simpa using hown, hb⟩
set_option maxHeartbeats 1000000 in
theorem ptrs_any (p : Value) (ent : List (Int × (List Int × List Int))) (f : Int) (w : World) (h : TblOr w p ent) (hl : ∀ e ∈ ent, e.2.2.length * 8 ≤ 140737488355328) : Calls Tryd.prog 16 #[p, .int .i64 f] w fun e w' => ∃ v, e = .returned v ∧ w'.ownsRow w.heap.size 3 1 v (tPtrs ent f).length (nums .i64 (tPtrs ent f)) ∧ Below w.heap.size w w' := by
  have HH := Lk.mk (thas_any p ent f w h)
  cases hf : tHas ent f with
  | false =>
    have H := Lk.mk (show tPtrs ent f = [] by unfold tPtrs; rw [hf]; rfl)
    rw [hf] at HH
    clear h hf hl
    rw [H.out]
    go_enter Tryd.func16, Tryd.ntmps16
    go_wp2_with (go_at_call 47; (with_reducible refine HH.out.mono ?_); rintro e w' ⟨rfl, rfl⟩)
    go_ret
    exact ⟨_, rfl, own_nil _ _ _ _, Below.refl _ _⟩
  | true =>
    obtain ⟨g, ad, c, A1, c1, A2, c2, k, rfl, hc, rfl, hk, hc0, hc1, hc2, h1, h2⟩ := h.open_ hf
    have H := Lk.mk (show tPtrs ent k = (ent.getD k dE).2.2 by unfold tPtrs; rw [hf]; rfl)
    have HK := Lk.mk (cloneInt A2 c2 (ent.getD k dE).2.2 w h2 (hl _ (getD_mem _ (by omega))))
    rw [hf] at HH
    rw [H.out]
    clear h hf h1 h2 hc1 hc0 hl H
    generalize ent.getD k dE = en at *
    go_enter Tryd.func16, Tryd.ntmps16
    go_wp2_with (first
      | (go_at_call 47; (with_reducible refine HH.out.mono ?_); rintro e w' ⟨rfl, rfl⟩)
      | (go_at_call 48; (with_reducible refine HK.out.mono ?_); rintro e w' ⟨v, rfl, ho, hb⟩))
    go_ret
    exact ⟨_, rfl, ho, hb⟩
end Go.Proofs.YtmlchbldcoenaaaDoor
