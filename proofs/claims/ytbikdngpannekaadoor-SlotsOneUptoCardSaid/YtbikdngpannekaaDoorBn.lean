/-
  The walks of the reference's Great, Size, Words, Ptr, May; conditions: the functions read as told.
-/
import Derived.Test.YtbikdngpannekaaDoorBm
namespace Go.Proofs.YtbikdngpannekaaDoor
open Go.RowKit Go.Proofs.YtbikdngpannekaaDoorW.PrintWords

def greatL (l : List (Int × List Int)) : Bool := decide (120 < l.length) || l.any fun f => decide (40 < f.2.length)
set_option maxRecDepth 100000 in
set_option maxHeartbeats 1000000 in
theorem great_any (A : Option Addr) (c : Nat) (l : List (Int × List Int)) (w : World) (hr : FnC w A l.length l) :
    Calls Tryd.prog 24 #[.slice A l.length c] w fun e w' => e = .returned (.bool (greatL l)) ∧ w' = w := by
  have HR := Lk.mk hr
  have hm := hr.2.1
  clear hr
  by_cases h120 : 120 < l.length
  · have hz : (120 : Int) < (l.length : Int) := by omega
    have H := Lk.mk (show greatL l = true by unfold greatL; rw [decide_eq_true h120]; rfl)
    generalize greatL l = r at *
    go_enter Tryd.func24, Tryd.ntmps24
    go_wp2
    go_ret
    exact ⟨ret_bool (by rw [H.out]), rfl⟩
  · have hz : ¬ (120 : Int) < (l.length : Int) := by omega
    have HH := Lk.mk h120
    go_enter Tryd.func24, Tryd.ntmps24
    go_wp2
    go_loopg [3, 9] l.length (fun gg _ v9 wr => ∃ k : Nat, k ≤ l.length ∧ l.length - k ≤ gg ∧ v9 = .int .i64 k ∧ Lk (∀ j, j < k → ¬ 40 < (l.getD j dF).2.length) ∧ wr = w)
    case atStart => exact ⟨0, by omega, by omega, rfl, ⟨fun j hj => absurd hj (by omega)⟩, rfl⟩
    case round =>
      obtain ⟨k, hk, hg, rfl, HE, rfl⟩ := hrel
      by_cases hlt : k < l.length
      · have hltz : (k : Int) < (l.length : Int) := by omega
        obtain ⟨ad, A1, c1, rfl, hcell0, hcell1, hc1, hr1⟩ := HR.out.at_ k hlt
        obtain ⟨f, hf⟩ : ∃ f, f = l.getD k dF := ⟨_, rfl⟩
        rw [← hf] at hcell0 hcell1 hc1 hr1
        have HM := Lk.mk (show f ∈ l by rw [hf]; exact getD_mem _ hlt)
        have HF := Lk.mk hf
        clear hf hr1
        by_cases h40 : 40 < f.2.length
        · have hz40 : (40 : Int) < (f.2.length : Int) := by omega
          have H := Lk.mk (show greatL l = true by unfold greatL; rw [List.any_eq_true.2 ⟨f, HM.out, decide_eq_true h40⟩, Bool.or_true])
          go_wp2
          go_ret
          exact ⟨ret_bool H.out.symm, rfl⟩
        · have hz40 : ¬ (40 : Int) < (f.2.length : Int) := by omega
          have H4 := Lk.mk h40
          go_wp2
          go_roundg (l.length - (k + 1))
          case measure => omega
          case rel =>
            refine ⟨k + 1, by omega, by omega, by go_num, ⟨fun j hj => ?_⟩, rfl⟩
            by_cases e : j = k
            · subst e; rw [← HF.out]; exact H4.out
            · exact HE.out j (by omega)
      · have hltz : ¬ (k : Int) < (l.length : Int) := by omega
        obtain rfl : k = l.length := by omega
        have H := Lk.mk (show greatL l = false by
          unfold greatL
          rw [decide_eq_false HH.out, Bool.false_or, List.any_eq_false]
          intro x hx
          obtain ⟨j, hj, rfl⟩ := List.getElem_of_mem hx
          have := HE.out j hj
          rw [List.getD_eq_getElem?_getD, List.getElem?_eq_getElem hj] at this
          simpa using this)
        go_wp2
        go_ret
        exact ⟨ret_bool H.out.symm, rfl⟩

def lSize (l : List (Int × List Int)) (f : Int) : Int := if 0 ≤ f ∧ f < l.length then (l.getD f.toNat dF).1 else -1
theorem refSize_any (A : Option Addr) (c : Nat) (l : List (Int × List Int)) (f : Int) (w : World) (hr : FnC w A l.length l) :
    Calls Tryd.prog 35 #[.slice A l.length c, .int .i64 f] w fun e w' => e = .returned (.int .i64 (lSize l f)) ∧ w' = w := by
  have hm := hr.2.1
  by_cases hf : 0 ≤ f ∧ f < l.length
  · have H := Lk.mk (show lSize l f = (l.getD f.toNat dF).1 from if_pos hf)
    obtain ⟨h0, h1⟩ := hf
    obtain ⟨k, rfl⟩ := Int.eq_ofNat_of_zero_le h0
    obtain ⟨ad, A1, c1, rfl, hcell0, hcell1, hc1, hr1⟩ := hr.at_ k (by omega)
    rw [Int.toNat_natCast] at H
    clear hr hr1 hcell1
    generalize lSize l k = r at *
    generalize l.getD k dF = x at *
    go_enter Tryd.func35, Tryd.ntmps35
    go_wp2
    go_ret
    exact ⟨ret_int H.out.symm, rfl⟩
  · have H := Lk.mk (show lSize l f = -1 from if_neg hf)
    clear hr
    generalize lSize l f = r at *
    by_cases h0 : 0 ≤ f
    · have h1 : ¬ f < l.length := fun h => hf ⟨h0, h⟩
      clear hf
      go_enter Tryd.func35, Tryd.ntmps35
      go_wp2
      go_ret
      exact ⟨ret_int H.out.symm, rfl⟩
    · clear hf
      go_enter Tryd.func35, Tryd.ntmps35
      go_wp2
      go_ret
      exact ⟨ret_int H.out.symm, rfl⟩
def lWords (l : List (Int × List Int)) (f : Int) : Int := if lSize l f < 0 then -1 else lSize l f + 2
theorem refWords_any (A : Option Addr) (c : Nat) (l : List (Int × List Int)) (f : Int) (w : World) (hr : FnC w A l.length l) (hs : lSize l f ≤ 9223372036854775805) :
    Calls Tryd.prog 36 #[.slice A l.length c, .int .i64 f] w fun e w' => e = .returned (.int .i64 (lWords l f)) ∧ w' = w := by
  have HS := Lk.mk (refSize_any A c l f w hr)
  have H := Lk.mk (show lWords l f = if lSize l f < 0 then -1 else lSize l f + 2 from rfl)
  clear hr
  generalize lWords l f = r at *
  generalize lSize l f = s at *
  by_cases h0 : s < 0
  · go_enter Tryd.func36, Tryd.ntmps36
    go_wp2_with (go_at_call 35; (with_reducible refine HS.out.mono ?_); rintro e w' ⟨rfl, rfl⟩)
    go_ret
    exact ⟨ret_int (by rw [H.out, if_pos (by omega)]), rfl⟩
  · have hw : IntKind.i64.wrap (s + 2) = s + 2 := IntWalk.i64_in _ (by omega)
    go_enter Tryd.func36, Tryd.ntmps36
    go_wp2_with (go_at_call 35; (with_reducible refine HS.out.mono ?_); rintro e w' ⟨rfl, rfl⟩)
    go_ret
    exact ⟨ret_int (by rw [H.out, if_neg (by omega)]), rfl⟩
def lPtr (l : List (Int × List Int)) (f i : Int) : Bool := decide (0 ≤ lSize l f) && Bm.hasL (l.getD f.toNat dF).2 i
set_option maxHeartbeats 1000000 in
theorem refPtr_any (A : Option Addr) (c : Nat) (l : List (Int × List Int)) (f i : Int) (w : World) (hr : FnC w A l.length l) (hw : ∀ f ∈ l, Bm.Words f.2) (hi : i ≤ 9223372036854775807) :
    Calls Tryd.prog 122 #[.slice A l.length c, .int .i64 f, .int .i64 i] w fun e w' => e = .returned (.bool (lPtr l f i)) ∧ Below w.heap.size w w' := by
  have hm := hr.2.1
  have HS := Lk.mk (refSize_any A c l f w hr)
  by_cases h0 : 0 ≤ lSize l f
  · have hf : 0 ≤ f ∧ f < l.length := by
      by_cases h : 0 ≤ f ∧ f < l.length
      · exact h
      · rw [show lSize l f = -1 from if_neg h] at h0; omega
    obtain ⟨hf0, hf1⟩ := hf
    obtain ⟨k, rfl⟩ := Int.eq_ofNat_of_zero_le hf0
    obtain ⟨ad, A1, c1, rfl, hcell0, hcell1, hc1, hr1⟩ := hr.at_ k (by omega)
    have H := Lk.mk (show lPtr l k i = Bm.hasL (l.getD k dF).2 i by unfold lPtr; rw [decide_eq_true h0, Bool.true_and, Int.toNat_natCast])
    have HH := Lk.mk (refHas_any A1 c1 (l.getD k dF).2 i w hr1 (hw _ (getD_mem _ (by omega))) hi)
    clear hr hr1 hcell0 hw
    generalize lPtr l k i = r at *
    generalize lSize l k = s at *
    generalize Bm.hasL (l.getD k dF).2 i = r2 at *
    generalize l.getD k dF = x at *
    go_enter Tryd.func122, Tryd.ntmps122
    go_wp2_with (first
      | (go_at_call 35; (with_reducible refine HS.out.mono ?_); rintro e w' ⟨rfl, rfl⟩)
      | (go_at_call 120; (with_reducible refine HH.out.mono ?_); rintro e w' ⟨rfl, rfl⟩))
    go_ret
    exact ⟨ret_bool (by rw [H.out]), Below.refl _ _⟩
  · have H := Lk.mk (show lPtr l f i = false by unfold lPtr; rw [decide_eq_false h0, Bool.false_and])
    clear hr hw
    generalize lPtr l f i = r at *
    generalize lSize l f = s at *
    go_enter Tryd.func122, Tryd.ntmps122
    go_wp2_with (go_at_call 35; (with_reducible refine HS.out.mono ?_); rintro e w' ⟨rfl, rfl⟩)
    go_ret
    exact ⟨ret_bool (by rw [H.out]), Below.refl _ _⟩

theorem may_iff (s : Int) (l : List Int) : mayB s l = true ↔ 0 ≤ s ∧ s ≤ 1000 ∧ ∀ i : Nat, s ≤ i → i < 64 * l.length → Bm.bitAt l i = false := by
  have key : (Bm.bitsL l (64 * (l.length : Int))).length = (Bm.bitsL l s).length ↔ ∀ i : Nat, s ≤ i → i < 64 * l.length → Bm.bitAt l i = false := by
    have e1 : (Bm.bitsL l (64 * (l.length : Int))).length = ((List.range (64 * l.length)).filter (Bm.bitAt l)).length := by
      unfold Bm.bitsL Bm.bitsN
      rw [List.length_map]
      congr 1
      apply List.filter_congr
      intro j hj
      have := List.mem_range.1 hj
      unfold Bm.okBit
      rw [show decide ((j : Int) < 64 * (l.length : Int)) = true from decide_eq_true (by omega), Bool.and_true]
    have e2 : (Bm.bitsL l s).length = (((List.range (64 * l.length)).filter (Bm.bitAt l)).filter (fun (j : Nat) => decide ((j : Int) < s))).length := by
      unfold Bm.bitsL Bm.bitsN
      rw [List.length_map, List.filter_filter]
      congr 1
      apply List.filter_congr
      intro j _
      unfold Bm.okBit
      rw [Bool.and_comm]
    rw [e1, e2, eq_comm, List.length_filter_eq_length_iff]
    constructor
    · intro h i h1 h2
      by_cases hb : Bm.bitAt l i = true
      · have := h i (List.mem_filter.2 ⟨List.mem_range.2 h2, hb⟩)
        simp at this
        omega
      · simpa using hb
    · intro h j hj
      obtain ⟨h1, h2⟩ := List.mem_filter.1 hj
      rw [decide_eq_true_eq]
      by_cases hs : s ≤ j
      · rw [h j hs (List.mem_range.1 h1)] at h2; cases h2
      · omega
  unfold mayB
  rw [Bool.and_eq_true, Bool.and_eq_true, decide_eq_true_eq, decide_eq_true_eq, decide_eq_true_eq, key, and_assoc]
end Go.Proofs.YtbikdngpannekaaDoor
