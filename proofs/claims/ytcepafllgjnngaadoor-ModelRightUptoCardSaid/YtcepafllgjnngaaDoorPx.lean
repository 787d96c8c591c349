/-
  Plain facts of rows that are called and set; conditions: none.
-/
import Derived.Test.YtcepafllgjnngaaDoorPv
import Derived.Test.YtcepafllgjnngaaDoorK8
namespace Go.Proofs.YtcepafllgjnngaaDoor
open Go.RowKit Go.Proofs.YtcepafllgjnngaaDoorW.PrintWords

theorem getD_app_lt {l : List Af} {x : Af} {d : Nat} (h : d < l.length) : (l ++ [x]).getD d dAf = l.getD d dAf := by
  rw [List.getD_eq_getElem?_getD, List.getD_eq_getElem?_getD, List.getElem?_append_left h]
theorem getD_app_at {l : List Af} {x : Af} : (l ++ [x]).getD l.length dAf = x := by
  rw [List.getD_eq_getElem?_getD, List.getElem?_append_right (Nat.le_refl _), Nat.sub_self]; rfl
theorem has_app {l : List Af} {x : Af} {d s : Int} (h : hasA l d s = true) : hasA (l ++ [x]) d s = true := by
  obtain ⟨k, i, rfl, rfl, hk, hi⟩ := has_inv h
  exact has_nat (by rw [List.length_append]; omega) (by rw [getD_app_lt hk]; exact hi)
theorem fits_app {ptr : Int → Int → Bool} {l : List Af} {x : Af} {d : Nat} {s : Int} {v : Sl.Vl} (hd : d < l.length) (h : fitsN ptr l d s v = 0) : fitsN ptr (l ++ [x]) d s v = 0 := by
  unfold fitsN at h ⊢
  rw [Int.toNat_natCast] at h ⊢
  rw [getD_app_lt hd]
  by_cases h1 : Sl.mayV v = true
  · rw [if_pos h1] at h ⊢
    by_cases h2 : ptr (l.getD d dAf).1 s = !(decide (v.1 = 1))
    · rw [if_pos h2] at h ⊢
      by_cases h3 : v.1 = 2
      · rw [if_pos h3] at h ⊢
        by_cases h4 : hasA l v.2.2.1 v.2.2.2 = true
        · rw [if_pos h4] at h
          rw [if_pos (has_app h4)]
          exact h
        · rw [if_neg h4] at h; exact absurd h (by decide)
      · rw [if_neg h3]
    · rw [if_neg h2] at h; exact absurd h (by decide)
  · rw [if_neg h1] at h; exact absurd h (by decide)
theorem news_len (ent : List (Int × (List Int × List Int))) (f : Int) : (newsL ent f).length = (tSize ent f).toNat := newsTo_len _ _ _
theorem news_get (ent : List (Int × (List Int × List Int))) (f : Int) (i : Nat) (h : i < (tSize ent f).toNat) : (newsL ent f).getD i Sl.dVl = if tPtr ent f i = true then (0, 0, 0, 0) else (1, 0, 0, 0) := by
  unfold newsL newsTo
  rw [List.getD_eq_getElem?_getD, List.getElem?_map, List.getElem?_range h]
  simp only [Option.map_some, Option.getD_some, decide_eq_true h, Bool.true_and]
  cases tPtr ent f i <;> rfl
theorem right_call {ent : List (Int × (List Int × List Int))} {l : List Af} {f : Int} (hR : RightP (tSize ent) (tPtr ent) l) (h : 0 ≤ tSize ent f) : RightP (tSize ent) (tPtr ent) (l ++ [(f, newsL ent f)]) := by
  refine ⟨fun d hd => ?_, fun d i hd hi => ?_⟩
  · rw [List.length_append, show [((f, newsL ent f) : Af)].length = 1 from rfl] at hd
    by_cases e : d = l.length
    · subst e
      rw [getD_app_at]
      show tSize ent f = ((newsL ent f).length : Int)
      rw [news_len]; omega
    · rw [getD_app_lt (by omega)]
      exact hR.1 d (by omega)
  · rw [List.length_append, show [((f, newsL ent f) : Af)].length = 1 from rfl] at hd
    unfold slotV
    by_cases e : d = l.length
    · subst e
      rw [getD_app_at] at hi ⊢
      rw [show ((f, newsL ent f) : Af).2 = newsL ent f from rfl] at hi ⊢
      rw [news_len] at hi
      rw [news_get ent f i hi]
      unfold fitsN
      rw [Int.toNat_natCast, getD_app_at]
      cases hp : tPtr ent f i with
      | true => rfl
      | false => rfl
    · rw [getD_app_lt (by omega)] at hi ⊢
      exact fits_app (by omega) (hR.2 d i (by omega) hi)
theorem setL_len (l : List Af) (d s : Int) (v : Sl.Vl) : (setL l d s v).length = l.length := List.length_set
theorem setL_get {l : List Af} {k : Nat} (hk : k < l.length) (i : Nat) (v : Sl.Vl) (d : Nat) : (setL l k i v).getD d dAf = if d = k then ((l.getD k dAf).1, (l.getD k dAf).2.set i v) else l.getD d dAf := by
  unfold setL
  rw [Int.toNat_natCast, Int.toNat_natCast, List.getD_eq_getElem?_getD, List.getElem?_set]
  by_cases e : k = d
  · subst e
    rw [if_pos rfl, if_pos hk, if_pos rfl]; rfl
  · rw [if_neg e, if_neg (fun h => e h.symm), ← List.getD_eq_getElem?_getD]
theorem setL_fn {l : List Af} {k : Nat} (hk : k < l.length) (i : Nat) (v : Sl.Vl) (d : Nat) : ((setL l k i v).getD d dAf).1 = (l.getD d dAf).1 := by
  rw [setL_get hk]; split
  · rename_i h; subst h; rfl
  · rfl
theorem setL_slots {l : List Af} {k : Nat} (hk : k < l.length) (i : Nat) (v : Sl.Vl) (d : Nat) : ((setL l k i v).getD d dAf).2.length = (l.getD d dAf).2.length := by
  rw [setL_get hk]; split
  · rename_i h; subst h; exact List.length_set
  · rfl
theorem has_set {l : List Af} {k : Nat} (hk : k < l.length) (i : Nat) (v : Sl.Vl) (d s : Int) : hasA (setL l k i v) d s = hasA l d s := by
  unfold hasA
  rw [setL_len, setL_slots hk]
theorem fits_set {ptr : Int → Int → Bool} {l : List Af} {k : Nat} (hk : k < l.length) (i : Nat) (v : Sl.Vl) (d s : Int) (u : Sl.Vl) : fitsN ptr (setL l k i v) d s u = fitsN ptr l d s u := by
  unfold fitsN
  rw [setL_fn hk, has_set hk]
theorem right_set {sz : Int → Int} {ptr : Int → Int → Bool} {l : List Af} {d s : Int} {v : Sl.Vl} (hR : RightP sz ptr l) : RightP sz ptr (setR ptr l d s v) := by
  unfold setR
  by_cases h : setN ptr l d s v = 0
  · rw [if_pos h]
    unfold setN at h
    by_cases hh : hasA l d s = true
    · rw [if_pos hh] at h
      obtain ⟨k, i, rfl, rfl, hk, hi⟩ := has_inv hh
      refine ⟨fun d hd => ?_, fun d j hd hj => ?_⟩
      · rw [setL_len] at hd
        rw [setL_fn hk, setL_slots hk]
        exact hR.1 d hd
      · rw [setL_len] at hd
        rw [setL_slots hk] at hj
        rw [fits_set hk]
        unfold slotV
        rw [setL_get hk]
        by_cases e : d = k
        · subst e
          rw [if_pos rfl]
          show fitsN ptr l d j (((l.getD d dAf).2.set i v).getD j Sl.dVl) = 0
          rw [List.getD_eq_getElem?_getD, List.getElem?_set]
          by_cases e2 : i = j
          · subst e2
            rw [if_pos rfl, if_pos hi]
            exact h
          · rw [if_neg e2, ← List.getD_eq_getElem?_getD]
            exact hR.2 d j hd hj
        · rw [if_neg e]
          exact hR.2 d j hd hj
    · rw [if_neg hh] at h; exact absurd h (by decide)
  · rw [if_neg h]; exact hR
theorem setR_len (ptr : Int → Int → Bool) (l : List Af) (d s : Int) (v : Sl.Vl) : (setR ptr l d s v).length = l.length := by
  unfold setR; split
  · exact setL_len _ _ _ _
  · rfl
theorem mem_app {l : List Af} {x f : Af} (h : f ∈ l ++ [x]) : f ∈ l ∨ f = x := by
  rcases List.mem_append.1 h with h | h
  · exact .inl h
  · exact .inr (by simpa using h)
theorem aflen_call {l : List Af} {x : Af} (h : AfLen l) (h1 : l.length < 1048576) (h2 : x.2.length ≤ 1048576) : AfLen (l ++ [x]) :=
  ⟨by rw [List.length_append, show [x].length = 1 from rfl]; omega, fun f hf => by rcases mem_app hf with hf | rfl; exact h.2 f hf; exact h2⟩
theorem news_in (ent : List (Int × (List Int × List Int))) (f : Int) : ∀ v ∈ newsL ent f, VlIn v := by
  intro v hv
  unfold newsL newsTo at hv
  obtain ⟨j, _, rfl⟩ := List.mem_map.1 hv
  split <;> exact ⟨⟨by decide, by decide⟩, ⟨by decide, by decide⟩, ⟨by decide, by decide⟩, ⟨by decide, by decide⟩⟩
theorem afin_call {l : List Af} (h : AfIn l) (ent : List (Int × (List Int × List Int))) (f : Int) : AfIn (l ++ [(f, newsL ent f)]) := by
  intro g hg
  rcases mem_app hg with hg | rfl
  · exact h g hg
  · exact news_in ent f
theorem mem_setL {l : List Af} {k : Nat} (hk : k < l.length) {i : Nat} {v : Sl.Vl} {g : Af} (hg : g ∈ setL l k i v) : g ∈ l ∨ g = ((l.getD k dAf).1, (l.getD k dAf).2.set i v) := by
  unfold setL at hg
  rw [Int.toNat_natCast, Int.toNat_natCast] at hg
  exact (List.mem_or_eq_of_mem_set hg)
theorem aflen_set {ptr : Int → Int → Bool} {l : List Af} {d s : Int} {v : Sl.Vl} (h : AfLen l) : AfLen (setR ptr l d s v) := by
  refine ⟨by rw [setR_len]; exact h.1, fun g hg => ?_⟩
  unfold setR at hg
  by_cases hn : setN ptr l d s v = 0
  · rw [if_pos hn] at hg
    unfold setN at hn
    by_cases hh : hasA l d s = true
    · obtain ⟨k, i, rfl, rfl, hk, hi⟩ := has_inv hh
      rcases mem_setL hk hg with hg | rfl
      · exact h.2 g hg
      · show ((l.getD k dAf).2.set i v).length ≤ _
        rw [List.length_set]
        exact h.2 _ (getD_mem _ hk)
    · rw [if_neg hh] at hn; exact absurd hn (by decide)
  · rw [if_neg hn] at hg; exact h.2 g hg
theorem afin_set {ptr : Int → Int → Bool} {l : List Af} {d s : Int} {v : Sl.Vl} (h : AfIn l) (hv : VlIn v) : AfIn (setR ptr l d s v) := by
  intro g hg
  unfold setR at hg
  by_cases hn : setN ptr l d s v = 0
  · rw [if_pos hn] at hg
    unfold setN at hn
    by_cases hh : hasA l d s = true
    · obtain ⟨k, i, rfl, rfl, hk, hi⟩ := has_inv hh
      rcases mem_setL hk hg with hg | rfl
      · exact h g hg
      · intro u hu
        rcases List.mem_or_eq_of_mem_set hu with hu | rfl
        · exact h _ (getD_mem _ hk) u hu
        · exact hv
    · rw [if_neg hh] at hn; exact absurd hn (by decide)
  · rw [if_neg hn] at hg; exact h g hg
/-- a frame that was called and set is what Return takes off -/
theorem back_take {ptr : Int → Int → Bool} {l : List Af} {x : Af} {s : Int} {v : Sl.Vl} : (setR ptr (l ++ [x]) (l.length : Int) s v).take l.length = l := by
  unfold setR
  split
  · unfold setL
    rw [Int.toNat_natCast, List.set_append_right _ _ (Nat.le_refl _), List.take_left' rfl]
  · exact List.take_left' rfl
end Go.Proofs.YtcepafllgjnngaaDoor
