/-
  The walk of the law FnsJoins; conditions: the functions read as told, the table of deBruijn stands. Plain: two rows of functions, one behind the other.
-/
import Derived.Test.YtmlchbldcoenaaaDoorBw
namespace Go.Proofs.YtmlchbldcoenaaaDoor
open Go.RowKit Go.Proofs.YtmlchbldcoenaaaDoorW.PrintWords

/-- rows of functions whose own rows are those of an elder world -/
def kG (w0 : World) : Kd (Int × List Int) where
  sz := 2
  E := []
  K := fun _ x cs => FnR w0 x cs
  M := fun _ _ _ x cs => FnR w0 x cs
  K_len := by rintro w x cs ⟨A, c, rfl, _⟩; rfl
  K_one := by
    rintro w x cs ⟨A, c, rfl, _⟩ u hu
    simp at hu
    rcases hu with rfl | rfl <;> rfl
  K_below := fun _ h => h
  K_of_M := fun h => h
  M_mono := fun _ h => h
  M_bound := fun h => h
  M_move := fun _ h => h
  M_lower := fun _ h => h
theorem kG_fnC {w0 w : World} {A : Option Addr} {n : Nat} {l : List (Int × List Int)} (h : (kG w0).C w A n l) (hb : Below w0.heap.size w0 w) : FnC w A n l :=
  ReadsRow.imp_ h (Below.refl _ _) (fun _ _ hp => FnR.below hb hp)

theorem may_append (a b : List (Int × List Int)) : mayAll (a ++ b) = (mayAll a && mayAll b) := by
  unfold mayAll; rw [List.any_append, Bool.not_or]
theorem foldl_max (b : List (Int × List Int)) : ∀ n m : Int, 0 ≤ n → b.foldl (fun n f => if mayB f.1 f.2 = true then max n (f.1 + 2) else n) (max m n) = max m (b.foldl (fun n f => if mayB f.1 f.2 = true then max n (f.1 + 2) else n) n) := by
  induction b with
  | nil => intro n m _; rfl
  | cons f b ih =>
    intro n m hn
    rw [List.foldl_cons, List.foldl_cons]
    by_cases h : mayB f.1 f.2 = true
    · rw [if_pos h, if_pos h, ← ih (max n (f.1 + 2)) m (by omega)]
      congr 1; omega
    · rw [if_neg h, if_neg h, ih n m hn]
theorem least_nonneg (l : List (Int × List Int)) : 0 ≤ leastL l := by
  unfold leastL
  have := foldl_max l 0 0 (by omega)
  rw [show max (0 : Int) 0 = 0 by omega] at this
  omega
theorem least_append (a b : List (Int × List Int)) : leastL (a ++ b) = max (leastL a) (leastL b) := by
  unfold leastL
  rw [List.foldl_append]
  have h := least_nonneg a
  unfold leastL at h
  have := foldl_max b 0 (a.foldl (fun n f => if mayB f.1 f.2 = true then max n (f.1 + 2) else n) 0) (by omega)
  rwa [show max (a.foldl (fun n f => if mayB f.1 f.2 = true then max n (f.1 + 2) else n) 0) 0 = a.foldl (fun n f => if mayB f.1 f.2 = true then max n (f.1 + 2) else n) 0 by omega] at this
theorem may_table {s : Int} {m : List Int} (h : mayB s m = true) : mayB s (Bm.ofL (Bm.bitsL m s)) = true := by
  obtain ⟨h0, h1, h2⟩ := (may_iff s m).1 h
  refine (may_iff _ _).2 ⟨h0, h1, fun i hi _ => ?_⟩
  rw [bitAt_same h]
  rcases Nat.lt_or_ge i (64 * m.length) with hl | hl
  · exact h2 i hi hl
  · exact Bm.bitAt_out m i (by omega)
theorem least_table {l : List (Int × List Int)} (h : ∀ f ∈ l, mayB f.1 f.2 = true) : leastL ((l.map entryOf).map fnOf) = leastL l := by
  unfold leastL
  generalize (0 : Int) = n
  induction l generalizing n with
  | nil => rfl
  | cons f l ih =>
    have hf := h f (by simp)
    rw [List.map_cons, List.map_cons, List.foldl_cons, List.foldl_cons, ih (fun g hg => h g (by simp [hg])), if_pos hf]
    congr 1
    exact if_pos (may_table hf)
theorem getD_left (a b : List (Int × List Int)) (k : Nat) (h : k < a.length) : (a ++ b).getD k dF = a.getD k dF := by
  rw [List.getD_eq_getElem?_getD, List.getD_eq_getElem?_getD, List.getElem?_append_left h]
theorem getD_right (a b : List (Int × List Int)) (k : Nat) : (a ++ b).getD (a.length + k) dF = b.getD k dF := by
  rw [List.getD_eq_getElem?_getD, List.getD_eq_getElem?_getD, List.getElem?_append_right (by omega), Nat.add_sub_cancel_left]
theorem size_right (a b : List (Int × List Int)) (f : Nat) (h : f < b.length) : lSize (a ++ b) ((a.length : Int) + f) = lSize b f := by
  unfold lSize
  rw [if_pos (by rw [List.length_append]; omega), if_pos (by omega), show ((a.length : Int) + f).toNat = a.length + f by omega, getD_right, Int.toNat_natCast]
theorem ptr_right (a b : List (Int × List Int)) (f : Nat) (i : Int) (h : f < b.length) : lPtr (a ++ b) ((a.length : Int) + f) i = lPtr b f i := by
  unfold lPtr
  rw [size_right a b f h, show ((a.length : Int) + f).toNat = a.length + f by omega, getD_right, Int.toNat_natCast]
theorem words_left (a b : List (Int × List Int)) (h : 0 < a.length) : lWords (a ++ b) 0 = lWords a 0 := by
  have : lSize (a ++ b) 0 = lSize a 0 := by
    unfold lSize
    rw [if_pos (by rw [List.length_append]; omega), if_pos (by omega), show (0 : Int).toNat = 0 from rfl, getD_left a b 0 h]
  unfold lWords
  rw [this]
theorem FnsIn.append {a b : List (Int × List Int)} (ha : FnsIn a) (hb : FnsIn b) : FnsIn (a ++ b) := fun f hf => (List.mem_append.1 hf).elim (ha f) (hb f)
theorem FnsOk.append {a b : List (Int × List Int)} (ha : FnsOk a) (hb : FnsOk b) : FnsOk (a ++ b) := fun f hf => (List.mem_append.1 hf).elim (ha f) (hb f)

set_option maxRecDepth 100000 in
set_option maxHeartbeats 4000000 in
theorem joins_out (A : Option Addr) (c : Nat) (a : List (Int × List Int)) (B : Option Addr) (d : Nat) (b : List (Int × List Int)) (f i : Int) (w : World) (hr : FnC w A a.length a) (hr2 : FnC w B b.length b) (hT : Tab w)
    (h : ¬ (greatL a = false ∧ greatL b = false ∧ 1 ≤ a.length ∧ a.length ≤ 50 ∧ b.length ≤ 50 ∧ 0 ≤ f ∧ f < b.length)) :
    Calls Tryd.prog 6 #[.slice A a.length c, .slice B b.length d, .int .i64 f, .int .i64 i] w fun e w' => e = .returned (.bool true) ∧ Below w.heap.size w w' := by
  have HGa := Lk.mk (great_any A c a w hr)
  have HGb := Lk.mk (great_any B d b w hr2)
  have HA := Lk.mk (awake_any w hT)
  have H := Lk.mk h
  have hm1 := hr.2.1
  have hm2 := hr2.2.1
  clear hr hr2 hT h
  generalize greatL a = ga at *
  generalize greatL b = gb at *
  go_enter Tryd.func6, Tryd.ntmps6
  cases ga <;> cases gb <;> by_cases h1 : (a.length : Int) < 1 <;> by_cases h2 : (50 : Int) < (a.length : Int) <;> by_cases h3 : (50 : Int) < (b.length : Int) <;> by_cases h4 : f < 0 <;> by_cases h5 : f < (b.length : Int) <;> first
    | exact absurd ⟨rfl, rfl, by omega, by omega, by omega, by omega, by omega⟩ H.out
    | (clear H
       go_wp2_with (first
         | (go_at_call 12; (with_reducible refine HGa.out.mono ?_); rintro e w' ⟨rfl, hw⟩; obtain rfl := hw.symm; clear hw)
         | (go_at_call 12; (with_reducible refine HGb.out.mono ?_); rintro e w' ⟨rfl, hw⟩; obtain rfl := hw.symm; clear hw)
         | (go_at_call 13; (with_reducible refine HA.out.mono ?_); rintro e w' ⟨rfl, hb⟩))
       go_ret
       exact ⟨rfl, hb⟩)
end Go.Proofs.YtmlchbldcoenaaaDoor
