/-
  Plain: what is found of parts that are sorted, and what sums say; conditions: none.
-/
import Derived.Test.YtcepafllgjnngaaJ1
namespace So
def lenQ (x : Q) : Int := x.2.2.2
def dQ : Q := (0, (0, (0, 0)))
/-- how far the first parts go -/
def nx (r : Nat → Q) (i : Nat) : Int := sumTo (fun p => lenQ (r p)) i
def good (words : Int) (r : Nat → Q) (i : Nat) : Prop := key (r i) = nx r i ∧ lenQ (r i) ≠ 0 ∧ 1 ≤ (r i).1 ∧ (r i).1 ≤ 6 ∧ lenQ (r i) ≤ words - nx r i
/-- what is found of sorted parts -/
def WholeR (words : Int) (N : Nat) (ok : Bool) (r : Nat → Q) (k a : Int) : Prop :=
  (ok = false ∧ k = 1 ∧ a = 0) ∨ (ok = true ∧ ∃ i, i ≤ N ∧ (∀ j, j < i → good words r j) ∧ ((i < N ∧ ¬ good words r i ∧ k = 1 ∧ a = nx r i) ∨ (i = N ∧ nx r N ≠ words ∧ k = 1 ∧ a = nx r N) ∨ (i = N ∧ nx r N = words ∧ k = 0 ∧ a = 0)))
def WR (words : Int) (l : List Q) (ok : Bool) (k a : Int) : Prop := ∃ r, (ok = true → Eqv l.length (fun p => l.getD p dQ) r ∧ Srt r 0 l.length) ∧ WholeR words l.length ok r k a
theorem nx_same {r s : Nat → Q} : ∀ {i : Nat}, (∀ p, p < i → r p = s p) → nx r i = nx s i
  | 0, _ => rfl
  | i + 1, h => by
    have := nx_same (r := r) (s := s) (i := i) (fun p hp => h p (by omega))
    unfold nx at *
    simp only [sumTo]
    rw [this, h i (by omega)]
theorem good_same {words : Int} {r s : Nat → Q} {N i : Nat} (h : ∀ p, p < N → r p = s p) (hi : i < N) : good words r i ↔ good words s i := by
  unfold good
  rw [h i hi, nx_same (fun p hp => h p (by omega))]
theorem WholeR.det {words : Int} {N : Nat} {ok : Bool} {r s : Nat → Q} {k a k' a' : Int} (hs : ok = true → ∀ p, p < N → r p = s p) (h : WholeR words N ok r k a) (h' : WholeR words N ok s k' a') : k = k' ∧ a = a' := by
  rcases h with ⟨h1, rfl, rfl⟩ | ⟨h1, i, hi, hg, hr⟩
  · rcases h' with ⟨_, rfl, rfl⟩ | ⟨h2, _⟩
    · exact ⟨rfl, rfl⟩
    · rw [h1] at h2; cases h2
  · rcases h' with ⟨h2, _⟩ | ⟨_, j, hj, hg', hr'⟩
    · rw [h1] at h2; cases h2
    · have hs := hs h1
      have hnN : nx r N = nx s N := nx_same hs
      rcases Nat.lt_trichotomy i j with c | c | c
      · exfalso
        rcases hr with ⟨_, hb, _⟩ | ⟨e, _⟩ | ⟨e, _⟩
        · exact hb ((good_same hs (by omega)).2 (hg' i c))
        · omega
        · omega
      · subst c
        have hni : nx r i = nx s i := nx_same (fun p hp => hs p (by omega))
        rcases hr with ⟨l1, hb, rfl, rfl⟩ | ⟨e, hb, rfl, rfl⟩ | ⟨e, hb, rfl, rfl⟩ <;> rcases hr' with ⟨l1', hb', rfl, rfl⟩ | ⟨e', hb', rfl, rfl⟩ | ⟨e', hb', rfl, rfl⟩
        all_goals first
          | exact ⟨rfl, by first | exact hni | exact hnN | rfl⟩
          | (exfalso; omega)
      · exfalso
        rcases hr' with ⟨_, hb, _⟩ | ⟨e, _⟩ | ⟨e, _⟩
        · exact hb ((good_same hs (by omega)).1 (hg j c))
        · omega
        · omega
/-- nothing is found: the lengths come to all words -/
theorem WholeR.none {words : Int} {N : Nat} {ok : Bool} {r : Nat → Q} (h : WholeR words N ok r 0 0) : ok = true ∧ nx r N = words ∧ ∀ j, j < N → good words r j := by
  rcases h with ⟨_, h2, _⟩ | ⟨h1, i, hi, hg, ⟨_, _, h2, _⟩ | ⟨_, _, h2, _⟩ | ⟨e, h2, _, _⟩⟩
  · omega
  · omega
  · omega
  · subst e; exact ⟨h1, h2, hg⟩
/-- a row the other way round has the same elements -/
theorem sum_rev (f : Nat → Int) : ∀ N, sumTo (fun p => f (N - 1 - p)) N = sumTo f N := by
  have shift : ∀ (g : Nat → Int) (n : Nat), sumTo g (n + 1) = g 0 + sumTo (fun p => g (p + 1)) n := by
    intro g n
    induction n with
    | zero => simp [sumTo]
    | succ n ih => rw [sumTo, ih]; simp only [sumTo]; omega
  intro N
  induction N with
  | zero => rfl
  | succ n ih =>
    rw [shift]
    have e : (fun p => f (n + 1 - 1 - (p + 1))) = fun p => f (n - 1 - p) := by
      funext p
      congr 1
      omega
    rw [e, ih]
    simp only [sumTo]
    rw [show n + 1 - 1 - 0 = n by omega]
    omega
theorem sum_congr {f g : Nat → Int} : ∀ {N : Nat}, (∀ p, p < N → f p = g p) → sumTo f N = sumTo g N
  | 0, _ => rfl
  | n + 1, h => by simp only [sumTo]; rw [sum_congr (fun p hp => h p (by omega)), h n (by omega)]
theorem sum_bound {f : Nat → Int} {M : Int} : ∀ {N : Nat}, (∀ p, p < N → 0 ≤ f p ∧ f p ≤ M) → 0 ≤ sumTo f N ∧ sumTo f N ≤ N * M
  | 0, _ => by simp [sumTo]
  | n + 1, h => by
    have h1 := sum_bound (f := f) (M := M) (N := n) (fun p hp => h p (by omega))
    have h2 := h n (by omega)
    simp only [sumTo]
    rw [show ((n + 1 : Nat) : Int) * M = n * M + M by rw [Int.natCast_add, Int.add_mul]; simp]
    omega
theorem sum_add (f g : Nat → Int) : ∀ N, sumTo (fun p => f p + g p) N = sumTo f N + sumTo g N
  | 0 => rfl
  | n + 1 => by simp only [sumTo]; rw [sum_add f g n]; omega
/-- what the parts of one kind have -/
def kindF (k : Int) (x : Q) : Int := if x.1 = k then lenQ x else 0
/-- and those of the first kinds -/
def kindsF (k : Int) (x : Q) : Int := if x.1 < k then lenQ x else 0
theorem kinds_next (k : Nat) (x : Q) : kindsF (k + 1 : Nat) x = kindsF k x + kindF k x := by
  unfold kindsF kindF
  by_cases h : x.1 < k
  · rw [if_pos (by omega), if_pos h, if_neg (by omega)]; omega
  · by_cases h2 : x.1 = k
    · rw [if_pos (by omega), if_neg h, if_pos h2]; omega
    · rw [if_neg (by omega), if_neg h, if_neg h2]; rfl
end So
