/-
  Plain: rows that are sorted by swaps; insertion, turn and merge; conditions: none.
-/
namespace So
abbrev Q := Int × Int × Int × Int
def key (x : Q) : Int := x.2.2.1
/-- two places' elements, the other way round -/
def sw (q : Nat → Q) (i j : Nat) : Nat → Q := fun p => if p = i then q j else if p = j then q i else q p
/-- what comes of swaps within a range -/
inductive Sw (a b : Nat) (q : Nat → Q) : (Nat → Q) → Prop
  | refl : Sw a b q q
  | step {r : Nat → Q} (i j : Nat) : Sw a b q r → a ≤ i → i < b → a ≤ j → j < b → Sw a b q (sw r i j)
theorem Sw.trans {a b : Nat} {q r s : Nat → Q} (h : Sw a b q r) (k : Sw a b r s) : Sw a b q s := by
  induction k with
  | refl => exact h
  | step i j _ h1 h2 h3 h4 ih => exact ih.step i j h1 h2 h3 h4
theorem Sw.mono {a b a' b' : Nat} {q r : Nat → Q} (h : Sw a b q r) (ha : a' ≤ a) (hb : b ≤ b') : Sw a' b' q r := by
  induction h with
  | refl => exact .refl
  | step i j _ h1 h2 h3 h4 ih => exact ih.step i j (by omega) (by omega) (by omega) (by omega)
theorem Sw.out {a b : Nat} {q r : Nat → Q} (h : Sw a b q r) (p : Nat) (hp : p < a ∨ b ≤ p) : r p = q p := by
  induction h with
  | refl => rfl
  | step i j _ h1 h2 h3 h4 ih => unfold sw; rw [if_neg (by omega), if_neg (by omega)]; exact ih
theorem Sw.img {a b : Nat} {q r : Nat → Q} (h : Sw a b q r) : ∀ p, a ≤ p → p < b → ∃ p', a ≤ p' ∧ p' < b ∧ r p = q p' := by
  induction h with
  | refl => exact fun p h1 h2 => ⟨p, h1, h2, rfl⟩
  | step i j _ h1 h2 h3 h4 ih =>
    intro p k1 k2
    unfold sw
    split
    · exact ih j h3 h4
    · split
      · exact ih i h1 h2
      · exact ih p k1 k2
/-- the sum over the first places -/
def sumTo (f : Nat → Int) : Nat → Int
  | 0 => 0
  | n + 1 => sumTo f n + f n
def upd (f : Nat → Int) (i : Nat) (x : Int) : Nat → Int := fun p => if p = i then x else f p
theorem sum_upd (f : Nat → Int) (i : Nat) (x : Int) (N : Nat) : sumTo (upd f i x) N = if i < N then sumTo f N - f i + x else sumTo f N := by
  induction N with
  | zero => rfl
  | succ n ih =>
    simp only [sumTo, ih]
    by_cases h : n = i
    · subst h
      rw [if_neg (by omega), if_pos (by omega)]
      simp only [upd, if_pos]
      omega
    · have : upd f i x n = f n := by simp [upd, h]
      rw [this]
      by_cases h2 : i < n
      · rw [if_pos h2, if_pos (by omega)]; omega
      · rw [if_neg h2, if_neg (by omega)]
theorem Sw.sum {a b N : Nat} {q r : Nat → Q} (h : Sw a b q r) (hb : b ≤ N) (f : Q → Int) : sumTo (fun p => f (r p)) N = sumTo (fun p => f (q p)) N := by
  induction h with
  | refl => rfl
  | @step r i j _ h1 h2 h3 h4 ih =>
    have e : (fun p => f (sw r i j p)) = upd (upd (fun p => f (r p)) j (f (r i))) i (f (r j)) := by
      funext p
      unfold sw upd
      split
      · rfl
      · split <;> rfl
    rw [e, sum_upd, sum_upd, if_pos (by omega), if_pos (by omega), ← ih]
    unfold upd
    dsimp only
    split
    · rename_i h; subst h; omega
    · omega
/-- sorted within a range -/
def Srt (q : Nat → Q) (a b : Nat) : Prop := ∀ x y, a ≤ x → x ≤ y → y < b → key (q x) ≤ key (q y)
theorem Srt.sub {q : Nat → Q} {a b a' b' : Nat} (h : Srt q a b) (ha : a ≤ a') (hb : b' ≤ b) : Srt q a' b' := fun x y h1 h2 h3 => h x y (by omega) h2 (by omega)
theorem Srt.same {q r : Nat → Q} {a b : Nat} (h : Srt q a b) (e : ∀ p, a ≤ p → p < b → r p = q p) : Srt r a b := fun x y h1 h2 h3 => by
  rw [e x h1 (by omega), e y (by omega) h3]; exact h x y h1 h2 h3
theorem Srt.one (q : Nat → Q) (a b : Nat) (h : b ≤ a + 1) : Srt q a b := fun x y h1 h2 h3 => by
  obtain rfl : x = y := by omega
  exact Int.le_refl _

/-- two ranges of n, the other way round -/
def SR (q : Nat → Q) (a b n : Nat) : Nat → Q := fun p => if a ≤ p ∧ p < a + n then q (p - a + b) else if b ≤ p ∧ p < b + n then q (p - b + a) else q p
theorem SR_zero (q : Nat → Q) (a b : Nat) : SR q a b 0 = q := by
  funext p; unfold SR; rw [if_neg (by omega), if_neg (by omega)]
theorem SR_step (q : Nat → Q) (a b i : Nat) (h : a + i < b) : sw (SR q a b i) (a + i) (b + i) = SR q a b (i + 1) := by
  funext p
  simp only [sw, SR]
  repeat' split
  all_goals first | omega | rfl | (congr 1; omega)
theorem SR_sw (q : Nat → Q) (a b n : Nat) (h : a + n ≤ b) : Sw a (b + n) q (SR q a b n) := by
  have : ∀ i, i ≤ n → Sw a (b + n) q (SR q a b i) := by
    intro i
    induction i with
    | zero => intro _; rw [SR_zero]; exact .refl
    | succ i ih => intro hi; rw [← SR_step q a b i (by omega)]; exact (ih (by omega)).step _ _ (by omega) (by omega) (by omega) (by omega)
  exact this n (Nat.le_refl _)
/-- a range turned: from m on first -/
def Rot (q : Nat → Q) (a m b : Nat) : Nat → Q := fun p => if a ≤ p ∧ p < a + (b - m) then q (p - a + m) else if a + (b - m) ≤ p ∧ p < b then q (p - (b - m)) else q p
theorem Rot_gt (q : Nat → Q) (m i j : Nat) (hi : i ≤ m) (hj : j < i) : Rot (SR q (m - i) m j) (m - (i - j)) m (m + j) = Rot q (m - i) m (m + j) := by
  funext p
  simp only [Rot, SR]
  repeat' split
  all_goals first | omega | rfl | (congr 1; omega)
theorem Rot_lt (q : Nat → Q) (m i j : Nat) (hi : i ≤ m) (hj : i < j) : Rot (SR q (m - i) (m + j - i) i) (m - i) m (m + (j - i)) = Rot q (m - i) m (m + j) := by
  funext p
  simp only [Rot, SR]
  repeat' split
  all_goals first | omega | rfl | (congr 1; omega)
theorem Rot_eq (q : Nat → Q) (m i : Nat) (hi : i ≤ m) : SR q (m - i) m i = Rot q (m - i) m (m + i) := by
  funext p
  simp only [Rot, SR]
  repeat' split
  all_goals first | omega | rfl | (congr 1; omega)
theorem Rot_left (q : Nat → Q) (m b : Nat) (h : m ≤ b) : Rot q m m b = q := by
  funext p
  simp only [Rot]
  repeat' split
  all_goals first | omega | rfl | (congr 1; omega)
theorem Rot_right (q : Nat → Q) (a m : Nat) (_ : a ≤ m) : Rot q a m m = q := by
  funext p
  simp only [Rot]
  repeat' split
  all_goals first | omega | rfl | (congr 1; omega)

/-- the insertion's state: all but j's are sorted; what is behind j isn't less -/
def Ins (r : Nat → Q) (a i j : Nat) : Prop := (∀ x y, a ≤ x → x ≤ y → y ≤ i → x ≠ j → y ≠ j → key (r x) ≤ key (r y)) ∧ ∀ y, j < y → y ≤ i → key (r j) ≤ key (r y)
theorem Ins.start {r : Nat → Q} {a i : Nat} (h : Srt r a i) : Ins r a i i := ⟨fun x y h1 h2 h3 h4 h5 => h x y h1 h2 (by omega), fun y h1 h2 => by omega⟩
theorem Ins.stop {r : Nat → Q} {a i j : Nat} (h : Ins r a i j) (hj : a ≤ j) (hji : j ≤ i) (hs : j = a ∨ key (r (j - 1)) ≤ key (r j)) : Srt r a (i + 1) := by
  intro x y h1 h2 h3
  by_cases hx : x = j
  · by_cases hy : y = j
    · subst hx; subst hy; exact Int.le_refl _
    · subst hx; exact h.2 y (by omega) (by omega)
  · by_cases hy : y = j
    · subst hy
      rcases hs with hs | hs
      · omega
      · exact Int.le_trans (h.1 x (y - 1) h1 (by omega) (by omega) hx (by omega)) hs
    · exact h.1 x y h1 h2 (by omega) hx hy
theorem Ins.next {r : Nat → Q} {a i j : Nat} (h : Ins r a i (j + 1)) (hj : a ≤ j) (hji : j + 1 ≤ i) (hs : key (r (j + 1)) < key (r j)) : Ins (sw r (j + 1) j) a i j := by
  refine ⟨fun x y h1 h2 h3 h4 h5 => ?_, fun y h1 h2 => ?_⟩
  · unfold sw
    rw [if_neg h4, if_neg h5]
    by_cases hx : x = j + 1
    · rw [if_pos hx]
      by_cases hy : y = j + 1
      · rw [if_pos hy]; exact Int.le_refl _
      · rw [if_neg hy]; exact h.1 j y hj (by omega) h3 (by omega) hy
    · rw [if_neg hx]
      by_cases hy : y = j + 1
      · rw [if_pos hy]; exact h.1 x j h1 (by omega) (by omega) hx (by omega)
      · rw [if_neg hy]; exact h.1 x y h1 h2 h3 hx hy
  · unfold sw
    rw [if_neg (by omega), if_pos rfl]
    by_cases hy : y = j + 1
    · rw [if_pos hy]; omega
    · rw [if_neg hy, if_neg (by omega)]; exact h.2 y (by omega) h2

/-- a's element goes to k, the ones between go down -/
def SL (q : Nat → Q) (a k : Nat) : Nat → Q := fun p => if a ≤ p ∧ p < k then q (p + 1) else if p = k then q a else q p
theorem SL_zero (q : Nat → Q) (a : Nat) : SL q a a = q := by
  funext p; simp only [SL]; repeat' split
  all_goals first | omega | rfl | (congr 1; omega)
theorem SL_step (q : Nat → Q) (a k : Nat) (h : a ≤ k) : sw (SL q a k) k (k + 1) = SL q a (k + 1) := by
  funext p
  by_cases h1 : p = k
  · subst h1
    simp only [sw, SL, ↓reduceIte]
    repeat' split
    all_goals first | omega | rfl | (congr 1; omega)
  · by_cases h2 : p = k + 1
    · subst h2
      simp only [sw, SL, ↓reduceIte]
      repeat' split
      all_goals first | omega | rfl | (congr 1; omega)
    · simp only [sw, SL, h1, h2, ↓reduceIte]
      repeat' split
      all_goals first | omega | rfl | (congr 1; omega)
theorem SL_sw (q : Nat → Q) (a k : Nat) (h : a ≤ k) : Sw a (k + 1) q (SL q a k) := by
  induction k with
  | zero => obtain rfl : a = 0 := by omega
            rw [SL_zero]; exact .refl
  | succ k ih =>
    by_cases e : a = k + 1
    · subst e; rw [SL_zero]; exact .refl
    · rw [← SL_step q a k (by omega)]
      exact ((ih (by omega)).mono (Nat.le_refl _) (by omega)).step _ _ (by omega) (by omega) (by omega) (by omega)
/-- one ahead of a sorted range: it goes in -/
theorem SL_srt {q : Nat → Q} {a b i : Nat} (h : Srt q (a + 1) b) (hi : a + 1 ≤ i) (hib : i ≤ b) (hl : ∀ p, a + 1 ≤ p → p < i → key (q p) < key (q a)) (hr : ∀ p, i ≤ p → p < b → key (q a) ≤ key (q p)) : Srt (SL q a (i - 1)) a b := by
  intro x y h1 h2 h3
  simp only [SL]
  repeat' split
  all_goals first
    | omega
    | exact Int.le_refl _
    | exact h _ _ (by omega) (by omega) (by omega)
    | exact Int.le_of_lt (hl _ (by omega) (by omega))
    | exact hr _ (by omega) (by omega)
/-- m's element goes to k, the ones between go up -/
def SU (q : Nat → Q) (k m : Nat) : Nat → Q := fun p => if p = k then q m else if k < p ∧ p ≤ m then q (p - 1) else q p
theorem SU_zero (q : Nat → Q) (m : Nat) : SU q m m = q := by
  funext p; simp only [SU]; repeat' split
  all_goals first | omega | rfl | (congr 1; omega)
theorem SU_step (q : Nat → Q) (k m : Nat) (h : k + 1 ≤ m) : sw (SU q (k + 1) m) (k + 1) k = SU q k m := by
  funext p
  by_cases h1 : p = k
  · subst h1
    simp only [sw, SU, ↓reduceIte]
    repeat' split
    all_goals first | omega | rfl | (congr 1; omega)
  · by_cases h2 : p = k + 1
    · subst h2
      simp only [sw, SU, ↓reduceIte]
      repeat' split
      all_goals first | omega | rfl | (congr 1; omega)
    · simp only [sw, SU, h1, h2, ↓reduceIte]
      repeat' split
      all_goals first | omega | rfl | (congr 1; omega)
theorem SU_sw (q : Nat → Q) (m : Nat) : ∀ n, n ≤ m → Sw (m - n) (m + 1) q (SU q (m - n) m) := by
  intro n
  induction n with
  | zero => intro _; rw [Nat.sub_zero, SU_zero]; exact .refl
  | succ n ih =>
    intro hn
    have h1 := SU_step q (m - (n + 1)) m (by omega)
    rw [show m - (n + 1) + 1 = m - n by omega] at h1
    rw [← h1]
    exact ((ih (by omega)).mono (by omega) (Nat.le_refl _)).step _ _ (by omega) (by omega) (by omega) (by omega)
theorem SU_srt {q : Nat → Q} {a m i : Nat} (h : Srt q a m) (hi : a ≤ i) (him : i ≤ m) (hl : ∀ p, a ≤ p → p < i → key (q p) ≤ key (q m)) (hr : ∀ p, i ≤ p → p < m → key (q m) < key (q p)) : Srt (SU q i m) a (m + 1) := by
  intro x y h1 h2 h3
  simp only [SU]
  repeat' split
  all_goals first
    | omega
    | exact Int.le_refl _
    | exact h _ _ (by omega) (by omega) (by omega)
    | exact Int.le_of_lt (hr _ (by omega) (by omega))
    | exact hl _ (by omega) (by omega)
/-- what symMerge's search finds -/
structure Cut (q : Nat → Q) (a m b s e : Nat) : Prop where
  as_ : a ≤ s
  sm : s ≤ m
  me : m ≤ e
  eb : e ≤ b
  one : a < s → e < b → key (q (s - 1)) ≤ key (q e)
  two : s < m → m < e → key (q (e - 1)) < key (q s)
/-- the search's state -/
structure Seek (q : Nat → Q) (a m b lo hi p s r : Nat) : Prop where
  los : lo ≤ s
  sr : s ≤ r
  rhi : r ≤ hi
  one : ∀ c, lo ≤ c → c < s → key (q c) ≤ key (q (p - c))
  two : ∀ c, r ≤ c → c < hi → key (q (p - c)) < key (q c)
/-- where it seeks -/
def Rng (a m b lo hi : Nat) : Prop := a < m ∧ m < b ∧ ((m ≤ (a + b) / 2 ∧ lo = a ∧ hi = m) ∨ ((a + b) / 2 < m ∧ lo = (a + b) / 2 + m - b ∧ hi = (a + b) / 2))
theorem Rng.at_ {a m b lo hi : Nat} (h : Rng a m b lo hi) : a ≤ lo ∧ lo ≤ hi ∧ hi ≤ m ∧ ∀ c, lo ≤ c → c < hi → m ≤ (a + b) / 2 + m - 1 - c ∧ (a + b) / 2 + m - 1 - c < b := by
  unfold Rng at h
  refine ⟨by omega, by omega, by omega, fun c h1 h2 => by omega⟩
theorem Seek.start (q : Nat → Q) {a m b lo hi : Nat} (h : Rng a m b lo hi) : Seek q a m b lo hi ((a + b) / 2 + m - 1) lo hi :=
  ⟨Nat.le_refl _, h.at_.2.1, Nat.le_refl _, fun c h1 h2 => by omega, fun c h1 h2 => by omega⟩
theorem Seek.up {q : Nat → Q} {a m b lo hi s r : Nat} (hg : Rng a m b lo hi) (h : Seek q a m b lo hi ((a + b) / 2 + m - 1) s r) (hs : s < r) (hA : Srt q a m) (hB : Srt q m b)
    (hc : key (q ((s + r) / 2)) ≤ key (q ((a + b) / 2 + m - 1 - (s + r) / 2))) : Seek q a m b lo hi ((a + b) / 2 + m - 1) ((s + r) / 2 + 1) r := by
  have h0 := hg.at_
  have h1 := h.los; have h2 := h.rhi
  refine ⟨by omega, by omega, h2, fun c k1 k2 => ?_, h.two⟩
  by_cases k3 : c < s
  · exact h.one c k1 k3
  · have e1 := h0.2.2.2 c (by omega) (by omega)
    have e2 := h0.2.2.2 ((s + r) / 2) (by omega) (by omega)
    exact Int.le_trans (hA c ((s + r) / 2) (by omega) (by omega) (by omega)) (Int.le_trans hc (hB _ _ (by omega) (by omega) (by omega)))
theorem Seek.down {q : Nat → Q} {a m b lo hi s r : Nat} (hg : Rng a m b lo hi) (h : Seek q a m b lo hi ((a + b) / 2 + m - 1) s r) (hs : s < r) (hA : Srt q a m) (hB : Srt q m b)
    (hc : key (q ((a + b) / 2 + m - 1 - (s + r) / 2)) < key (q ((s + r) / 2))) : Seek q a m b lo hi ((a + b) / 2 + m - 1) s ((s + r) / 2) := by
  have h0 := hg.at_
  have h1 := h.los; have h2 := h.rhi
  refine ⟨h1, by omega, by omega, h.one, fun c k1 k2 => ?_⟩
  by_cases k3 : r ≤ c
  · exact h.two c k3 k2
  · have e1 := h0.2.2.2 c (by omega) (by omega)
    have e2 := h0.2.2.2 ((s + r) / 2) (by omega) (by omega)
    have l1 := hA ((s + r) / 2) c (by omega) (by omega) (by omega)
    have l2 := hB ((a + b) / 2 + m - 1 - c) ((a + b) / 2 + m - 1 - (s + r) / 2) (by omega) (by omega) (by omega)
    omega
theorem Seek.cut {q : Nat → Q} {a m b lo hi s r : Nat} (hg : Rng a m b lo hi) (h : Seek q a m b lo hi ((a + b) / 2 + m - 1) s r) (hs : ¬ s < r) : Cut q a m b s ((a + b) / 2 + m - s) := by
  have h0 := hg.at_
  have h1 := h.los; have h2 := h.rhi; have h3 := h.sr
  unfold Rng at hg
  refine ⟨by omega, by omega, by omega, by omega, fun k1 k2 => ?_, fun k1 k2 => ?_⟩
  · have := h.one (s - 1) (by omega) (by omega)
    rwa [show (a + b) / 2 + m - 1 - (s - 1) = (a + b) / 2 + m - s by omega] at this
  · have := h.two s (by omega) (by omega)
    rwa [show (a + b) / 2 + m - 1 - s = (a + b) / 2 + m - s - 1 by omega] at this
/-- behind the turn: the parts of both halves are sorted -/
theorem Cut.parts {q : Nat → Q} {a m b s e : Nat} (h : Cut q a m b s e) (hA : Srt q a m) (hB : Srt q m b) :
    Srt (Rot q s m e) a s ∧ Srt (Rot q s m e) s (s + (e - m)) ∧ Srt (Rot q s m e) (s + (e - m)) e ∧ Srt (Rot q s m e) e b := by
  have h1 := h.as_; have h2 := h.sm; have h3 := h.me; have h4 := h.eb
  refine ⟨?_, ?_, ?_, ?_⟩
  all_goals
    intro x y k1 k2 k3
    simp only [Rot]
    repeat' split
    all_goals first
      | omega
      | exact hA _ _ (by omega) (by omega) (by omega)
      | exact hB _ _ (by omega) (by omega) (by omega)
/-- what either half has of it isn't above what the other has -/
theorem Cut.cross {q : Nat → Q} {a m b s e : Nat} (h : Cut q a m b s e) (hA : Srt q a m) (hB : Srt q m b) (x y : Nat) (k1 : a ≤ x) (k2 : x < s + (e - m)) (k3 : s + (e - m) ≤ y) (k4 : y < b) :
    key (Rot q s m e x) ≤ key (Rot q s m e y) := by
  have h1 := h.as_; have h2 := h.sm; have h3 := h.me; have h4 := h.eb
  simp only [Rot]
  by_cases c1 : x < s
  · rw [if_neg (by omega), if_neg (by omega)]
    by_cases c2 : y < e
    · rw [if_neg (by omega), if_pos (by omega)]
      exact hA _ _ (by omega) (by omega) (by omega)
    · rw [if_neg (by omega), if_neg (by omega)]
      have := h.one (by omega) (by omega)
      exact Int.le_trans (hA x (s - 1) (by omega) (by omega) (by omega)) (Int.le_trans this (hB e y (by omega) (by omega) (by omega)))
  · rw [if_pos (by omega)]
    by_cases c2 : y < e
    · rw [if_neg (by omega), if_pos (by omega)]
      have := h.two (by omega) (by omega)
      have l1 := hB (x - s + m) (e - 1) (by omega) (by omega) (by omega)
      have l2 := hA s (y - (e - m)) (by omega) (by omega) (by omega)
      omega
    · rw [if_neg (by omega), if_neg (by omega)]
      exact hB _ _ (by omega) (by omega) (by omega)
theorem Rot_sw (q : Nat → Q) : ∀ N m i j, i + j ≤ N → i ≤ m → Sw (m - i) (m + j) q (Rot q (m - i) m (m + j)) := by
  intro N
  induction N generalizing q with
  | zero =>
    intro m i j h hi
    obtain rfl : i = 0 := by omega
    obtain rfl : j = 0 := by omega
    rw [Nat.sub_zero, Nat.add_zero, Rot_left q m m (Nat.le_refl _)]
    exact .refl
  | succ N ih =>
    intro m i j h hi
    by_cases i0 : i = 0
    · subst i0; rw [Nat.sub_zero, Rot_left q m _ (by omega)]; exact .refl
    by_cases j0 : j = 0
    · subst j0; rw [Nat.add_zero, Rot_right q _ m (by omega)]; exact .refl
    rcases Nat.lt_trichotomy i j with c | c | c
    · rw [← Rot_lt q m i j hi c]
      refine ((SR_sw q (m - i) (m + j - i) i (by omega)).mono (Nat.le_refl _) (by omega)).trans ?_
      exact (ih (SR q (m - i) (m + j - i) i) m i (j - i) (by omega) hi).mono (Nat.le_refl _) (by omega)
    · subst c
      rw [← Rot_eq q m i hi]
      exact SR_sw q (m - i) m i (by omega)
    · rw [← Rot_gt q m i j hi c]
      refine ((SR_sw q (m - i) m j (by omega)).mono (Nat.le_refl _) (by omega)).trans ?_
      exact (ih (SR q (m - i) m j) m (i - j) j (by omega) (by omega)).mono (by omega) (Nat.le_refl _)
theorem Rot_sw' (q : Nat → Q) {a m b : Nat} (h1 : a ≤ m) (h2 : m ≤ b) : Sw a b q (Rot q a m b) := by
  have := Rot_sw q (b - a) m (m - a) (b - m) (by omega) (by omega)
  rwa [show m - (m - a) = a by omega, show m + (b - m) = b by omega] at this
/-- the merge, whole -/
theorem Cut.merge {q q1 q2 : Nat → Q} {a m b s e : Nat} (h : Cut q a m b s e) (hA : Srt q a m) (hB : Srt q m b)
    (w1 : Sw a (s + (e - m)) (Rot q s m e) q1) (s1 : Srt q1 a (s + (e - m))) (w2 : Sw (s + (e - m)) b q1 q2) (s2 : Srt q2 (s + (e - m)) b) : Sw a b q q2 ∧ Srt q2 a b := by
  have h1 := h.as_; have h2 := h.sm; have h3 := h.me; have h4 := h.eb
  refine ⟨(((Rot_sw' q h2 h3).mono h1 h4).trans (w1.mono (Nat.le_refl _) (by omega))).trans (w2.mono (by omega) (Nat.le_refl _)), fun x y k1 k2 k3 => ?_⟩
  by_cases c1 : y < s + (e - m)
  · rw [w2.out x (by omega), w2.out y (by omega)]
    exact s1 x y k1 k2 c1
  · by_cases c2 : s + (e - m) ≤ x
    · exact s2 x y c2 k2 k3
    · rw [w2.out x (by omega)]
      obtain ⟨x', x1, x2, x3⟩ := w1.img x k1 (by omega)
      obtain ⟨y', y1, y2, y3⟩ := w2.img y (by omega) k3
      rw [x3, y3, w1.out y' (by omega)]
      exact h.cross hA hB x' y' x1 x2 y1 y2
/-- a row of sorted blocks of bs, the last one maybe shorter -/
inductive Bl (r : Nat → Q) (bs : Nat) : Nat → Nat → Prop
  | last {s e : Nat} : e ≤ s + bs → Srt r s e → Bl r bs s e
  | cons {s e : Nat} : Srt r s (s + bs) → Bl r bs (s + bs) e → Bl r bs s e
/-- whole ones from nought on -/
inductive Pr (r : Nat → Q) (bs : Nat) : Nat → Prop
  | zero : Pr r bs 0
  | snoc {a : Nat} : Pr r bs a → Srt r a (a + bs) → Pr r bs (a + bs)
theorem Bl.same {q r : Nat → Q} {bs s e : Nat} (h : Bl q bs s e) (hb : 0 < bs) (hs : ∀ p, s ≤ p → r p = q p) : Bl r bs s e := by
  induction h with
  | last h1 h2 => exact .last h1 (h2.same fun p k1 _ => hs p k1)
  | cons h1 _ ih => exact .cons (h1.same fun p k1 _ => hs p k1) (ih fun p hp => hs p (by omega))
theorem Pr.same {q r : Nat → Q} {bs a : Nat} (h : Pr q bs a) (hs : ∀ p, p < a → r p = q p) : Pr r bs a := by
  induction h with
  | zero => exact .zero
  | snoc _ h2 ih => exact .snoc (ih fun p hp => hs p (by omega)) (h2.same fun p _ k2 => hs p k2)
theorem Pr.join {r : Nat → Q} {bs a e : Nat} (h : Pr r bs a) (k : Bl r bs a e) : Bl r bs 0 e := by
  induction h with
  | zero => exact k
  | snoc _ h2 ih => exact ih (.cons h2 k)
theorem Bl.two {r : Nat → Q} {bs a N : Nat} (hb : 0 < bs) (h : Bl r bs a N) (hN : a + 2 * bs ≤ N) : Srt r a (a + bs) ∧ Srt r (a + bs) (a + 2 * bs) ∧ Bl r bs (a + 2 * bs) N := by
  cases h with
  | last h1 h2 => omega
  | cons h1 h2 =>
    refine ⟨h1, ?_⟩
    cases h2 with
    | last h3 h4 =>
      obtain rfl : N = a + 2 * bs := by omega
      exact ⟨h4, .last (by omega) (Srt.one _ _ _ (by omega))⟩
    | cons h3 h4 => rw [show a + 2 * bs = a + bs + bs by omega]; exact ⟨h3, h4⟩
theorem Bl.part {r : Nat → Q} {bs a N : Nat} (h : Bl r bs a N) (h1 : a + bs < N) (h2 : N < a + 2 * bs) : Srt r a (a + bs) ∧ Srt r (a + bs) N := by
  cases h with
  | last h1 h2 => omega
  | cons h3 h4 =>
    refine ⟨h3, ?_⟩
    cases h4 with
    | last h5 h6 => exact h6
    | cons h5 h6 => exact h5.sub (Nat.le_refl _) (by omega)
theorem Bl.one {r : Nat → Q} {bs a N : Nat} (h : Bl r bs a N) (h1 : N ≤ a + bs) : Srt r a N := by
  cases h with
  | last h1 h2 => exact h2
  | cons h3 h4 => exact h3.sub (Nat.le_refl _) h1
/-- two sorted rows of the same elements, no two of one key, are one -/
theorem sum_zero {f : Nat → Int} : ∀ {N : Nat}, (∀ p, p < N → f p = 0) → sumTo f N = 0
  | 0, _ => rfl
  | n + 1, h => by simp only [sumTo]; rw [sum_zero (fun p hp => h p (by omega)), h n (by omega)]; rfl
theorem sum_ge {f : Nat → Int} {N : Nat} (h0 : ∀ p, 0 ≤ f p) : ∀ p, p < N → f p ≤ sumTo f N := by
  induction N with
  | zero => intro p hp; omega
  | succ n ih =>
    intro p hp
    simp only [sumTo]
    have hn : 0 ≤ sumTo f n := by
      clear ih hp
      induction n with
      | zero => exact Int.le_refl _
      | succ k ih => simp only [sumTo]; have := h0 k; omega
    by_cases e : p = n
    · subst e; omega
    · have := ih p (by omega); have := h0 n; omega
/-- the same elements, each as often -/
def Eqv (N : Nat) (q r : Nat → Q) : Prop := ∀ f : Q → Int, sumTo (fun p => f (r p)) N = sumTo (fun p => f (q p)) N
theorem Eqv.mem {N : Nat} {q r : Nat → Q} (h : Eqv N q r) (p : Nat) (hp : p < N) : ∃ k, k < N ∧ r p = q k := by
  have h1 := h (fun x => if x = r p then 1 else 0)
  have h2 : (if r p = r p then (1 : Int) else 0) ≤ sumTo (fun p' => if r p' = r p then (1 : Int) else 0) N := sum_ge (f := fun p' => if r p' = r p then (1 : Int) else 0) (fun k => by show (0 : Int) ≤ if r k = r p then 1 else 0; split <;> omega) p hp
  rw [if_pos rfl] at h2
  apply Classical.byContradiction
  intro hc
  have h3 : sumTo (fun p' => if q p' = r p then (1 : Int) else 0) N = 0 := sum_zero fun k hk => if_neg fun e => hc ⟨k, hk, e.symm⟩
  have h1' : sumTo (fun p' => if r p' = r p then (1 : Int) else 0) N = sumTo (fun p' => if q p' = r p then (1 : Int) else 0) N := h1
  omega
theorem Eqv.symm {N : Nat} {q r : Nat → Q} (h : Eqv N q r) : Eqv N r q := fun f => (h f).symm
theorem Eqv.trans {N : Nat} {q r s : Nat → Q} (h : Eqv N q r) (k : Eqv N r s) : Eqv N q s := fun f => (k f).trans (h f)
/-- keys are apart -/
def Apart (N : Nat) (q : Nat → Q) : Prop := ∀ i j, i < j → j < N → key (q i) ≠ key (q j)
theorem strict {N : Nat} {q r : Nat → Q} (ha : Apart N q) (hn : Eqv N q r) (hs : Srt r 0 N) : ∀ i j, i < j → j < N → key (r i) < key (r j) := by
  intro i j h1 h2
  have hle := hs i j (Nat.zero_le _) (by omega) h2
  rcases Int.lt_or_eq_of_le hle with h | h
  · exact h
  · exfalso
    obtain ⟨a, a1, a2⟩ := hn.mem i (by omega)
    obtain ⟨b, b1, b2⟩ := hn.mem j h2
    have hab : a = b := by
      rcases Nat.lt_trichotomy a b with c | c | c
      · exact absurd (by rw [← a2, ← b2]; exact h) (ha a b c b1)
      · exact c
      · exact absurd (by rw [← a2, ← b2]; exact h.symm) (ha b a c a1)
    subst hab
    have hrr : r i = r j := a2.trans b2.symm
    have h3 := hn (fun x => if x = r i then 1 else 0)
    have h4 : sumTo (fun p => if q p = r i then (1 : Int) else 0) N ≤ 1 := by
      have key_one : ∀ n, n ≤ N → sumTo (fun p => if q p = r i then (1 : Int) else 0) n ≤ if a < n then 1 else 0 := by
        intro n
        induction n with
        | zero => intro _; simp [sumTo]
        | succ n ih =>
          intro hn'
          have := ih (by omega)
          simp only [sumTo]
          by_cases e : n = a
          · subst e
            rw [if_neg (by omega)] at this
            rw [if_pos (show n < n + 1 by omega)]
            split <;> omega
          · have hne : ¬ q n = r i := by
              intro e2
              rw [a2] at e2
              rcases Nat.lt_trichotomy n a with c | c | c
              · exact ha n a c a1 (by rw [e2])
              · exact e c
              · exact ha a n c (by omega) (by rw [e2])
            rw [if_neg hne]
            split at this <;> split <;> omega
      have := key_one N (Nat.le_refl _)
      split at this <;> omega
    have h5 : 2 ≤ sumTo (fun p => if r p = r i then (1 : Int) else 0) N := by
      have h6 := sum_upd (fun p => if r p = r i then (1 : Int) else 0) i 0 N
      rw [if_pos (by omega), if_pos rfl] at h6
      have h7 : upd (fun p => if r p = r i then (1 : Int) else 0) i 0 j ≤ sumTo (upd (fun p => if r p = r i then (1 : Int) else 0) i 0) N :=
        sum_ge (fun k => by unfold upd; split; exact Int.le_refl _; dsimp only; split <;> omega) j h2
      have h8 : upd (fun p => if r p = r i then (1 : Int) else 0) i 0 j = 1 := by
        unfold upd; rw [if_neg (by omega)]; exact if_pos hrr.symm
      omega
    have h3' : sumTo (fun p => if r p = r i then (1 : Int) else 0) N = sumTo (fun p => if q p = r i then (1 : Int) else 0) N := h3
    omega
theorem same_row {N : Nat} {q r s : Nat → Q} (ha : Apart N q) (h1 : Eqv N q r) (s1 : Srt r 0 N) (h2 : Eqv N q s) (s2 : Srt s 0 N) : ∀ p, p < N → r p = s p := by
  have t1 := strict ha h1 s1
  have t2 := strict ha h2 s2
  intro p
  induction p using Nat.strongRecOn with
  | _ p ih =>
    intro hp
    obtain ⟨k, k1, k2⟩ := (h2.symm.trans h1).mem p hp
    obtain ⟨m, m1, m2⟩ := (h1.symm.trans h2).mem p hp
    -- r p = s k, s p = r m
    rcases Nat.lt_trichotomy k p with c | c | c
    · exfalso
      have e := ih k c k1
      have := t1 k p c hp
      rw [e, ← k2] at this; omega
    · subst c; exact k2
    · rcases Nat.lt_trichotomy m p with d | d | d
      · exfalso
        have e := ih m d m1
        have := t2 m p d hp
        rw [← e, ← m2] at this; omega
      · subst d; exact m2.symm
      · exfalso
        have l1 := t2 p k c k1
        have l2 := t1 p m d m1
        rw [← k2] at l1
        rw [← m2] at l2
        omega
end So
