/-
  Plain: texts of digits to the base 16, and their values; conditions: none.
-/
import Derived.Test.YtpnklpjjbpheeaaGreatDoorY1
namespace Hx
/-- a digit to the base 16 -/
def hx (c : UInt8) : Bool := (decide (48 ≤ c.toNat) && decide (c.toNat ≤ 57)) || (decide (97 ≤ c.toNat) && decide (c.toNat ≤ 102))
def hv (c : UInt8) : Nat := if c.toNat ≤ 57 then c.toNat - 48 else c.toNat - 87
theorem hx_true {c : UInt8} (h : hx c = true) : (48 ≤ c.toNat ∧ c.toNat ≤ 57 ∧ hv c = c.toNat - 48) ∨ (97 ≤ c.toNat ∧ c.toNat ≤ 102 ∧ hv c = c.toNat - 87) := by
  unfold hx at h
  simp only [Bool.or_eq_true, Bool.and_eq_true, decide_eq_true_eq] at h
  unfold hv
  rcases h with h | h
  · left; exact ⟨h.1, h.2, if_pos h.2⟩
  · right; exact ⟨h.1, h.2, if_neg (by omega)⟩
theorem hx_false {c : UInt8} (h : hx c = false) : (c.toNat < 48 ∨ 57 < c.toNat) ∧ (c.toNat < 97 ∨ 102 < c.toNat) := by
  unfold hx at h
  simp only [Bool.or_eq_false_iff, Bool.and_eq_false_iff, decide_eq_false_iff_not] at h
  omega
theorem hv_lt {c : UInt8} (h : hx c = true) : hv c < 16 := by
  rcases hx_true h with h | h <;> omega
/-- the value of digits -/
def val (l : List UInt8) : Nat := l.foldl (fun n c => 16 * n + hv c) 0
theorem val_snoc (l : List UInt8) (c : UInt8) : val (l ++ [c]) = 16 * val l + hv c := by
  unfold val; rw [List.foldl_append]; rfl
theorem fold_at (l : List UInt8) : ∀ n, l.foldl (fun n c => 16 * n + hv c) n = n * 16 ^ l.length + val l := by
  induction l with
  | nil => intro n; simp [val]
  | cons c l ih =>
    intro n
    have h1 := ih (16 * n + hv c)
    have h2 := ih (hv c)
    unfold val
    simp only [List.foldl_cons, List.length_cons]
    rw [h1, show 16 * 0 + hv c = hv c by omega, h2, Nat.pow_succ]
    rw [Nat.add_mul, Nat.add_assoc]
    congr 1
    rw [Nat.mul_comm 16 n, Nat.mul_assoc, Nat.mul_comm 16]
theorem val_cons (c : UInt8) (l : List UInt8) : val (c :: l) = hv c * 16 ^ l.length + val l := by
  have := fold_at l (hv c)
  unfold val at *
  simp only [List.foldl_cons]
  rw [show 16 * 0 + hv c = hv c by omega]
  exact this
theorem val_lt {l : List UInt8} (h : l.all hx = true) : val l < 16 ^ l.length := by
  induction l with
  | nil => simp [val]
  | cons c l ih =>
    rw [List.all_cons, Bool.and_eq_true] at h
    rw [val_cons, List.length_cons, Nat.pow_succ]
    have h1 := ih h.2
    have h2 := hv_lt h.1
    have h3 : hv c * 16 ^ l.length ≤ 15 * 16 ^ l.length := Nat.mul_le_mul_right _ (by omega)
    omega
theorem low_mod (n : Nat) : ∀ k b, low n (k * 16 ^ n + b) = low n b := by
  have key : ∀ n m k b, n ≤ m → low n (k * 16 ^ m + b) = low n b := by
    intro n
    induction n with
    | zero => intros; rfl
    | succ n ih =>
      intro m k b hm
      simp only [low]
      rw [ih m k b (by omega)]
      congr 3
      obtain ⟨j, rfl⟩ : ∃ j, m = n + (j + 1) := ⟨m - n - 1, by omega⟩
      have h0 : 0 < 16 ^ n := Nat.pow_pos (by decide)
      rw [Nat.pow_add, show k * (16 ^ n * 16 ^ (j + 1)) + b = b + 16 ^ n * (k * 16 ^ (j + 1)) by rw [Nat.mul_left_comm, Nat.add_comm]]
      rw [Nat.add_mul_div_left _ _ h0, Nat.pow_succ, ← Nat.mul_assoc, Nat.add_mul_mod_self_right]
  exact fun k b => key n n k b (Nat.le_refl _)
def toB (x : Int) : UInt8 := UInt8.ofNat x.toNat
theorem dg_toB {c : UInt8} (h : hx c = true) : toB ((dg (hv c) : Nat) : Int) = c := by
  unfold toB
  rw [Int.toNat_natCast]
  have e : dg (hv c) = c.toNat := by
    unfold dg
    rcases hx_true h with h | h
    · rw [if_pos (by omega)]; omega
    · rw [if_neg (by omega)]; omega
  rw [e, UInt8.ofNat_toNat]
theorem low_val {l : List UInt8} (h : l.all hx = true) : (low l.length (val l)).map toB = l := by
  induction l with
  | nil => rfl
  | cons c l ih =>
    rw [List.all_cons, Bool.and_eq_true] at h
    have hl := val_lt h.2
    rw [List.length_cons, val_cons]
    simp only [low, List.map_cons]
    rw [low_mod, ih h.2]
    congr 1
    have h0 : 0 < 16 ^ l.length := Nat.pow_pos (by decide)
    rw [Nat.add_comm, Nat.mul_comm, Nat.add_mul_div_left _ _ h0, Nat.div_eq_of_lt hl, Nat.zero_add, Nat.mod_eq_of_lt (hv_lt h.1)]
    exact dg_toB h.1
theorem dg_all : ∀ d, d < 16 → hx (toB ((dg d : Nat) : Int)) = true ∧ hv (toB ((dg d : Nat) : Int)) = d := by decide +kernel
theorem low_hex (n b : Nat) : ((low n b).map toB).all hx = true := by
  induction n with
  | zero => rfl
  | succ n ih =>
    simp only [low, List.map_cons, List.all_cons, Bool.and_eq_true]
    exact ⟨(dg_all _ (Nat.mod_lt _ (by decide))).1, ih⟩
theorem val_low (n b : Nat) : val ((low n b).map toB) = b % 16 ^ n := by
  induction n with
  | zero => simp [low, val, Nat.mod_one]
  | succ n ih =>
    simp only [low, List.map_cons]
    rw [val_cons, ih, (dg_all _ (Nat.mod_lt _ (by decide))).2, List.length_map, low_length, Nat.pow_succ, Nat.mod_mul, Nat.mul_comm]
    omega
/-- what a text's reading gives -/
def rd (s : ByteArray) : Option Nat := if s.size = 16 ∧ s.data.toList.all hx = true then some (val s.data.toList) else none
end Hx
namespace By
theorem toList_extract (t : ByteArray) (i j : Nat) : (t.extract i j).data.toList = (t.data.toList.drop i).take (j - i) := by
  rw [ByteArray.data_extract, Array.toList_extract, List.extract_eq_take_drop]
theorem size_extract (t : ByteArray) (i j : Nat) (h : j ≤ t.size) : (t.extract i j).size = j - i := by
  simp only [ByteArray.size_extract]; omega
theorem get_eq (t : ByteArray) (n : Nat) (h : n < t.size) : t[n]'h = t.data.toList[n]'(by simpa using h) := by
  simp [ByteArray.getElem_eq_getElem_data]
theorem l_last (l : List UInt8) (p : UInt8 → Bool) (n : Nat) (h : l.length = n + 1) (hp : p (l[n]'(by omega)) = true) : (l.take n).all p = l.all p := by
  have e : l = l.take n ++ [l[n]'(by omega)] := by
    rw [List.take_append_getElem (by omega), List.take_of_length_le (by omega)]
  have h2 : l.all p = (l.take n ++ [l[n]'(by omega)]).all p := by rw [← e]
  rw [h2, List.all_append]
  simp [hp]
theorem l_first (l : List UInt8) (p : UInt8 → Bool) (h : 0 < l.length) (hp : p (l[0]'h) = true) : ((l.drop 1).take (l.length - 1)).all p = l.all p := by
  cases l with
  | nil => simp at h
  | cons c l =>
    simp only [List.getElem_cons_zero] at hp
    simp [hp]
theorem all_last (t : ByteArray) (p : UInt8 → Bool) (n : Nat) (h : t.size = n + 1) (hp : p (t[n]'(by omega)) = true) : (t.extract 0 n).data.toList.all p = t.data.toList.all p := by
  have hl : t.data.toList.length = n + 1 := by simpa using h
  rw [toList_extract, List.drop_zero, Nat.sub_zero]
  rw [get_eq t n (by omega)] at hp
  exact l_last _ p n hl hp
theorem all_first (t : ByteArray) (p : UInt8 → Bool) (h : 0 < t.size) (hp : p (t[0]'h) = true) : (t.extract 1 t.size).data.toList.all p = t.data.toList.all p := by
  have hl : t.data.toList.length = t.size := by simp
  rw [toList_extract]
  rw [get_eq t 0 h] at hp
  rw [← hl]
  exact l_first _ p (by omega) hp
theorem all_not_last (t : ByteArray) (p : UInt8 → Bool) (n : Nat) (h : n < t.size) (hp : p (t[n]'h) = false) : t.data.toList.all p = false := by
  rw [List.all_eq_false]
  refine ⟨t[n]'h, ?_, by rw [hp]; simp⟩
  rw [get_eq t n h]
  exact List.getElem_mem _
theorem nil_of (t : ByteArray) (h : t.size = 0) : t = ⟨#[]⟩ := by
  apply ByteArray.ext
  apply Array.eq_empty_of_size_eq_zero
  simpa using h
end By
