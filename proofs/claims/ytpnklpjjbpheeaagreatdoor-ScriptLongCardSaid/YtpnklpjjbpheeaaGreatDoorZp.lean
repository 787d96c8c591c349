/-
  Whether a step may be: the program's answer is the reference's; conditions: none.
-/
import Derived.Test.YtpnklpjjbpheeaaGreatDoorZm
namespace Go.Proofs.YtpnklpjjbpheeaaGreatDoor
open Go.RowKit Go.Proofs.YtpnklpjjbpheeaaGreatDoorW.PrintWords
open Go.Proofs.Fl Go.Proofs.YtpnklpjjbpheeaaGreatDoor.Flt

set_option maxRecDepth 100000 in
set_option maxHeartbeats 8000000 in
theorem bare_rest (x : St) (n : Nat) (hk : 1 ≤ x.k ∧ x.k ≤ 13) (hp : plain7 x = true) : (bareB (bareOf (fK x.k) ⟨x, none, n, 0⟩) && lastB x n) = restB x n := by
  obtain ⟨h1, h2, h3, h4, h5, h6, h7⟩ := plain7_iff hp
  obtain ⟨k, p, g, f, d, s, v0, v1, v2, v3, o⟩ := x
  dsimp only at hk h1 h2 h3 h4 h5 h6 h7 ⊢
  clear hp
  have hks : k = 1 ∨ k = 2 ∨ k = 3 ∨ k = 4 ∨ k = 5 ∨ k = 6 ∨ k = 7 ∨ k = 8 ∨ k = 9 ∨ k = 10 ∨ k = 11 ∨ k = 12 ∨ k = 13 := by omega
  clear hk
  rcases hks with hks | hks
  · subst hks
    rw [show bareOf (fK 1) ⟨⟨1, p, g, f, d, s, v0, v1, v2, v3, o⟩, none, n, 0⟩ = ⟨⟨0, 0, g, 0, d, s, v0, v1, v2, v3, o⟩, none, n, 0⟩ from rfl]
    unfold bareB lastB restB
    rw [Bool.eq_iff_iff]
    simp
    try omega
  rcases hks with hks | hks
  · subst hks
    rw [show bareOf (fK 2) ⟨⟨2, p, g, f, d, s, v0, v1, v2, v3, o⟩, none, n, 0⟩ = ⟨⟨0, 0, 0, f, d, s, v0, v1, v2, v3, o⟩, none, n, 0⟩ from rfl]
    unfold bareB lastB restB
    rw [Bool.eq_iff_iff]
    simp
    try omega
  rcases hks with hks | hks
  · subst hks
    rw [show bareOf (fK 3) ⟨⟨3, p, g, f, d, s, v0, v1, v2, v3, o⟩, none, n, 0⟩ = ⟨⟨0, 0, 0, 0, d, s, v0, v1, v2, v3, o⟩, none, n, 0⟩ from rfl]
    unfold bareB lastB restB
    rw [Bool.eq_iff_iff]
    simp
    try omega
  rcases hks with hks | hks
  · subst hks
    rw [show bareOf (fK 4) ⟨⟨4, p, g, f, d, s, v0, v1, v2, v3, o⟩, none, n, 0⟩ = ⟨⟨0, 0, 0, f, d, s, v0, v1, v2, v3, o⟩, none, n, 0⟩ from rfl]
    unfold bareB lastB restB
    rw [Bool.eq_iff_iff]
    simp
    try omega
  rcases hks with hks | hks
  · subst hks
    rw [show bareOf (fK 5) ⟨⟨5, p, g, f, d, s, v0, v1, v2, v3, o⟩, none, n, 0⟩ = ⟨⟨0, 0, 0, f, 0, 0, 0, 0, 0, 0, o⟩, none, n, 0⟩ from rfl]
    unfold bareB lastB restB
    rw [Bool.eq_iff_iff]
    simp
    try omega
  rcases hks with hks | hks
  · subst hks
    rw [show bareOf (fK 6) ⟨⟨6, p, g, f, d, s, v0, v1, v2, v3, o⟩, none, n, 0⟩ = ⟨⟨0, 0, 0, f, 0, 0, v0, v1, v2, v3, o⟩, none, n, 0⟩ from rfl]
    unfold bareB lastB restB
    rw [Bool.eq_iff_iff]
    simp
    try omega
  rcases hks with hks | hks
  · subst hks
    rw [show bareOf (fK 7) ⟨⟨7, p, g, f, d, s, v0, v1, v2, v3, o⟩, none, n, 0⟩ = ⟨⟨0, 0, 0, f, 0, 0, v0, v1, v2, v3, o⟩, none, n, 0⟩ from rfl]
    unfold bareB lastB restB
    rw [Bool.eq_iff_iff]
    simp
    try omega
  rcases hks with hks | hks
  · subst hks
    rw [show bareOf (fK 8) ⟨⟨8, p, g, f, d, s, v0, v1, v2, v3, o⟩, none, n, 0⟩ = ⟨⟨0, 0, 0, f, 0, 0, 0, 0, 0, 0, o⟩, none, n, 0⟩ from rfl]
    unfold bareB lastB restB
    rw [Bool.eq_iff_iff]
    simp
    try omega
  rcases hks with hks | hks
  · subst hks
    rw [show bareOf (fK 9) ⟨⟨9, p, g, f, d, s, v0, v1, v2, v3, o⟩, none, n, 0⟩ = ⟨⟨0, 0, 0, f, 0, s, v0, v1, v2, v3, 0⟩, none, 0, 0⟩ from rfl]
    unfold bareB lastB restB
    rw [Bool.eq_iff_iff]
    simp
    try omega
  rcases hks with hks | hks
  · subst hks
    rw [show bareOf (fK 10) ⟨⟨10, p, g, f, d, s, v0, v1, v2, v3, o⟩, none, n, 0⟩ = ⟨⟨0, 0, 0, f, d, s, v0, v1, v2, v3, o⟩, none, n, 0⟩ from rfl]
    unfold bareB lastB restB
    rw [Bool.eq_iff_iff]
    simp
    try omega
  rcases hks with hks | hks
  · subst hks
    rw [show bareOf (fK 11) ⟨⟨11, p, g, f, d, s, v0, v1, v2, v3, o⟩, none, n, 0⟩ = ⟨⟨0, 0, g, f, d, s, v0, v1, v2, v3, o⟩, none, n, 0⟩ from rfl]
    unfold bareB lastB restB
    rw [Bool.eq_iff_iff]
    simp
    try omega
  rcases hks with hks | hks
  · subst hks
    rw [show bareOf (fK 12) ⟨⟨12, p, g, f, d, s, v0, v1, v2, v3, o⟩, none, n, 0⟩ = ⟨⟨0, 0, g, f, d, s, v0, v1, v2, v3, o⟩, none, n, 0⟩ from rfl]
    unfold bareB lastB restB
    rw [Bool.eq_iff_iff]
    simp
    try omega
  · subst hks
    rw [show bareOf (fK 13) ⟨⟨13, p, g, f, d, s, v0, v1, v2, v3, o⟩, none, n, 0⟩ = ⟨⟨0, 0, g, f, d, s, v0, v1, v2, v3, o⟩, none, n, 0⟩ from rfl]
    unfold bareB lastB restB
    rw [Bool.eq_iff_iff]
    simp
    try omega
theorem rstepB_M (x : St) (l : List Int) : rstepB x l = stepM x l := by
  unfold rstepB headB stepM stepB
  rw [show Sl.mayVs [x.v] = Sl.mayV x.v by simp [Sl.mayVs]]
  cases hk : okK x.k with
  | false => rfl
  | true =>
    cases hp : plain7 x with
    | false => rfl
    | true =>
      have hk' := hk
      unfold okK at hk'
      simp only [Bool.and_eq_true, decide_eq_true_eq] at hk'
      have h := bare_rest x l.length hk' hp
      rw [← h]
      cases Sl.mayV x.v <;> cases l.any plN <;> simp
end Go.Proofs.YtpnklpjjbpheeaaGreatDoor
