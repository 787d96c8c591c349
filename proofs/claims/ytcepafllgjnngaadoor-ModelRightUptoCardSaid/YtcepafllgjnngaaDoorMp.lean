/-
  The walk of the law WalkTop where frames are gone through; conditions: what is handed in reads as told, the table of deBruijn stands.
-/
import Derived.Test.YtcepafllgjnngaaDoorMo
namespace Go.Proofs.YtcepafllgjnngaaDoor
open Go.RowKit Go.Proofs.YtcepafllgjnngaaDoorW.PrintWords

theorem walk_mem {st : Nat → Option (Sl.Fr × Nat)} {hi : Nat} (hu : Wk.Up st) : ∀ n a l, hi - a ≤ n → Wk.walk st hi a = some l → ∀ x ∈ l, ∃ b e, b < hi ∧ st b = some (x, e) := by
  intro n
  induction n with
  | zero =>
    intro a l h1 h
    rw [Wk.walk_end (by omega)] at h
    injection h with h
    subst h
    intro x hx
    cases hx
  | succ n ih =>
    intro a l h1 h
    by_cases ha : a < hi
    · cases hs : st a with
      | none => rw [Wk.walk_bad ha hs] at h; cases h
      | some q =>
        obtain ⟨x, e⟩ := q
        have he := hu a x e hs
        rw [Wk.walk_step hu ha hs] at h
        obtain ⟨m, hm, rfl⟩ := Option.map_eq_some_iff.1 h
        intro y hy
        rcases List.mem_cons.1 hy with rfl | hy
        · exact ⟨a, e, ha, hs⟩
        · exact ih e m (by omega) hm y hy
    · rw [Wk.walk_end ha] at h
      injection h with h
      subst h
      intro x hx
      cases hx
/-- what Frames answers: an error and none, or the walk's frames -/
theorem frames_two (g b : Nat) (ws : List Int) (p : Value) (ent : List (Int × (List Int × List Int))) (x : Int × (Int × Int)) (w : World) (h : ArB w g b ws) (ht : TblOr w p ent) (he : EntIn ent) (hx : -9223372036854775808 ≤ x.2.1 ∧ x.2.1 ≤ 9223372036854775807) :
    Calls Tryd.prog 31 #[.pointer (some ⟨g, 0, none⟩), p, .agg #[.int .i64 x.1, .int .i64 x.2.1, .int .i64 x.2.2]] w fun e w' => Below w.heap.size w w' ∧ (∃ (A : Option Addr) (m c : Nat) (n : Int), e = .returned (.tuple #[.slice A m c, .int .i64 n]) ∧ ((1 ≤ n ∧ n ≤ 9 ∧ m = 0) ∨ (∃ (r : List Sl.Fr), m = r.length ∧ n = 0 ∧ kFr.C w' A r.length r ∧ r.length ≤ 1000000 ∧ x.1 + x.2.1 ≤ ws.length ∧ 0 ≤ x.1 + x.2.1 ∧
      (∀ d, d < r.length → (r.getD d Sl.dFr).2.2 = (if d = 0 then -1 else (r.getD (d - 1) Sl.dFr).1) ∧ (r.getD d Sl.dFr).1 + tWords ent (r.getD d Sl.dFr).2.1 = (if d = 0 then x.1 + x.2.1 else (r.getD (d - 1) Sl.dFr).1)) ∧ (r ≠ [] → (r.getD (r.length - 1) Sl.dFr).1 = x.2.2) ∧ (∀ d, d < r.length → 0 ≤ (r.getD d Sl.dFr).1 ∧ (r.getD d Sl.dFr).1 ≤ 1000000 ∧ 2 ≤ tWords ent (r.getD d Sl.dFr).2.1 ∧ tWords ent (r.getD d Sl.dFr).2.1 ≤ 1002)))) := by
  cases hm : mayS ws.length x with
  | false =>
    refine (frames_bad g b ws p x w h hx hm).mono ?_
    rintro e w' ⟨he, hb⟩
    exact ⟨hb, none, 0, 0, 1, he, .inl ⟨by decide, by decide, rfl⟩⟩
  | true =>
    have hlen := h.len
    obtain ⟨lo, size, sp, rfl, h1, h2, h3⟩ := mayS_nat hm
    refine (frames_any g b ws p ent lo size sp w h ht he h1 h3 hm).mono ?_
    rintro e w' ⟨hb, ⟨l, A, c, hl, he2, hC⟩ | ⟨_, he2⟩⟩
    · have hs := stp_says (ws := ws) (hi := lo + size) he
      have hln := walk_len hs.up (lo + size - sp) sp l (Nat.le_refl _) hl
      refine ⟨hb, A, l.length, c, 0, he2, .inr ⟨l.reverse, by rw [List.length_reverse], rfl, by rw [List.length_reverse]; exact hC, by rw [List.length_reverse]; omega, by dsimp only; omega, by dsimp only; omega, fun d hd => ?_, fun hne => Wk.top_last hs h3 hl hne, fun d hd => ?_⟩⟩
      · have := Wk.top_rev hs h3 hl d hd
        rw [Int.natCast_add] at this
        exact this
      · obtain ⟨b', e', hb', hst⟩ := walk_mem hs.up (lo + size - sp) sp l (Nat.le_refl _) hl _ (List.mem_reverse.1 (getD_mem Sl.dFr hd))
        obtain ⟨c1, c2, c3, c4, c5, c6, c7⟩ := stp_some he hst
        have := tw_pos he c2
        rw [c3]
        dsimp only
        omega
    · exact ⟨hb, none, 0, 0, 9, he2, .inl ⟨by decide, by decide, rfl⟩⟩
end Go.Proofs.YtcepafllgjnngaaDoor
