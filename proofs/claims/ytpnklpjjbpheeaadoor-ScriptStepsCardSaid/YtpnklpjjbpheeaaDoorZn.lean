/-
  The walks of the reference's Great of scripts and of law 24's awake; conditions: the steps read as told, the tables stand.
-/
import Derived.Test.YtpnklpjjbpheeaaDoorZr
import Derived.Test.YtpnklpjjbpheeaaDoorZp
import Derived.Lib.ConvBytes
import Derived.Laws.BytesArg
import Derived.Laws.Rows
import Derived.Deep.RegionHeld3
namespace Go.Proofs.YtpnklpjjbpheeaaDoor
open Go.RowKit Go.Proofs.YtpnklpjjbpheeaaDoorW.PrintWords
open Go.Proofs.Fl Go.Proofs.YtpnklpjjbpheeaaDoor.Flt

theorem rline_ok (x : St) (A : Option Addr) (c : Nat) (l : List Int) (w : World) (hx : StIn x) (ho : 0 ≤ x.o ∧ x.o ≤ 255) (hl : l.length ≤ 1000) (hr : ReadsInt w .i64 A l.length l) (h : stepM x l = true) :
    Calls Tryd.prog 19 #[.agg (stCells x A l.length c)] w fun e w' => e = .returned (.string (lineS x l)) ∧ Below w.heap.size w w' := by
  obtain ⟨e1, e2, hi⟩ := stepB_nat h hx ho hl
  unfold stepM stepB at h
  simp only [Bool.and_eq_true] at h
  obtain ⟨⟨⟨⟨⟨hk, _⟩, _⟩, hm⟩, _⟩, hlast⟩ := h
  have hk' : 1 ≤ x.k ∧ x.k ≤ 13 := by
    unfold okK at hk
    simpa using hk
  have hv : x.v0 = 0 ∨ x.v0 = 1 ∨ x.v0 = 2 := by
    have h1 : Sl.mayV x.v = true := by simpa [Sl.mayVs] using hm
    have h2 := (Sl.mayV_iff x.v).1 h1
    have h3 : x.v.1 = x.v0 := rfl
    rw [h3] at h2
    omega
  have h9 : x.k = 9 → l.length = 3 := fun h => by
    unfold lastB at hlast
    rw [if_neg (by omega), if_pos h] at hlast
    simp at hlast
    omega
  have h0 := rline_any x.k x.p.toNat x.g.toNat x.f.toNat x.d.toNat x.s.toNat x.v0 x.v1.toNat x.v2.toNat x.v3.toNat x.o.toNat A c (l.map Int.toNat) w hk' hi (fun _ => hv) (fun h => by rw [List.length_map]; exact h9 h) (by rw [← e2, List.length_map]; exact hr)
  rw [← e1, List.length_map] at h0
  exact h0
def greatS (l : List Tp) : Bool := l.any fun t => decide (10 < (tSl t).length)
set_option maxRecDepth 100000 in
set_option maxHeartbeats 8000000 in
theorem rGreat_any (A : Option Addr) (c : Nat) (l : List Tp) (w : World) (hr : kSt.C w A l.length l) (h50 : l.length ≤ 300) :
    Calls Tryd.prog 15 #[.agg #[.int .i64 0, .int .i64 0, .int .i64 0, .slice none 0 0, .slice A l.length c]] w fun e w' => e = .returned (.bool (greatS l)) ∧ Below w.heap.size w w' := by
  have HB0 := Lk.mk (below_alloc (Below.refl w.heap.size w) (.cells #[.int .i64 0, .int .i64 0, .int .i64 0, .slice none 0 0, .slice A l.length c] 40))
  have HX := Lk.mk (blk_new w (.cells #[.int .i64 0, .int .i64 0, .int .i64 0, .slice none 0 0, .slice A l.length c] 40))
  have HG := Lk.mk (show ∀ W, Calls Tryd.prog 28 #[.slice none 0 0] W fun e w' => e = .returned (.bool false) ∧ w' = W from fun W => great_any none 0 [] W ⟨rfl, by simp, fun h => by simp at h⟩)
  have HR := Lk.mk (Kd.C_below hr HB0.out)
  have b3 := (blk_cell HX.out 3).trans rfl
  have b4 := (blk_cell HX.out 4).trans rfl
  have hz : ¬ (300 : Int) < (l.length : Int) := by omega
  have hm := hr.2.1
  clear hr h50
  go_enter Tryd.func15, Tryd.ntmps15
  go_wp2_with (go_at_call 28; (with_reducible refine (HG.out _).mono ?_); rintro e w' ⟨rfl, hw⟩; obtain rfl := hw.symm; clear hw)
  generalize hW : w.alloc (.cells #[.int .i64 0, .int .i64 0, .int .i64 0, .slice none 0 0, .slice A l.length c] 40) = W0 at *
  go_loopg [3, 17] l.length (fun gg _ v9 wr => ∃ k : Nat, k ≤ l.length ∧ l.length - k ≤ gg ∧ v9 = .int .i64 k ∧ Lk (∀ j, j < k → ¬ 10 < (tSl (l.getD j dTp)).length) ∧ wr = W0)
  case atStart => exact ⟨0, by omega, by omega, rfl, ⟨fun j hj => absurd hj (by omega)⟩, rfl⟩
  case round =>
    obtain ⟨k, hk, hg, rfl, HE, rfl⟩ := hrel
    by_cases hlt : k < l.length
    · have hltz : (k : Int) < (l.length : Int) := by omega
      obtain ⟨ad, A1, c1, rfl, ⟨⟨q0, q1, q2, q3, q4, q5⟩, q6, q7, q8, q9, q10, q11⟩, hc1, hr1⟩ := kSt_at HR.out k hlt
      obtain ⟨f, hf⟩ : ∃ f, f = l.getD k dTp := ⟨_, rfl⟩
      rw [← hf] at q11
      clear q0 q1 q2 q3 q4 q5 q6 q7 q8 q9 q10 hr1 hc1
      have HM := Lk.mk (show f ∈ l by rw [hf]; exact getD_mem _ hlt)
      have HF := Lk.mk hf
      clear hf
      by_cases h40 : 10 < (tSl f).length
      · have hz40 : (10 : Int) < ((tSl f).length : Int) := by omega
        have H := Lk.mk (show greatS l = true by unfold greatS; rw [List.any_eq_true.2 ⟨f, HM.out, decide_eq_true h40⟩])
        go_wp2
        go_ret
        exact ⟨ret_bool H.out.symm, HB0.out⟩
      · have hz40 : ¬ (10 : Int) < ((tSl f).length : Int) := by omega
        have H4 := Lk.mk h40
        go_wp2
        go_roundg (l.length - (k + 1))
        case measure => omega
        case rel =>
          refine ⟨k + 1, by omega, by omega, by go_num, ⟨fun j hj => ?_⟩, rfl⟩
          by_cases e : j = k
          · subst e; rw [← HF.out]; exact H4.out
          · exact HE.out j (by omega)
    · have hltz : ¬ (k : Int) < (l.length : Int) := by omega
      obtain rfl : k = l.length := by omega
      have H := Lk.mk (show greatS l = false by
        unfold greatS
        rw [List.any_eq_false]
        intro x hx
        obtain ⟨j, hj, rfl⟩ := List.getElem_of_mem hx
        have := HE.out j hj
        rw [List.getD_eq_getElem?_getD, List.getElem?_eq_getElem hj] at this
        simpa using this)
      go_wp2
      go_ret
      exact ⟨ret_bool H.out.symm, HB0.out⟩
def aSt : St := ⟨5, 0, 1, 0, 0, 2, 2, 0, 0, 1, 0⟩
theorem aSt_B : stepB aSt none [] 0 = true := by decide +kernel
theorem dec_lit (n : Nat) (h : n < 10) : dec n = ⟨#[UInt8.ofNat (48 + n)]⟩ := by unfold dec; rw [dec_small n h]
theorem aSt_L : lineS aSt [] = ⟨#[115, 101, 116, 32, 48, 32, 49, 32, 48, 32, 50, 32, 114, 101, 102, 32, 48, 32, 49]⟩ := by
  show joinW [⟨#[115, 101, 116]⟩, dec 0, dec 1, dec 0, dec 2, ⟨#[114, 101, 102]⟩, dec 0, dec 1] = _
  rw [joinW_cons, dec_lit 0 (by decide), dec_lit 1 (by decide), dec_lit 2 (by decide)]
  decide +kernel
set_option maxRecDepth 100000 in
set_option maxHeartbeats 8000000 in
theorem awake24_any (w : World) (hT : Tab w) (hP : P10 w) : Calls Tryd.prog 16 #[] w fun e w' => e = .returned (.bool true) ∧ Below w.heap.size w w' := by
  have HS := Lk.mk (fun W (hb : Below w.heap.size w W) => sLine_any aSt none 0 [] W ⟨by decide, by unfold aSt St.v VlIn; decide⟩ (by decide) (by decide) ⟨rfl, by simp, fun h => by simp at h⟩ (hT.below hb) (hP.below hb))
  rw [aSt_B, aSt_L] at HS
  unfold aSt stCells at HS
  dsimp only at HS
  simp only [if_true, List.length_nil] at HS
  have HB := Lk.mk (Below.refl w.heap.size w)
  clear hT hP
  go_enter Tryd.func16, Tryd.ntmps16
  go_wp2_with (go_at_call 18; go_loud ((with_reducible refine (HS.out _ HB.out).mono ?_); rintro e w' ⟨rfl, hb⟩; have HB := Lk.mk (below_then HB.out HB.out.size hb); clear hb))
  go_ret
  exact ⟨rfl, HB.out⟩
end Go.Proofs.YtpnklpjjbpheeaaDoor
