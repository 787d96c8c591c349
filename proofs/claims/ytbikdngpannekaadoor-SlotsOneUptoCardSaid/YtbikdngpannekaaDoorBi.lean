/-
  Rows of functions that are read; the walks of the library's IndexFunc and ContainsFunc at functions, and of fns.May; conditions: what is handed in reads as told.
-/
import Derived.Test.YtbikdngpannekaaDoorBh
import Derived.Test.YtbikdngpannekaaDoorBc
namespace Go.Proofs.YtbikdngpannekaaDoor
open Go.RowKit Go.Proofs.YtbikdngpannekaaDoorW.PrintWords

/-- a function's cells: its size, and its words -/
def FnR (w : World) (f : Int × List Int) (cs : List Value) : Prop := ∃ A c, cs = [.int .i64 f.1, .slice A f.2.length c] ∧ f.2.length ≤ c ∧ ReadsInt w .u64 A f.2.length f.2
theorem FnR.below {w w1 : World} {f : Int × List Int} {cs : List Value} (hb : Below w.heap.size w w1) (h : FnR w f cs) : FnR w1 f cs := by
  obtain ⟨A, c, e, hc, hr⟩ := h; exact ⟨A, c, e, hc, hr.below hb⟩
/-- a row of functions -/
def FnC (w : World) (A : Option Addr) (n : Nat) (l : List (Int × List Int)) : Prop := ReadsRow (FnR w) 2 w A n l
theorem FnC.below {w w1 : World} {A : Option Addr} {n : Nat} {l : List (Int × List Int)} (h : FnC w A n l) (hb : Below w.heap.size w w1) : FnC w1 A n l := ReadsRow.imp_ h hb (fun _ _ hp => hp.below hb)
def dF : Int × List Int := (0, [])
theorem FnC.at_ {w : World} {A : Option Addr} {n : Nat} {l : List (Int × List Int)} (h : FnC w A n l) (k : Nat) (hk : k < n) : ∃ ad A1 c1, A = some ad ∧ w.cell? (ad.add (k * 2)) = some (.int .i64 (l.getD k dF).1) ∧ w.cell? ⟨(ad.add (k * 2)).block, (ad.add (k * 2)).off + 1, none⟩ = some (.slice A1 (l.getD k dF).2.length c1) ∧ (l.getD k dF).2.length ≤ c1 ∧ ReadsInt w .u64 A1 (l.getD k dF).2.length (l.getD k dF).2 := by
  obtain ⟨ad, c, e, _, hK, hc⟩ := ReadsRow.get_ h dF (k : Int) (by omega) (by omega)
  rw [Int.toNat_natCast] at hK hc
  obtain ⟨A1, c1, rfl, hl, hr⟩ := hK
  have h0 := hc 0 _ rfl
  have h1 := hc 1 _ rfl
  rw [Nat.add_zero] at h0
  exact ⟨ad, A1, c1, e, h0, by rw [← add_field _ _ 1 (by omega)]; exact h1, hl, hr⟩
theorem getD_mem {α : Type} {l : List α} {k : Nat} (d : α) (h : k < l.length) : l.getD k d ∈ l := by
  rw [List.getD_eq_getElem?_getD, List.getElem?_eq_getElem h]; exact List.getElem_mem h

set_option maxHeartbeats 1000000 in
theorem index_fns (A : Option Addr) (c : Nat) (l : List (Int × List Int)) (p : Int × List Int → Bool) (g : Nat) (lb : Array Value) (w : World) (eg : ∀ args w, (callFunc g args).run Tryd.prog w = .ok (.enter g args) w) (hr : FnC w A l.length l)
    (hp : ∀ W f A1 c1, f ∈ l → ReadsInt W .u64 A1 f.2.length f.2 → f.2.length ≤ c1 → Below w.heap.size w W → Calls Tryd.prog g (#[.agg #[.int .i64 f.1, .slice A1 f.2.length c1]] ++ lb) W fun e W' => e = .returned (.bool (p f)) ∧ Below W.heap.size W W') :
    Calls Tryd.prog 143 #[.slice A l.length c, .func (.func g) #[] lb] w fun e w' => (∃ j : Int, e = .returned (.int .i64 j) ∧ decide (0 ≤ j) = l.any p) ∧ Below w.heap.size w w' := by
  have HR := Lk.mk hr
  have HP := Lk.mk hp
  have hm := hr.2.1
  clear hr hp
  go_enter Tryd.func143, Tryd.ntmps143
  go_wp2
  go_loopg [5, 8] l.length (fun gg _ v8 wr => ∃ kk : Nat, kk ≤ l.length ∧ l.length - kk ≤ gg ∧ v8 = .int .i64 kk ∧ Lk (∀ j, j < kk → p (l.getD j dF) = false) ∧ Lk (Below w.heap.size w wr))
  case atStart => exact ⟨0, by omega, by omega, rfl, ⟨fun j hj => absurd hj (by omega)⟩, ⟨Below.refl _ _⟩⟩
  case round =>
    obtain ⟨kk, hk, hg, rfl, HN, HB⟩ := hrel
    by_cases hlt : kk < l.length
    · obtain ⟨ad, A1, c1, rfl, hcell0, hcell1, hc1, hr1⟩ := (HR.out.below HB.out).at_ kk hlt
      have hltz : (kk : Int) < (l.length : Int) := by omega
      obtain ⟨f, hf⟩ : ∃ f, f = l.getD kk dF := ⟨_, rfl⟩
      rw [← hf] at hcell0 hcell1 hc1 hr1
      have HM := Lk.mk (show f ∈ l by rw [hf]; exact getD_mem _ hlt)
      have HF := Lk.mk hf
      have hq := Lk.mk (HP.out wr f A1 c1 HM.out hr1 hc1 HB.out)
      clear hf hc1 hr1
      cases hpx : p f with
      | true =>
        rw [hpx] at hq
        have HPX := Lk.mk hpx
        clear hpx
        go_wp2_with (go_at_fn g; (with_reducible refine hq.out.mono ?_); rintro e w' ⟨rfl, hb⟩)
        go_ret
        refine ⟨⟨_, rfl, ?_⟩, below_then HB.out HB.out.size hb⟩
        have : l.any p = true := List.any_eq_true.2 ⟨f, HM.out, HPX.out⟩
        rw [this]; simp
      | false =>
        rw [hpx] at hq
        have HPX := Lk.mk hpx
        clear hpx
        go_wp2_with (go_at_fn g; (with_reducible refine hq.out.mono ?_); rintro e w' ⟨rfl, hb⟩)
        go_roundg (l.length - (kk + 1))
        case measure => omega
        case rel =>
          refine ⟨kk + 1, by omega, by omega, by go_num, ⟨fun j hj => ?_⟩, ⟨below_then HB.out HB.out.size hb⟩⟩
          by_cases e : j = kk
          · subst e; rw [← HF.out]; exact HPX.out
          · exact HN.out j (by omega)
    · have hltz : ¬ (kk : Int) < (l.length : Int) := by omega
      obtain rfl : kk = l.length := by omega
      go_wp2
      go_ret
      refine ⟨⟨_, rfl, ?_⟩, HB.out⟩
      have : l.any p = false := by
        rw [List.any_eq_false]
        intro x hx
        obtain ⟨j, hj, rfl⟩ := List.getElem_of_mem hx
        have := HN.out j hj
        rw [List.getD_eq_getElem?_getD, List.getElem?_eq_getElem hj] at this
        simpa using this
      rw [this]; simp
set_option maxHeartbeats 1000000 in
theorem contains_fns (A : Option Addr) (c : Nat) (l : List (Int × List Int)) (p : Int × List Int → Bool) (g : Nat) (lb : Array Value) (w : World) (eg : ∀ args w, (callFunc g args).run Tryd.prog w = .ok (.enter g args) w) (hr : FnC w A l.length l)
    (hp : ∀ W f A1 c1, f ∈ l → ReadsInt W .u64 A1 f.2.length f.2 → f.2.length ≤ c1 → Below w.heap.size w W → Calls Tryd.prog g (#[.agg #[.int .i64 f.1, .slice A1 f.2.length c1]] ++ lb) W fun e W' => e = .returned (.bool (p f)) ∧ Below W.heap.size W W') :
    Calls Tryd.prog 114 #[.slice A l.length c, .func (.func g) #[] lb] w fun e w' => e = .returned (.bool (l.any p)) ∧ Below w.heap.size w w' := by
  have HI := Lk.mk (index_fns A c l p g lb w eg hr hp)
  clear hr hp
  generalize l.any p = r at *
  go_enter Tryd.func114, Tryd.ntmps114
  go_wp2_with (go_at_call 143; (with_reducible refine HI.out.mono ?_); rintro e w' ⟨⟨j, rfl, hj⟩, hb⟩; have HJ := Lk.mk hj; clear hj)
  all_goals go_ret
  all_goals exact ⟨ret_bool (by rw [← HJ.out]), hb⟩

set_option maxHeartbeats 1000000 in
theorem mayLit_any (s : Int) (A : Option Addr) (c : Nat) (l : List Int) (w : World) (hr : ReadsInt w .u64 A l.length l) (hw : Bm.Words l) (hl : l.length ≤ 137438953472) (hT : Tab w) :
    Calls Tryd.prog 115 #[.agg #[.int .i64 s, .slice A l.length c]] w fun e w' => e = .returned (.bool (!(mayB s l))) ∧ Below w.heap.size w w' := by
  have h0 : Below w.heap.size w (w.alloc (.cells #[.int .i64 s, .slice A l.length c] 66)) := below_alloc (Below.refl _ _) _
  have HM := Lk.mk (may_any s A c l _ (hr.below h0) hw hl (hT.below h0))
  have H0 := Lk.mk h0
  clear hr hw hT h0
  generalize mayB s l = r at *
  go_enter Tryd.func115, Tryd.ntmps115
  go_wp2_with (go_at_call 116; (with_reducible refine HM.out.mono ?_); rintro e w' ⟨rfl, hb⟩)
  go_ret
  exact ⟨rfl, below_then H0.out H0.out.size hb⟩

/-- every function's words are words, and there are at most 2^37 of them -/
def FnsOk (l : List (Int × List Int)) : Prop := ∀ f ∈ l, Bm.Words f.2 ∧ f.2.length ≤ 137438953472 ∧ -9223372036854775808 ≤ f.1 ∧ f.1 ≤ 9223372036854775807
def mayAll (l : List (Int × List Int)) : Bool := !(l.any fun f => !(mayB f.1 f.2))
set_option maxHeartbeats 1000000 in
theorem mayAll_any (A : Option Addr) (c : Nat) (l : List (Int × List Int)) (w : World) (hr : FnC w A l.length l) (hw : FnsOk l) (hT : Tab w) :
    Calls Tryd.prog 65 #[.slice A l.length c] w fun e w' => e = .returned (.bool (mayAll l)) ∧ Below w.heap.size w w' := by
  have HC := Lk.mk (contains_fns A c l (fun f => !(mayB f.1 f.2)) 115 #[] w (enters_of Tryd.func115 (by kernel_rfl) rfl) hr
    (fun W f A1 c1 hf hr1 _ hb => mayLit_any f.1 A1 c1 f.2 W hr1 (hw f hf).1 (hw f hf).2.1 (hT.below hb)))
  have H := Lk.mk (show mayAll l = !(l.any fun f => !(mayB f.1 f.2)) from rfl)
  clear hr hw hT
  generalize mayAll l = r at *
  generalize (l.any fun f => !(mayB f.1 f.2)) = q at *
  go_enter Tryd.func65, Tryd.ntmps65
  go_wp2_with (go_at_call 114; (with_reducible refine HC.out.mono ?_); rintro e w' ⟨rfl, hb⟩)
  go_ret
  exact ⟨ret_bool (by rw [H.out]), hb⟩
end Go.Proofs.YtbikdngpannekaaDoor
