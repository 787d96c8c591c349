/-
  Plain facts of frames that are pushed, the walks of Room and Used; conditions: what is handed in reads as told.
-/
import Derived.Test.YtbikdngpannekaaDoorMs
import Derived.Test.YtbikdngpannekaaDoorDm
namespace Go.Proofs.YtbikdngpannekaaDoor
open Go.RowKit Go.Proofs.YtbikdngpannekaaDoorW.PrintWords

/-- a push onto 256 words, with how many words it takes -/
theorem push_three (g b : Nat) (ws : List Int) (p : Value) (t : List (Int × List Int)) (sp f link : Int) (hn : newOk t = true) (hl : ws.length = 256) (hsp : -9223372036854775808 ≤ sp ∧ sp ≤ 9223372036854775807) :
    (∀ w, ArB w g b ws → TblAt w p (t.map entryOf) → Calls Tryd.prog 31 #[.pointer (some ⟨g, 0, none⟩), p, .int .i64 0, .int .i64 sp, .int .i64 f, .int .i64 link] w fun e w' => ∃ n : Int, 1 ≤ n ∧ n ≤ 2 ∧ e = .returned (.tuple #[.int .i64 0, .int .i64 n]) ∧ Below w.heap.size w w')
    ∨ (∃ base n : Nat, 2 ≤ n ∧ n ≤ 1002 ∧ base + n ≤ 256 ∧ sp = (base : Int) + n ∧ (-1 ≤ link ∧ link < 256) ∧ (0 ≤ f ∧ f < (t.map entryOf).length) ∧ tWords (t.map entryOf) f = n ∧ ∀ w, ArB w g b ws → TblAt w p (t.map entryOf) → Calls Tryd.prog 31 #[.pointer (some ⟨g, 0, none⟩), p, .int .i64 0, .int .i64 sp, .int .i64 f, .int .i64 link] w fun e w' => e = .returned (.tuple #[.int .i64 base, .int .i64 0]) ∧ ArB w' g b (pushW ws base n link f) ∧ KeepW b w w') := by
  have hE := entOk_of hn
  by_cases hc : 0 ≤ tWords (t.map entryOf) f ∧ -1 ≤ link ∧ link < ws.length ∧ sp ≤ ws.length ∧ tWords (t.map entryOf) f ≤ sp
  · right
    obtain ⟨c1, c2, c3, c4, c5⟩ := hc
    have hh : tHas (t.map entryOf) f = true := by
      cases h : tHas (t.map entryOf) f with
      | true => rfl
      | false => (unfold tWords at c1; rw [h, if_neg (by decide)] at c1; omega)
    have h1 := tHas_true hh
    have hnt := newOk_len hn
    have h2 := hE ((t.map entryOf).getD f.toNat dE) (getD_mem _ (by omega))
    have htw : tWords (t.map entryOf) f = ((t.map entryOf).getD f.toNat dE).1 + 2 := by unfold tWords; rw [if_pos hh]
    obtain ⟨n, hnn⟩ : ∃ n : Nat, tWords (t.map entryOf) f = (n : Int) := ⟨(tWords (t.map entryOf) f).toNat, by omega⟩
    obtain ⟨base, hb⟩ : ∃ base : Nat, sp = (base : Int) + n := ⟨(sp - n).toNat, by omega⟩
    refine ⟨base, n, by omega, by omega, by omega, hb, by omega, h1, hnn, fun w hA ht => ?_⟩
    rw [List.length_map] at h1
    subst hb
    have h := push_ok g b ws p (t.map entryOf) 0 (base + n) n base f link w hA ht.or hE hnn (by omega) (by omega) (by omega) (by omega) (by omega) rfl
    rw [Int.natCast_add] at h
    exact h
  · left
    exact fun w hA ht => push_fail g b ws p (t.map entryOf) sp f link w hA ht.or hE hsp hc
theorem walk_cong {st st' : Nat → Option (Sl.Fr × Nat)} {hi lo : Nat} (hu : Wk.Up st) (hu' : Wk.Up st') (h : ∀ a, lo ≤ a → st a = st' a) : ∀ n a, hi - a ≤ n → lo ≤ a → Wk.walk st hi a = Wk.walk st' hi a := by
  intro n
  induction n with
  | zero => intro a h1 _; rw [Wk.walk_end (by omega), Wk.walk_end (by omega)]
  | succ n ih =>
    intro a h1 h2
    by_cases ha : a < hi
    · cases hs : st a with
      | none => rw [Wk.walk_bad ha hs, Wk.walk_bad ha ((h a h2).symm.trans hs)]
      | some q =>
        obtain ⟨x, e⟩ := q
        have he := hu a x e hs
        rw [Wk.walk_step hu ha hs, Wk.walk_step hu' ha ((h a h2).symm.trans hs), ih e (by omega) (by omega)]
    · rw [Wk.walk_end ha, Wk.walk_end ha]
theorem stp_pushed {ws : List Int} {ent : List (Int × (List Int × List Int))} {base n : Nat} {link f : Int} (hl : ws.length = 256) (hb : base + n ≤ 256) (h2 : 2 ≤ n) (hk : -1 ≤ link ∧ link < 256) (hf : 0 ≤ f ∧ f < ent.length) (hn : tWords ent f = n) (hlk : link = if base + n = 256 then -1 else ((base + n : Nat) : Int)) :
    stp (pushW ws base n link f) ent 256 base = some (((base : Int), (f, link)), base + n) := by
  have g0 := pushW_get ws base n link f base (by omega) h2 hk.1
  have g1 := pushW_get ws base n link f (base + 1) (by omega) h2 hk.1
  rw [if_neg (by omega), if_pos rfl] at g0
  rw [if_pos rfl] at g1
  have hpl := pushW_length ws base n link f (by omega) h2
  have hc : StpC (pushW ws base n link f) ent 256 base := by
    refine ⟨by rw [hpl]; omega, ?_, ?_, ?_⟩
    · unfold RdOk
      rw [g0, g1, hpl, hl, show f + 1 - 1 = f by omega, hn]
      omega
    · rw [g1, show f + 1 - 1 = f by omega, hn]; omega
    · rw [g0, g1, show f + 1 - 1 = f by omega, hn, hlk]
      by_cases q : base + n = 256
      · rw [if_pos q, if_pos (by omega)]; omega
      · rw [if_neg q, if_neg (by omega)]; omega
  unfold stp
  rw [if_pos hc, g0, g1, show f + 1 - 1 = f by omega, hn, show link + 1 - 1 = link by omega, show ((base : Int) + (n : Int)).toNat = base + n by omega]
theorem stp_past {ws : List Int} {ent : List (Int × (List Int × List Int))} {base n : Nat} {link f : Int} (hl : ws.length = 256) (hb : base + n ≤ 256) (h2 : 2 ≤ n) (hk : -1 ≤ link) (a : Nat) (ha : base + n ≤ a) :
    stp ws ent 256 a = stp (pushW ws base n link f) ent 256 a := by
  have g0 := pushW_get ws base n link f a (by omega) h2 hk
  have g1 := pushW_get ws base n link f (a + 1) (by omega) h2 hk
  rw [if_neg (by omega), if_neg (by omega), if_neg (by omega)] at g0
  rw [if_neg (by omega), if_neg (by omega), if_neg (by omega)] at g1
  have hpl := pushW_length ws base n link f (by omega) h2
  unfold stp StpC RdOk
  rw [g0, g1, hpl]
theorem walk_pushed {ws : List Int} {ent : List (Int × (List Int × List Int))} (he : EntIn ent) {base n : Nat} {link f : Int} {acc : List Sl.Fr} (hl : ws.length = 256) (hb : base + n ≤ 256) (h2 : 2 ≤ n) (hk : -1 ≤ link ∧ link < 256) (hf : 0 ≤ f ∧ f < ent.length) (hn : tWords ent f = n) (hlk : link = if base + n = 256 then -1 else ((base + n : Nat) : Int))
    (hw : Wk.walk (stp ws ent 256) 256 (base + n) = some acc) : Wk.walk (stp (pushW ws base n link f) ent 256) 256 base = some (((base : Int), (f, link)) :: acc) := by
  rw [Wk.walk_step (stp_says he).up (by omega) (stp_pushed hl hb h2 hk hf hn hlk), ← walk_cong (stp_says he).up (stp_says he).up (stp_past hl hb h2 hk.1) (256 - (base + n)) (base + n) (Nat.le_refl _) (Nat.le_refl _), hw]
  rfl
theorem mayS_sp (sp : Nat) (h : sp ≤ 256) : mayS 256 ((0 : Int), ((256 : Int), (sp : Int))) = true := by
  unfold mayS
  rw [show szAll [256] = true by decide +kernel, show inL 256 0 256 = true by decide +kernel]
  simp
  omega
set_option maxRecDepth 100000 in
set_option maxHeartbeats 2000000 in
theorem room_sp (sp : Nat) (w : World) (h : sp ≤ 256) : Calls Tryd.prog 60 #[.agg #[.int .i64 0, .int .i64 256, .int .i64 sp]] w fun e w' => e = .returned (.int .i64 sp) ∧ Below w.heap.size w w' := by
  have hp := plain_any (0, (256, (sp : Int))) (w.alloc (.cells #[.int .i64 0, .int .i64 256, .int .i64 sp] 88))
  rw [show plainB (0, (256, (sp : Int))) = true by unfold plainB offB; simp; omega] at hp
  have HP := Lk.mk hp
  have H0 := Lk.mk (below_alloc (Below.refl w.heap.size w) (.cells #[.int .i64 0, .int .i64 256, .int .i64 sp] 88))
  have HX := Lk.mk (blk_new w (.cells #[.int .i64 0, .int .i64 256, .int .i64 sp] 88))
  clear hp
  have hmx : max (0 : Int) (sp : Int) = sp := by omega
  go_enter Tryd.func60, Tryd.ntmps60
  go_wp2_with (go_at_call 112; (with_reducible refine (HP.out).mono ?_); rintro e w1 ⟨rfl, hb⟩; obtain ⟨c0, c1, c2, _, _, _⟩ := cells3c (blk_below HX.out hb); have HB := Lk.mk (below_then H0.out H0.out.size hb); clear hb)
  all_goals go_ret
  all_goals (first | exact ⟨rfl, HB.out⟩ | exact ⟨ret_int (by omega), HB.out⟩)
set_option maxRecDepth 100000 in
set_option maxHeartbeats 2000000 in
theorem used_sp (sp : Nat) (w : World) (h : sp ≤ 256) : Calls Tryd.prog 59 #[.agg #[.int .i64 0, .int .i64 256, .int .i64 sp]] w fun e w' => e = .returned (.int .i64 (256 - sp)) ∧ Below w.heap.size w w' := by
  have hp := plain_any (0, (256, (sp : Int))) (w.alloc (.cells #[.int .i64 0, .int .i64 256, .int .i64 sp] 88))
  rw [show plainB (0, (256, (sp : Int))) = true by unfold plainB offB; simp; omega] at hp
  have HP := Lk.mk hp
  have H0 := Lk.mk (below_alloc (Below.refl w.heap.size w) (.cells #[.int .i64 0, .int .i64 256, .int .i64 sp] 88))
  have HX := Lk.mk (blk_new w (.cells #[.int .i64 0, .int .i64 256, .int .i64 sp] 88))
  clear hp
  have hmx : max (0 : Int) (256 - (sp : Int)) = 256 - sp := by omega
  go_enter Tryd.func59, Tryd.ntmps59
  go_wp2_with (go_at_call 112; (with_reducible refine (HP.out).mono ?_); rintro e w1 ⟨rfl, hb⟩; obtain ⟨c0, c1, c2, _, _, _⟩ := cells3c (blk_below HX.out hb); have HB := Lk.mk (below_then H0.out H0.out.size hb); clear hb)
  all_goals go_ret
  all_goals (first | exact ⟨rfl, HB.out⟩ | exact ⟨ret_int (by omega), HB.out⟩)
end Go.Proofs.YtbikdngpannekaaDoor
