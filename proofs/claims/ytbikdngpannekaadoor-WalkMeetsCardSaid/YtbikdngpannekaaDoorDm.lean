/-
  The walk of the law FrameWords; conditions: what is handed in reads as told, the table of deBruijn stands.
-/
import Derived.Test.YtbikdngpannekaaDoorDj
import Derived.Test.YtbikdngpannekaaDoorDl
namespace Go.Proofs.YtbikdngpannekaaDoor
open Go.RowKit Go.Proofs.YtbikdngpannekaaDoorW.PrintWords

theorem newOk_len {t : List (Int × List Int)} (h : newOk t = true) : t.length ≤ 100 := by
  unfold newOk at h
  simp only [Bool.and_eq_true, decide_eq_true_eq] at h
  exact h.1.2
theorem row256d (g b : Nat) (ws : List Int) (w : World) (h : ArB w g b ws) (hi : ws.length = 256) :
    Calls Tryd.prog 32 #[.pointer (some ⟨g, 0, none⟩), .int .i64 0, .int .i64 256] w fun e w' => ∃ v, e = .returned (.tuple #[v, .int .i64 0]) ∧ w'.ownsRow w.heap.size 25 1 v ws.length (nums .u64 ws) ∧ Below w.heap.size w w' := by
  have := row_ok g b ws 0 256 w h (by omega)
  rw [List.drop_zero, List.take_of_length_le (by omega)] at this
  exact this
theorem putW_full (ws : List Int) (h : ws.length = 256) : putW zw 0 ws = ws := by
  unfold putW
  rw [List.take_zero, List.nil_append, Nat.zero_add, h, List.drop_eq_nil_of_le (by rw [zw_len]; omega), List.append_nil]
/-- a push onto 256 equal words -/
theorem push_two (g b : Nat) (ws : List Int) (p : Value) (t : List (Int × List Int)) (sp f link : Int) (hn : newOk t = true) (hl : ws.length = 256) (hsp : -9223372036854775808 ≤ sp ∧ sp ≤ 9223372036854775807) :
    (∀ w, ArB w g b ws → TblAt w p (t.map entryOf) → Calls Tryd.prog 31 #[.pointer (some ⟨g, 0, none⟩), p, .int .i64 0, .int .i64 sp, .int .i64 f, .int .i64 link] w fun e w' => ∃ n : Int, 1 ≤ n ∧ n ≤ 2 ∧ e = .returned (.tuple #[.int .i64 0, .int .i64 n]) ∧ Below w.heap.size w w')
    ∨ (∃ base n : Nat, 2 ≤ n ∧ n ≤ 1002 ∧ base + n ≤ 256 ∧ sp = (base : Int) + n ∧ (-1 ≤ link ∧ link < 256) ∧ (0 ≤ f ∧ f ≤ 100) ∧ ∀ w, ArB w g b ws → TblAt w p (t.map entryOf) → Calls Tryd.prog 31 #[.pointer (some ⟨g, 0, none⟩), p, .int .i64 0, .int .i64 sp, .int .i64 f, .int .i64 link] w fun e w' => e = .returned (.tuple #[.int .i64 base, .int .i64 0]) ∧ ArB w' g b (pushW ws base n link f) ∧ KeepW b w w') := by
  have hE := entOk_of hn
  by_cases hc : 0 ≤ tWords (t.map entryOf) f ∧ -1 ≤ link ∧ link < ws.length ∧ sp ≤ ws.length ∧ tWords (t.map entryOf) f ≤ sp
  · right
    obtain ⟨c1, c2, c3, c4, c5⟩ := hc
    have hh : tHas (t.map entryOf) f = true := by
      cases h : tHas (t.map entryOf) f with
      | true => rfl
      | false => (unfold tWords at c1; rw [h, if_neg (by decide)] at c1; omega)
    have h1 := tHas_true hh
    rw [List.length_map] at h1
    have hnt := newOk_len hn
    have h2 := hE ((t.map entryOf).getD f.toNat dE) (getD_mem _ (by rw [List.length_map]; omega))
    have htw : tWords (t.map entryOf) f = ((t.map entryOf).getD f.toNat dE).1 + 2 := by unfold tWords; rw [if_pos hh]
    obtain ⟨n, hnn⟩ : ∃ n : Nat, tWords (t.map entryOf) f = (n : Int) := ⟨(tWords (t.map entryOf) f).toNat, by omega⟩
    obtain ⟨base, hb⟩ : ∃ base : Nat, sp = (base : Int) + n := ⟨(sp - n).toNat, by omega⟩
    refine ⟨base, n, by omega, by omega, by omega, hb, by omega, by omega, fun w hA ht => ?_⟩
    subst hb
    have h := push_ok g b ws p (t.map entryOf) 0 (base + n) n base f link w hA ht.or hE hnn (by omega) (by omega) (by omega) (by omega) (by omega) rfl
    rw [Int.natCast_add] at h
    exact h
  · left
    exact fun w hA ht => push_fail g b ws p (t.map entryOf) sp f link w hA ht.or hE hsp hc
set_option maxRecDepth 100000 in
set_option maxHeartbeats 2000000 in
theorem fwords_early (B : Option Addr) (c' : Nat) (t : List (Int × List Int)) (sp f link mark : Int) (w : World) (hq : FnC w B t.length t) (hT : Tab w) (h : greatL t = true) :
    Calls Tryd.prog 6 #[.slice B t.length c', .int .i64 sp, .int .i64 f, .int .i64 link, .int .u64 mark] w fun e w' => e = .returned (.bool true) ∧ Below w.heap.size w w' := by
  have HG := Lk.mk (h ▸ great_any B c' t w hq)
  have HT := Lk.mk hT
  have HB := Lk.mk (Below.refl w.heap.size w)
  clear hq hT h
  go_enter Tryd.func6, Tryd.ntmps6
  go_wp2_with (first
    | (go_at_call 24; (with_reducible refine (HG.out).mono ?_); rintro e w' ⟨rfl, hw⟩; obtain rfl := hw.symm; clear hw)
    | (go_at_call 25; (with_reducible refine (awake14_any _ HT.out).mono ?_); rintro e w' ⟨rfl, hb⟩; have HB := Lk.mk (below_then HB.out HB.out.size hb); clear hb))
  go_ret
  exact ⟨rfl, HB.out⟩
set_option maxRecDepth 100000 in
set_option maxHeartbeats 2000000 in
theorem fwords_go (B : Option Addr) (c' : Nat) (t : List (Int × List Int)) (sp f link mark : Int) (w : World) (hq : FnC w B t.length t) (hI : FnsOk t) (hsp : -9223372036854775808 ≤ sp ∧ sp ≤ 9223372036854775807) (hm : 0 ≤ mark ∧ mark ≤ 18446744073709551615) (hT : Tab w) (h2 : greatL t = false) :
    Calls Tryd.prog 6 #[.slice B t.length c', .int .i64 sp, .int .i64 f, .int .i64 link, .int .u64 mark] w fun e w' => e = .returned (.bool true) ∧ Below w.heap.size w w' := by
  have HG := Lk.mk (h2 ▸ great_any B c' t w hq)
  have HT := Lk.mk hT
  have HQ := Lk.mk hq
  have HI := Lk.mk hI
  have HB0 := Lk.mk (below_alloc (Below.refl w.heap.size w) (.cells #[] 25))
  clear hq hT hI
  go_enter Tryd.func6, Tryd.ntmps6
  go_wp2_with (first
    | (go_at_call 24; (with_reducible refine (HG.out).mono ?_); rintro e w' ⟨rfl, hw⟩; obtain rfl := hw.symm; clear hw))
  go_loopg [11, 12] 256 (fun gg v11 v12 wr => ∃ k : Nat, k ≤ 256 ∧ 256 - k ≤ gg ∧ v12 = .int .i64 k ∧ Lk (wr.ownsRow w.heap.size 25 1 v11 (List.replicate k mark).length (nums .u64 (List.replicate k mark))) ∧ Lk (Below w.heap.size w wr))
  case atStart => exact ⟨0, by omega, by omega, rfl, ⟨own_lit w w.heap.size 25 .u64 [] (Nat.le_refl _) (by simp)⟩, HB0⟩
  case round =>
    obtain ⟨k, hk, hg, rfl, HO, HB⟩ := hrel
    by_cases hlt : k < 256
    · have hltz : (k : Int) < 256 := by omega
      obtain ⟨A1, c1, rfl, hc1, _, hr1⟩ := own_full HO.out
      have hsn := Lk.mk (show List.replicate (k + 1) mark = List.replicate k mark ++ [mark] from List.replicate_succ')
      have hll : (List.replicate k mark).length = k := List.length_replicate
      clear hc1 hr1
      generalize List.replicate k mark = L at *
      go_wp2_with (at_builtin; refine print_append_num (w0 := w) w.heap.size rfl _ _ 37 25 .u64 8 rfl Tryd.underlying37 info25 (by decide) (.slice A1 L.length c1) L mark rfl rfl HO.out HB.out HB.out.size (by omega) ?_; intro v1 w1 hown hb _ _; have HO2 := Lk.mk hown; have HB2 := Lk.mk hb; clear hown hb)
      go_roundg (256 - (k + 1))
      case measure => omega
      case rel => exact ⟨k + 1, by omega, by omega, by go_num, ⟨by rw [hsn.out]; exact HO2.out⟩, HB2⟩
    · obtain rfl : k = 256 := by omega
      obtain ⟨A1, c1, rfl, hc1, _, hr1⟩ := own_full HO.out
      obtain ⟨ws, hws⟩ : ∃ ws, ws = List.replicate 256 mark := ⟨_, rfl⟩
      rw [← hws] at hr1 hc1 HO
      have hwl : ws.length = 256 := by rw [hws]; exact List.length_replicate
      have HGW := Lk.mk (show ∀ i, i < 256 → ws.getD i 0 = mark by intro i hi; rw [hws, List.getD_eq_getElem?_getD, List.getElem?_replicate, if_pos hi]; rfl)
      have hww : Bm.Words ws := by
        intro x hx
        rw [hws] at hx
        obtain rfl := (List.mem_replicate.1 hx).2
        omega
      rw [← hws]
      clear hws HO
      cases hn : newOk t with
      | false =>
        have HM := Lk.mk (made_bad A1 c1 ws B c' t wr (HQ.out.below HB.out) HI.out (HT.out.below HB.out) hn)
        have HL := Lk.mk (fun W (hb : Below w.heap.size w W) => hn ▸ refAll_any B c' t W (HQ.out.below hb) (fun f hf => ⟨(HI.out f hf).1, by have := great_le h2 f hf; omega⟩))
        rw [hwl] at HM ⊢
        clear hc1 hr1 hww hn
        go_wp2_with (first
          | (go_at_call 26; (with_reducible refine (HM.out).mono ?_); rintro e w1 ⟨g, rfl, hb⟩; have HB := Lk.mk (below_then HB.out HB.out.size hb); clear hb)
          | (go_at_call 27; (with_reducible refine (HL.out _ HB.out).mono ?_); rintro e w' ⟨rfl, hb⟩; have HB := Lk.mk (below_then HB.out HB.out.size hb); clear hb)
          | (go_at_call 25; (with_reducible refine (awake14_any _ (HT.out.below HB.out)).mono ?_); rintro e w' ⟨rfl, hb⟩; have HB := Lk.mk (below_then HB.out HB.out.size hb); clear hb))
        go_ret
        exact ⟨rfl, HB.out⟩
      | true =>
        have HM := Lk.mk (made_good A1 c1 ws B c' t wr hr1 hww (by omega) (HQ.out.below HB.out) HI.out (HT.out.below HB.out) hn)
        rw [putW_full ws hwl] at HM
        rw [hwl] at HM ⊢
        have HP2 := Lk.mk (fun p => push_two (wr.heap.size + 1) wr.heap.size ws p t sp f link hn hwl hsp)
        clear hc1 hr1 hww hn
        go_wp2_with (first
          | (go_at_call 26; (with_reducible refine (HM.out).mono ?_); rintro e w1 ⟨p, rfl, ha, hs, hb⟩; have HA1 := Lk.mk ha; have HS1 := Lk.mk hs; have HB1 := Lk.mk (below_then HB.out HB.out.size hb); have HBb := Lk.mk hb; clear hb ha hs; rcases HP2.out p with HPF | ⟨base, n, p1, p2, p3, rfl, p5, p6, HPO⟩)
          | (go_at_call 31; (with_reducible refine (HPF _ HA1.out HS1.out.now).mono ?_); rintro e w2 ⟨n, n1, n2, rfl, hb⟩; have HB := Lk.mk (below_then HB1.out HB1.out.size hb); clear hb HPF)
          | (go_at_call 31; (with_reducible refine (HPO _ HA1.out HS1.out.now).mono ?_); rintro e w2 ⟨rfl, ha, hk⟩; have HA2 := Lk.mk ha; have HB2 := Lk.mk (hk.below HB1.out HB.out.size HB1.out.size); clear ha hk HPO)
          | (go_at_call 32; (with_reducible refine (row256d _ _ _ _ HA2.out (by rw [pushW_length _ _ _ _ _ (by omega) p1]; exact hwl)).mono ?_); rintro e w3 ⟨v, rfl, ho, hb⟩; rw [pushW_length _ _ _ _ _ (by omega) p1, hwl] at ho; obtain ⟨A3, c3, rfl, hc3, _, hr3⟩ := own_full ho; have HO3 := Lk.mk hr3; clear hc3 hr3; have HB3 := Lk.mk (below_then HB2.out HB2.out.size hb); clear ho hb)
          | (go_at_call 25; (with_reducible refine (awake14_any _ (HT.out.below HB.out)).mono ?_); rintro e w' ⟨rfl, hb⟩; have HB := Lk.mk (below_then HB.out HB.out.size hb); clear hb))
        · go_ret
          exact ⟨rfl, HB.out⟩
        clear HP2 HM HQ HI HS1 HA1 HA2 HBb
        have HX := Lk.mk (fun k => pushW_get ws base n link f k (by omega) p1 p5.1)
        generalize pushW ws base n link f = all at *
        go_loopg [20, 21] 256 (fun gg v20 v21 W => ∃ k : Nat, k ≤ 256 ∧ 256 - k ≤ gg ∧ v20 = .int .i64 k ∧ Lk (Below w3.heap.size w3 W))
        case atStart => exact ⟨0, by omega, by omega, rfl, ⟨Below.refl _ _⟩⟩
        case round =>
          obtain ⟨k, hk, hg, rfl, HBw⟩ := hrel
          by_cases hlt : k < 256
          · have hltz : (k : Int) < 256 := by omega
            obtain ⟨ad, hA3, hc⟩ := (HO3.out.below HBw.out).at_ (k : Int) (by omega) (by omega)
            subst hA3
            rw [Int.toNat_natCast, rdk] at hc
            have hx := HX.out k
            rw [HGW.out k hlt] at hx
            generalize all.getD k 0 = x at *
            by_cases e1 : k = base + 1
            · rw [if_pos e1] at hx
              subst e1
              subst hx
              rw [show ad.add (base + 1) = ⟨ad.block, ad.off + (base + 1), none⟩ from rfl] at hc
              have q1 : (1 : Int) < n := by omega
              have q2 : 1 < n := by omega
              go_wp2
              go_roundg (256 - ((base + 1) + 1))
              case measure => omega
              case rel => exact ⟨(base + 1) + 1, by omega, by omega, by go_num, HBw⟩
            · rw [if_neg e1] at hx
              by_cases e0 : k = base
              · rw [if_pos e0] at hx
                subst e0
                subst hx
                have q1 : (0 : Int) < n := by omega
                have q2 : 0 < n := by omega
                go_wp2
                go_roundg (256 - (k + 1))
                case measure => omega
                case rel => exact ⟨k + 1, by omega, by omega, by go_num, HBw⟩
              · rw [if_neg e0] at hx
                have z0 : ¬ (k : Int) = base := by omega
                have z1 : ¬ (k : Int) = base + 1 := by omega
                have b0 : ((k : Int) == base) = false := by simp; omega
                have b1 : ((k : Int) == base + 1) = false := by simp; omega
                by_cases e2 : base ≤ k ∧ k < base + n
                · rw [if_pos e2] at hx
                  subst hx
                  have r1 : (base : Int) ≤ k := by omega
                  have r2 : (k : Int) < base + n := by omega
                  go_wp2
                  go_roundg (256 - (k + 1))
                  case measure => omega
                  case rel => exact ⟨k + 1, by omega, by omega, by go_num, HBw⟩
                · rw [if_neg e2] at hx
                  subst hx
                  by_cases e3 : base ≤ k
                  · have r1 : (base : Int) ≤ k := by omega
                    have r2 : ¬ (k : Int) < base + n := by omega
                    go_wp2
                    go_roundg (256 - (k + 1))
                    case measure => omega
                    case rel => exact ⟨k + 1, by omega, by omega, by go_num, HBw⟩
                  · have r1 : ¬ (base : Int) ≤ k := by omega
                    go_wp2
                    go_roundg (256 - (k + 1))
                    case measure => omega
                    case rel => exact ⟨k + 1, by omega, by omega, by go_num, HBw⟩
          · obtain rfl : k = 256 := by omega
            have HB := Lk.mk (below_then HB3.out HB3.out.size HBw.out)
            go_wp2_with (go_at_call 25; (with_reducible refine (awake14_any _ (HT.out.below HB.out)).mono ?_); rintro e w' ⟨rfl, hb⟩; have HB := Lk.mk (below_then HB.out HB.out.size hb); clear hb)
            go_ret
            exact ⟨rfl, HB.out⟩
theorem lawOfFrameWords (B : Option Addr) (c' : Nat) (t : List (Int × List Int)) (sp f link mark : Int) (w : World) (hq : FnC w B t.length t) (hI : FnsIn t) (hsp : -9223372036854775808 ≤ sp ∧ sp ≤ 9223372036854775807) (_ : -9223372036854775808 ≤ f ∧ f ≤ 9223372036854775807) (_ : -9223372036854775808 ≤ link ∧ link ≤ 9223372036854775807) (hm : 0 ≤ mark ∧ mark ≤ 18446744073709551615) (hT : Tab w) :
    Calls Tryd.prog 6 #[.slice B t.length c', .int .i64 sp, .int .i64 f, .int .i64 link, .int .u64 mark] w fun e w' => e = .returned (.bool true) ∧ Below w.heap.size w w' := by
  cases h : greatL t with
  | true => exact fwords_early B c' t sp f link mark w hq hT h
  | false => exact fwords_go B c' t sp f link mark w hq (hI.ok h) hsp hm hT h
end Go.Proofs.YtbikdngpannekaaDoor
