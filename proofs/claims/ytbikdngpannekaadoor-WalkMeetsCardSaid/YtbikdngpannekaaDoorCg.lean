/-
  The walk of the law SlotsFind; conditions: what is handed in reads as told and is small, the table of deBruijn stands.
-/
import Derived.Test.YtbikdngpannekaaDoorK2
import Derived.Test.YtbikdngpannekaaDoorEb
namespace Go.Proofs.YtbikdngpannekaaDoor
open Go.RowKit Go.Proofs.YtbikdngpannekaaDoorW.PrintWords

theorem szFun {t : List (Int × List Int)} : tSize (t.map entryOf) = lSize t := funext (tSize_map t)
theorem entIn_of {t : List (Int × List Int)} (h : newOk t = true) : EntIn (t.map entryOf) := by
  intro e he
  obtain ⟨f, hf, rfl⟩ := List.mem_map.1 he
  have := (may_iff f.1 f.2).1 (newOk_may h f hf)
  exact ⟨this.1, this.2.1⟩
theorem lSize_rng {t : List (Int × List Int)} (h : newOk t = true) : ∀ f, -1 ≤ lSize t f ∧ lSize t f ≤ 1000 := fun f => ⟨(lSize_in h f).1, (lSize_in h f).2.1⟩

set_option maxRecDepth 100000 in
set_option maxHeartbeats 2000000 in
theorem find_early (A : Option Addr) (c : Nat) (t : List (Int × List Int)) (B : Option Addr) (c' : Nat) (l : List Sl.Fr) (d s a : Int) (w : World) (hr : FnC w A t.length t) (hl : kFr.C w B l.length l) (hI : FnsOk t) (hT : Tab w) (hn : newOk t = false) :
    Calls Tryd.prog 4 #[.slice A t.length c, .slice B l.length c', .int .i64 d, .int .i64 s, .int .i64 a] w fun e w' => e = .returned (.bool true) ∧ Below w.heap.size w w' := by
  have HN := Lk.mk (new_bad A c t w hr hI hT hn)
  have hm := hl.2.1
  have HG := Lk.mk (fun W V c1 (hb : Below w.heap.size w W) => great16_any V 0 c1 A c t B l.length c' W (hr.below hb) (by omega) hm)
  have HT := Lk.mk hT
  clear hr hl hI hT hn
  generalize (decide (256 < 0) || greatL t || decide (40 < l.length)) = g at *
  go_enter Tryd.func4, Tryd.ntmps4
  cases g with
  | true =>
    go_wp2_with (first
      | (go_at_call 18; (with_reducible refine (HN.out).mono ?_); rintro e w1 ⟨rfl, hb⟩; have HB := Lk.mk hb; have HB2 := Lk.mk (below_alloc hb (.cells #[] 25)); clear hb)
      | (go_at_call 19; (with_reducible refine (HG.out _ _ _ HB2.out).mono ?_); rintro e w' ⟨rfl, hw⟩; obtain rfl := hw.symm; clear hw)
      | (go_at_call 15; (with_reducible refine (awake16_any _ (HT.out.below HB2.out)).mono ?_); rintro e w1 ⟨rfl, hb⟩))
    go_ret
    exact ⟨rfl, below_then HB2.out HB2.out.size hb⟩
  | false =>
    go_wp2_with (first
      | (go_at_call 18; (with_reducible refine (HN.out).mono ?_); rintro e w1 ⟨rfl, hb⟩; have HB := Lk.mk hb; have HB2 := Lk.mk (below_alloc hb (.cells #[] 25)); clear hb)
      | (go_at_call 19; (with_reducible refine (HG.out _ _ _ HB2.out).mono ?_); rintro e w' ⟨rfl, hw⟩; obtain rfl := hw.symm; clear hw)
      | (go_at_call 15; (with_reducible refine (awake16_any _ (HT.out.below HB2.out)).mono ?_); rintro e w1 ⟨rfl, hb⟩))
    go_ret
    exact ⟨rfl, below_then HB2.out HB2.out.size hb⟩

set_option maxRecDepth 100000 in
set_option maxHeartbeats 2000000 in
theorem find_late (A : Option Addr) (c : Nat) (t : List (Int × List Int)) (B : Option Addr) (c' : Nat) (l : List Sl.Fr) (d s a : Int) (w : World) (hr : FnC w A t.length t) (hl : kFr.C w B l.length l) (hI : FnsOk t) (hF : FrIn l) (ha : -9223372036854775808 ≤ a ∧ a ≤ 9223372036854775807) (hT : Tab w) (hn : newOk t = true) :
    Calls Tryd.prog 4 #[.slice A t.length c, .slice B l.length c', .int .i64 d, .int .i64 s, .int .i64 a] w fun e w' => e = .returned (.bool true) ∧ Below w.heap.size w w' := by
  have HN := Lk.mk (new_good A c t w hr hI hT hn)
  have hm := hl.2.1
  have HG := Lk.mk (fun W V c1 (hb : Below w.heap.size w W) => great16_any V 0 c1 A c t B l.length c' W (hr.below hb) (by omega) hm)
  have HT := Lk.mk hT
  have hE := entIn_of hn
  have HF := Lk.mk (fun W p (hb : Below w.heap.size w W) (htb : TblAt W p (t.map entryOf)) => find_any p (t.map entryOf) B c' l a W htb.or (Kd.C_below hl hb) hF hE ha)
  have RF := Lk.mk (fun W (hb : Below w.heap.size w W) => refFind_any A c t B c' l a W (hr.below hb) (Kd.C_below hl hb) (lSize_rng hn))
  have RA := Lk.mk (fun W (hb : Below w.heap.size w W) => refAddress_any A c t B c' l d s W (hr.below hb) (Kd.C_below hl hb) (lSize_rng hn))
  have AO := Lk.mk (fun W p (hb : Below w.heap.size w W) (htb : TblAt W p (t.map entryOf)) => address_ok p (t.map entryOf) B c' l d s W htb.or (Kd.C_below hl hb) hE)
  have AB := Lk.mk (fun W p (hb : Below w.heap.size w W) (htb : TblAt W p (t.map entryOf)) => address_bad p (t.map entryOf) B c' l d s W htb.or (Kd.C_below hl hb) hE)
  rw [szFun] at HF AO AB
  have HA := Lk.mk (show Sl.addr (lSize t) l d s = if Sl.addrOk (lSize t) l d s = true then (l.getD d.toNat Sl.dFr).1 + 2 + s else -1 from rfl)
  have hpos : Sl.addrOk (lSize t) l d s = true → 0 ≤ (l.getD d.toNat Sl.dFr).1 ∧ 0 ≤ s := fun h => by
    obtain ⟨_, _, h2, h3⟩ := addrOk_true h
    exact ⟨(sizeS_in h2 h3).1, h2⟩
  clear hr hl hI hT hn hE hF
  generalize (decide (256 < 0) || greatL t || decide (40 < l.length)) = g at *
  generalize Sl.findD (lSize t) l a = f1 at *
  generalize Sl.findI (lSize t) l a = f2 at *
  generalize Sl.findB (lSize t) l a = f3 at *
  generalize Sl.addr (lSize t) l d s = want at *
  generalize Sl.addrOk (lSize t) l d s = ok at *
  generalize (l.getD d.toNat Sl.dFr).1 = at_ at *
  cases g with
  | true =>
    go_enter Tryd.func4, Tryd.ntmps4
    go_wp2_with (first
      | (go_at_call 18; (with_reducible refine (HN.out).mono ?_); rintro e w1 ⟨p, rfl, htb, hb⟩; have HB := Lk.mk hb; have HB2 := Lk.mk (below_alloc hb (.cells #[] 25)); clear hb htb)
      | (go_at_call 19; (with_reducible refine (HG.out _ _ _ HB2.out).mono ?_); rintro e w' ⟨rfl, hw⟩; obtain rfl := hw.symm; clear hw)
      | (go_at_call 15; (with_reducible refine (awake16_any _ (HT.out.below HB2.out)).mono ?_); rintro e w1 ⟨rfl, hb⟩))
    go_ret
    exact ⟨rfl, below_then HB2.out HB2.out.size hb⟩
  | false =>
    cases ok with
    | true =>
      obtain ⟨p1, p2⟩ := hpos rfl
      obtain rfl : want = at_ + 2 + s := by rw [HA.out, if_pos rfl]
      clear HA hpos
      go_enter Tryd.func4, Tryd.ntmps4
      go_wp2_with (first
        | (go_at_call 18; (with_reducible refine (HN.out).mono ?_); rintro e w1 ⟨p, rfl, htb, hb⟩; have HB := Lk.mk (below_alloc hb (.cells #[] 25)); have HTB := Lk.mk (htb.below (below_alloc (Below.refl _ _) (.cells #[] 25))); have HQ := Lk.mk (Below.refl (w1.alloc (.cells #[] 25)).heap.size (w1.alloc (.cells #[] 25))); clear hb htb)
        | (go_at_call 19; (with_reducible refine (HG.out _ _ _ HB.out).mono ?_); rintro e w' ⟨rfl, hw⟩; obtain rfl := hw.symm; clear hw)
        | (go_at_call 20; (with_reducible refine (AO.out _ _ (below_then HB.out HB.out.size HQ.out) (HTB.out.below HQ.out) (by first | rfl | trivial)).mono ?_); rintro e w2 ⟨rfl, hb⟩; have HQ := Lk.mk (below_then HQ.out HQ.out.size hb); clear hb)
        | (go_at_call 21; (with_reducible refine (RA.out _ (below_then HB.out HB.out.size HQ.out)).mono ?_); rintro e w2 ⟨rfl, hb⟩; have HQ := Lk.mk (below_then HQ.out HQ.out.size hb); clear hb)
        | (go_at_call 22; (with_reducible refine (HF.out _ _ (below_then HB.out HB.out.size HQ.out) (HTB.out.below HQ.out)).mono ?_); rintro e w2 ⟨rfl, hb⟩; have HQ := Lk.mk (below_then HQ.out HQ.out.size hb); clear hb)
        | (go_at_call 23; (with_reducible refine (RF.out _ (below_then HB.out HB.out.size HQ.out)).mono ?_); rintro e w2 ⟨rfl, hb⟩; have HQ := Lk.mk (below_then HQ.out HQ.out.size hb); clear hb)
        | (go_at_call 15; (with_reducible refine (awake16_any _ (HT.out.below (below_then HB.out HB.out.size HQ.out))).mono ?_); rintro e w1 ⟨rfl, hb⟩; have HQ := Lk.mk (below_then HQ.out HQ.out.size hb); clear hb))
      go_ret
      exact ⟨rfl, below_then HB.out HB.out.size HQ.out⟩
    | false =>
      obtain rfl : want = -1 := by rw [HA.out, if_neg (by decide)]
      clear HA hpos
      go_enter Tryd.func4, Tryd.ntmps4
      go_wp2_with (first
        | (go_at_call 18; (with_reducible refine (HN.out).mono ?_); rintro e w1 ⟨p, rfl, htb, hb⟩; have HB := Lk.mk (below_alloc hb (.cells #[] 25)); have HTB := Lk.mk (htb.below (below_alloc (Below.refl _ _) (.cells #[] 25))); have HQ := Lk.mk (Below.refl (w1.alloc (.cells #[] 25)).heap.size (w1.alloc (.cells #[] 25))); clear hb htb)
        | (go_at_call 19; (with_reducible refine (HG.out _ _ _ HB.out).mono ?_); rintro e w' ⟨rfl, hw⟩; obtain rfl := hw.symm; clear hw)
        | (go_at_call 20; (with_reducible refine (AB.out _ _ (below_then HB.out HB.out.size HQ.out) (HTB.out.below HQ.out) (by first | rfl | trivial)).mono ?_); rintro e w2 ⟨rfl, hb⟩; have HQ := Lk.mk (below_then HQ.out HQ.out.size hb); clear hb)
        | (go_at_call 21; (with_reducible refine (RA.out _ (below_then HB.out HB.out.size HQ.out)).mono ?_); rintro e w2 ⟨rfl, hb⟩; have HQ := Lk.mk (below_then HQ.out HQ.out.size hb); clear hb)
        | (go_at_call 22; (with_reducible refine (HF.out _ _ (below_then HB.out HB.out.size HQ.out) (HTB.out.below HQ.out)).mono ?_); rintro e w2 ⟨rfl, hb⟩; have HQ := Lk.mk (below_then HQ.out HQ.out.size hb); clear hb)
        | (go_at_call 23; (with_reducible refine (RF.out _ (below_then HB.out HB.out.size HQ.out)).mono ?_); rintro e w2 ⟨rfl, hb⟩; have HQ := Lk.mk (below_then HQ.out HQ.out.size hb); clear hb)
        | (go_at_call 15; (with_reducible refine (awake16_any _ (HT.out.below (below_then HB.out HB.out.size HQ.out))).mono ?_); rintro e w1 ⟨rfl, hb⟩; have HQ := Lk.mk (below_then HQ.out HQ.out.size hb); clear hb))
      go_ret
      exact ⟨rfl, below_then HB.out HB.out.size HQ.out⟩

theorem lawOfSlotsFind (A : Option Addr) (c : Nat) (t : List (Int × List Int)) (B : Option Addr) (c' : Nat) (l : List Sl.Fr) (d s a : Int) (w : World) (hr : FnC w A t.length t) (hI : FnsIn t) (_ : t.length ≤ 1048576) (hb : ∀ f ∈ t, f.2.length ≤ 1048576) (hl : kFr.C w B l.length l) (hF : FrIn l) (_ : l.length ≤ 1048576)
    (_ : -9223372036854775808 ≤ d ∧ d ≤ 9223372036854775807) (_ : -9223372036854775808 ≤ s ∧ s ≤ 9223372036854775807) (ha : -9223372036854775808 ≤ a ∧ a ≤ 9223372036854775807) (hT : Tab w) :
    Calls Tryd.prog 4 #[.slice A t.length c, .slice B l.length c', .int .i64 d, .int .i64 s, .int .i64 a] w fun e w' => e = .returned (.bool true) ∧ Below w.heap.size w w' := by
  have hO := fnsOk_of hI hb (Nat.le_refl _)
  cases hn : newOk t with
  | true => exact find_late A c t B c' l d s a w hr hl hO hF ha hT hn
  | false => exact find_early A c t B c' l d s a w hr hl hO hT hn
end Go.Proofs.YtbikdngpannekaaDoor
