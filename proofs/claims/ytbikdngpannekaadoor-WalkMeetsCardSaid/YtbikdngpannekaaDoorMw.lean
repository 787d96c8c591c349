/-
  The walk of the law WalkMeets; conditions: what is handed in reads as told, the table of deBruijn stands.
-/
import Derived.Test.YtbikdngpannekaaDoorMv
import Derived.Test.YtbikdngpannekaaDoorMm
import Derived.Test.YtbikdngpannekaaDoorMr
import Derived.Test.YtbikdngpannekaaDoorEa
import Derived.Deep.RegionHeld3
namespace Go.Proofs.YtbikdngpannekaaDoor
open Go.RowKit Go.Proofs.YtbikdngpannekaaDoorW.PrintWords

theorem laid_nil (W : World) : Calls Tryd.prog 54 #[.slice (some ⟨W.heap.size, 0, none⟩) 0 0] (W.alloc (.cells #[] 25)) fun e w' => e = .returned (.pointer (some ⟨W.heap.size + 1 + 1, 0, none⟩)) ∧ ArB w' (W.heap.size + 1 + 1) (W.heap.size + 1) zw ∧ Below W.heap.size W w' := by
  have hs : (W.alloc (.cells #[] 25)).heap.size = W.heap.size + 1 := by simp
  have h0 := below_alloc (Below.refl W.heap.size W) (.cells #[] 25)
  have h := laid15_any (some ⟨W.heap.size, 0, none⟩) 0 [] (W.alloc (.cells #[] 25)) ⟨rfl, by simp, fun h => absurd h (Nat.lt_irrefl 0)⟩ (fun x hx => by cases hx) (by simp)
  rw [putW_nil] at h
  refine h.mono ?_
  rintro e w' ⟨rfl, ha, hb⟩
  rw [hs] at ha ⊢
  exact ⟨rfl, ha, below_then h0 h0.size hb⟩
set_option maxRecDepth 100000 in
set_option maxHeartbeats 2000000 in
theorem meets_early (B : Option Addr) (c' : Nat) (t : List (Int × List Int)) (N : Option Addr) (c : Nat) (l : List Int) (at_ spoil : Int) (w : World) (hq : FnC w B t.length t) (hl : ReadsInt w .i64 N l.length l) (hT : Tab w) (h : greatL t = true ∨ 30 < l.length) :
    Calls Tryd.prog 14 #[.slice B t.length c', .slice N l.length c, .int .i64 at_, .int .u64 spoil] w fun e w' => e = .returned (.bool true) ∧ Below w.heap.size w w' := by
  have hm := hl.2.1
  have HG := Lk.mk (great_any B c' t w hq)
  have HT := Lk.mk hT
  clear hq hT hl
  cases hg : greatL t with
  | true =>
    rw [hg] at HG
    clear hg h
    go_enter Tryd.func14, Tryd.ntmps14
    go_wp2_with (first
      | (go_at_call 24; (with_reducible refine (HG.out).mono ?_); rintro e w' ⟨rfl, hw⟩; obtain rfl := hw.symm; clear hw)
      | (go_at_call 52; (with_reducible refine (awake15_any _ HT.out).mono ?_); rintro e w9 ⟨rfl, hb⟩))
    go_ret
    exact ⟨rfl, hb⟩
  | false =>
    have h1z : (30 : Int) < (l.length : Int) := by
      rcases h with h | h
      · rw [hg] at h; cases h
      · omega
    rw [hg] at HG
    clear hg h
    go_enter Tryd.func14, Tryd.ntmps14
    go_wp2_with (first
      | (go_at_call 24; (with_reducible refine (HG.out).mono ?_); rintro e w' ⟨rfl, hw⟩; obtain rfl := hw.symm; clear hw)
      | (go_at_call 52; (with_reducible refine (awake15_any _ HT.out).mono ?_); rintro e w9 ⟨rfl, hb⟩))
    go_ret
    exact ⟨rfl, hb⟩
set_option maxRecDepth 100000 in
set_option maxHeartbeats 2000000 in
theorem meets_none (B : Option Addr) (c' : Nat) (t : List (Int × List Int)) (N : Option Addr) (c : Nat) (l : List Int) (at_ spoil : Int) (w : World) (hq : FnC w B t.length t) (hI : FnsOk t) (hl : ReadsInt w .i64 N l.length l) (hT : Tab w) (hg : greatL t = false) (h30 : l.length ≤ 30) (hn : newOk t = false) :
    Calls Tryd.prog 14 #[.slice B t.length c', .slice N l.length c, .int .i64 at_, .int .u64 spoil] w fun e w' => e = .returned (.bool true) ∧ Below w.heap.size w w' := by
  have hm := hl.2.1
  have HG := Lk.mk (hg ▸ great_any B c' t w hq)
  have HN := Lk.mk (new_bad B c' t w hq hI hT hn)
  have HT := Lk.mk hT
  have h1z : ¬ (30 : Int) < (l.length : Int) := by omega
  clear hq hT hl hI hg hn
  go_enter Tryd.func14, Tryd.ntmps14
  go_wp2_with (first
    | (go_at_call 24; (with_reducible refine (HG.out).mono ?_); rintro e w' ⟨rfl, hw⟩; obtain rfl := hw.symm; clear hw)
    | (go_at_call 18; (with_reducible refine (HN.out).mono ?_); rintro e w1 ⟨rfl, hb⟩; have HB := Lk.mk hb; clear hb)
    | (go_at_call 52; (with_reducible refine (awake15_any _ (HT.out.below HB.out)).mono ?_); rintro e w9 ⟨rfl, hb⟩; have HB9 := Lk.mk (below_then HB.out HB.out.size hb); clear hb))
  go_ret
  exact ⟨rfl, HB9.out⟩
set_option maxRecDepth 100000 in
set_option maxHeartbeats 8000000 in
theorem meets_good (B : Option Addr) (c' : Nat) (t : List (Int × List Int)) (N : Option Addr) (c : Nat) (l : List Int) (at_ spoil : Int) (w : World) (hq : FnC w B t.length t) (hI : FnsOk t) (hl : ReadsInt w .i64 N l.length l) (hat : -9223372036854775808 ≤ at_ ∧ at_ ≤ 9223372036854775807) (hspl : 0 ≤ spoil ∧ spoil ≤ 18446744073709551615) (hT : Tab w) (hg : greatL t = false) (h30 : l.length ≤ 30) (hn : newOk t = true) :
    Calls Tryd.prog 14 #[.slice B t.length c', .slice N l.length c, .int .i64 at_, .int .u64 spoil] w fun e w' => e = .returned (.bool true) ∧ Below w.heap.size w w' := by
  have hm := hl.2.1
  have hE := entIn_of hn
  have HG := Lk.mk (hg ▸ great_any B c' t w hq)
  have HN := Lk.mk (new_good B c' t w hq hI hT hn)
  have HT := Lk.mk hT
  have HQ := Lk.mk hq
  have HLR := Lk.mk hl
  have HE := Lk.mk hE
  have HF := Lk.mk (fun W g b ws p (sp : Int) (hA : ArB W g b ws) (ht : TblAt W p (t.map entryOf)) => frames_all g b ws p (t.map entryOf) (0, (256, sp)) W hA ht.or hE (by dsimp only; omega))
  have HRF := Lk.mk (fun W A c ws (sp : Int) (hb : Below w.heap.size w W) (hA : ReadsInt W .u64 A ws.length ws) (hpw : Bm.Words ws) (hl : ws.length = 256) => refFrames15_any A c ws B c' t (0, (256, sp)) W hA hpw (hq.below hb) hn (by omega) (by dsimp only; omega))
  have HFS := Lk.mk (fun (ws : List Int) (sp : Nat) acc (hl : ws.length = 256) (hsp : sp ≤ 256) (h : Wk.walk (stp ws (t.map entryOf) 256) 256 sp = some acc) => (show framesA ws (t.map entryOf) ((0 : Int), ((256 : Int), (sp : Int))) = (acc.reverse, 0) from framesA_some (lo := 0) (size := 256) (by rw [hl]; exact mayS_sp sp hsp) (by rw [Nat.zero_add]; exact h)))
  have HSM := Lk.mk (fun W A c A' c' (l : List Sl.Fr) (n : Nat) (hn : l.length = n) (hl : kFr.C W A n l) (hl' : kFr.C W A' n l) => (show Calls Tryd.prog 56 #[.slice A n c, .slice A' n c'] W fun e w' => e = .returned (.bool (decide (l = l))) ∧ Below W.heap.size W w' from by subst hn; exact refSame15_any A c l A' c' l W hl hl'))
  simp only [decide_true] at HSM
  have HP3 := Lk.mk (fun g b ws p sp f link hl hsp => push_three g b ws p t sp f link hn hl hsp)
  have HWP := Lk.mk (fun ws base n link f acc hl hb h2 hk hf htw hlk hw => walk_pushed (ws := ws) (base := base) (n := n) (link := link) (f := f) (acc := acc) hE hl hb h2 hk hf htw hlk hw)
  have h1z : ¬ (30 : Int) < (l.length : Int) := by omega
  have hspl' := Lk.mk hspl
  clear hq hT hl hI hg hn hE
  go_enter Tryd.func14, Tryd.ntmps14
  go_wp2_with (first
    | (go_at_call 24; (with_reducible refine (HG.out).mono ?_); rintro e w' ⟨rfl, hw⟩; obtain rfl := hw.symm; clear hw)
    | (go_at_call 18; (with_reducible refine (HN.out).mono ?_); rintro e w1 ⟨p, rfl, htb, hb⟩; have HTB := Lk.mk htb; have HB1 := Lk.mk hb; clear hb htb)
    | (go_at_call 54; (with_reducible refine (laid_nil _).mono ?_); rintro e w2 ⟨rfl, ha, hb⟩; have HA2 := Lk.mk ha; have HB2 := Lk.mk hb; clear ha hb))
  have hq2 : w1.heap.size + 1 + 1 < w2.heap.size := blk_lt HA2.out.head
  have HX2 := Lk.mk (blk_alloc (blk_new w2 (.cells #[.int .i64 0, .int .i64 256, .int .i64 256] 88)) (.cells #[] 52))
  have hsz : (w2.alloc (.cells #[.int .i64 0, .int .i64 256, .int .i64 256] 88)).heap.size = w2.heap.size + 1 := by simp
  have HBs := Lk.mk (below_alloc (below_alloc HB2.out (.cells #[.int .i64 0, .int .i64 256, .int .i64 256] 88)) (.cells #[] 52))
  have HAs := Lk.mk (HA2.out.below (below_alloc (below_alloc (Below.refl _ _) (.cells #[.int .i64 0, .int .i64 256, .int .i64 256] 88)) (.cells #[] 52)))
  have HRs := Lk.mk (show kFr.R 52 ((w2.alloc (.cells #[.int .i64 0, .int .i64 256, .int .i64 256] 88)).alloc (.cells #[] 52)) w1.heap.size (fun k => w2.heap.size < k) (.slice (some ⟨w2.heap.size + 1, 0, none⟩) 0 0) [] from
    ⟨fun k hk => by have : w2.heap.size + 1 = k := by simpa [Value.ownBlock] using hk
                    omega, [], by have h := World.ownsRow_lit (base := w1.heap.size) (e := 52) (size := 3) (w2.alloc (.cells #[.int .i64 0, .int .i64 256, .int .i64 256] 88)) #[] 0 (by rw [hsz]; omega) (by decide) (by rfl); rw [hsz] at h; exact h, Reps.none _ _⟩)
  have HWs := Lk.mk (show Wk.walk (stp zw (t.map entryOf) 256) 256 256 = some [] from Wk.walk_end (by omega))
  go_loopg [13, 14, 15] l.length (fun gg v13 v14 v15 wr => ∃ (i sp : Nat) (lk : Int) (ws : List Int) (acc : List Sl.Fr), i ≤ l.length ∧ l.length - i ≤ gg ∧ v15 = .int .i64 i ∧ sp ≤ 256 ∧ v13 = .int .i64 lk ∧ Lk (lk = if sp = 256 then -1 else (sp : Int)) ∧ acc.length ≤ i ∧ ws.length = 256 ∧ Lk (Wk.walk (stp ws (t.map entryOf) 256) 256 sp = some acc) ∧ Lk (ArB wr (w1.heap.size + 1 + 1) (w1.heap.size + 1) ws) ∧ Lk (wr.heap[w2.heap.size]? = some (.cells #[.int .i64 0, .int .i64 256, .int .i64 sp] 88 (0, 0))) ∧ Lk (kFr.R 52 wr w1.heap.size (fun k => w2.heap.size < k) v14 acc.reverse) ∧ Lk (Below w1.heap.size w1 wr))
  case atStart => exact ⟨0, 256, -1, zw, [], by omega, by omega, rfl, Nat.le_refl _, rfl, ⟨rfl⟩, Nat.le_refl _, zw_len, HWs, HAs, HX2, HRs, HBs⟩
  case round =>
    obtain ⟨i, sp, lk, ws, acc, hi, hgg, rfl, hsp, rfl, HLK, hac, hws, HW, HA, HX, HR, HB⟩ := hrel
    obtain ⟨wt, rfl⟩ : ∃ wt : World, wt = wr := ⟨_, rfl⟩
    by_cases hlt : i < l.length
    · have hltz : (i : Int) < (l.length : Int) := by omega
      obtain ⟨ad, rfl, hc⟩ := (HLR.out.below (below_then HB1.out HB1.out.size HB.out)).at_ (i : Int) (by omega) hltz
      rw [Int.toNat_natCast, rdk] at hc
      obtain ⟨f, hfi⟩ : ∃ f, l.getD i 0 = f := ⟨_, rfl⟩
      rw [hfi] at hc
      have HFI := Lk.mk hfi
      clear hfi
      obtain ⟨d0, d1, d2, z0, z1, z2⟩ := cells3c HX.out
      obtain ⟨e0, e1, e2, _, _, _⟩ := cells3c (blk_drew HX.out)
      have hcd := pw_cell_below (below_drew (Below.refl _ _)) hc
      have HAd := Lk.mk (HA.out.below (below_drew (Below.refl _ _)))
      have HTd := Lk.mk (HTB.out.below (below_drew HB.out))
      have HBd := Lk.mk (below_drew HB.out)
      rcases HP3.out (w1.heap.size + 1 + 1) (w1.heap.size + 1) ws p sp f lk hws (by omega) with HPF | ⟨base, n, p1, p2, p3, hbn, p5, p6, p7, HPO⟩
      · go_wp2
        go_region_held3 (fun W => W.cell? ⟨w2.heap.size, 2, none⟩ = some (.int .i64 sp) ∧ W.cell? (ad.add i) = some (.int .i64 f)) (first | exact ⟨e2, hcd⟩ | exact ⟨pw_cell_below hb3 e2, pw_cell_below hb3 hcd⟩) (first
          | (go_at_call 31; (with_reducible refine (HPF _ HAd.out HTd.out).mono ?_); rintro e w3 ⟨n, n1, n2, rfl, hb3⟩))
        have hnz : ¬ n = 0 := by omega
        have HA := Lk.mk (HAd.out.below hb3)
        have HX := Lk.mk (blk_below (blk_drew HX.out) hb3)
        have HR := Lk.mk (Kd.R_below (Kd.R_drew HR.out) hb3)
        have HB := Lk.mk (below_then HBd.out HBd.out.size hb3)
        clear HAd HTd HBd HPF hb3
        obtain ⟨wt, rfl⟩ : ∃ wt : World, wt = w3 := ⟨_, rfl⟩
        obtain ⟨A4, c4, rfl, _, hC4⟩ := Kd.R_reads HR.out
        rw [List.length_reverse] at hC4 ⊢
        have HC4 := Lk.mk hC4
        have HFA := Lk.mk (HFS.out ws sp acc hws hsp HW.out)
        have HFC := Lk.mk (HF.out wt _ _ ws p (sp : Int) HA.out (HTB.out.below HB.out))
        rw [HFA.out] at HFC
        dsimp only at HFC
        rw [List.length_reverse] at HFC
        have HXt := Lk.mk HX.out
        obtain ⟨d0, d1, d2, _, _, _⟩ := cells3c HXt.out
        have hwr0 : IntKind.i64.wrap ((256 : Int) - sp + sp) = 256 := by rw [show (256 : Int) - sp + sp = 256 by omega]; rfl
        have h256 : (256 : Int) - sp + sp = 256 := by omega
        clear hC4 HR
        go_wp2_with (first
          | (go_at_call 53; (with_reducible refine (HFC.out).mono ?_); rintro e w5 ⟨hb, A5, c5, rfl, hC5⟩; have HC5 := Lk.mk hC5; have HC45 := Lk.mk (Kd.C_below HC4.out hb); have HA5 := Lk.mk (HA.out.below hb); have HX5 := Lk.mk (blk_below HXt.out hb); have HB5 := Lk.mk (below_then HB.out HB.out.size hb); clear hb hC5))
        obtain ⟨u0, u1, u2, _, _, _⟩ := cells3c (blk_drew HX5.out)
        have HBd := Lk.mk (below_drew HB5.out)
        have HAd := Lk.mk (HA5.out.below (below_drew (Below.refl _ _)))
        have HXd := Lk.mk (blk_drew HX5.out)
        go_region_held3 (fun W => W.cell? ⟨w2.heap.size, 0, none⟩ = some (.int .i64 0) ∧ W.cell? ⟨w2.heap.size, 1, none⟩ = some (.int .i64 256) ∧ W.cell? ⟨w2.heap.size, 2, none⟩ = some (.int .i64 sp)) (first | exact ⟨u0, u1, u2⟩ | exact ⟨v0, v1, v2⟩ | exact ⟨x0, x1, x2⟩ | exact ⟨y0, y1, y2⟩ | exact ⟨z0, z1, z2⟩) (first
          | (go_at_call 56; (with_reducible refine (HSM.out _ _ _ _ _ acc.reverse acc.length (List.length_reverse) (Kd.C_drew HC5.out) (Kd.C_drew HC45.out)).mono ?_); rintro e w6 ⟨rfl, hb⟩; have HA6 := Lk.mk (HAd.out.below hb); have HX6 := Lk.mk (blk_below HXd.out hb); obtain ⟨v0, v1, v2, _, _, _⟩ := cells3c HX6.out; have HB6 := Lk.mk (below_then HBd.out HBd.out.size hb); clear hb)
          | (go_at_call 59; (with_reducible refine (used_sp sp _ hsp).mono ?_); rintro e w7 ⟨rfl, hb⟩; have HA7 := Lk.mk (HA6.out.below hb); have HX7 := Lk.mk (blk_below HX6.out hb); obtain ⟨x0, x1, x2, _, _, _⟩ := cells3c HX7.out; have HB7 := Lk.mk (below_then HB6.out HB6.out.size hb); clear hb)
          | (go_at_call 60; (with_reducible refine (room_sp sp _ hsp).mono ?_); rintro e w8 ⟨rfl, hb⟩; first | (have HX9 := Lk.mk (blk_below HX8.out hb); have HA9 := Lk.mk (HA8.out.below hb); obtain ⟨z0, z1, z2, _, _, _⟩ := cells3c HX9.out; have HB9 := Lk.mk (below_then HB8.out HB8.out.size hb); clear hb) | (have HX8 := Lk.mk (blk_below HX7.out hb); have HA8 := Lk.mk (HA7.out.below hb); obtain ⟨y0, y1, y2, _, _, _⟩ := cells3c HX8.out; have HB8 := Lk.mk (below_then HB7.out HB7.out.size hb); clear hb)))
        have HAa := Lk.mk (HA9.out.below (below_alloc (Below.refl _ _) (.cells #[.int .u64 spoil] 25)))
        have HBa := Lk.mk (below_alloc HB9.out (.cells #[.int .u64 spoil] 25))
        have HXa := Lk.mk (blk_alloc HX9.out (.cells #[.int .u64 spoil] 25))
        have HRa := Lk.mk (own_reads' (own_lit w8 w8.heap.size 25 .u64 [spoil] (Nat.le_refl _) (by simp)))
        cases hin : inL 256 at_ 1 with
        | false =>
          have HSB := Lk.mk (store_bad _ _ ws at_ (some ⟨w8.heap.size, 0, none⟩) 1 [spoil] _ HAa.out HRa.out (by rw [hws]; exact hin))
          rw [show ([spoil] : List Int).length = 1 from rfl] at HSB
          clear hin
          go_wp2_with (first
            | (go_at_call 61; go_loud ((with_reducible refine HSB.out.mono ?_); rintro e w10 ⟨rfl, hb⟩; have HB10 := Lk.mk (below_then HB1.out HB1.out.size (below_then HBa.out HBa.out.size hb)); clear hb))
            | (go_at_call 52; (with_reducible refine (awake15_any _ (HT.out.below HB10.out)).mono ?_); rintro e w11 ⟨rfl, hb⟩; have HB11 := Lk.mk (below_then HB10.out HB10.out.size hb); clear hb))
          go_ret
          exact ⟨rfl, HB11.out⟩
        | true =>
          have hin2 : 0 ≤ at_ ∧ at_ ≤ 255 := by
            unfold inL at hin
            simp only [Bool.and_eq_true, decide_eq_true_eq] at hin
            omega
          obtain ⟨a, rfl⟩ := Int.eq_ofNat_of_zero_le hin2.1
          have HSO := Lk.mk (store_ok _ _ ws a (some ⟨w8.heap.size, 0, none⟩) 1 [spoil] _ HAa.out HRa.out (fun x hx => by obtain rfl : x = spoil := (by simpa using hx); have := hspl'.out; omega) (by rw [hws]; simp; omega))
          rw [show ([spoil] : List Int).length = 1 from rfl] at HSO
          have HL2 := Lk.mk ((putW_length ws a [spoil] (by rw [hws]; simp; omega)).trans hws)
          clear hin hin2
          generalize putW ws a [spoil] = wz at *
          go_wp2_with (first
            | (go_at_call 61; go_loud ((with_reducible refine HSO.out.mono ?_); rintro e w10 ⟨rfl, ha, hk⟩; have HA10 := Lk.mk ha; have HX10 := Lk.mk ((hk.block _ (blk_lt HXa.out) (by omega)).trans HXa.out); have HB10 := Lk.mk (hk.below HBa.out (by omega) HBa.out.size); clear ha hk))
            | (go_at_call 32; go_loud ((with_reducible refine (row256d _ _ _ _ HA10.out HL2.out).mono ?_); rintro e w11 ⟨v11, rfl, ho, hb⟩; rw [HL2.out] at ho; obtain ⟨A11, c11, rfl, _, _, hr11⟩ := own_full ho; have HR11 := Lk.mk hr11; have HA11 := Lk.mk (HA10.out.below hb); have HX11 := Lk.mk (blk_below HX10.out hb); have HB11 := Lk.mk (below_then HB10.out HB10.out.size hb); obtain ⟨f0, f1, f2, _, _, _⟩ := cells3c HX11.out; clear ho hb hr11))
            | (go_at_call 53; (with_reducible refine (HF.out _ _ _ wz p (sp : Int) HA11.out (HTB.out.below HB11.out)).mono ?_); rintro e w12 ⟨hb, A12, c12, rfl, hC12⟩; have HC12 := Lk.mk hC12; have HR12 := Lk.mk (HR11.out.below hb); have HA12 := Lk.mk (HA11.out.below hb); have HX12 := Lk.mk (blk_below HX11.out hb); have HB12 := Lk.mk (below_then HB11.out HB11.out.size hb); obtain ⟨g0, g1, g2, _, _, _⟩ := cells3c HX12.out; clear hb hC12)
            | (go_at_call 55; (with_reducible refine ((HL2.out ▸ HRF.out _ A11 c11 wz (sp : Int) (below_then HB1.out HB1.out.size HB12.out) (HL2.out.symm ▸ HR12.out) HA12.out.words HL2.out)).mono ?_); rintro e w13 ⟨hb, A13, c13, rfl, hC13⟩; have HC13 := Lk.mk hC13; have HC12b := Lk.mk (Kd.C_below HC12.out hb); have HB13 := Lk.mk (below_then HB1.out HB1.out.size (below_then HB12.out HB12.out.size hb)); clear hb hC13)
            | (go_at_call 56; (with_reducible refine (HSM.out _ _ _ _ _ _ _ rfl HC12b.out HC13.out).mono ?_); rintro e w14 ⟨rfl, hb⟩; have HB14 := Lk.mk (below_then HB13.out HB13.out.size hb); clear hb)
            | (go_at_call 52; (with_reducible refine (awake15_any _ (HT.out.below HB14.out)).mono ?_); rintro e w15 ⟨rfl, hb⟩; have HB15 := Lk.mk (below_then HB14.out HB14.out.size hb); clear hb))
          go_ret
          exact ⟨rfl, HB15.out⟩
      · have HSP := Lk.mk (show sp = base + n by omega)
        clear hbn
        have hb0 : ¬ base = 256 := by omega
        have HNW := Lk.mk (HWP.out ws base n lk f acc hws p3 p1 p5 p6 p7 (HSP.out ▸ HLK.out) (HSP.out ▸ HW.out))
        have HNL := Lk.mk ((pushW_length ws base n lk f (by omega) p1).trans hws)
        obtain ⟨A4, c4, hu, _, _⟩ := Kd.R_reads HR.out
        rw [List.length_reverse] at hu
        subst hu
        have hne : ∀ k, some k = (Value.slice A4 acc.length c4).ownBlock → w2.heap.size < k := fun k e => HR.out.1 k e.symm
        go_wp2
        go_region_held3 (fun W => W.cell? ⟨w2.heap.size, 2, none⟩ = some (.int .i64 sp) ∧ W.cell? (ad.add i) = some (.int .i64 f)) (first | exact ⟨e2, hcd⟩ | exact ⟨q2, q3⟩) (first
          | (go_at_call 31; (with_reducible refine (HPO _ HAd.out HTd.out).mono ?_); rintro e w3 ⟨rfl, ha3, hk3⟩; have HX3 := Lk.mk ((hk3.block _ (blk_lt (blk_drew HX.out)) (by omega)).trans (blk_drew HX.out)); have HB3 := Lk.mk (hk3.below HBd.out (by omega) HBd.out.size); have HA3 := Lk.mk ha3; have HR3 := Lk.mk (Kd.R_step (Kd.R_drew HR.out) (fun k h1 h2 => hk3.block k h2 (by omega))); obtain ⟨q0, q1, q2, zz0, zz1, zz2⟩ := cells3c HX3.out; obtain ⟨ad', had, hc3⟩ := (HLR.out.below (below_then HB1.out HB1.out.size HB3.out)).at_ (i : Int) (by omega) hltz; obtain rfl := Option.some.inj had; rw [Int.toNat_natCast, rdk, HFI.out] at hc3; have q3 := hc3; clear hc3; clear ha3 hk3))
        go_wp2_with (at_builtin
                     refine Kd.R_append (w0 := w1) kFr w1.heap.size rfl _ _ 31 52 _ 24 rfl Tryd.underlying31 infoFr rfl (show 0 < (3 : Nat) from by decide) (show 0 < (24 : Nat) from by decide) (.slice A4 acc.length c4) acc.reverse ((base : Int), (f, lk)) [.int .i64 base, .int .i64 f, .int .i64 lk] (fun k => w2.heap.size < k) (fun _ => False) rfl ?q3 ?q1 (fun _ h => h.elim) ?q4 HR3.out HB3.out HB3.out.size ?q2 ?_
                     case q1 => exact ⟨[_], [_, _], rfl, rfl, [_], [_], rfl, rfl, rfl⟩
                     case q2 => (rw [List.length_reverse]; omega)
                     case q3 => simp [go_sem]
                     case q4 => (intro k hk; have := blk_lt HX3.out; omega)
                     intro v4 w4 hR4 hb4 hg4 _
                     have HX4 := Lk.mk ((hg4.block _ (blk_lt HX3.out) (fun e => absurd (hne _ e) (by omega))).trans HX3.out)
                     have HA4 := Lk.mk (show ArB w4 (w1.heap.size + 1 + 1) (w1.heap.size + 1) (pushW ws base n lk f) from ⟨(hg4.block _ (blk_lt HA3.out.head) (fun e => absurd (hne _ e) (by omega))).trans HA3.out.head, (hg4.block _ (blk_lt HA3.out.row) (fun e => absurd (hne _ e) (by omega))).trans HA3.out.row, HA3.out.words, HA3.out.pos, HA3.out.len⟩)
                     obtain ⟨r0, r1, r2, y0, y1, y2⟩ := cells3c HX4.out
                     have HR4 := Lk.mk hR4
                     have HB4 := Lk.mk hb4
                     clear hR4 hb4 hg4)
        go_roundg (l.length - (i + 1))
        case measure => omega
        case rel =>
          refine ⟨i + 1, base, base, pushW ws base n lk f, ((base : Int), (f, lk)) :: acc, by omega, by omega, by go_num, by omega, rfl, ⟨by rw [if_neg hb0]⟩, by simp; omega, HNL.out, HNW, ⟨?_⟩, ⟨blk_put HX4.out 2 _ rfl⟩, ⟨?_⟩, ⟨HB4.out.setCell (p := ⟨w2.heap.size, 2, none⟩) (by show w1.heap.size ≤ w2.heap.size; omega) _⟩⟩
          · exact ⟨(Below.heap_setCell _ _ _ _ (by show w1.heap.size + 1 + 1 ≠ w2.heap.size; omega)).trans HA4.out.head, (Below.heap_setCell _ _ _ _ (by show w1.heap.size + 1 ≠ w2.heap.size; omega)).trans HA4.out.row, HA4.out.words, HA4.out.pos, HA4.out.len⟩
          · rw [List.reverse_cons]
            exact Kd.R_far HR4.out (p := ⟨w2.heap.size, 2, none⟩) (fun k hk => by show k ≠ w2.heap.size; omega) _
    · obtain rfl : i = l.length := by omega
      have hltz : ¬ (l.length : Int) < (l.length : Int) := by omega
      obtain ⟨A4, c4, rfl, _, hC4⟩ := Kd.R_reads HR.out
      rw [List.length_reverse] at hC4 ⊢
      have HC4 := Lk.mk hC4
      have HFA := Lk.mk (HFS.out ws sp acc hws hsp HW.out)
      have HFC := Lk.mk (HF.out wt _ _ ws p (sp : Int) HA.out (HTB.out.below HB.out))
      rw [HFA.out] at HFC
      dsimp only at HFC
      rw [List.length_reverse] at HFC
      have HXt := Lk.mk HX.out
      obtain ⟨d0, d1, d2, _, _, _⟩ := cells3c HXt.out
      have hwr0 : IntKind.i64.wrap ((256 : Int) - sp + sp) = 256 := by rw [show (256 : Int) - sp + sp = 256 by omega]; rfl
      have h256 : (256 : Int) - sp + sp = 256 := by omega
      clear hC4 HR
      go_wp2_with (first
        | (go_at_call 53; (with_reducible refine (HFC.out).mono ?_); rintro e w5 ⟨hb, A5, c5, rfl, hC5⟩; have HC5 := Lk.mk hC5; have HC45 := Lk.mk (Kd.C_below HC4.out hb); have HA5 := Lk.mk (HA.out.below hb); have HX5 := Lk.mk (blk_below HXt.out hb); have HB5 := Lk.mk (below_then HB.out HB.out.size hb); clear hb hC5))
      obtain ⟨u0, u1, u2, _, _, _⟩ := cells3c (blk_drew HX5.out)
      have HBd := Lk.mk (below_drew HB5.out)
      have HAd := Lk.mk (HA5.out.below (below_drew (Below.refl _ _)))
      have HXd := Lk.mk (blk_drew HX5.out)
      go_region_held3 (fun W => W.cell? ⟨w2.heap.size, 0, none⟩ = some (.int .i64 0) ∧ W.cell? ⟨w2.heap.size, 1, none⟩ = some (.int .i64 256) ∧ W.cell? ⟨w2.heap.size, 2, none⟩ = some (.int .i64 sp)) (first | exact ⟨u0, u1, u2⟩ | exact ⟨v0, v1, v2⟩ | exact ⟨x0, x1, x2⟩ | exact ⟨y0, y1, y2⟩ | exact ⟨z0, z1, z2⟩) (first
        | (go_at_call 56; (with_reducible refine (HSM.out _ _ _ _ _ acc.reverse acc.length (List.length_reverse) (Kd.C_drew HC5.out) (Kd.C_drew HC45.out)).mono ?_); rintro e w6 ⟨rfl, hb⟩; have HA6 := Lk.mk (HAd.out.below hb); have HX6 := Lk.mk (blk_below HXd.out hb); obtain ⟨v0, v1, v2, _, _, _⟩ := cells3c HX6.out; have HB6 := Lk.mk (below_then HBd.out HBd.out.size hb); clear hb)
        | (go_at_call 59; (with_reducible refine (used_sp sp _ hsp).mono ?_); rintro e w7 ⟨rfl, hb⟩; have HA7 := Lk.mk (HA6.out.below hb); have HX7 := Lk.mk (blk_below HX6.out hb); obtain ⟨x0, x1, x2, _, _, _⟩ := cells3c HX7.out; have HB7 := Lk.mk (below_then HB6.out HB6.out.size hb); clear hb)
        | (go_at_call 60; (with_reducible refine (room_sp sp _ hsp).mono ?_); rintro e w8 ⟨rfl, hb⟩; first | (have HX9 := Lk.mk (blk_below HX8.out hb); have HA9 := Lk.mk (HA8.out.below hb); obtain ⟨z0, z1, z2, _, _, _⟩ := cells3c HX9.out; have HB9 := Lk.mk (below_then HB8.out HB8.out.size hb); clear hb) | (have HX8 := Lk.mk (blk_below HX7.out hb); have HA8 := Lk.mk (HA7.out.below hb); obtain ⟨y0, y1, y2, _, _, _⟩ := cells3c HX8.out; have HB8 := Lk.mk (below_then HB7.out HB7.out.size hb); clear hb)))
      have HAa := Lk.mk (HA9.out.below (below_alloc (Below.refl _ _) (.cells #[.int .u64 spoil] 25)))
      have HBa := Lk.mk (below_alloc HB9.out (.cells #[.int .u64 spoil] 25))
      have HXa := Lk.mk (blk_alloc HX9.out (.cells #[.int .u64 spoil] 25))
      have HRa := Lk.mk (own_reads' (own_lit w8 w8.heap.size 25 .u64 [spoil] (Nat.le_refl _) (by simp)))
      cases hin : inL 256 at_ 1 with
      | false =>
        have HSB := Lk.mk (store_bad _ _ ws at_ (some ⟨w8.heap.size, 0, none⟩) 1 [spoil] _ HAa.out HRa.out (by rw [hws]; exact hin))
        rw [show ([spoil] : List Int).length = 1 from rfl] at HSB
        clear hin
        go_wp2_with (first
          | (go_at_call 61; go_loud ((with_reducible refine HSB.out.mono ?_); rintro e w10 ⟨rfl, hb⟩; have HB10 := Lk.mk (below_then HB1.out HB1.out.size (below_then HBa.out HBa.out.size hb)); clear hb))
          | (go_at_call 52; (with_reducible refine (awake15_any _ (HT.out.below HB10.out)).mono ?_); rintro e w11 ⟨rfl, hb⟩; have HB11 := Lk.mk (below_then HB10.out HB10.out.size hb); clear hb))
        go_ret
        exact ⟨rfl, HB11.out⟩
      | true =>
        have hin2 : 0 ≤ at_ ∧ at_ ≤ 255 := by
          unfold inL at hin
          simp only [Bool.and_eq_true, decide_eq_true_eq] at hin
          omega
        obtain ⟨a, rfl⟩ := Int.eq_ofNat_of_zero_le hin2.1
        have HSO := Lk.mk (store_ok _ _ ws a (some ⟨w8.heap.size, 0, none⟩) 1 [spoil] _ HAa.out HRa.out (fun x hx => by obtain rfl : x = spoil := (by simpa using hx); have := hspl'.out; omega) (by rw [hws]; simp; omega))
        rw [show ([spoil] : List Int).length = 1 from rfl] at HSO
        have HL2 := Lk.mk ((putW_length ws a [spoil] (by rw [hws]; simp; omega)).trans hws)
        clear hin hin2
        generalize putW ws a [spoil] = wz at *
        go_wp2_with (first
          | (go_at_call 61; go_loud ((with_reducible refine HSO.out.mono ?_); rintro e w10 ⟨rfl, ha, hk⟩; have HA10 := Lk.mk ha; have HX10 := Lk.mk ((hk.block _ (blk_lt HXa.out) (by omega)).trans HXa.out); have HB10 := Lk.mk (hk.below HBa.out (by omega) HBa.out.size); clear ha hk))
          | (go_at_call 32; go_loud ((with_reducible refine (row256d _ _ _ _ HA10.out HL2.out).mono ?_); rintro e w11 ⟨v11, rfl, ho, hb⟩; rw [HL2.out] at ho; obtain ⟨A11, c11, rfl, _, _, hr11⟩ := own_full ho; have HR11 := Lk.mk hr11; have HA11 := Lk.mk (HA10.out.below hb); have HX11 := Lk.mk (blk_below HX10.out hb); have HB11 := Lk.mk (below_then HB10.out HB10.out.size hb); obtain ⟨f0, f1, f2, _, _, _⟩ := cells3c HX11.out; clear ho hb hr11))
          | (go_at_call 53; (with_reducible refine (HF.out _ _ _ wz p (sp : Int) HA11.out (HTB.out.below HB11.out)).mono ?_); rintro e w12 ⟨hb, A12, c12, rfl, hC12⟩; have HC12 := Lk.mk hC12; have HR12 := Lk.mk (HR11.out.below hb); have HA12 := Lk.mk (HA11.out.below hb); have HX12 := Lk.mk (blk_below HX11.out hb); have HB12 := Lk.mk (below_then HB11.out HB11.out.size hb); obtain ⟨g0, g1, g2, _, _, _⟩ := cells3c HX12.out; clear hb hC12)
          | (go_at_call 55; (with_reducible refine ((HL2.out ▸ HRF.out _ A11 c11 wz (sp : Int) (below_then HB1.out HB1.out.size HB12.out) (HL2.out.symm ▸ HR12.out) HA12.out.words HL2.out)).mono ?_); rintro e w13 ⟨hb, A13, c13, rfl, hC13⟩; have HC13 := Lk.mk hC13; have HC12b := Lk.mk (Kd.C_below HC12.out hb); have HB13 := Lk.mk (below_then HB1.out HB1.out.size (below_then HB12.out HB12.out.size hb)); clear hb hC13)
          | (go_at_call 56; (with_reducible refine (HSM.out _ _ _ _ _ _ _ rfl HC12b.out HC13.out).mono ?_); rintro e w14 ⟨rfl, hb⟩; have HB14 := Lk.mk (below_then HB13.out HB13.out.size hb); clear hb)
          | (go_at_call 52; (with_reducible refine (awake15_any _ (HT.out.below HB14.out)).mono ?_); rintro e w15 ⟨rfl, hb⟩; have HB15 := Lk.mk (below_then HB14.out HB14.out.size hb); clear hb))
        go_ret
        exact ⟨rfl, HB15.out⟩
theorem lawOfWalkMeets (B : Option Addr) (c' : Nat) (t : List (Int × List Int)) (N : Option Addr) (c : Nat) (l : List Int) (at_ spoil : Int) (w : World) (hq : FnC w B t.length t) (hI : FnsIn t) (hl : ReadsInt w .i64 N l.length l) (_ : ∀ x ∈ l, -9223372036854775808 ≤ x ∧ x ≤ 9223372036854775807) (hat : -9223372036854775808 ≤ at_ ∧ at_ ≤ 9223372036854775807) (hspl : 0 ≤ spoil ∧ spoil ≤ 18446744073709551615) (hT : Tab w) :
    Calls Tryd.prog 14 #[.slice B t.length c', .slice N l.length c, .int .i64 at_, .int .u64 spoil] w fun e w' => e = .returned (.bool true) ∧ Below w.heap.size w w' := by
  by_cases h : greatL t = true ∨ 30 < l.length
  · exact meets_early B c' t N c l at_ spoil w hq hl hT h
  · have h1 : l.length ≤ 30 := by
      rcases Nat.lt_or_ge 30 l.length with g | g
      · exact absurd (.inr g) h
      · exact g
    have h2 : greatL t = false := by
      cases g : greatL t with
      | false => rfl
      | true => exact absurd (.inl g) h
    cases hn : newOk t with
    | false => exact meets_none B c' t N c l at_ spoil w hq (hI.ok h2) hl hT h2 h1 hn
    | true => exact meets_good B c' t N c l at_ spoil w hq (hI.ok h2) hl hat hspl hT h2 h1 hn
end Go.Proofs.YtbikdngpannekaaDoor
