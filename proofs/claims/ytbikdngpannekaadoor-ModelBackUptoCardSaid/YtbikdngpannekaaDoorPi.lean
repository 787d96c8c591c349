/-
  The walks of the model's Call at a function without slots, and of Return; conditions: the row and the table read as told, the row is right.
-/
import Derived.Test.YtbikdngpannekaaDoorPh
namespace Go.Proofs.YtbikdngpannekaaDoor
open Go.RowKit Go.Proofs.YtbikdngpannekaaDoorW.PrintWords

set_option maxRecDepth 100000 in
set_option maxHeartbeats 2000000 in
theorem mret1_any (q : Option Addr) (l : List Af) (B qr : Nat) (v : Value) (W : World) (hl2 : l.length < 1048576) (hB2 : B ≤ qr) (hq : W.heap[qr]? = some (.cells #[.pointer q, v] 130 (0, 0))) (hR : kAf.R 124 W B (fun k => k < qr) v l) :
    Calls Tryd.prog 91 #[.pointer (some ⟨qr, 0, none⟩)] W fun e W' => HowL (fun l' => l' = l.take (l.length - 1) ∧ 1 < l.length) (fun n => n = 8 ∧ ¬ 1 < l.length) (.pointer q) B qr W e W' := by
  obtain ⟨A, c, rfl, hc, _⟩ := Kd.R_reads hR
  obtain ⟨q0, q1⟩ := cells2v hq
  obtain ⟨r0, r1⟩ := cells2v (blk_drew hq)
  have HQ := Lk.mk (blk_drew hq)
  have HQ0 := Lk.mk hq
  have HR := Lk.mk (Kd.R_drew hR)
  have HBQ := Lk.mk hB2
  have HLW := Lk.mk (blk_lt hq)
  have rz := blk_frozen (blk_drew hq) 1
  clear hR hq hB2
  by_cases h : 1 < l.length
  · have hz : (1 : Int) < (l.length : Int) := by omega
    have HH := Lk.mk h
    obtain ⟨n, hn⟩ : ∃ n, l.length = n + 1 := ⟨l.length - 1, by omega⟩
    have HN := Lk.mk hn
    have HT := Lk.mk (Kd.R_take (m := n) HR.out (by omega))
    have hc2 : (n : Int) ≤ (c : Int) := by omega
    have hwr : IntKind.i64.wrap ((l.length : Int) - 1) = (n : Int) := by
      rw [show (l.length : Int) - 1 = (n : Int) by omega]
      exact IntWalk.i64_in _ (by omega)
    have wz := blk_frozen (blk_drew HQ0.out) 1
    clear h hn hl2
    go_enter Tryd.func91, Tryd.ntmps91
    go_wp2_with (go_at_call 86; (with_reducible refine (mmust_ok _ _).mono ?_); rintro e w' ⟨rfl, hw⟩; obtain rfl := hw.symm; clear hw)
    go_region_law (fail "none")
    all_goals
      go_wp2
      simp [bodyPost, results, Tryd.results91]
      refine ⟨(below_drew (Below.refl B W)).setCell (p := ⟨qr, 1, none⟩) HBQ.out _, .inl ⟨rfl, .slice A n c, _, ⟨?_, HH.out⟩, blk_put HQ.out 1 (.slice A n c) rfl, Kd.R_mono (Kd.R_far HT.out (p := ⟨qr, 1, none⟩) (fun k hk => Nat.ne_of_lt hk) _) (fun k hk => Nat.ne_of_lt hk)⟩⟩
      rw [HN.out]
      rfl
  · have hz : ¬ (1 : Int) < (l.length : Int) := by omega
    have HH := Lk.mk h
    clear h
    go_enter Tryd.func91, Tryd.ntmps91
    go_wp2_with (go_at_call 86; (with_reducible refine (mmust_no _ _).mono ?_); rintro e w' ⟨rfl, hw⟩; obtain rfl := hw.symm; clear hw)
    exact ⟨rfl, Below.refl _ _, .inr ⟨8, by decide, ⟨rfl, HH.out⟩, rfl⟩⟩
set_option maxRecDepth 100000 in
set_option maxHeartbeats 2000000 in
theorem mcall_zero (q : Option Addr) (ent : List (Int × (List Int × List Int))) (f : Int) (A : Option Addr) (c : Nat) (l : List Af) (w : World) (ht : TblOr w (.pointer q) ent) (hw : ∀ e ∈ ent, Bm.Words e.2.1) (hr : kAf.C w A l.length l) (hl : AfLen l) (hl2 : l.length < 1048576) (hv : AfIn l) (hR : RightP (tSize ent) (tPtr ent) l) (hs : tSize ent f = 0) :
    Calls Tryd.prog 40 #[.pointer q, .slice A l.length c, .int .i64 f] w fun e w' => Below w.heap.size w w' ∧ ∃ v, e = .returned (.tuple #[v, .int .i64 0]) ∧ kAf.R 124 w' w.heap.size (fun _ => True) v (l ++ [(f, [])]) := by
  have H0 := Lk.mk (below_alloc (Below.refl w.heap.size w) (.cells #[.int .i64 f] 3))
  have hx := blk_new w (.cells #[.int .i64 f] 3)
  have hsz : (w.alloc (.cells #[.int .i64 f] 3)).heap.size = w.heap.size + 1 := by simp
  have eg := enters_of Tryd.func85 (by kernel_rfl) rfl
  have HC := Lk.mk (mchange_any q ent 85 #[.pointer (some ⟨w.heap.size, 0, none⟩)] A c l (fun l' => l' = l ++ [(f, [])]) (fun _ => False) (w.alloc (.cells #[.int .i64 f] 3)) eg (ht.below H0.out) hw (Kd.C_below hr H0.out) hl hv hR
    (fun W qr v hb hqr hq hRR => mcall1_zero q ent f l _ w.heap.size qr v W hl hl2 (ht.below (below_then H0.out H0.out.size hb)) hs (by omega) hqr (blk_below hx hb) hq hRR))
  clear ht hw hr hl hl2 hv hR hs hx hsz
  go_enter Tryd.func40, Tryd.ntmps40
  go_wp2_with (go_at_call 84; (with_reducible refine (HC.out).mono ?_); rintro e w1 ⟨hb, v, l', n, rfl, hR1, hor⟩; obtain ⟨rfl, rfl⟩ : n = 0 ∧ l' = l ++ [(f, [])] := (by rcases hor with ⟨h1, h2⟩ | ⟨_, h, _⟩; exact ⟨h1, h2⟩; exact h.elim); have HB := Lk.mk (below_then H0.out H0.out.size hb); have HRx := Lk.mk hR1; clear hb hR1 hor)
  go_ret2
  exact ⟨HB.out, _, rfl, Kd.R_lower HRx.out H0.out.size⟩
set_option maxRecDepth 100000 in
set_option maxHeartbeats 2000000 in
theorem mreturn_any (q : Option Addr) (ent : List (Int × (List Int × List Int))) (A : Option Addr) (c : Nat) (l : List Af) (w : World) (ht : TblOr w (.pointer q) ent) (hw : ∀ e ∈ ent, Bm.Words e.2.1) (hr : kAf.C w A l.length l) (hl : AfLen l) (hl2 : l.length < 1048576) (hv : AfIn l) (hR : RightP (tSize ent) (tPtr ent) l) :
    Calls Tryd.prog 43 #[.pointer q, .slice A l.length c] w fun e w' => Below w.heap.size w w' ∧ ∃ v, kAf.R 124 w' w.heap.size (fun _ => True) v (if 1 < l.length then l.take (l.length - 1) else l) ∧ e = .returned (.tuple #[v, .int .i64 (if 1 < l.length then 0 else 8)]) := by
  have eg := enters_of Tryd.func91 (by kernel_rfl) rfl
  have HC := Lk.mk (mchange_any q ent 91 #[] A c l (fun l' => l' = l.take (l.length - 1) ∧ 1 < l.length) (fun n => n = 8 ∧ ¬ 1 < l.length) w eg ht hw hr hl hv hR
    (fun W qr v hb hqr hq hRR => mret1_any q l _ qr v W hl2 (by omega) hq hRR))
  clear ht hw hr hl hl2 hv hR
  by_cases h : 1 < l.length
  · have HH := Lk.mk h
    rw [if_pos h, if_pos h]
    clear h
    go_enter Tryd.func43, Tryd.ntmps43
    go_wp2_with (go_at_call 84; (with_reducible refine (HC.out).mono ?_); rintro e w1 ⟨hb, v, l', n, rfl, hR1, hor⟩; obtain ⟨rfl, rfl⟩ : n = 0 ∧ l' = l.take (l.length - 1) := (by rcases hor with ⟨h1, h2, _⟩ | ⟨_, h, _⟩; exact ⟨h1, h2⟩; exact absurd HH.out h.2); have HB := Lk.mk hb; have HRx := Lk.mk hR1; clear hb hR1 hor)
    go_ret2
    exact ⟨HB.out, _, HRx.out, rfl⟩
  · have HH := Lk.mk h
    rw [if_neg h, if_neg h]
    clear h
    go_enter Tryd.func43, Tryd.ntmps43
    go_wp2_with (go_at_call 84; (with_reducible refine (HC.out).mono ?_); rintro e w1 ⟨hb, v, l', n, rfl, hR1, hor⟩; obtain ⟨rfl, hl3⟩ : n = 8 ∧ l' = l := (by rcases hor with ⟨h1, _, h2⟩ | ⟨_, h, h2⟩; exact absurd h2 HH.out; exact ⟨h.1, h2⟩); have HB := Lk.mk hb; have HRx := Lk.mk (show kAf.R 124 w1 w.heap.size (fun _ => True) v l from hl3 ▸ hR1); clear hb hR1 hor hl3)
    go_ret2
    exact ⟨HB.out, _, HRx.out, rfl⟩
end Go.Proofs.YtbikdngpannekaaDoor
