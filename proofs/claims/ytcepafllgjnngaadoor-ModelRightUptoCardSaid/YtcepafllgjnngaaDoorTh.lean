/-
  The walks of the model's Get, Load, Write, Calc at a right row, and of all its functions at one that isn't right; conditions: the row and the table read as told. Printed by gen_wrap.py.
-/
import Derived.Test.YtcepafllgjnngaaDoorTg
import Derived.Test.YtcepafllgjnngaaDoorK9
import Derived.Test.YtcepafllgjnngaaDoorPv
import Derived.Test.YtcepafllgjnngaaDoorK8
import Derived.Test.YtcepafllgjnngaaDoorK7
namespace Go.Proofs.YtcepafllgjnngaaDoor
open Go.RowKit Go.Proofs.YtcepafllgjnngaaDoorW.PrintWords
def getN (l : List Af) (d s : Int) : Int := if hasA l d s = true then 0 else 2
def getZ (l : List Af) (d s : Int) : Sl.Vl := if hasA l d s = true then slotZ l d s else Sl.dVl
def loadZ (ptr : Int → Int → Bool) (l : List Af) (d s : Int) : Sl.Vl := if refersN ptr l d s = 0 then slotZ l (slotZ l d s).2.2.1 (slotZ l d s).2.2.2 else Sl.dVl
/-- what a function answers that asks -/
def AskE (z : Sl.Vl) (n : Int) (e : Ending) : Prop := e = .returned (.tuple #[.agg #[.int .u8 z.1, .int .u64 z.2.1, .int .i64 z.2.2.1, .int .i64 z.2.2.2], .int .i64 n])
set_option maxRecDepth 100000 in
set_option maxHeartbeats 2000000 in
theorem mget_any (q : Option Addr) (ent : List (Int × (List Int × List Int))) (A : Option Addr) (c : Nat) (l : List Af) (d s : Int) (w : World) (ht : TblOr w (.pointer q) ent) (hw : ∀ e ∈ ent, Bm.Words e.2.1) (hr : kAf.C w A l.length l) (hv : AfIn l) (hR : RightP (tSize ent) (tPtr ent) l) :
    Calls Tryd.prog 72 #[.pointer q, .slice A l.length c, .int .i64 d, .int .i64 s] w fun e w' => Below w.heap.size w w' ∧ AskE (getZ l d s) (getN l d s) e := by
  have h1 : (w.alloc (.cells #[.int .i64 d] 3)).heap.size = w.heap.size + 1 := by simp
  have h2 : ((w.alloc (.cells #[.int .i64 d] 3)).alloc (.cells #[.int .i64 s] 3)).heap.size = w.heap.size + 1 + 1 := by simp
  have H0 := Lk.mk (below_alloc (below_alloc (below_alloc (Below.refl w.heap.size w) (.cells #[.int .i64 d] 3)) (.cells #[.int .i64 s] 3)) (.cells #[.int .u8 0, .int .u64 0, .int .i64 0, .int .i64 0] 56))
  have hbd := blk_alloc (blk_alloc (blk_new w (.cells #[.int .i64 d] 3)) (.cells #[.int .i64 s] 3)) (.cells #[.int .u8 0, .int .u64 0, .int .i64 0, .int .i64 0] 56)
  have hbs := blk_alloc (blk_new (w.alloc (.cells #[.int .i64 d] 3)) (.cells #[.int .i64 s] 3)) (.cells #[.int .u8 0, .int .u64 0, .int .i64 0, .int .i64 0] 56)
  rw [h1] at hbs
  have hbz := blk_new ((w.alloc (.cells #[.int .i64 d] 3)).alloc (.cells #[.int .i64 s] 3)) (.cells #[.int .u8 0, .int .u64 0, .int .i64 0, .int .i64 0] 56)
  rw [h2] at hbz
  have HZ := Lk.mk hbz
  have eg := enters_of Tryd.func120 (by kernel_rfl) rfl
  have HC := Lk.mk ((mask_any q ent 120 #[.pointer (some ⟨w.heap.size, 0, none⟩), .pointer (some ⟨w.heap.size + 1, 0, none⟩)] A c l (fun v => hasA l d s = true ∧ v = slotZ l d s) (fun n => n = 2 ∧ hasA l d s = false) _ eg (ht.below H0.out) hw (Kd.C_below hr H0.out) hv hR (fun W hb => mget1_any q A c l d s w.heap.size (w.heap.size + 1) W (blk_below hbd hb) (blk_below hbs hb) (Kd.C_below (Kd.C_below hr H0.out) hb))).mono fun e w1 h => (show Below _ _ w1 ∧ ∃ v0 v1 v2 v3 n : Int, e = .returned (.tuple #[.agg #[.int .u8 v0, .int .u64 v1, .int .i64 v2, .int .i64 v3], .int .i64 n]) ∧ (v0, v1, v2, v3) = (getZ l d s) ∧ n = (getN l d s) from by
    refine ⟨h.1, ?_⟩
    rcases h.2 with ⟨v0, v1, v2, v3, ⟨h1, h2⟩, h3⟩ | ⟨n, _, ⟨h1, h2⟩, h3⟩
    · exact ⟨v0, v1, v2, v3, 0, h3, by unfold getZ; rw [if_pos h1]; exact h2, by unfold getN; rw [if_pos h1]⟩
    · exact ⟨0, 0, 0, 0, n, h3, by unfold getZ; rw [if_neg (by rw [h2]; decide)]; rfl, by unfold getN; rw [if_neg (by rw [h2]; decide)]; exact h1⟩))
  generalize (getZ l d s) = Z at *
  generalize hnn : (getN l d s) = N at *
  obtain ⟨Z0, Z1, Z2, Z3⟩ := Z
  clear ht hw hr hv hR h1 h2 hbd hbs hbz eg
  go_enter Tryd.func72, Tryd.ntmps72
  go_wp2_with (go_at_call 119; (with_reducible refine (HC.out).mono ?_); rintro e w1 ⟨hb, v0, v1, v2, v3, n, rfl, hz, hn9⟩; have HX := Lk.mk (blk_below HZ.out hb); have HB := Lk.mk (below_then H0.out H0.out.size hb); have HE := Lk.mk (And.intro hz hn9); obtain ⟨s0, s1, s2, s3, u0, u1, u2, u3⟩ := cells4z HX.out; clear hb hz hn9)
  obtain ⟨he1, he2⟩ := HE.out
  injection he1 with e1 e2
  injection e2 with e2 e3
  injection e3 with e3 e4
  subst e1 e2 e3 e4
  exact bodyPost_ret (results_ct Tryd.results72 _ _ (w.heap.size + 1 + 1) 56 #[.int .u8 v0, .int .u64 v1, .int .i64 v2, .int .i64 v3] (0, 0) _ rfl (set4 HX.out _ _ _ _) Tryd.underlying56 rfl (by kernel_rfl)) rfl ⟨belowF HB.out (by omega) _ _ _ _, by rw [he2]; rfl⟩
set_option maxRecDepth 100000 in
set_option maxHeartbeats 2000000 in
theorem mget_bad (q : Option Addr) (ent : List (Int × (List Int × List Int))) (A : Option Addr) (c : Nat) (l : List Af) (d s : Int) (w : World) (ht : TblOr w (.pointer q) ent) (he : EntIn ent) (hw : ∀ e ∈ ent, Bm.Words e.2.1) (hr : kAf.C w A l.length l) (hl : AfLen l) (hv : AfIn l) (hR : ¬ RightP (tSize ent) (tPtr ent) l) :
    Calls Tryd.prog 72 #[.pointer q, .slice A l.length c, .int .i64 d, .int .i64 s] w fun e w' => Below w.heap.size w w' ∧ AskE (Sl.dVl) (9) e := by
  have h1 : (w.alloc (.cells #[.int .i64 d] 3)).heap.size = w.heap.size + 1 := by simp
  have h2 : ((w.alloc (.cells #[.int .i64 d] 3)).alloc (.cells #[.int .i64 s] 3)).heap.size = w.heap.size + 1 + 1 := by simp
  have H0 := Lk.mk (below_alloc (below_alloc (below_alloc (Below.refl w.heap.size w) (.cells #[.int .i64 d] 3)) (.cells #[.int .i64 s] 3)) (.cells #[.int .u8 0, .int .u64 0, .int .i64 0, .int .i64 0] 56))
  have hbd := blk_alloc (blk_alloc (blk_new w (.cells #[.int .i64 d] 3)) (.cells #[.int .i64 s] 3)) (.cells #[.int .u8 0, .int .u64 0, .int .i64 0, .int .i64 0] 56)
  have hbs := blk_alloc (blk_new (w.alloc (.cells #[.int .i64 d] 3)) (.cells #[.int .i64 s] 3)) (.cells #[.int .u8 0, .int .u64 0, .int .i64 0, .int .i64 0] 56)
  rw [h1] at hbs
  have hbz := blk_new ((w.alloc (.cells #[.int .i64 d] 3)).alloc (.cells #[.int .i64 s] 3)) (.cells #[.int .u8 0, .int .u64 0, .int .i64 0, .int .i64 0] 56)
  rw [h2] at hbz
  have HZ := Lk.mk hbz
  have HC := Lk.mk ((mask_bad q ent 120 #[.pointer (some ⟨w.heap.size, 0, none⟩), .pointer (some ⟨w.heap.size + 1, 0, none⟩)] A c l _ (ht.below H0.out) he hw (Kd.C_below hr H0.out) hv hR).mono fun e w1 h => (show Below _ _ w1 ∧ ∃ v0 v1 v2 v3 n : Int, e = .returned (.tuple #[.agg #[.int .u8 v0, .int .u64 v1, .int .i64 v2, .int .i64 v3], .int .i64 n]) ∧ (v0, v1, v2, v3) = Sl.dVl ∧ n = 9 from ⟨h.2, 0, 0, 0, 0, 9, h.1, rfl, rfl⟩))
  generalize (Sl.dVl) = Z at *
  generalize hnn : (9) = N at *
  obtain ⟨Z0, Z1, Z2, Z3⟩ := Z
  clear ht hw hr hv hR h1 h2 hbd hbs hbz he hl
  go_enter Tryd.func72, Tryd.ntmps72
  go_wp2_with (go_at_call 119; (with_reducible refine (HC.out).mono ?_); rintro e w1 ⟨hb, v0, v1, v2, v3, n, rfl, hz, hn9⟩; have HX := Lk.mk (blk_below HZ.out hb); have HB := Lk.mk (below_then H0.out H0.out.size hb); have HE := Lk.mk (And.intro hz hn9); obtain ⟨s0, s1, s2, s3, u0, u1, u2, u3⟩ := cells4z HX.out; clear hb hz hn9)
  obtain ⟨he1, he2⟩ := HE.out
  injection he1 with e1 e2
  injection e2 with e2 e3
  injection e3 with e3 e4
  subst e1 e2 e3 e4
  exact bodyPost_ret (results_ct Tryd.results72 _ _ (w.heap.size + 1 + 1) 56 #[.int .u8 v0, .int .u64 v1, .int .i64 v2, .int .i64 v3] (0, 0) _ rfl (set4 HX.out _ _ _ _) Tryd.underlying56 rfl (by kernel_rfl)) rfl ⟨belowF HB.out (by omega) _ _ _ _, by rw [he2]; rfl⟩
set_option maxRecDepth 100000 in
set_option maxHeartbeats 2000000 in
theorem mload_any (q : Option Addr) (ent : List (Int × (List Int × List Int))) (A : Option Addr) (c : Nat) (l : List Af) (d s : Int) (w : World) (ht : TblOr w (.pointer q) ent) (hw : ∀ e ∈ ent, Bm.Words e.2.1) (hr : kAf.C w A l.length l) (hv : AfIn l) (hR : RightP (tSize ent) (tPtr ent) l) (hs9 : s ≤ 9223372036854775807) :
    Calls Tryd.prog 73 #[.pointer q, .slice A l.length c, .int .i64 d, .int .i64 s] w fun e w' => Below w.heap.size w w' ∧ AskE (loadZ (tPtr ent) l d s) (refersN (tPtr ent) l d s) e := by
  have h1 : (w.alloc (.cells #[.int .i64 d] 3)).heap.size = w.heap.size + 1 := by simp
  have h2 : ((w.alloc (.cells #[.int .i64 d] 3)).alloc (.cells #[.int .i64 s] 3)).heap.size = w.heap.size + 1 + 1 := by simp
  have H0 := Lk.mk (below_alloc (below_alloc (below_alloc (Below.refl w.heap.size w) (.cells #[.int .i64 d] 3)) (.cells #[.int .i64 s] 3)) (.cells #[.int .u8 0, .int .u64 0, .int .i64 0, .int .i64 0] 56))
  have hbd := blk_alloc (blk_alloc (blk_new w (.cells #[.int .i64 d] 3)) (.cells #[.int .i64 s] 3)) (.cells #[.int .u8 0, .int .u64 0, .int .i64 0, .int .i64 0] 56)
  have hbs := blk_alloc (blk_new (w.alloc (.cells #[.int .i64 d] 3)) (.cells #[.int .i64 s] 3)) (.cells #[.int .u8 0, .int .u64 0, .int .i64 0, .int .i64 0] 56)
  rw [h1] at hbs
  have hbz := blk_new ((w.alloc (.cells #[.int .i64 d] 3)).alloc (.cells #[.int .i64 s] 3)) (.cells #[.int .u8 0, .int .u64 0, .int .i64 0, .int .i64 0] 56)
  rw [h2] at hbz
  have HZ := Lk.mk hbz
  have eg := enters_of Tryd.func121 (by kernel_rfl) rfl
  have HC := Lk.mk ((mask_any q ent 121 #[.pointer (some ⟨w.heap.size, 0, none⟩), .pointer (some ⟨w.heap.size + 1, 0, none⟩)] A c l (fun v => refersN (tPtr ent) l d s = 0 ∧ v = slotZ l (slotZ l d s).2.2.1 (slotZ l d s).2.2.2) (fun n => n = refersN (tPtr ent) l d s) _ eg (ht.below H0.out) hw (Kd.C_below hr H0.out) hv hR (fun W hb => mload1_any q ent A c l d s w.heap.size (w.heap.size + 1) W ((ht.below H0.out).below hb) hw (blk_below hbd hb) (blk_below hbs hb) (Kd.C_below (Kd.C_below hr H0.out) hb) hs9 hR)).mono fun e w1 h => (show Below _ _ w1 ∧ ∃ v0 v1 v2 v3 n : Int, e = .returned (.tuple #[.agg #[.int .u8 v0, .int .u64 v1, .int .i64 v2, .int .i64 v3], .int .i64 n]) ∧ (v0, v1, v2, v3) = (loadZ (tPtr ent) l d s) ∧ n = (refersN (tPtr ent) l d s) from by
    refine ⟨h.1, ?_⟩
    rcases h.2 with ⟨v0, v1, v2, v3, ⟨h1, h2⟩, h3⟩ | ⟨n, h0, h1, h3⟩
    · exact ⟨v0, v1, v2, v3, 0, h3, by unfold loadZ; rw [if_pos h1]; exact h2, h1.symm⟩
    · exact ⟨0, 0, 0, 0, n, h3, by unfold loadZ; rw [if_neg (h1 ▸ h0)]; rfl, h1⟩))
  generalize (loadZ (tPtr ent) l d s) = Z at *
  generalize hnn : (refersN (tPtr ent) l d s) = N at *
  obtain ⟨Z0, Z1, Z2, Z3⟩ := Z
  clear ht hw hr hv hR h1 h2 hbd hbs hbz eg
  go_enter Tryd.func73, Tryd.ntmps73
  go_wp2_with (go_at_call 119; (with_reducible refine (HC.out).mono ?_); rintro e w1 ⟨hb, v0, v1, v2, v3, n, rfl, hz, hn9⟩; have HX := Lk.mk (blk_below HZ.out hb); have HB := Lk.mk (below_then H0.out H0.out.size hb); have HE := Lk.mk (And.intro hz hn9); obtain ⟨s0, s1, s2, s3, u0, u1, u2, u3⟩ := cells4z HX.out; clear hb hz hn9)
  obtain ⟨he1, he2⟩ := HE.out
  injection he1 with e1 e2
  injection e2 with e2 e3
  injection e3 with e3 e4
  subst e1 e2 e3 e4
  exact bodyPost_ret (results_ct Tryd.results73 _ _ (w.heap.size + 1 + 1) 56 #[.int .u8 v0, .int .u64 v1, .int .i64 v2, .int .i64 v3] (0, 0) _ rfl (set4 HX.out _ _ _ _) Tryd.underlying56 rfl (by kernel_rfl)) rfl ⟨belowF HB.out (by omega) _ _ _ _, by rw [he2]; rfl⟩
set_option maxRecDepth 100000 in
set_option maxHeartbeats 2000000 in
theorem mload_bad (q : Option Addr) (ent : List (Int × (List Int × List Int))) (A : Option Addr) (c : Nat) (l : List Af) (d s : Int) (w : World) (ht : TblOr w (.pointer q) ent) (he : EntIn ent) (hw : ∀ e ∈ ent, Bm.Words e.2.1) (hr : kAf.C w A l.length l) (hl : AfLen l) (hv : AfIn l) (hR : ¬ RightP (tSize ent) (tPtr ent) l) :
    Calls Tryd.prog 73 #[.pointer q, .slice A l.length c, .int .i64 d, .int .i64 s] w fun e w' => Below w.heap.size w w' ∧ AskE (Sl.dVl) (9) e := by
  have h1 : (w.alloc (.cells #[.int .i64 d] 3)).heap.size = w.heap.size + 1 := by simp
  have h2 : ((w.alloc (.cells #[.int .i64 d] 3)).alloc (.cells #[.int .i64 s] 3)).heap.size = w.heap.size + 1 + 1 := by simp
  have H0 := Lk.mk (below_alloc (below_alloc (below_alloc (Below.refl w.heap.size w) (.cells #[.int .i64 d] 3)) (.cells #[.int .i64 s] 3)) (.cells #[.int .u8 0, .int .u64 0, .int .i64 0, .int .i64 0] 56))
  have hbd := blk_alloc (blk_alloc (blk_new w (.cells #[.int .i64 d] 3)) (.cells #[.int .i64 s] 3)) (.cells #[.int .u8 0, .int .u64 0, .int .i64 0, .int .i64 0] 56)
  have hbs := blk_alloc (blk_new (w.alloc (.cells #[.int .i64 d] 3)) (.cells #[.int .i64 s] 3)) (.cells #[.int .u8 0, .int .u64 0, .int .i64 0, .int .i64 0] 56)
  rw [h1] at hbs
  have hbz := blk_new ((w.alloc (.cells #[.int .i64 d] 3)).alloc (.cells #[.int .i64 s] 3)) (.cells #[.int .u8 0, .int .u64 0, .int .i64 0, .int .i64 0] 56)
  rw [h2] at hbz
  have HZ := Lk.mk hbz
  have HC := Lk.mk ((mask_bad q ent 121 #[.pointer (some ⟨w.heap.size, 0, none⟩), .pointer (some ⟨w.heap.size + 1, 0, none⟩)] A c l _ (ht.below H0.out) he hw (Kd.C_below hr H0.out) hv hR).mono fun e w1 h => (show Below _ _ w1 ∧ ∃ v0 v1 v2 v3 n : Int, e = .returned (.tuple #[.agg #[.int .u8 v0, .int .u64 v1, .int .i64 v2, .int .i64 v3], .int .i64 n]) ∧ (v0, v1, v2, v3) = Sl.dVl ∧ n = 9 from ⟨h.2, 0, 0, 0, 0, 9, h.1, rfl, rfl⟩))
  generalize (Sl.dVl) = Z at *
  generalize hnn : (9) = N at *
  obtain ⟨Z0, Z1, Z2, Z3⟩ := Z
  clear ht hw hr hv hR h1 h2 hbd hbs hbz he hl
  go_enter Tryd.func73, Tryd.ntmps73
  go_wp2_with (go_at_call 119; (with_reducible refine (HC.out).mono ?_); rintro e w1 ⟨hb, v0, v1, v2, v3, n, rfl, hz, hn9⟩; have HX := Lk.mk (blk_below HZ.out hb); have HB := Lk.mk (below_then H0.out H0.out.size hb); have HE := Lk.mk (And.intro hz hn9); obtain ⟨s0, s1, s2, s3, u0, u1, u2, u3⟩ := cells4z HX.out; clear hb hz hn9)
  obtain ⟨he1, he2⟩ := HE.out
  injection he1 with e1 e2
  injection e2 with e2 e3
  injection e3 with e3 e4
  subst e1 e2 e3 e4
  exact bodyPost_ret (results_ct Tryd.results73 _ _ (w.heap.size + 1 + 1) 56 #[.int .u8 v0, .int .u64 v1, .int .i64 v2, .int .i64 v3] (0, 0) _ rfl (set4 HX.out _ _ _ _) Tryd.underlying56 rfl (by kernel_rfl)) rfl ⟨belowF HB.out (by omega) _ _ _ _, by rw [he2]; rfl⟩
set_option maxRecDepth 100000 in
set_option maxHeartbeats 2000000 in
theorem mcall_bad (q : Option Addr) (ent : List (Int × (List Int × List Int))) (A : Option Addr) (c : Nat) (l : List Af) (f : Int) (w : World) (ht : TblOr w (.pointer q) ent) (he : EntIn ent) (hw : ∀ e ∈ ent, Bm.Words e.2.1) (hr : kAf.C w A l.length l) (hl : AfLen l) (hv : AfIn l) (hR : ¬ RightP (tSize ent) (tPtr ent) l) :
    Calls Tryd.prog 68 #[.pointer q, .slice A l.length c, .int .i64 f] w fun e w' => Below w.heap.size w w' ∧ ∃ u, kAf.R 113 w' w.heap.size (fun _ => True) u l ∧ e = .returned (.tuple #[u, .int .i64 9]) := by
  have H0 := Lk.mk (below_alloc (Below.refl w.heap.size w) (.cells #[.int .i64 f] 3))
  have HC := Lk.mk (mchange_bad q ent 111 #[.pointer (some ⟨w.heap.size, 0, none⟩)] A c l _ (ht.below H0.out) he hw (Kd.C_below hr H0.out) hl hv hR)
  clear ht he hw hr hl hv hR
  go_enter Tryd.func68, Tryd.ntmps68
  go_wp2_with (go_at_call 110; (with_reducible refine (HC.out).mono ?_); rintro e w1 ⟨hb, v, hR1, rfl⟩; have HB := Lk.mk (below_then H0.out H0.out.size hb); have HR1 := Lk.mk hR1; clear hb hR1)
  go_ret2
  exact ⟨HB.out, _, Kd.R_lower HR1.out H0.out.size, rfl⟩
set_option maxRecDepth 100000 in
set_option maxHeartbeats 2000000 in
theorem mreturn_bad (q : Option Addr) (ent : List (Int × (List Int × List Int))) (A : Option Addr) (c : Nat) (l : List Af)  (w : World) (ht : TblOr w (.pointer q) ent) (he : EntIn ent) (hw : ∀ e ∈ ent, Bm.Words e.2.1) (hr : kAf.C w A l.length l) (hl : AfLen l) (hv : AfIn l) (hR : ¬ RightP (tSize ent) (tPtr ent) l) :
    Calls Tryd.prog 69 #[.pointer q, .slice A l.length c] w fun e w' => Below w.heap.size w w' ∧ ∃ u, kAf.R 113 w' w.heap.size (fun _ => True) u l ∧ e = .returned (.tuple #[u, .int .i64 9]) := by
  have H0 := Lk.mk (Below.refl w.heap.size w)
  have HC := Lk.mk (mchange_bad q ent 113 #[] A c l _ (ht.below H0.out) he hw (Kd.C_below hr H0.out) hl hv hR)
  clear ht he hw hr hl hv hR
  go_enter Tryd.func69, Tryd.ntmps69
  go_wp2_with (go_at_call 110; (with_reducible refine (HC.out).mono ?_); rintro e w1 ⟨hb, v, hR1, rfl⟩; have HB := Lk.mk (below_then H0.out H0.out.size hb); have HR1 := Lk.mk hR1; clear hb hR1)
  go_ret2
  exact ⟨HB.out, _, Kd.R_lower HR1.out H0.out.size, rfl⟩
set_option maxRecDepth 100000 in
set_option maxHeartbeats 2000000 in
theorem mset_bad (q : Option Addr) (ent : List (Int × (List Int × List Int))) (A : Option Addr) (c : Nat) (l : List Af) (d s v0 v1 v2 v3 : Int) (w : World) (ht : TblOr w (.pointer q) ent) (he : EntIn ent) (hw : ∀ e ∈ ent, Bm.Words e.2.1) (hr : kAf.C w A l.length l) (hl : AfLen l) (hv : AfIn l) (hR : ¬ RightP (tSize ent) (tPtr ent) l) :
    Calls Tryd.prog 71 #[.pointer q, .slice A l.length c, .int .i64 d, .int .i64 s, .agg #[.int .u8 v0, .int .u64 v1, .int .i64 v2, .int .i64 v3]] w fun e w' => Below w.heap.size w w' ∧ ∃ u, kAf.R 113 w' w.heap.size (fun _ => True) u l ∧ e = .returned (.tuple #[u, .int .i64 9]) := by
  have H0 := Lk.mk (below_alloc (below_alloc (below_alloc (Below.refl w.heap.size w) (.cells #[.int .i64 d] 3)) (.cells #[.int .i64 s] 3)) (.cells #[.int .u8 v0, .int .u64 v1, .int .i64 v2, .int .i64 v3] 56))
  have HC := Lk.mk (mchange_bad q ent 116 #[.pointer (some ⟨w.heap.size, 0, none⟩), .pointer (some ⟨w.heap.size + 1, 0, none⟩), .pointer (some ⟨w.heap.size + 1 + 1, 0, none⟩)] A c l _ (ht.below H0.out) he hw (Kd.C_below hr H0.out) hl hv hR)
  clear ht he hw hr hl hv hR
  go_enter Tryd.func71, Tryd.ntmps71
  go_wp2_with (go_at_call 110; (with_reducible refine (HC.out).mono ?_); rintro e w1 ⟨hb, v, hR1, rfl⟩; have HB := Lk.mk (below_then H0.out H0.out.size hb); have HR1 := Lk.mk hR1; clear hb hR1)
  go_ret2
  exact ⟨HB.out, _, Kd.R_lower HR1.out H0.out.size, rfl⟩
set_option maxRecDepth 100000 in
set_option maxHeartbeats 2000000 in
theorem mwrite_bad (q : Option Addr) (ent : List (Int × (List Int × List Int))) (A : Option Addr) (c : Nat) (l : List Af) (d s x : Int) (w : World) (ht : TblOr w (.pointer q) ent) (he : EntIn ent) (hw : ∀ e ∈ ent, Bm.Words e.2.1) (hr : kAf.C w A l.length l) (hl : AfLen l) (hv : AfIn l) (hR : ¬ RightP (tSize ent) (tPtr ent) l) :
    Calls Tryd.prog 74 #[.pointer q, .slice A l.length c, .int .i64 d, .int .i64 s, .int .u64 x] w fun e w' => Below w.heap.size w w' ∧ ∃ u, kAf.R 113 w' w.heap.size (fun _ => True) u l ∧ e = .returned (.tuple #[u, .int .i64 9]) := by
  have H0 := Lk.mk (below_alloc (below_alloc (below_alloc (Below.refl w.heap.size w) (.cells #[.int .i64 d] 3)) (.cells #[.int .i64 s] 3)) (.cells #[.int .u64 x] 23))
  have HC := Lk.mk (mchange_bad q ent 123 #[.pointer (some ⟨w.heap.size, 0, none⟩), .pointer (some ⟨w.heap.size + 1, 0, none⟩), .pointer (some ⟨w.heap.size + 1 + 1, 0, none⟩)] A c l _ (ht.below H0.out) he hw (Kd.C_below hr H0.out) hl hv hR)
  clear ht he hw hr hl hv hR
  go_enter Tryd.func74, Tryd.ntmps74
  go_wp2_with (go_at_call 110; (with_reducible refine (HC.out).mono ?_); rintro e w1 ⟨hb, v, hR1, rfl⟩; have HB := Lk.mk (below_then H0.out H0.out.size hb); have HR1 := Lk.mk hR1; clear hb hR1)
  go_ret2
  exact ⟨HB.out, _, Kd.R_lower HR1.out H0.out.size, rfl⟩
set_option maxRecDepth 100000 in
set_option maxHeartbeats 2000000 in
theorem mcalc_bad (q : Option Addr) (ent : List (Int × (List Int × List Int))) (A : Option Addr) (c : Nat) (l : List Af) (op d : Int) (S : Option Addr) (m sc : Nat) (w : World) (ht : TblOr w (.pointer q) ent) (he : EntIn ent) (hw : ∀ e ∈ ent, Bm.Words e.2.1) (hr : kAf.C w A l.length l) (hl : AfLen l) (hv : AfIn l) (hR : ¬ RightP (tSize ent) (tPtr ent) l) :
    Calls Tryd.prog 75 #[.pointer q, .slice A l.length c, .int .u8 op, .int .i64 d, .slice S m sc] w fun e w' => Below w.heap.size w w' ∧ ∃ u, kAf.R 113 w' w.heap.size (fun _ => True) u l ∧ e = .returned (.tuple #[u, .int .i64 9]) := by
  have H0 := Lk.mk (below_alloc (below_alloc (below_alloc (Below.refl w.heap.size w) (.cells #[.int .u8 op] 5)) (.cells #[.int .i64 d] 3)) (.cells #[.slice S m sc] 34))
  have HC := Lk.mk (mchange_bad q ent 125 #[.pointer (some ⟨w.heap.size, 0, none⟩), .pointer (some ⟨w.heap.size + 1 + 1, 0, none⟩), .pointer (some ⟨w.heap.size + 1, 0, none⟩)] A c l _ (ht.below H0.out) he hw (Kd.C_below hr H0.out) hl hv hR)
  clear ht he hw hr hl hv hR
  go_enter Tryd.func75, Tryd.ntmps75
  go_wp2_with (go_at_call 110; (with_reducible refine (HC.out).mono ?_); rintro e w1 ⟨hb, v, hR1, rfl⟩; have HB := Lk.mk (below_then H0.out H0.out.size hb); have HR1 := Lk.mk hR1; clear hb hR1)
  go_ret2
  exact ⟨HB.out, _, Kd.R_lower HR1.out H0.out.size, rfl⟩
theorem add_block (a : Addr) (n : Nat) : (a.add n).block = a.block := by unfold Addr.add; split <;> rfl
def writeR (ptr : Int → Int → Bool) (l : List Af) (d s x : Int) : List Af := if writeN ptr l d s = 0 then writeL l d s x else l
noncomputable def calcR (ptr : Int → Int → Bool) (l : List Af) (op d : Int) (sl : List Int) : List Af := if calcN ptr l op d sl = 0 then calcL l op d sl else l
set_option maxRecDepth 100000 in
set_option maxHeartbeats 8000000 in
theorem mwrite_any (q : Option Addr) (ent : List (Int × (List Int × List Int))) (A : Option Addr) (c : Nat) (l : List Af) (d s x : Int) (w : World) (ht : TblOr w (.pointer q) ent) (hw : ∀ e ∈ ent, Bm.Words e.2.1) (hr : kAf.C w A l.length l) (hl : AfLen l) (hv : AfIn l) (hR : RightP (tSize ent) (tPtr ent) l) (hs9 : s ≤ 9223372036854775807) :
    Calls Tryd.prog 74 #[.pointer q, .slice A l.length c, .int .i64 d, .int .i64 s, .int .u64 x] w fun e w' => Below w.heap.size w w' ∧ ∃ u, kAf.R 113 w' w.heap.size (fun _ => True) u (writeR (tPtr ent) l d s x) ∧ e = .returned (.tuple #[u, .int .i64 (writeN (tPtr ent) l d s)]) := by
  have h1 : (w.alloc (.cells #[.int .i64 d] 3)).heap.size = w.heap.size + 1 := by simp
  have h2 : ((w.alloc (.cells #[.int .i64 d] 3)).alloc (.cells #[.int .i64 s] 3)).heap.size = w.heap.size + 1 + 1 := by simp
  have h3 : (((w.alloc (.cells #[.int .i64 d] 3)).alloc (.cells #[.int .i64 s] 3)).alloc (.cells #[.int .u64 x] 23)).heap.size = w.heap.size + 1 + 1 + 1 := by simp
  have H0 := Lk.mk (below_alloc (below_alloc (below_alloc (Below.refl w.heap.size w) (.cells #[.int .i64 d] 3)) (.cells #[.int .i64 s] 3)) (.cells #[.int .u64 x] 23))
  have hb0 := blk_alloc (blk_alloc (blk_new w (.cells #[.int .i64 d] 3)) (.cells #[.int .i64 s] 3)) (.cells #[.int .u64 x] 23)
  have hb1 := blk_alloc (blk_new (w.alloc (.cells #[.int .i64 d] 3)) (.cells #[.int .i64 s] 3)) (.cells #[.int .u64 x] 23)
  rw [h1] at hb1
  have hb2 := blk_new ((w.alloc (.cells #[.int .i64 d] 3)).alloc (.cells #[.int .i64 s] 3)) (.cells #[.int .u64 x] 23)
  rw [h2] at hb2
  have eg := enters_of Tryd.func123 (by kernel_rfl) rfl
  have HC := Lk.mk (mchange_tag q ent 123 #[.pointer (some ⟨w.heap.size, 0, none⟩), .pointer (some ⟨w.heap.size + 1, 0, none⟩), .pointer (some ⟨w.heap.size + 1 + 1, 0, none⟩)] A c l (fun l' => writeN (tPtr ent) l d s = 0 ∧ l' = writeL l d s x) (fun n => n = writeN (tPtr ent) l d s) _ eg (ht.below H0.out) hw (Kd.C_below hr H0.out) hl hv hR
    (fun W qr v ts hts hnd hb hqr hq hRR => by
      rw [h3] at hb hqr hRR ⊢
      have hC9 := tag_R hRR
      rw [List.map_fst_zip (by omega)] at hC9
      obtain ⟨A9, c9, rfl, hc9, hC⟩ := Kd.R_reads hC9
      have hqw := blk_lt hq
      have htW : TblOr W (.pointer q) ent := (ht.below H0.out).below (h3 ▸ hb)
      have hA : WrAt W W q A9 l.length c9 w.heap.size (w.heap.size + 1) (w.heap.size + 1 + 1) qr d s x := ⟨hq, blk_below hb0 (h3 ▸ hb), blk_below hb1 (h3 ▸ hb), blk_below hb2 (h3 ▸ hb), Below.refl _ _⟩
      by_cases hn : writeN (tPtr ent) l d s = 0
      · refine (mwrite1_ok q ent l ts (fun n => n = writeN (tPtr ent) l d s) d s x (w.heap.size + 1 + 1 + 1 + 3) w.heap.size (w.heap.size + 1) (w.heap.size + 1 + 1) qr A9 c9 W htW hw hts hnd hqr ⟨by omega, by omega, by omega⟩ hA hRR hR hl hs9 hn).mono fun e W' h => ?_
        obtain ⟨h1, h2⟩ := h
        refine ⟨h1, ?_⟩
        rcases h2 with ⟨h2, v', l', h3, h4⟩ | h2
        · exact .inl ⟨h2, v', l', ⟨hn, h3⟩, h4⟩
        · exact .inr h2
      · exact mwrite1_thrown q ent l _ d s x (w.heap.size + 1 + 1 + 1 + 3) w.heap.size (w.heap.size + 1) (w.heap.size + 1 + 1) qr A9 c9 W htW hw (by omega) hA hC hR hl hs9 hn))
  have HS := Lk.mk (show writeR (tPtr ent) l d s x = if writeN (tPtr ent) l d s = 0 then writeL l d s x else l from rfl)
  generalize writeN (tPtr ent) l d s = n0 at *
  generalize writeR (tPtr ent) l d s x = r0 at *
  clear ht hw hr hl hv hR h1 h2 h3 hb0 hb1 hb2 hs9
  go_enter Tryd.func74, Tryd.ntmps74
  go_wp2_with (go_at_call 110; (with_reducible refine (HC.out).mono ?_); rintro e w1 ⟨hb, v, l', n9, rfl, hR1, hor⟩; obtain ⟨hn9, hl9⟩ : n9 = n0 ∧ l' = r0 := (by rcases hor with ⟨h1, h2, h3⟩ | ⟨h1, h2, h3⟩; exact ⟨h1.trans h2.symm, by rw [HS.out, if_pos h2]; exact h3⟩; exact ⟨h2, by rw [HS.out, if_neg (h2 ▸ h1)]; exact h3⟩); have HB := Lk.mk (below_then H0.out H0.out.size hb); have HRx := Lk.mk (hl9 ▸ hR1); have HN9 := Lk.mk hn9; clear hb hR1 hor hl9 hn9)
  go_ret2
  obtain rfl := HN9.out
  exact ⟨HB.out, _, Kd.R_lower HRx.out H0.out.size, rfl⟩
set_option maxRecDepth 100000 in
set_option maxHeartbeats 8000000 in
theorem mcalc_any (q : Option Addr) (ent : List (Int × (List Int × List Int))) (A : Option Addr) (c : Nat) (l : List Af) (op d : Int) (S : Option Addr) (sl : List Int) (sc : Nat) (w : World) (ht : TblOr w (.pointer q) ent) (hw : ∀ e ∈ ent, Bm.Words e.2.1) (hr : kAf.C w A l.length l) (hl : AfLen l) (hv : AfIn l) (hR : RightP (tSize ent) (tPtr ent) l) (hsl : ReadsInt w .i64 S sl.length sl) (hs9 : ∀ j : Nat, sl.getD j 0 ≤ 9223372036854775807) :
    Calls Tryd.prog 75 #[.pointer q, .slice A l.length c, .int .u8 op, .int .i64 d, .slice S sl.length sc] w fun e w' => Below w.heap.size w w' ∧ ∃ u, kAf.R 113 w' w.heap.size (fun _ => True) u (calcR (tPtr ent) l op d sl) ∧ e = .returned (.tuple #[u, .int .i64 (calcN (tPtr ent) l op d sl)]) := by
  have h1 : (w.alloc (.cells #[.int .u8 op] 5)).heap.size = w.heap.size + 1 := by simp
  have h2 : ((w.alloc (.cells #[.int .u8 op] 5)).alloc (.cells #[.int .i64 d] 3)).heap.size = w.heap.size + 1 + 1 := by simp
  have h3 : (((w.alloc (.cells #[.int .u8 op] 5)).alloc (.cells #[.int .i64 d] 3)).alloc (.cells #[.slice S sl.length sc] 34)).heap.size = w.heap.size + 1 + 1 + 1 := by simp
  have H0 := Lk.mk (below_alloc (below_alloc (below_alloc (Below.refl w.heap.size w) (.cells #[.int .u8 op] 5)) (.cells #[.int .i64 d] 3)) (.cells #[.slice S sl.length sc] 34))
  have hb0 := blk_alloc (blk_alloc (blk_new w (.cells #[.int .u8 op] 5)) (.cells #[.int .i64 d] 3)) (.cells #[.slice S sl.length sc] 34)
  have hb1 := blk_alloc (blk_new (w.alloc (.cells #[.int .u8 op] 5)) (.cells #[.int .i64 d] 3)) (.cells #[.slice S sl.length sc] 34)
  rw [h1] at hb1
  have hb2 := blk_new ((w.alloc (.cells #[.int .u8 op] 5)).alloc (.cells #[.int .i64 d] 3)) (.cells #[.slice S sl.length sc] 34)
  rw [h2] at hb2
  have eg := enters_of Tryd.func125 (by kernel_rfl) rfl
  have HC := Lk.mk (mchange_tag q ent 125 #[.pointer (some ⟨w.heap.size, 0, none⟩), .pointer (some ⟨w.heap.size + 1 + 1, 0, none⟩), .pointer (some ⟨w.heap.size + 1, 0, none⟩)] A c l (fun l' => calcN (tPtr ent) l op d sl = 0 ∧ l' = calcL l op d sl) (fun n => n = calcN (tPtr ent) l op d sl) _ eg (ht.below H0.out) hw (Kd.C_below hr H0.out) hl hv hR
    (fun W qr v ts hts hnd hb hqr hq hRR => by
      rw [h3] at hb hqr hRR ⊢
      have hC9 := tag_R hRR
      rw [List.map_fst_zip (by omega)] at hC9
      obtain ⟨A9, c9, rfl, hc9, hC⟩ := Kd.R_reads hC9
      have hqw := blk_lt hq
      have htW : TblOr W (.pointer q) ent := (ht.below H0.out).below (h3 ▸ hb)
      have hA : CaAt W W q A9 l.length c9 w.heap.size (w.heap.size + 1 + 1) (w.heap.size + 1) qr op d S sl.length sc sl := ⟨hq, blk_below hb0 (h3 ▸ hb), blk_below hb2 (h3 ▸ hb), blk_below hb1 (h3 ▸ hb), (hsl.below H0.out).below (h3 ▸ hb), Below.refl _ _⟩
      by_cases hc : sl.length = 3 ∧ 1 ≤ op ∧ op ≤ 10
      · have hA3 := hA
        rw [hc.1] at hA3
        exact mcalc1_any q ent l ts op d sl (w.heap.size + 1 + 1 + 1 + 3) w.heap.size (w.heap.size + 1 + 1) (w.heap.size + 1) qr A9 c9 S sc W htW hw hts hnd hqr ⟨by omega, by omega, by omega⟩ hA3 hRR hv hl hs9 hc.2 hc.1 (fun ad had => by
          obtain ⟨ad', e9, c9'⟩ := hsl.at_ (0 : Int) (by omega) (by have := hc.1; omega)
          rw [had] at e9
          obtain rfl := Option.some.inj e9
          have := World.block_lt_of_cell? w _ c9'
          rw [show (ad.add ((0 : Int).toNat)).block = ad.block from add_block _ _] at this
          omega)
      · have hn : calcN (tPtr ent) l op d sl = 1 := by unfold calcN; rw [if_neg hc]
        rw [hn]
        exact mcalc1_no q l _ op d sl (w.heap.size + 1 + 1 + 1 + 3) w.heap.size (w.heap.size + 1 + 1) (w.heap.size + 1) qr A9 c9 S sc W (by omega) hA hc))
  have HS := Lk.mk (show calcR (tPtr ent) l op d sl = if calcN (tPtr ent) l op d sl = 0 then calcL l op d sl else l from rfl)
  generalize calcN (tPtr ent) l op d sl = n0 at *
  generalize calcR (tPtr ent) l op d sl = r0 at *
  clear ht hw hr hl hv hR h1 h2 h3 hb0 hb1 hb2 hs9 hsl
  go_enter Tryd.func75, Tryd.ntmps75
  go_wp2_with (go_at_call 110; (with_reducible refine (HC.out).mono ?_); rintro e w1 ⟨hb, v, l', n9, rfl, hR1, hor⟩; obtain ⟨hn9, hl9⟩ : n9 = n0 ∧ l' = r0 := (by rcases hor with ⟨h1, h2, h3⟩ | ⟨h1, h2, h3⟩; exact ⟨h1.trans h2.symm, by rw [HS.out, if_pos h2]; exact h3⟩; exact ⟨h2, by rw [HS.out, if_neg (h2 ▸ h1)]; exact h3⟩); have HB := Lk.mk (below_then H0.out H0.out.size hb); have HRx := Lk.mk (hl9 ▸ hR1); have HN9 := Lk.mk hn9; clear hb hR1 hor hl9 hn9)
  go_ret2
  obtain rfl := HN9.out
  exact ⟨HB.out, _, Kd.R_lower HRx.out H0.out.size, rfl⟩
end Go.Proofs.YtcepafllgjnngaaDoor
