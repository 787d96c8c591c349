/-
  The walk of law 19's Does; conditions: the row and the table read as told. Printed by gen_does.py.
-/
import Derived.Test.YtcepafllgjnngaaDoorTh
namespace Go.Proofs.YtcepafllgjnngaaDoor
open Go.RowKit Go.Proofs.YtcepafllgjnngaaDoorW.PrintWords

theorem results_tct {P : Program} {fn : Func} {p u v : Tmp} {ty : TypeId} (h : fn.results = #[.tmp u, .cell p ty, .tmp v]) (tmps : Array Value) (w : World) (g : Nat) (t : TypeId) (cs : Array Value) (fr : Nat × Nat) (d : TypeDesc)
    (hp : tmps.getD p undef = .pointer (some ⟨g, 0, none⟩)) (hg : w.heap[g]? = some (.cells cs t fr)) (hu : P.underlying ty = some d) (hd : (match d with | .struct _ | .array _ _ => true | _ => false) = true) (hi : (P.info? ty).map (·.size) = some cs.size) :
    (results fn tmps).run P w = .ok (.tuple #[tmps.getD u undef, .agg cs, tmps.getD v undef]) w := by
  have hp' : tmps[p]?.getD undef = .pointer (some ⟨g, 0, none⟩) := by simpa using hp
  simp [results, h, hp', asAddr, run_loadVar_row w g t ty cs fr d hg hu hd hi]
/-- what Does answers -/
def DoesL (L : List Af) (z : Sl.Vl) (N : Int) (w : World) (e : Ending) (w' : World) : Prop :=
  Below w.heap.size w w' ∧ ∃ A c, e = .returned (.tuple #[.slice A L.length c, .agg #[.int .u8 z.1, .int .u64 z.2.1, .int .i64 z.2.2.1, .int .i64 z.2.2.2], .int .i64 N]) ∧ kAf.C w' A L.length L
theorem R_set4 {w : World} {base g n c : Nat} {A : Option Addr} {l : List Af} (h : kAf.R 113 w base (fun _ => True) (.slice A n c) l) (hg : g < base) (a b d e : Value) : kAf.C ((((w.setCell ⟨g, 0, none⟩ a).setCell ⟨g, 1, none⟩ b).setCell ⟨g, 2, none⟩ d).setCell ⟨g, 3, none⟩ e) A l.length l := by
  have h0 : kAf.R 113 w base (fun k => k ≠ g) (.slice A n c) l := Kd.R_mono (Kd.R_bound h) (fun k hk => by have := hk.2.1; omega)
  have h1 := Kd.R_far (Kd.R_far (Kd.R_far (Kd.R_far (p := ⟨g, 0, none⟩) h0 (fun k hk => hk) a) (p := ⟨g, 1, none⟩) (fun k hk => hk) b) (p := ⟨g, 2, none⟩) (fun k hk => hk) d) (p := ⟨g, 3, none⟩) (fun k hk => hk) e
  obtain ⟨A', c', he, _, hr⟩ := Kd.R_reads h1
  injection he with e1 _ _
  rw [e1]; exact hr
set_option maxRecDepth 100000 in
set_option maxHeartbeats 2000000 in
theorem does_a0 (q : Option Addr) (ent : List (Int × (List Int × List Int))) (A : Option Addr) (c : Nat) (l : List Af) (f d s v0 v1 v2 v3 x op : Int) (S : Option Addr) (sl : List Int) (sc : Nat) (w : World) (ht : TblOr w (.pointer q) ent) (he : EntIn ent) (hw : ∀ e ∈ ent, Bm.Words e.2.1) (hr : kAf.C w A l.length l) (hl : AfLen l) (hl2 : l.length < 1048576) (hv : AfIn l) (hR : RightP (tSize ent) (tPtr ent) l) (hvi : VlIn (v0, v1, v2, v3)) (hs9 : s ≤ 9223372036854775807) (hsz : tSize ent f ≤ 1048576) (hsl : ReadsInt w .i64 S sl.length sl) (hsn : ∀ j : Nat, sl.getD j 0 ≤ 9223372036854775807) :
    Calls Tryd.prog 27 #[.pointer q, .slice A l.length c, .agg #[.int .i64 0, .int .i64 f, .int .i64 d, .int .i64 s, .int .u8 v0, .int .u64 v1, .int .i64 v2, .int .i64 v3, .int .u64 x, .int .u8 op, .slice S sl.length sc]] w fun e w' => DoesL ((if 0 ≤ tSize ent f then l ++ [(f, newsL ent f)] else l)) (Sl.dVl) ((if 0 ≤ tSize ent f then 0 else 1)) w e w' := by
  have h1 : (w.alloc (.cells #[.int .i64 0, .int .i64 f, .int .i64 d, .int .i64 s, .int .u8 v0, .int .u64 v1, .int .i64 v2, .int .i64 v3, .int .u64 x, .int .u8 op, .slice S sl.length sc] 58)).heap.size = w.heap.size + 1 := by simp
  have h2 : ((w.alloc (.cells #[.int .i64 0, .int .i64 f, .int .i64 d, .int .i64 s, .int .u8 v0, .int .u64 v1, .int .i64 v2, .int .i64 v3, .int .u64 x, .int .u8 op, .slice S sl.length sc] 58)).alloc (.cells #[.int .u8 0, .int .u64 0, .int .i64 0, .int .i64 0] 56)).heap.size = w.heap.size + 1 + 1 := by simp
  have h3 : (((w.alloc (.cells #[.int .i64 0, .int .i64 f, .int .i64 d, .int .i64 s, .int .u8 v0, .int .u64 v1, .int .i64 v2, .int .i64 v3, .int .u64 x, .int .u8 op, .slice S sl.length sc] 58)).alloc (.cells #[.int .u8 0, .int .u64 0, .int .i64 0, .int .i64 0] 56)).alloc (.cells #[.int .u8 0, .int .u64 0, .int .i64 0, .int .i64 0] 56)).heap.size = w.heap.size + 1 + 1 + 1 := by simp
  have H0 := Lk.mk (below_alloc (below_alloc (below_alloc (Below.refl w.heap.size w) (.cells #[.int .i64 0, .int .i64 f, .int .i64 d, .int .i64 s, .int .u8 v0, .int .u64 v1, .int .i64 v2, .int .i64 v3, .int .u64 x, .int .u8 op, .slice S sl.length sc] 58)) (.cells #[.int .u8 0, .int .u64 0, .int .i64 0, .int .i64 0] 56)) (.cells #[.int .u8 0, .int .u64 0, .int .i64 0, .int .i64 0] 56))
  have HA := Lk.mk (blk_alloc (blk_alloc (blk_new w (.cells #[.int .i64 0, .int .i64 f, .int .i64 d, .int .i64 s, .int .u8 v0, .int .u64 v1, .int .i64 v2, .int .i64 v3, .int .u64 x, .int .u8 op, .slice S sl.length sc] 58)) (.cells #[.int .u8 0, .int .u64 0, .int .i64 0, .int .i64 0] 56)) (.cells #[.int .u8 0, .int .u64 0, .int .i64 0, .int .i64 0] 56))
  have hz := blk_alloc (blk_new (w.alloc (.cells #[.int .i64 0, .int .i64 f, .int .i64 d, .int .i64 s, .int .u8 v0, .int .u64 v1, .int .i64 v2, .int .i64 v3, .int .u64 x, .int .u8 op, .slice S sl.length sc] 58)) (.cells #[.int .u8 0, .int .u64 0, .int .i64 0, .int .i64 0] 56)) (.cells #[.int .u8 0, .int .u64 0, .int .i64 0, .int .i64 0] 56)
  rw [h1] at hz
  have hb := blk_new ((w.alloc (.cells #[.int .i64 0, .int .i64 f, .int .i64 d, .int .i64 s, .int .u8 v0, .int .u64 v1, .int .i64 v2, .int .i64 v3, .int .u64 x, .int .u8 op, .slice S sl.length sc] 58)).alloc (.cells #[.int .u8 0, .int .u64 0, .int .i64 0, .int .i64 0] 56)) (.cells #[.int .u8 0, .int .u64 0, .int .i64 0, .int .i64 0] 56)
  rw [h2] at hb
  have HZ := Lk.mk hz
  have HV := Lk.mk hb
  have HC := Lk.mk (mcall_any q ent f A c l _ (ht.below H0.out) hw (Kd.C_below hr H0.out) hl hl2 hv hR hsz)
  have HS3 := Lk.mk h3
  have HCL := Lk.mk (fun W (hb : Below w.heap.size w W) => Kd.C_below hr hb)
  have a0 := blk_cell HA.out 0
  have a1 := blk_cell HA.out 1
  simp only [List.getElem?_toArray, List.getElem?_cons_zero, List.getElem?_cons_succ] at a0 a1
  generalize hLL : ((if 0 ≤ tSize ent f then l ++ [(f, newsL ent f)] else l)) = L at *
  generalize (((if 0 ≤ tSize ent f then 0 else 1)) : Int) = N at *
  clear ht he hw hr hl hl2 hv hR hvi hs9 hsz hsl hsn h1 h2 h3 hz hb
  go_enter Tryd.func27, Tryd.ntmps27
  go_wp2_with (go_at_call 68; (with_reducible refine (HC.out).mono ?_); rintro e w1 ⟨hb, u, hR, rfl⟩; obtain ⟨A', c', rfl, _, _⟩ := Kd.R_reads hR; have HRu := Lk.mk hR; have HBu := Lk.mk (below_then H0.out H0.out.size hb); have HZu := Lk.mk (blk_below HZ.out hb); have HZd := Lk.mk (blk_drew (blk_below HZ.out hb)); have HVd := Lk.mk (blk_drew (blk_below HV.out hb)); clear hb hR)
  obtain ⟨s0, s1, s2, s3, u0, u1, u2, u3⟩ := cells4z HZd.out
  obtain ⟨r0, r1, r2, r3, x0, x1, x2, x3⟩ := cells4z HZu.out
  obtain ⟨t0, t1, t2, t3⟩ := cells4v HVd.out
  go_region
  go_wp2
  have h3 := HS3.out
  exact bodyPost_ret (results_tct Tryd.results27 _ _ (w.heap.size + 1) 56 #[.int .u8 0, .int .u64 0, .int .i64 0, .int .i64 0] (0, 0) _ rfl (blk_drew (set4 HZu.out (.int .u8 0) (.int .u64 0) (.int .i64 0) (.int .i64 0))) Tryd.underlying56 rfl (by kernel_rfl)) rfl ⟨below_drew (belowF HBu.out (by omega) (.int .u8 0) (.int .u64 0) (.int .i64 0) (.int .i64 0)), A', c', rfl, Kd.C_below (R_set4 HRu.out (by omega) (.int .u8 0) (.int .u64 0) (.int .i64 0) (.int .i64 0)) (below_drew (Below.refl _ _))⟩
set_option maxRecDepth 100000 in
set_option maxHeartbeats 2000000 in
theorem does_a1 (q : Option Addr) (ent : List (Int × (List Int × List Int))) (A : Option Addr) (c : Nat) (l : List Af) (f d s v0 v1 v2 v3 x op : Int) (S : Option Addr) (sl : List Int) (sc : Nat) (w : World) (ht : TblOr w (.pointer q) ent) (he : EntIn ent) (hw : ∀ e ∈ ent, Bm.Words e.2.1) (hr : kAf.C w A l.length l) (hl : AfLen l) (hl2 : l.length < 1048576) (hv : AfIn l) (hR : RightP (tSize ent) (tPtr ent) l) (hvi : VlIn (v0, v1, v2, v3)) (hs9 : s ≤ 9223372036854775807) (hsz : tSize ent f ≤ 1048576) (hsl : ReadsInt w .i64 S sl.length sl) (hsn : ∀ j : Nat, sl.getD j 0 ≤ 9223372036854775807) :
    Calls Tryd.prog 27 #[.pointer q, .slice A l.length c, .agg #[.int .i64 1, .int .i64 f, .int .i64 d, .int .i64 s, .int .u8 v0, .int .u64 v1, .int .i64 v2, .int .i64 v3, .int .u64 x, .int .u8 op, .slice S sl.length sc]] w fun e w' => DoesL ((if 1 < l.length then l.take (l.length - 1) else l)) (Sl.dVl) ((if 1 < l.length then 0 else 8)) w e w' := by
  have h1 : (w.alloc (.cells #[.int .i64 1, .int .i64 f, .int .i64 d, .int .i64 s, .int .u8 v0, .int .u64 v1, .int .i64 v2, .int .i64 v3, .int .u64 x, .int .u8 op, .slice S sl.length sc] 58)).heap.size = w.heap.size + 1 := by simp
  have h2 : ((w.alloc (.cells #[.int .i64 1, .int .i64 f, .int .i64 d, .int .i64 s, .int .u8 v0, .int .u64 v1, .int .i64 v2, .int .i64 v3, .int .u64 x, .int .u8 op, .slice S sl.length sc] 58)).alloc (.cells #[.int .u8 0, .int .u64 0, .int .i64 0, .int .i64 0] 56)).heap.size = w.heap.size + 1 + 1 := by simp
  have h3 : (((w.alloc (.cells #[.int .i64 1, .int .i64 f, .int .i64 d, .int .i64 s, .int .u8 v0, .int .u64 v1, .int .i64 v2, .int .i64 v3, .int .u64 x, .int .u8 op, .slice S sl.length sc] 58)).alloc (.cells #[.int .u8 0, .int .u64 0, .int .i64 0, .int .i64 0] 56)).alloc (.cells #[.int .u8 0, .int .u64 0, .int .i64 0, .int .i64 0] 56)).heap.size = w.heap.size + 1 + 1 + 1 := by simp
  have H0 := Lk.mk (below_alloc (below_alloc (below_alloc (Below.refl w.heap.size w) (.cells #[.int .i64 1, .int .i64 f, .int .i64 d, .int .i64 s, .int .u8 v0, .int .u64 v1, .int .i64 v2, .int .i64 v3, .int .u64 x, .int .u8 op, .slice S sl.length sc] 58)) (.cells #[.int .u8 0, .int .u64 0, .int .i64 0, .int .i64 0] 56)) (.cells #[.int .u8 0, .int .u64 0, .int .i64 0, .int .i64 0] 56))
  have HA := Lk.mk (blk_alloc (blk_alloc (blk_new w (.cells #[.int .i64 1, .int .i64 f, .int .i64 d, .int .i64 s, .int .u8 v0, .int .u64 v1, .int .i64 v2, .int .i64 v3, .int .u64 x, .int .u8 op, .slice S sl.length sc] 58)) (.cells #[.int .u8 0, .int .u64 0, .int .i64 0, .int .i64 0] 56)) (.cells #[.int .u8 0, .int .u64 0, .int .i64 0, .int .i64 0] 56))
  have hz := blk_alloc (blk_new (w.alloc (.cells #[.int .i64 1, .int .i64 f, .int .i64 d, .int .i64 s, .int .u8 v0, .int .u64 v1, .int .i64 v2, .int .i64 v3, .int .u64 x, .int .u8 op, .slice S sl.length sc] 58)) (.cells #[.int .u8 0, .int .u64 0, .int .i64 0, .int .i64 0] 56)) (.cells #[.int .u8 0, .int .u64 0, .int .i64 0, .int .i64 0] 56)
  rw [h1] at hz
  have hb := blk_new ((w.alloc (.cells #[.int .i64 1, .int .i64 f, .int .i64 d, .int .i64 s, .int .u8 v0, .int .u64 v1, .int .i64 v2, .int .i64 v3, .int .u64 x, .int .u8 op, .slice S sl.length sc] 58)).alloc (.cells #[.int .u8 0, .int .u64 0, .int .i64 0, .int .i64 0] 56)) (.cells #[.int .u8 0, .int .u64 0, .int .i64 0, .int .i64 0] 56)
  rw [h2] at hb
  have HZ := Lk.mk hz
  have HV := Lk.mk hb
  have HC := Lk.mk (mreturn_any q ent A c l _ (ht.below H0.out) hw (Kd.C_below hr H0.out) hl hl2 hv hR)
  have HS3 := Lk.mk h3
  have HCL := Lk.mk (fun W (hb : Below w.heap.size w W) => Kd.C_below hr hb)
  have a0 := blk_cell HA.out 0
  simp only [List.getElem?_toArray, List.getElem?_cons_zero, List.getElem?_cons_succ] at a0
  generalize hLL : ((if 1 < l.length then l.take (l.length - 1) else l)) = L at *
  generalize (((if 1 < l.length then 0 else 8)) : Int) = N at *
  clear ht he hw hr hl hl2 hv hR hvi hs9 hsz hsl hsn h1 h2 h3 hz hb
  go_enter Tryd.func27, Tryd.ntmps27
  go_wp2_with (go_at_call 69; (with_reducible refine (HC.out).mono ?_); rintro e w1 ⟨hb, u, hR, rfl⟩; obtain ⟨A', c', rfl, _, _⟩ := Kd.R_reads hR; have HRu := Lk.mk hR; have HBu := Lk.mk (below_then H0.out H0.out.size hb); have HZu := Lk.mk (blk_below HZ.out hb); have HZd := Lk.mk (blk_drew (blk_below HZ.out hb)); have HVd := Lk.mk (blk_drew (blk_below HV.out hb)); clear hb hR)
  obtain ⟨s0, s1, s2, s3, u0, u1, u2, u3⟩ := cells4z HZd.out
  obtain ⟨r0, r1, r2, r3, x0, x1, x2, x3⟩ := cells4z HZu.out
  obtain ⟨t0, t1, t2, t3⟩ := cells4v HVd.out
  go_region
  go_wp2
  have h3 := HS3.out
  exact bodyPost_ret (results_tct Tryd.results27 _ _ (w.heap.size + 1) 56 #[.int .u8 0, .int .u64 0, .int .i64 0, .int .i64 0] (0, 0) _ rfl (blk_drew (set4 HZu.out (.int .u8 0) (.int .u64 0) (.int .i64 0) (.int .i64 0))) Tryd.underlying56 rfl (by kernel_rfl)) rfl ⟨below_drew (belowF HBu.out (by omega) (.int .u8 0) (.int .u64 0) (.int .i64 0) (.int .i64 0)), A', c', rfl, Kd.C_below (R_set4 HRu.out (by omega) (.int .u8 0) (.int .u64 0) (.int .i64 0) (.int .i64 0)) (below_drew (Below.refl _ _))⟩
set_option maxRecDepth 100000 in
set_option maxHeartbeats 2000000 in
theorem does_a2 (q : Option Addr) (ent : List (Int × (List Int × List Int))) (A : Option Addr) (c : Nat) (l : List Af) (f d s v0 v1 v2 v3 x op : Int) (S : Option Addr) (sl : List Int) (sc : Nat) (w : World) (ht : TblOr w (.pointer q) ent) (he : EntIn ent) (hw : ∀ e ∈ ent, Bm.Words e.2.1) (hr : kAf.C w A l.length l) (hl : AfLen l) (hl2 : l.length < 1048576) (hv : AfIn l) (hR : RightP (tSize ent) (tPtr ent) l) (hvi : VlIn (v0, v1, v2, v3)) (hs9 : s ≤ 9223372036854775807) (hsz : tSize ent f ≤ 1048576) (hsl : ReadsInt w .i64 S sl.length sl) (hsn : ∀ j : Nat, sl.getD j 0 ≤ 9223372036854775807) :
    Calls Tryd.prog 27 #[.pointer q, .slice A l.length c, .agg #[.int .i64 2, .int .i64 f, .int .i64 d, .int .i64 s, .int .u8 v0, .int .u64 v1, .int .i64 v2, .int .i64 v3, .int .u64 x, .int .u8 op, .slice S sl.length sc]] w fun e w' => DoesL ((setR (tPtr ent) l d s (v0, v1, v2, v3))) (Sl.dVl) ((setN (tPtr ent) l d s (v0, v1, v2, v3))) w e w' := by
  have h1 : (w.alloc (.cells #[.int .i64 2, .int .i64 f, .int .i64 d, .int .i64 s, .int .u8 v0, .int .u64 v1, .int .i64 v2, .int .i64 v3, .int .u64 x, .int .u8 op, .slice S sl.length sc] 58)).heap.size = w.heap.size + 1 := by simp
  have h2 : ((w.alloc (.cells #[.int .i64 2, .int .i64 f, .int .i64 d, .int .i64 s, .int .u8 v0, .int .u64 v1, .int .i64 v2, .int .i64 v3, .int .u64 x, .int .u8 op, .slice S sl.length sc] 58)).alloc (.cells #[.int .u8 0, .int .u64 0, .int .i64 0, .int .i64 0] 56)).heap.size = w.heap.size + 1 + 1 := by simp
  have h3 : (((w.alloc (.cells #[.int .i64 2, .int .i64 f, .int .i64 d, .int .i64 s, .int .u8 v0, .int .u64 v1, .int .i64 v2, .int .i64 v3, .int .u64 x, .int .u8 op, .slice S sl.length sc] 58)).alloc (.cells #[.int .u8 0, .int .u64 0, .int .i64 0, .int .i64 0] 56)).alloc (.cells #[.int .u8 0, .int .u64 0, .int .i64 0, .int .i64 0] 56)).heap.size = w.heap.size + 1 + 1 + 1 := by simp
  have H0 := Lk.mk (below_alloc (below_alloc (below_alloc (Below.refl w.heap.size w) (.cells #[.int .i64 2, .int .i64 f, .int .i64 d, .int .i64 s, .int .u8 v0, .int .u64 v1, .int .i64 v2, .int .i64 v3, .int .u64 x, .int .u8 op, .slice S sl.length sc] 58)) (.cells #[.int .u8 0, .int .u64 0, .int .i64 0, .int .i64 0] 56)) (.cells #[.int .u8 0, .int .u64 0, .int .i64 0, .int .i64 0] 56))
  have HA := Lk.mk (blk_alloc (blk_alloc (blk_new w (.cells #[.int .i64 2, .int .i64 f, .int .i64 d, .int .i64 s, .int .u8 v0, .int .u64 v1, .int .i64 v2, .int .i64 v3, .int .u64 x, .int .u8 op, .slice S sl.length sc] 58)) (.cells #[.int .u8 0, .int .u64 0, .int .i64 0, .int .i64 0] 56)) (.cells #[.int .u8 0, .int .u64 0, .int .i64 0, .int .i64 0] 56))
  have hz := blk_alloc (blk_new (w.alloc (.cells #[.int .i64 2, .int .i64 f, .int .i64 d, .int .i64 s, .int .u8 v0, .int .u64 v1, .int .i64 v2, .int .i64 v3, .int .u64 x, .int .u8 op, .slice S sl.length sc] 58)) (.cells #[.int .u8 0, .int .u64 0, .int .i64 0, .int .i64 0] 56)) (.cells #[.int .u8 0, .int .u64 0, .int .i64 0, .int .i64 0] 56)
  rw [h1] at hz
  have hb := blk_new ((w.alloc (.cells #[.int .i64 2, .int .i64 f, .int .i64 d, .int .i64 s, .int .u8 v0, .int .u64 v1, .int .i64 v2, .int .i64 v3, .int .u64 x, .int .u8 op, .slice S sl.length sc] 58)).alloc (.cells #[.int .u8 0, .int .u64 0, .int .i64 0, .int .i64 0] 56)) (.cells #[.int .u8 0, .int .u64 0, .int .i64 0, .int .i64 0] 56)
  rw [h2] at hb
  have HZ := Lk.mk hz
  have HV := Lk.mk hb
  have HC := Lk.mk (mset_any q ent A c l d s v0 v1 v2 v3 _ (ht.below H0.out) hw (Kd.C_below hr H0.out) hl hv hR hvi)
  have HS3 := Lk.mk h3
  have HCL := Lk.mk (fun W (hb : Below w.heap.size w W) => Kd.C_below hr hb)
  have a0 := blk_cell HA.out 0
  have a2 := blk_cell HA.out 2
  have a3 := blk_cell HA.out 3
  have a4 := blk_cell HA.out 4
  have a5 := blk_cell HA.out 5
  have a6 := blk_cell HA.out 6
  have a7 := blk_cell HA.out 7
  simp only [List.getElem?_toArray, List.getElem?_cons_zero, List.getElem?_cons_succ] at a0 a2 a3 a4 a5 a6 a7
  generalize hLL : ((setR (tPtr ent) l d s (v0, v1, v2, v3))) = L at *
  generalize (((setN (tPtr ent) l d s (v0, v1, v2, v3))) : Int) = N at *
  clear ht he hw hr hl hl2 hv hR hvi hs9 hsz hsl hsn h1 h2 h3 hz hb
  go_enter Tryd.func27, Tryd.ntmps27
  go_wp2_with (go_at_call 71; (with_reducible refine (HC.out).mono ?_); rintro e w1 ⟨hb, u, hR, rfl⟩; obtain ⟨A', c', rfl, _, _⟩ := Kd.R_reads hR; have HRu := Lk.mk hR; have HBu := Lk.mk (below_then H0.out H0.out.size hb); have HZu := Lk.mk (blk_below HZ.out hb); have HZd := Lk.mk (blk_drew (blk_below HZ.out hb)); have HVd := Lk.mk (blk_drew (blk_below HV.out hb)); clear hb hR)
  obtain ⟨s0, s1, s2, s3, u0, u1, u2, u3⟩ := cells4z HZd.out
  obtain ⟨r0, r1, r2, r3, x0, x1, x2, x3⟩ := cells4z HZu.out
  obtain ⟨t0, t1, t2, t3⟩ := cells4v HVd.out
  go_region
  go_wp2
  have h3 := HS3.out
  exact bodyPost_ret (results_tct Tryd.results27 _ _ (w.heap.size + 1) 56 #[.int .u8 0, .int .u64 0, .int .i64 0, .int .i64 0] (0, 0) _ rfl (blk_drew (set4 HZu.out (.int .u8 0) (.int .u64 0) (.int .i64 0) (.int .i64 0))) Tryd.underlying56 rfl (by kernel_rfl)) rfl ⟨below_drew (belowF HBu.out (by omega) (.int .u8 0) (.int .u64 0) (.int .i64 0) (.int .i64 0)), A', c', rfl, Kd.C_below (R_set4 HRu.out (by omega) (.int .u8 0) (.int .u64 0) (.int .i64 0) (.int .i64 0)) (below_drew (Below.refl _ _))⟩
set_option maxRecDepth 100000 in
set_option maxHeartbeats 2000000 in
theorem does_a3 (q : Option Addr) (ent : List (Int × (List Int × List Int))) (A : Option Addr) (c : Nat) (l : List Af) (f d s v0 v1 v2 v3 x op : Int) (S : Option Addr) (sl : List Int) (sc : Nat) (w : World) (ht : TblOr w (.pointer q) ent) (he : EntIn ent) (hw : ∀ e ∈ ent, Bm.Words e.2.1) (hr : kAf.C w A l.length l) (hl : AfLen l) (hl2 : l.length < 1048576) (hv : AfIn l) (hR : RightP (tSize ent) (tPtr ent) l) (hvi : VlIn (v0, v1, v2, v3)) (hs9 : s ≤ 9223372036854775807) (hsz : tSize ent f ≤ 1048576) (hsl : ReadsInt w .i64 S sl.length sl) (hsn : ∀ j : Nat, sl.getD j 0 ≤ 9223372036854775807) :
    Calls Tryd.prog 27 #[.pointer q, .slice A l.length c, .agg #[.int .i64 3, .int .i64 f, .int .i64 d, .int .i64 s, .int .u8 v0, .int .u64 v1, .int .i64 v2, .int .i64 v3, .int .u64 x, .int .u8 op, .slice S sl.length sc]] w fun e w' => DoesL (l) ((getZ l d s)) ((getN l d s)) w e w' := by
  have h1 : (w.alloc (.cells #[.int .i64 3, .int .i64 f, .int .i64 d, .int .i64 s, .int .u8 v0, .int .u64 v1, .int .i64 v2, .int .i64 v3, .int .u64 x, .int .u8 op, .slice S sl.length sc] 58)).heap.size = w.heap.size + 1 := by simp
  have h2 : ((w.alloc (.cells #[.int .i64 3, .int .i64 f, .int .i64 d, .int .i64 s, .int .u8 v0, .int .u64 v1, .int .i64 v2, .int .i64 v3, .int .u64 x, .int .u8 op, .slice S sl.length sc] 58)).alloc (.cells #[.int .u8 0, .int .u64 0, .int .i64 0, .int .i64 0] 56)).heap.size = w.heap.size + 1 + 1 := by simp
  have h3 : (((w.alloc (.cells #[.int .i64 3, .int .i64 f, .int .i64 d, .int .i64 s, .int .u8 v0, .int .u64 v1, .int .i64 v2, .int .i64 v3, .int .u64 x, .int .u8 op, .slice S sl.length sc] 58)).alloc (.cells #[.int .u8 0, .int .u64 0, .int .i64 0, .int .i64 0] 56)).alloc (.cells #[.int .u8 0, .int .u64 0, .int .i64 0, .int .i64 0] 56)).heap.size = w.heap.size + 1 + 1 + 1 := by simp
  have H0 := Lk.mk (below_alloc (below_alloc (below_alloc (Below.refl w.heap.size w) (.cells #[.int .i64 3, .int .i64 f, .int .i64 d, .int .i64 s, .int .u8 v0, .int .u64 v1, .int .i64 v2, .int .i64 v3, .int .u64 x, .int .u8 op, .slice S sl.length sc] 58)) (.cells #[.int .u8 0, .int .u64 0, .int .i64 0, .int .i64 0] 56)) (.cells #[.int .u8 0, .int .u64 0, .int .i64 0, .int .i64 0] 56))
  have HA := Lk.mk (blk_alloc (blk_alloc (blk_new w (.cells #[.int .i64 3, .int .i64 f, .int .i64 d, .int .i64 s, .int .u8 v0, .int .u64 v1, .int .i64 v2, .int .i64 v3, .int .u64 x, .int .u8 op, .slice S sl.length sc] 58)) (.cells #[.int .u8 0, .int .u64 0, .int .i64 0, .int .i64 0] 56)) (.cells #[.int .u8 0, .int .u64 0, .int .i64 0, .int .i64 0] 56))
  have hz := blk_alloc (blk_new (w.alloc (.cells #[.int .i64 3, .int .i64 f, .int .i64 d, .int .i64 s, .int .u8 v0, .int .u64 v1, .int .i64 v2, .int .i64 v3, .int .u64 x, .int .u8 op, .slice S sl.length sc] 58)) (.cells #[.int .u8 0, .int .u64 0, .int .i64 0, .int .i64 0] 56)) (.cells #[.int .u8 0, .int .u64 0, .int .i64 0, .int .i64 0] 56)
  rw [h1] at hz
  have hb := blk_new ((w.alloc (.cells #[.int .i64 3, .int .i64 f, .int .i64 d, .int .i64 s, .int .u8 v0, .int .u64 v1, .int .i64 v2, .int .i64 v3, .int .u64 x, .int .u8 op, .slice S sl.length sc] 58)).alloc (.cells #[.int .u8 0, .int .u64 0, .int .i64 0, .int .i64 0] 56)) (.cells #[.int .u8 0, .int .u64 0, .int .i64 0, .int .i64 0] 56)
  rw [h2] at hb
  have HZ := Lk.mk hz
  have HV := Lk.mk hb
  have HC := Lk.mk (mget_any q ent A c l d s _ (ht.below H0.out) hw (Kd.C_below hr H0.out) hv hR)
  have HS3 := Lk.mk h3
  have HCL := Lk.mk (fun W (hb : Below w.heap.size w W) => Kd.C_below hr hb)
  have a0 := blk_cell HA.out 0
  have a2 := blk_cell HA.out 2
  have a3 := blk_cell HA.out 3
  simp only [List.getElem?_toArray, List.getElem?_cons_zero, List.getElem?_cons_succ] at a0 a2 a3
  generalize ((getZ l d s)) = Z at *
  generalize (((getN l d s)) : Int) = N at *
  obtain ⟨Z0, Z1, Z2, Z3⟩ := Z
  clear ht he hw hr hl hl2 hv hR hvi hs9 hsz hsl hsn h1 h2 h3 hz hb
  go_enter Tryd.func27, Tryd.ntmps27
  go_wp2_with (go_at_call 72; (with_reducible refine (HC.out).mono ?_); rintro e w1 ⟨hb, rfl⟩; have hb9 := below_then H0.out H0.out.size hb; have hz9 := blk_below HZ.out hb; have hv9 := blk_below HV.out hb; obtain ⟨s0, s1, s2, s3, u0, u1, u2, u3⟩ := cells4z hv9; have HBu := Lk.mk (belowF hb9 (show w.heap.size ≤ w.heap.size + 1 + 1 by omega) (.int .u8 Z0) (.int .u64 Z1) (.int .i64 Z2) (.int .i64 Z3)); have HVd := Lk.mk (blk_drew (set4 hv9 (.int .u8 Z0) (.int .u64 Z1) (.int .i64 Z2) (.int .i64 Z3))); have HZu := Lk.mk (far4 hz9 (show w.heap.size + 1 ≠ w.heap.size + 1 + 1 by omega) (.int .u8 Z0) (.int .u64 Z1) (.int .i64 Z2) (.int .i64 Z3)); have HZd := Lk.mk (blk_drew (far4 hz9 (show w.heap.size + 1 ≠ w.heap.size + 1 + 1 by omega) (.int .u8 Z0) (.int .u64 Z1) (.int .i64 Z2) (.int .i64 Z3))); clear hb hb9 hz9 hv9)
  obtain ⟨s0, s1, s2, s3, u0, u1, u2, u3⟩ := cells4z HZd.out
  obtain ⟨r0, r1, r2, r3, x0, x1, x2, x3⟩ := cells4z HZu.out
  obtain ⟨t0, t1, t2, t3⟩ := cells4v HVd.out
  go_region
  go_wp2
  have hfin := below_drew (belowF HBu.out (show w.heap.size ≤ w.heap.size + 1 by omega) (.int .u8 Z0) (.int .u64 Z1) (.int .i64 Z2) (.int .i64 Z3))
  exact bodyPost_ret (results_tct Tryd.results27 _ _ (w.heap.size + 1) 56 #[.int .u8 Z0, .int .u64 Z1, .int .i64 Z2, .int .i64 Z3] (0, 0) _ rfl (blk_drew (set4 HZu.out (.int .u8 Z0) (.int .u64 Z1) (.int .i64 Z2) (.int .i64 Z3))) Tryd.underlying56 rfl (by kernel_rfl)) rfl ⟨hfin, A, c, rfl, HCL.out _ hfin⟩
set_option maxRecDepth 100000 in
set_option maxHeartbeats 2000000 in
theorem does_a4 (q : Option Addr) (ent : List (Int × (List Int × List Int))) (A : Option Addr) (c : Nat) (l : List Af) (f d s v0 v1 v2 v3 x op : Int) (S : Option Addr) (sl : List Int) (sc : Nat) (w : World) (ht : TblOr w (.pointer q) ent) (he : EntIn ent) (hw : ∀ e ∈ ent, Bm.Words e.2.1) (hr : kAf.C w A l.length l) (hl : AfLen l) (hl2 : l.length < 1048576) (hv : AfIn l) (hR : RightP (tSize ent) (tPtr ent) l) (hvi : VlIn (v0, v1, v2, v3)) (hs9 : s ≤ 9223372036854775807) (hsz : tSize ent f ≤ 1048576) (hsl : ReadsInt w .i64 S sl.length sl) (hsn : ∀ j : Nat, sl.getD j 0 ≤ 9223372036854775807) :
    Calls Tryd.prog 27 #[.pointer q, .slice A l.length c, .agg #[.int .i64 4, .int .i64 f, .int .i64 d, .int .i64 s, .int .u8 v0, .int .u64 v1, .int .i64 v2, .int .i64 v3, .int .u64 x, .int .u8 op, .slice S sl.length sc]] w fun e w' => DoesL (l) ((loadZ (tPtr ent) l d s)) ((refersN (tPtr ent) l d s)) w e w' := by
  have h1 : (w.alloc (.cells #[.int .i64 4, .int .i64 f, .int .i64 d, .int .i64 s, .int .u8 v0, .int .u64 v1, .int .i64 v2, .int .i64 v3, .int .u64 x, .int .u8 op, .slice S sl.length sc] 58)).heap.size = w.heap.size + 1 := by simp
  have h2 : ((w.alloc (.cells #[.int .i64 4, .int .i64 f, .int .i64 d, .int .i64 s, .int .u8 v0, .int .u64 v1, .int .i64 v2, .int .i64 v3, .int .u64 x, .int .u8 op, .slice S sl.length sc] 58)).alloc (.cells #[.int .u8 0, .int .u64 0, .int .i64 0, .int .i64 0] 56)).heap.size = w.heap.size + 1 + 1 := by simp
  have h3 : (((w.alloc (.cells #[.int .i64 4, .int .i64 f, .int .i64 d, .int .i64 s, .int .u8 v0, .int .u64 v1, .int .i64 v2, .int .i64 v3, .int .u64 x, .int .u8 op, .slice S sl.length sc] 58)).alloc (.cells #[.int .u8 0, .int .u64 0, .int .i64 0, .int .i64 0] 56)).alloc (.cells #[.int .u8 0, .int .u64 0, .int .i64 0, .int .i64 0] 56)).heap.size = w.heap.size + 1 + 1 + 1 := by simp
  have H0 := Lk.mk (below_alloc (below_alloc (below_alloc (Below.refl w.heap.size w) (.cells #[.int .i64 4, .int .i64 f, .int .i64 d, .int .i64 s, .int .u8 v0, .int .u64 v1, .int .i64 v2, .int .i64 v3, .int .u64 x, .int .u8 op, .slice S sl.length sc] 58)) (.cells #[.int .u8 0, .int .u64 0, .int .i64 0, .int .i64 0] 56)) (.cells #[.int .u8 0, .int .u64 0, .int .i64 0, .int .i64 0] 56))
  have HA := Lk.mk (blk_alloc (blk_alloc (blk_new w (.cells #[.int .i64 4, .int .i64 f, .int .i64 d, .int .i64 s, .int .u8 v0, .int .u64 v1, .int .i64 v2, .int .i64 v3, .int .u64 x, .int .u8 op, .slice S sl.length sc] 58)) (.cells #[.int .u8 0, .int .u64 0, .int .i64 0, .int .i64 0] 56)) (.cells #[.int .u8 0, .int .u64 0, .int .i64 0, .int .i64 0] 56))
  have hz := blk_alloc (blk_new (w.alloc (.cells #[.int .i64 4, .int .i64 f, .int .i64 d, .int .i64 s, .int .u8 v0, .int .u64 v1, .int .i64 v2, .int .i64 v3, .int .u64 x, .int .u8 op, .slice S sl.length sc] 58)) (.cells #[.int .u8 0, .int .u64 0, .int .i64 0, .int .i64 0] 56)) (.cells #[.int .u8 0, .int .u64 0, .int .i64 0, .int .i64 0] 56)
  rw [h1] at hz
  have hb := blk_new ((w.alloc (.cells #[.int .i64 4, .int .i64 f, .int .i64 d, .int .i64 s, .int .u8 v0, .int .u64 v1, .int .i64 v2, .int .i64 v3, .int .u64 x, .int .u8 op, .slice S sl.length sc] 58)).alloc (.cells #[.int .u8 0, .int .u64 0, .int .i64 0, .int .i64 0] 56)) (.cells #[.int .u8 0, .int .u64 0, .int .i64 0, .int .i64 0] 56)
  rw [h2] at hb
  have HZ := Lk.mk hz
  have HV := Lk.mk hb
  have HC := Lk.mk (mload_any q ent A c l d s _ (ht.below H0.out) hw (Kd.C_below hr H0.out) hv hR hs9)
  have HS3 := Lk.mk h3
  have HCL := Lk.mk (fun W (hb : Below w.heap.size w W) => Kd.C_below hr hb)
  have a0 := blk_cell HA.out 0
  have a2 := blk_cell HA.out 2
  have a3 := blk_cell HA.out 3
  simp only [List.getElem?_toArray, List.getElem?_cons_zero, List.getElem?_cons_succ] at a0 a2 a3
  generalize ((loadZ (tPtr ent) l d s)) = Z at *
  generalize (((refersN (tPtr ent) l d s)) : Int) = N at *
  obtain ⟨Z0, Z1, Z2, Z3⟩ := Z
  clear ht he hw hr hl hl2 hv hR hvi hs9 hsz hsl hsn h1 h2 h3 hz hb
  go_enter Tryd.func27, Tryd.ntmps27
  go_wp2_with (go_at_call 73; (with_reducible refine (HC.out).mono ?_); rintro e w1 ⟨hb, rfl⟩; have hb9 := below_then H0.out H0.out.size hb; have hz9 := blk_below HZ.out hb; have hv9 := blk_below HV.out hb; obtain ⟨s0, s1, s2, s3, u0, u1, u2, u3⟩ := cells4z hv9; have HBu := Lk.mk (belowF hb9 (show w.heap.size ≤ w.heap.size + 1 + 1 by omega) (.int .u8 Z0) (.int .u64 Z1) (.int .i64 Z2) (.int .i64 Z3)); have HVd := Lk.mk (blk_drew (set4 hv9 (.int .u8 Z0) (.int .u64 Z1) (.int .i64 Z2) (.int .i64 Z3))); have HZu := Lk.mk (far4 hz9 (show w.heap.size + 1 ≠ w.heap.size + 1 + 1 by omega) (.int .u8 Z0) (.int .u64 Z1) (.int .i64 Z2) (.int .i64 Z3)); have HZd := Lk.mk (blk_drew (far4 hz9 (show w.heap.size + 1 ≠ w.heap.size + 1 + 1 by omega) (.int .u8 Z0) (.int .u64 Z1) (.int .i64 Z2) (.int .i64 Z3))); clear hb hb9 hz9 hv9)
  obtain ⟨s0, s1, s2, s3, u0, u1, u2, u3⟩ := cells4z HZd.out
  obtain ⟨r0, r1, r2, r3, x0, x1, x2, x3⟩ := cells4z HZu.out
  obtain ⟨t0, t1, t2, t3⟩ := cells4v HVd.out
  go_region
  go_wp2
  have hfin := below_drew (belowF HBu.out (show w.heap.size ≤ w.heap.size + 1 by omega) (.int .u8 Z0) (.int .u64 Z1) (.int .i64 Z2) (.int .i64 Z3))
  exact bodyPost_ret (results_tct Tryd.results27 _ _ (w.heap.size + 1) 56 #[.int .u8 Z0, .int .u64 Z1, .int .i64 Z2, .int .i64 Z3] (0, 0) _ rfl (blk_drew (set4 HZu.out (.int .u8 Z0) (.int .u64 Z1) (.int .i64 Z2) (.int .i64 Z3))) Tryd.underlying56 rfl (by kernel_rfl)) rfl ⟨hfin, A, c, rfl, HCL.out _ hfin⟩
set_option maxRecDepth 100000 in
set_option maxHeartbeats 2000000 in
theorem does_a5 (q : Option Addr) (ent : List (Int × (List Int × List Int))) (A : Option Addr) (c : Nat) (l : List Af) (f d s v0 v1 v2 v3 x op : Int) (S : Option Addr) (sl : List Int) (sc : Nat) (w : World) (ht : TblOr w (.pointer q) ent) (he : EntIn ent) (hw : ∀ e ∈ ent, Bm.Words e.2.1) (hr : kAf.C w A l.length l) (hl : AfLen l) (hl2 : l.length < 1048576) (hv : AfIn l) (hR : RightP (tSize ent) (tPtr ent) l) (hvi : VlIn (v0, v1, v2, v3)) (hs9 : s ≤ 9223372036854775807) (hsz : tSize ent f ≤ 1048576) (hsl : ReadsInt w .i64 S sl.length sl) (hsn : ∀ j : Nat, sl.getD j 0 ≤ 9223372036854775807) :
    Calls Tryd.prog 27 #[.pointer q, .slice A l.length c, .agg #[.int .i64 5, .int .i64 f, .int .i64 d, .int .i64 s, .int .u8 v0, .int .u64 v1, .int .i64 v2, .int .i64 v3, .int .u64 x, .int .u8 op, .slice S sl.length sc]] w fun e w' => DoesL ((writeR (tPtr ent) l d s x)) (Sl.dVl) ((writeN (tPtr ent) l d s)) w e w' := by
  have h1 : (w.alloc (.cells #[.int .i64 5, .int .i64 f, .int .i64 d, .int .i64 s, .int .u8 v0, .int .u64 v1, .int .i64 v2, .int .i64 v3, .int .u64 x, .int .u8 op, .slice S sl.length sc] 58)).heap.size = w.heap.size + 1 := by simp
  have h2 : ((w.alloc (.cells #[.int .i64 5, .int .i64 f, .int .i64 d, .int .i64 s, .int .u8 v0, .int .u64 v1, .int .i64 v2, .int .i64 v3, .int .u64 x, .int .u8 op, .slice S sl.length sc] 58)).alloc (.cells #[.int .u8 0, .int .u64 0, .int .i64 0, .int .i64 0] 56)).heap.size = w.heap.size + 1 + 1 := by simp
  have h3 : (((w.alloc (.cells #[.int .i64 5, .int .i64 f, .int .i64 d, .int .i64 s, .int .u8 v0, .int .u64 v1, .int .i64 v2, .int .i64 v3, .int .u64 x, .int .u8 op, .slice S sl.length sc] 58)).alloc (.cells #[.int .u8 0, .int .u64 0, .int .i64 0, .int .i64 0] 56)).alloc (.cells #[.int .u8 0, .int .u64 0, .int .i64 0, .int .i64 0] 56)).heap.size = w.heap.size + 1 + 1 + 1 := by simp
  have H0 := Lk.mk (below_alloc (below_alloc (below_alloc (Below.refl w.heap.size w) (.cells #[.int .i64 5, .int .i64 f, .int .i64 d, .int .i64 s, .int .u8 v0, .int .u64 v1, .int .i64 v2, .int .i64 v3, .int .u64 x, .int .u8 op, .slice S sl.length sc] 58)) (.cells #[.int .u8 0, .int .u64 0, .int .i64 0, .int .i64 0] 56)) (.cells #[.int .u8 0, .int .u64 0, .int .i64 0, .int .i64 0] 56))
  have HA := Lk.mk (blk_alloc (blk_alloc (blk_new w (.cells #[.int .i64 5, .int .i64 f, .int .i64 d, .int .i64 s, .int .u8 v0, .int .u64 v1, .int .i64 v2, .int .i64 v3, .int .u64 x, .int .u8 op, .slice S sl.length sc] 58)) (.cells #[.int .u8 0, .int .u64 0, .int .i64 0, .int .i64 0] 56)) (.cells #[.int .u8 0, .int .u64 0, .int .i64 0, .int .i64 0] 56))
  have hz := blk_alloc (blk_new (w.alloc (.cells #[.int .i64 5, .int .i64 f, .int .i64 d, .int .i64 s, .int .u8 v0, .int .u64 v1, .int .i64 v2, .int .i64 v3, .int .u64 x, .int .u8 op, .slice S sl.length sc] 58)) (.cells #[.int .u8 0, .int .u64 0, .int .i64 0, .int .i64 0] 56)) (.cells #[.int .u8 0, .int .u64 0, .int .i64 0, .int .i64 0] 56)
  rw [h1] at hz
  have hb := blk_new ((w.alloc (.cells #[.int .i64 5, .int .i64 f, .int .i64 d, .int .i64 s, .int .u8 v0, .int .u64 v1, .int .i64 v2, .int .i64 v3, .int .u64 x, .int .u8 op, .slice S sl.length sc] 58)).alloc (.cells #[.int .u8 0, .int .u64 0, .int .i64 0, .int .i64 0] 56)) (.cells #[.int .u8 0, .int .u64 0, .int .i64 0, .int .i64 0] 56)
  rw [h2] at hb
  have HZ := Lk.mk hz
  have HV := Lk.mk hb
  have HC := Lk.mk (mwrite_any q ent A c l d s x _ (ht.below H0.out) hw (Kd.C_below hr H0.out) hl hv hR hs9)
  have HS3 := Lk.mk h3
  have HCL := Lk.mk (fun W (hb : Below w.heap.size w W) => Kd.C_below hr hb)
  have a0 := blk_cell HA.out 0
  have a2 := blk_cell HA.out 2
  have a3 := blk_cell HA.out 3
  have a8 := blk_cell HA.out 8
  simp only [List.getElem?_toArray, List.getElem?_cons_zero, List.getElem?_cons_succ] at a0 a2 a3 a8
  generalize hLL : ((writeR (tPtr ent) l d s x)) = L at *
  generalize (((writeN (tPtr ent) l d s)) : Int) = N at *
  clear ht he hw hr hl hl2 hv hR hvi hs9 hsz hsl hsn h1 h2 h3 hz hb
  go_enter Tryd.func27, Tryd.ntmps27
  go_wp2_with (go_at_call 74; (with_reducible refine (HC.out).mono ?_); rintro e w1 ⟨hb, u, hR, rfl⟩; obtain ⟨A', c', rfl, _, _⟩ := Kd.R_reads hR; have HRu := Lk.mk hR; have HBu := Lk.mk (below_then H0.out H0.out.size hb); have HZu := Lk.mk (blk_below HZ.out hb); have HZd := Lk.mk (blk_drew (blk_below HZ.out hb)); have HVd := Lk.mk (blk_drew (blk_below HV.out hb)); clear hb hR)
  obtain ⟨s0, s1, s2, s3, u0, u1, u2, u3⟩ := cells4z HZd.out
  obtain ⟨r0, r1, r2, r3, x0, x1, x2, x3⟩ := cells4z HZu.out
  obtain ⟨t0, t1, t2, t3⟩ := cells4v HVd.out
  go_region
  go_wp2
  have h3 := HS3.out
  exact bodyPost_ret (results_tct Tryd.results27 _ _ (w.heap.size + 1) 56 #[.int .u8 0, .int .u64 0, .int .i64 0, .int .i64 0] (0, 0) _ rfl (blk_drew (set4 HZu.out (.int .u8 0) (.int .u64 0) (.int .i64 0) (.int .i64 0))) Tryd.underlying56 rfl (by kernel_rfl)) rfl ⟨below_drew (belowF HBu.out (by omega) (.int .u8 0) (.int .u64 0) (.int .i64 0) (.int .i64 0)), A', c', rfl, Kd.C_below (R_set4 HRu.out (by omega) (.int .u8 0) (.int .u64 0) (.int .i64 0) (.int .i64 0)) (below_drew (Below.refl _ _))⟩
set_option maxRecDepth 100000 in
set_option maxHeartbeats 2000000 in
theorem does_akd (q : Option Addr) (ent : List (Int × (List Int × List Int))) (A : Option Addr) (c : Nat) (l : List Af) (kd : Int) (hk : ¬ kd = 0 ∧ ¬ kd = 1 ∧ ¬ kd = 2 ∧ ¬ kd = 3 ∧ ¬ kd = 4 ∧ ¬ kd = 5) (f d s v0 v1 v2 v3 x op : Int) (S : Option Addr) (sl : List Int) (sc : Nat) (w : World) (ht : TblOr w (.pointer q) ent) (he : EntIn ent) (hw : ∀ e ∈ ent, Bm.Words e.2.1) (hr : kAf.C w A l.length l) (hl : AfLen l) (hl2 : l.length < 1048576) (hv : AfIn l) (hR : RightP (tSize ent) (tPtr ent) l) (hvi : VlIn (v0, v1, v2, v3)) (hs9 : s ≤ 9223372036854775807) (hsz : tSize ent f ≤ 1048576) (hsl : ReadsInt w .i64 S sl.length sl) (hsn : ∀ j : Nat, sl.getD j 0 ≤ 9223372036854775807) :
    Calls Tryd.prog 27 #[.pointer q, .slice A l.length c, .agg #[.int .i64 kd, .int .i64 f, .int .i64 d, .int .i64 s, .int .u8 v0, .int .u64 v1, .int .i64 v2, .int .i64 v3, .int .u64 x, .int .u8 op, .slice S sl.length sc]] w fun e w' => DoesL ((calcR (tPtr ent) l op d sl)) (Sl.dVl) ((calcN (tPtr ent) l op d sl)) w e w' := by
  have h1 : (w.alloc (.cells #[.int .i64 kd, .int .i64 f, .int .i64 d, .int .i64 s, .int .u8 v0, .int .u64 v1, .int .i64 v2, .int .i64 v3, .int .u64 x, .int .u8 op, .slice S sl.length sc] 58)).heap.size = w.heap.size + 1 := by simp
  have h2 : ((w.alloc (.cells #[.int .i64 kd, .int .i64 f, .int .i64 d, .int .i64 s, .int .u8 v0, .int .u64 v1, .int .i64 v2, .int .i64 v3, .int .u64 x, .int .u8 op, .slice S sl.length sc] 58)).alloc (.cells #[.int .u8 0, .int .u64 0, .int .i64 0, .int .i64 0] 56)).heap.size = w.heap.size + 1 + 1 := by simp
  have h3 : (((w.alloc (.cells #[.int .i64 kd, .int .i64 f, .int .i64 d, .int .i64 s, .int .u8 v0, .int .u64 v1, .int .i64 v2, .int .i64 v3, .int .u64 x, .int .u8 op, .slice S sl.length sc] 58)).alloc (.cells #[.int .u8 0, .int .u64 0, .int .i64 0, .int .i64 0] 56)).alloc (.cells #[.int .u8 0, .int .u64 0, .int .i64 0, .int .i64 0] 56)).heap.size = w.heap.size + 1 + 1 + 1 := by simp
  have H0 := Lk.mk (below_alloc (below_alloc (below_alloc (Below.refl w.heap.size w) (.cells #[.int .i64 kd, .int .i64 f, .int .i64 d, .int .i64 s, .int .u8 v0, .int .u64 v1, .int .i64 v2, .int .i64 v3, .int .u64 x, .int .u8 op, .slice S sl.length sc] 58)) (.cells #[.int .u8 0, .int .u64 0, .int .i64 0, .int .i64 0] 56)) (.cells #[.int .u8 0, .int .u64 0, .int .i64 0, .int .i64 0] 56))
  have HA := Lk.mk (blk_alloc (blk_alloc (blk_new w (.cells #[.int .i64 kd, .int .i64 f, .int .i64 d, .int .i64 s, .int .u8 v0, .int .u64 v1, .int .i64 v2, .int .i64 v3, .int .u64 x, .int .u8 op, .slice S sl.length sc] 58)) (.cells #[.int .u8 0, .int .u64 0, .int .i64 0, .int .i64 0] 56)) (.cells #[.int .u8 0, .int .u64 0, .int .i64 0, .int .i64 0] 56))
  have hz := blk_alloc (blk_new (w.alloc (.cells #[.int .i64 kd, .int .i64 f, .int .i64 d, .int .i64 s, .int .u8 v0, .int .u64 v1, .int .i64 v2, .int .i64 v3, .int .u64 x, .int .u8 op, .slice S sl.length sc] 58)) (.cells #[.int .u8 0, .int .u64 0, .int .i64 0, .int .i64 0] 56)) (.cells #[.int .u8 0, .int .u64 0, .int .i64 0, .int .i64 0] 56)
  rw [h1] at hz
  have hb := blk_new ((w.alloc (.cells #[.int .i64 kd, .int .i64 f, .int .i64 d, .int .i64 s, .int .u8 v0, .int .u64 v1, .int .i64 v2, .int .i64 v3, .int .u64 x, .int .u8 op, .slice S sl.length sc] 58)).alloc (.cells #[.int .u8 0, .int .u64 0, .int .i64 0, .int .i64 0] 56)) (.cells #[.int .u8 0, .int .u64 0, .int .i64 0, .int .i64 0] 56)
  rw [h2] at hb
  have HZ := Lk.mk hz
  have HV := Lk.mk hb
  have HC := Lk.mk (mcalc_any q ent A c l op d S sl sc _ (ht.below H0.out) hw (Kd.C_below hr H0.out) hl hv hR (hsl.below H0.out) hsn)
  have HS3 := Lk.mk h3
  have HCL := Lk.mk (fun W (hb : Below w.heap.size w W) => Kd.C_below hr hb)
  obtain ⟨k0, k1, k2, k3, k4, k5⟩ := hk
  have a0 := blk_cell HA.out 0
  have a2 := blk_cell HA.out 2
  have a9 := blk_cell HA.out 9
  have a10 := blk_cell HA.out 10
  simp only [List.getElem?_toArray, List.getElem?_cons_zero, List.getElem?_cons_succ] at a0 a2 a9 a10
  generalize hLL : ((calcR (tPtr ent) l op d sl)) = L at *
  generalize (((calcN (tPtr ent) l op d sl)) : Int) = N at *
  clear ht he hw hr hl hl2 hv hR hvi hs9 hsz hsl hsn h1 h2 h3 hz hb
  go_enter Tryd.func27, Tryd.ntmps27
  go_wp2_with (go_at_call 75; (with_reducible refine (HC.out).mono ?_); rintro e w1 ⟨hb, u, hR, rfl⟩; obtain ⟨A', c', rfl, _, _⟩ := Kd.R_reads hR; have HRu := Lk.mk hR; have HBu := Lk.mk (below_then H0.out H0.out.size hb); have HZu := Lk.mk (blk_below HZ.out hb); have HZd := Lk.mk (blk_drew (blk_below HZ.out hb)); have HVd := Lk.mk (blk_drew (blk_below HV.out hb)); clear hb hR)
  obtain ⟨s0, s1, s2, s3, u0, u1, u2, u3⟩ := cells4z HZd.out
  obtain ⟨r0, r1, r2, r3, x0, x1, x2, x3⟩ := cells4z HZu.out
  obtain ⟨t0, t1, t2, t3⟩ := cells4v HVd.out
  go_region
  go_wp2
  have h3 := HS3.out
  exact bodyPost_ret (results_tct Tryd.results27 _ _ (w.heap.size + 1) 56 #[.int .u8 0, .int .u64 0, .int .i64 0, .int .i64 0] (0, 0) _ rfl (blk_drew (set4 HZu.out (.int .u8 0) (.int .u64 0) (.int .i64 0) (.int .i64 0))) Tryd.underlying56 rfl (by kernel_rfl)) rfl ⟨below_drew (belowF HBu.out (by omega) (.int .u8 0) (.int .u64 0) (.int .i64 0) (.int .i64 0)), A', c', rfl, Kd.C_below (R_set4 HRu.out (by omega) (.int .u8 0) (.int .u64 0) (.int .i64 0) (.int .i64 0)) (below_drew (Below.refl _ _))⟩
set_option maxRecDepth 100000 in
set_option maxHeartbeats 2000000 in
theorem does_b0 (q : Option Addr) (ent : List (Int × (List Int × List Int))) (A : Option Addr) (c : Nat) (l : List Af) (f d s v0 v1 v2 v3 x op : Int) (S : Option Addr) (sl : List Int) (sc : Nat) (w : World) (ht : TblOr w (.pointer q) ent) (he : EntIn ent) (hw : ∀ e ∈ ent, Bm.Words e.2.1) (hr : kAf.C w A l.length l) (hl : AfLen l) (hl2 : l.length < 1048576) (hv : AfIn l) (hR : ¬ RightP (tSize ent) (tPtr ent) l) (hvi : VlIn (v0, v1, v2, v3)) (hs9 : s ≤ 9223372036854775807) (hsz : tSize ent f ≤ 1048576) (hsl : ReadsInt w .i64 S sl.length sl) (hsn : ∀ j : Nat, sl.getD j 0 ≤ 9223372036854775807) :
    Calls Tryd.prog 27 #[.pointer q, .slice A l.length c, .agg #[.int .i64 0, .int .i64 f, .int .i64 d, .int .i64 s, .int .u8 v0, .int .u64 v1, .int .i64 v2, .int .i64 v3, .int .u64 x, .int .u8 op, .slice S sl.length sc]] w fun e w' => DoesL (l) (Sl.dVl) (9) w e w' := by
  have h1 : (w.alloc (.cells #[.int .i64 0, .int .i64 f, .int .i64 d, .int .i64 s, .int .u8 v0, .int .u64 v1, .int .i64 v2, .int .i64 v3, .int .u64 x, .int .u8 op, .slice S sl.length sc] 58)).heap.size = w.heap.size + 1 := by simp
  have h2 : ((w.alloc (.cells #[.int .i64 0, .int .i64 f, .int .i64 d, .int .i64 s, .int .u8 v0, .int .u64 v1, .int .i64 v2, .int .i64 v3, .int .u64 x, .int .u8 op, .slice S sl.length sc] 58)).alloc (.cells #[.int .u8 0, .int .u64 0, .int .i64 0, .int .i64 0] 56)).heap.size = w.heap.size + 1 + 1 := by simp
  have h3 : (((w.alloc (.cells #[.int .i64 0, .int .i64 f, .int .i64 d, .int .i64 s, .int .u8 v0, .int .u64 v1, .int .i64 v2, .int .i64 v3, .int .u64 x, .int .u8 op, .slice S sl.length sc] 58)).alloc (.cells #[.int .u8 0, .int .u64 0, .int .i64 0, .int .i64 0] 56)).alloc (.cells #[.int .u8 0, .int .u64 0, .int .i64 0, .int .i64 0] 56)).heap.size = w.heap.size + 1 + 1 + 1 := by simp
  have H0 := Lk.mk (below_alloc (below_alloc (below_alloc (Below.refl w.heap.size w) (.cells #[.int .i64 0, .int .i64 f, .int .i64 d, .int .i64 s, .int .u8 v0, .int .u64 v1, .int .i64 v2, .int .i64 v3, .int .u64 x, .int .u8 op, .slice S sl.length sc] 58)) (.cells #[.int .u8 0, .int .u64 0, .int .i64 0, .int .i64 0] 56)) (.cells #[.int .u8 0, .int .u64 0, .int .i64 0, .int .i64 0] 56))
  have HA := Lk.mk (blk_alloc (blk_alloc (blk_new w (.cells #[.int .i64 0, .int .i64 f, .int .i64 d, .int .i64 s, .int .u8 v0, .int .u64 v1, .int .i64 v2, .int .i64 v3, .int .u64 x, .int .u8 op, .slice S sl.length sc] 58)) (.cells #[.int .u8 0, .int .u64 0, .int .i64 0, .int .i64 0] 56)) (.cells #[.int .u8 0, .int .u64 0, .int .i64 0, .int .i64 0] 56))
  have hz := blk_alloc (blk_new (w.alloc (.cells #[.int .i64 0, .int .i64 f, .int .i64 d, .int .i64 s, .int .u8 v0, .int .u64 v1, .int .i64 v2, .int .i64 v3, .int .u64 x, .int .u8 op, .slice S sl.length sc] 58)) (.cells #[.int .u8 0, .int .u64 0, .int .i64 0, .int .i64 0] 56)) (.cells #[.int .u8 0, .int .u64 0, .int .i64 0, .int .i64 0] 56)
  rw [h1] at hz
  have hb := blk_new ((w.alloc (.cells #[.int .i64 0, .int .i64 f, .int .i64 d, .int .i64 s, .int .u8 v0, .int .u64 v1, .int .i64 v2, .int .i64 v3, .int .u64 x, .int .u8 op, .slice S sl.length sc] 58)).alloc (.cells #[.int .u8 0, .int .u64 0, .int .i64 0, .int .i64 0] 56)) (.cells #[.int .u8 0, .int .u64 0, .int .i64 0, .int .i64 0] 56)
  rw [h2] at hb
  have HZ := Lk.mk hz
  have HV := Lk.mk hb
  have HC := Lk.mk (mcall_bad q ent A c l f _ (ht.below H0.out) he hw (Kd.C_below hr H0.out) hl hv hR)
  have HS3 := Lk.mk h3
  have HCL := Lk.mk (fun W (hb : Below w.heap.size w W) => Kd.C_below hr hb)
  have a0 := blk_cell HA.out 0
  have a1 := blk_cell HA.out 1
  simp only [List.getElem?_toArray, List.getElem?_cons_zero, List.getElem?_cons_succ] at a0 a1
  clear ht he hw hr hl hl2 hv hR hvi hs9 hsz hsl hsn h1 h2 h3 hz hb
  go_enter Tryd.func27, Tryd.ntmps27
  go_wp2_with (go_at_call 68; (with_reducible refine (HC.out).mono ?_); rintro e w1 ⟨hb, u, hR, rfl⟩; obtain ⟨A', c', rfl, _, _⟩ := Kd.R_reads hR; have HRu := Lk.mk hR; have HBu := Lk.mk (below_then H0.out H0.out.size hb); have HZu := Lk.mk (blk_below HZ.out hb); have HZd := Lk.mk (blk_drew (blk_below HZ.out hb)); have HVd := Lk.mk (blk_drew (blk_below HV.out hb)); clear hb hR)
  obtain ⟨s0, s1, s2, s3, u0, u1, u2, u3⟩ := cells4z HZd.out
  obtain ⟨r0, r1, r2, r3, x0, x1, x2, x3⟩ := cells4z HZu.out
  obtain ⟨t0, t1, t2, t3⟩ := cells4v HVd.out
  go_region
  go_wp2
  have h3 := HS3.out
  exact bodyPost_ret (results_tct Tryd.results27 _ _ (w.heap.size + 1) 56 #[.int .u8 0, .int .u64 0, .int .i64 0, .int .i64 0] (0, 0) _ rfl (blk_drew (set4 HZu.out (.int .u8 0) (.int .u64 0) (.int .i64 0) (.int .i64 0))) Tryd.underlying56 rfl (by kernel_rfl)) rfl ⟨below_drew (belowF HBu.out (by omega) (.int .u8 0) (.int .u64 0) (.int .i64 0) (.int .i64 0)), A', c', rfl, Kd.C_below (R_set4 HRu.out (by omega) (.int .u8 0) (.int .u64 0) (.int .i64 0) (.int .i64 0)) (below_drew (Below.refl _ _))⟩
set_option maxRecDepth 100000 in
set_option maxHeartbeats 2000000 in
theorem does_b1 (q : Option Addr) (ent : List (Int × (List Int × List Int))) (A : Option Addr) (c : Nat) (l : List Af) (f d s v0 v1 v2 v3 x op : Int) (S : Option Addr) (sl : List Int) (sc : Nat) (w : World) (ht : TblOr w (.pointer q) ent) (he : EntIn ent) (hw : ∀ e ∈ ent, Bm.Words e.2.1) (hr : kAf.C w A l.length l) (hl : AfLen l) (hl2 : l.length < 1048576) (hv : AfIn l) (hR : ¬ RightP (tSize ent) (tPtr ent) l) (hvi : VlIn (v0, v1, v2, v3)) (hs9 : s ≤ 9223372036854775807) (hsz : tSize ent f ≤ 1048576) (hsl : ReadsInt w .i64 S sl.length sl) (hsn : ∀ j : Nat, sl.getD j 0 ≤ 9223372036854775807) :
    Calls Tryd.prog 27 #[.pointer q, .slice A l.length c, .agg #[.int .i64 1, .int .i64 f, .int .i64 d, .int .i64 s, .int .u8 v0, .int .u64 v1, .int .i64 v2, .int .i64 v3, .int .u64 x, .int .u8 op, .slice S sl.length sc]] w fun e w' => DoesL (l) (Sl.dVl) (9) w e w' := by
  have h1 : (w.alloc (.cells #[.int .i64 1, .int .i64 f, .int .i64 d, .int .i64 s, .int .u8 v0, .int .u64 v1, .int .i64 v2, .int .i64 v3, .int .u64 x, .int .u8 op, .slice S sl.length sc] 58)).heap.size = w.heap.size + 1 := by simp
  have h2 : ((w.alloc (.cells #[.int .i64 1, .int .i64 f, .int .i64 d, .int .i64 s, .int .u8 v0, .int .u64 v1, .int .i64 v2, .int .i64 v3, .int .u64 x, .int .u8 op, .slice S sl.length sc] 58)).alloc (.cells #[.int .u8 0, .int .u64 0, .int .i64 0, .int .i64 0] 56)).heap.size = w.heap.size + 1 + 1 := by simp
  have h3 : (((w.alloc (.cells #[.int .i64 1, .int .i64 f, .int .i64 d, .int .i64 s, .int .u8 v0, .int .u64 v1, .int .i64 v2, .int .i64 v3, .int .u64 x, .int .u8 op, .slice S sl.length sc] 58)).alloc (.cells #[.int .u8 0, .int .u64 0, .int .i64 0, .int .i64 0] 56)).alloc (.cells #[.int .u8 0, .int .u64 0, .int .i64 0, .int .i64 0] 56)).heap.size = w.heap.size + 1 + 1 + 1 := by simp
  have H0 := Lk.mk (below_alloc (below_alloc (below_alloc (Below.refl w.heap.size w) (.cells #[.int .i64 1, .int .i64 f, .int .i64 d, .int .i64 s, .int .u8 v0, .int .u64 v1, .int .i64 v2, .int .i64 v3, .int .u64 x, .int .u8 op, .slice S sl.length sc] 58)) (.cells #[.int .u8 0, .int .u64 0, .int .i64 0, .int .i64 0] 56)) (.cells #[.int .u8 0, .int .u64 0, .int .i64 0, .int .i64 0] 56))
  have HA := Lk.mk (blk_alloc (blk_alloc (blk_new w (.cells #[.int .i64 1, .int .i64 f, .int .i64 d, .int .i64 s, .int .u8 v0, .int .u64 v1, .int .i64 v2, .int .i64 v3, .int .u64 x, .int .u8 op, .slice S sl.length sc] 58)) (.cells #[.int .u8 0, .int .u64 0, .int .i64 0, .int .i64 0] 56)) (.cells #[.int .u8 0, .int .u64 0, .int .i64 0, .int .i64 0] 56))
  have hz := blk_alloc (blk_new (w.alloc (.cells #[.int .i64 1, .int .i64 f, .int .i64 d, .int .i64 s, .int .u8 v0, .int .u64 v1, .int .i64 v2, .int .i64 v3, .int .u64 x, .int .u8 op, .slice S sl.length sc] 58)) (.cells #[.int .u8 0, .int .u64 0, .int .i64 0, .int .i64 0] 56)) (.cells #[.int .u8 0, .int .u64 0, .int .i64 0, .int .i64 0] 56)
  rw [h1] at hz
  have hb := blk_new ((w.alloc (.cells #[.int .i64 1, .int .i64 f, .int .i64 d, .int .i64 s, .int .u8 v0, .int .u64 v1, .int .i64 v2, .int .i64 v3, .int .u64 x, .int .u8 op, .slice S sl.length sc] 58)).alloc (.cells #[.int .u8 0, .int .u64 0, .int .i64 0, .int .i64 0] 56)) (.cells #[.int .u8 0, .int .u64 0, .int .i64 0, .int .i64 0] 56)
  rw [h2] at hb
  have HZ := Lk.mk hz
  have HV := Lk.mk hb
  have HC := Lk.mk (mreturn_bad q ent A c l _ (ht.below H0.out) he hw (Kd.C_below hr H0.out) hl hv hR)
  have HS3 := Lk.mk h3
  have HCL := Lk.mk (fun W (hb : Below w.heap.size w W) => Kd.C_below hr hb)
  have a0 := blk_cell HA.out 0
  simp only [List.getElem?_toArray, List.getElem?_cons_zero, List.getElem?_cons_succ] at a0
  clear ht he hw hr hl hl2 hv hR hvi hs9 hsz hsl hsn h1 h2 h3 hz hb
  go_enter Tryd.func27, Tryd.ntmps27
  go_wp2_with (go_at_call 69; (with_reducible refine (HC.out).mono ?_); rintro e w1 ⟨hb, u, hR, rfl⟩; obtain ⟨A', c', rfl, _, _⟩ := Kd.R_reads hR; have HRu := Lk.mk hR; have HBu := Lk.mk (below_then H0.out H0.out.size hb); have HZu := Lk.mk (blk_below HZ.out hb); have HZd := Lk.mk (blk_drew (blk_below HZ.out hb)); have HVd := Lk.mk (blk_drew (blk_below HV.out hb)); clear hb hR)
  obtain ⟨s0, s1, s2, s3, u0, u1, u2, u3⟩ := cells4z HZd.out
  obtain ⟨r0, r1, r2, r3, x0, x1, x2, x3⟩ := cells4z HZu.out
  obtain ⟨t0, t1, t2, t3⟩ := cells4v HVd.out
  go_region
  go_wp2
  have h3 := HS3.out
  exact bodyPost_ret (results_tct Tryd.results27 _ _ (w.heap.size + 1) 56 #[.int .u8 0, .int .u64 0, .int .i64 0, .int .i64 0] (0, 0) _ rfl (blk_drew (set4 HZu.out (.int .u8 0) (.int .u64 0) (.int .i64 0) (.int .i64 0))) Tryd.underlying56 rfl (by kernel_rfl)) rfl ⟨below_drew (belowF HBu.out (by omega) (.int .u8 0) (.int .u64 0) (.int .i64 0) (.int .i64 0)), A', c', rfl, Kd.C_below (R_set4 HRu.out (by omega) (.int .u8 0) (.int .u64 0) (.int .i64 0) (.int .i64 0)) (below_drew (Below.refl _ _))⟩
set_option maxRecDepth 100000 in
set_option maxHeartbeats 2000000 in
theorem does_b2 (q : Option Addr) (ent : List (Int × (List Int × List Int))) (A : Option Addr) (c : Nat) (l : List Af) (f d s v0 v1 v2 v3 x op : Int) (S : Option Addr) (sl : List Int) (sc : Nat) (w : World) (ht : TblOr w (.pointer q) ent) (he : EntIn ent) (hw : ∀ e ∈ ent, Bm.Words e.2.1) (hr : kAf.C w A l.length l) (hl : AfLen l) (hl2 : l.length < 1048576) (hv : AfIn l) (hR : ¬ RightP (tSize ent) (tPtr ent) l) (hvi : VlIn (v0, v1, v2, v3)) (hs9 : s ≤ 9223372036854775807) (hsz : tSize ent f ≤ 1048576) (hsl : ReadsInt w .i64 S sl.length sl) (hsn : ∀ j : Nat, sl.getD j 0 ≤ 9223372036854775807) :
    Calls Tryd.prog 27 #[.pointer q, .slice A l.length c, .agg #[.int .i64 2, .int .i64 f, .int .i64 d, .int .i64 s, .int .u8 v0, .int .u64 v1, .int .i64 v2, .int .i64 v3, .int .u64 x, .int .u8 op, .slice S sl.length sc]] w fun e w' => DoesL (l) (Sl.dVl) (9) w e w' := by
  have h1 : (w.alloc (.cells #[.int .i64 2, .int .i64 f, .int .i64 d, .int .i64 s, .int .u8 v0, .int .u64 v1, .int .i64 v2, .int .i64 v3, .int .u64 x, .int .u8 op, .slice S sl.length sc] 58)).heap.size = w.heap.size + 1 := by simp
  have h2 : ((w.alloc (.cells #[.int .i64 2, .int .i64 f, .int .i64 d, .int .i64 s, .int .u8 v0, .int .u64 v1, .int .i64 v2, .int .i64 v3, .int .u64 x, .int .u8 op, .slice S sl.length sc] 58)).alloc (.cells #[.int .u8 0, .int .u64 0, .int .i64 0, .int .i64 0] 56)).heap.size = w.heap.size + 1 + 1 := by simp
  have h3 : (((w.alloc (.cells #[.int .i64 2, .int .i64 f, .int .i64 d, .int .i64 s, .int .u8 v0, .int .u64 v1, .int .i64 v2, .int .i64 v3, .int .u64 x, .int .u8 op, .slice S sl.length sc] 58)).alloc (.cells #[.int .u8 0, .int .u64 0, .int .i64 0, .int .i64 0] 56)).alloc (.cells #[.int .u8 0, .int .u64 0, .int .i64 0, .int .i64 0] 56)).heap.size = w.heap.size + 1 + 1 + 1 := by simp
  have H0 := Lk.mk (below_alloc (below_alloc (below_alloc (Below.refl w.heap.size w) (.cells #[.int .i64 2, .int .i64 f, .int .i64 d, .int .i64 s, .int .u8 v0, .int .u64 v1, .int .i64 v2, .int .i64 v3, .int .u64 x, .int .u8 op, .slice S sl.length sc] 58)) (.cells #[.int .u8 0, .int .u64 0, .int .i64 0, .int .i64 0] 56)) (.cells #[.int .u8 0, .int .u64 0, .int .i64 0, .int .i64 0] 56))
  have HA := Lk.mk (blk_alloc (blk_alloc (blk_new w (.cells #[.int .i64 2, .int .i64 f, .int .i64 d, .int .i64 s, .int .u8 v0, .int .u64 v1, .int .i64 v2, .int .i64 v3, .int .u64 x, .int .u8 op, .slice S sl.length sc] 58)) (.cells #[.int .u8 0, .int .u64 0, .int .i64 0, .int .i64 0] 56)) (.cells #[.int .u8 0, .int .u64 0, .int .i64 0, .int .i64 0] 56))
  have hz := blk_alloc (blk_new (w.alloc (.cells #[.int .i64 2, .int .i64 f, .int .i64 d, .int .i64 s, .int .u8 v0, .int .u64 v1, .int .i64 v2, .int .i64 v3, .int .u64 x, .int .u8 op, .slice S sl.length sc] 58)) (.cells #[.int .u8 0, .int .u64 0, .int .i64 0, .int .i64 0] 56)) (.cells #[.int .u8 0, .int .u64 0, .int .i64 0, .int .i64 0] 56)
  rw [h1] at hz
  have hb := blk_new ((w.alloc (.cells #[.int .i64 2, .int .i64 f, .int .i64 d, .int .i64 s, .int .u8 v0, .int .u64 v1, .int .i64 v2, .int .i64 v3, .int .u64 x, .int .u8 op, .slice S sl.length sc] 58)).alloc (.cells #[.int .u8 0, .int .u64 0, .int .i64 0, .int .i64 0] 56)) (.cells #[.int .u8 0, .int .u64 0, .int .i64 0, .int .i64 0] 56)
  rw [h2] at hb
  have HZ := Lk.mk hz
  have HV := Lk.mk hb
  have HC := Lk.mk (mset_bad q ent A c l d s v0 v1 v2 v3 _ (ht.below H0.out) he hw (Kd.C_below hr H0.out) hl hv hR)
  have HS3 := Lk.mk h3
  have HCL := Lk.mk (fun W (hb : Below w.heap.size w W) => Kd.C_below hr hb)
  have a0 := blk_cell HA.out 0
  have a2 := blk_cell HA.out 2
  have a3 := blk_cell HA.out 3
  have a4 := blk_cell HA.out 4
  have a5 := blk_cell HA.out 5
  have a6 := blk_cell HA.out 6
  have a7 := blk_cell HA.out 7
  simp only [List.getElem?_toArray, List.getElem?_cons_zero, List.getElem?_cons_succ] at a0 a2 a3 a4 a5 a6 a7
  clear ht he hw hr hl hl2 hv hR hvi hs9 hsz hsl hsn h1 h2 h3 hz hb
  go_enter Tryd.func27, Tryd.ntmps27
  go_wp2_with (go_at_call 71; (with_reducible refine (HC.out).mono ?_); rintro e w1 ⟨hb, u, hR, rfl⟩; obtain ⟨A', c', rfl, _, _⟩ := Kd.R_reads hR; have HRu := Lk.mk hR; have HBu := Lk.mk (below_then H0.out H0.out.size hb); have HZu := Lk.mk (blk_below HZ.out hb); have HZd := Lk.mk (blk_drew (blk_below HZ.out hb)); have HVd := Lk.mk (blk_drew (blk_below HV.out hb)); clear hb hR)
  obtain ⟨s0, s1, s2, s3, u0, u1, u2, u3⟩ := cells4z HZd.out
  obtain ⟨r0, r1, r2, r3, x0, x1, x2, x3⟩ := cells4z HZu.out
  obtain ⟨t0, t1, t2, t3⟩ := cells4v HVd.out
  go_region
  go_wp2
  have h3 := HS3.out
  exact bodyPost_ret (results_tct Tryd.results27 _ _ (w.heap.size + 1) 56 #[.int .u8 0, .int .u64 0, .int .i64 0, .int .i64 0] (0, 0) _ rfl (blk_drew (set4 HZu.out (.int .u8 0) (.int .u64 0) (.int .i64 0) (.int .i64 0))) Tryd.underlying56 rfl (by kernel_rfl)) rfl ⟨below_drew (belowF HBu.out (by omega) (.int .u8 0) (.int .u64 0) (.int .i64 0) (.int .i64 0)), A', c', rfl, Kd.C_below (R_set4 HRu.out (by omega) (.int .u8 0) (.int .u64 0) (.int .i64 0) (.int .i64 0)) (below_drew (Below.refl _ _))⟩
set_option maxRecDepth 100000 in
set_option maxHeartbeats 2000000 in
theorem does_b3 (q : Option Addr) (ent : List (Int × (List Int × List Int))) (A : Option Addr) (c : Nat) (l : List Af) (f d s v0 v1 v2 v3 x op : Int) (S : Option Addr) (sl : List Int) (sc : Nat) (w : World) (ht : TblOr w (.pointer q) ent) (he : EntIn ent) (hw : ∀ e ∈ ent, Bm.Words e.2.1) (hr : kAf.C w A l.length l) (hl : AfLen l) (hl2 : l.length < 1048576) (hv : AfIn l) (hR : ¬ RightP (tSize ent) (tPtr ent) l) (hvi : VlIn (v0, v1, v2, v3)) (hs9 : s ≤ 9223372036854775807) (hsz : tSize ent f ≤ 1048576) (hsl : ReadsInt w .i64 S sl.length sl) (hsn : ∀ j : Nat, sl.getD j 0 ≤ 9223372036854775807) :
    Calls Tryd.prog 27 #[.pointer q, .slice A l.length c, .agg #[.int .i64 3, .int .i64 f, .int .i64 d, .int .i64 s, .int .u8 v0, .int .u64 v1, .int .i64 v2, .int .i64 v3, .int .u64 x, .int .u8 op, .slice S sl.length sc]] w fun e w' => DoesL (l) (Sl.dVl) (9) w e w' := by
  have h1 : (w.alloc (.cells #[.int .i64 3, .int .i64 f, .int .i64 d, .int .i64 s, .int .u8 v0, .int .u64 v1, .int .i64 v2, .int .i64 v3, .int .u64 x, .int .u8 op, .slice S sl.length sc] 58)).heap.size = w.heap.size + 1 := by simp
  have h2 : ((w.alloc (.cells #[.int .i64 3, .int .i64 f, .int .i64 d, .int .i64 s, .int .u8 v0, .int .u64 v1, .int .i64 v2, .int .i64 v3, .int .u64 x, .int .u8 op, .slice S sl.length sc] 58)).alloc (.cells #[.int .u8 0, .int .u64 0, .int .i64 0, .int .i64 0] 56)).heap.size = w.heap.size + 1 + 1 := by simp
  have h3 : (((w.alloc (.cells #[.int .i64 3, .int .i64 f, .int .i64 d, .int .i64 s, .int .u8 v0, .int .u64 v1, .int .i64 v2, .int .i64 v3, .int .u64 x, .int .u8 op, .slice S sl.length sc] 58)).alloc (.cells #[.int .u8 0, .int .u64 0, .int .i64 0, .int .i64 0] 56)).alloc (.cells #[.int .u8 0, .int .u64 0, .int .i64 0, .int .i64 0] 56)).heap.size = w.heap.size + 1 + 1 + 1 := by simp
  have H0 := Lk.mk (below_alloc (below_alloc (below_alloc (Below.refl w.heap.size w) (.cells #[.int .i64 3, .int .i64 f, .int .i64 d, .int .i64 s, .int .u8 v0, .int .u64 v1, .int .i64 v2, .int .i64 v3, .int .u64 x, .int .u8 op, .slice S sl.length sc] 58)) (.cells #[.int .u8 0, .int .u64 0, .int .i64 0, .int .i64 0] 56)) (.cells #[.int .u8 0, .int .u64 0, .int .i64 0, .int .i64 0] 56))
  have HA := Lk.mk (blk_alloc (blk_alloc (blk_new w (.cells #[.int .i64 3, .int .i64 f, .int .i64 d, .int .i64 s, .int .u8 v0, .int .u64 v1, .int .i64 v2, .int .i64 v3, .int .u64 x, .int .u8 op, .slice S sl.length sc] 58)) (.cells #[.int .u8 0, .int .u64 0, .int .i64 0, .int .i64 0] 56)) (.cells #[.int .u8 0, .int .u64 0, .int .i64 0, .int .i64 0] 56))
  have hz := blk_alloc (blk_new (w.alloc (.cells #[.int .i64 3, .int .i64 f, .int .i64 d, .int .i64 s, .int .u8 v0, .int .u64 v1, .int .i64 v2, .int .i64 v3, .int .u64 x, .int .u8 op, .slice S sl.length sc] 58)) (.cells #[.int .u8 0, .int .u64 0, .int .i64 0, .int .i64 0] 56)) (.cells #[.int .u8 0, .int .u64 0, .int .i64 0, .int .i64 0] 56)
  rw [h1] at hz
  have hb := blk_new ((w.alloc (.cells #[.int .i64 3, .int .i64 f, .int .i64 d, .int .i64 s, .int .u8 v0, .int .u64 v1, .int .i64 v2, .int .i64 v3, .int .u64 x, .int .u8 op, .slice S sl.length sc] 58)).alloc (.cells #[.int .u8 0, .int .u64 0, .int .i64 0, .int .i64 0] 56)) (.cells #[.int .u8 0, .int .u64 0, .int .i64 0, .int .i64 0] 56)
  rw [h2] at hb
  have HZ := Lk.mk hz
  have HV := Lk.mk hb
  have HC := Lk.mk (mget_bad q ent A c l d s _ (ht.below H0.out) he hw (Kd.C_below hr H0.out) hl hv hR)
  have HS3 := Lk.mk h3
  have HCL := Lk.mk (fun W (hb : Below w.heap.size w W) => Kd.C_below hr hb)
  have a0 := blk_cell HA.out 0
  have a2 := blk_cell HA.out 2
  have a3 := blk_cell HA.out 3
  simp only [List.getElem?_toArray, List.getElem?_cons_zero, List.getElem?_cons_succ] at a0 a2 a3
  generalize (Sl.dVl) = Z at *
  obtain ⟨Z0, Z1, Z2, Z3⟩ := Z
  clear ht he hw hr hl hl2 hv hR hvi hs9 hsz hsl hsn h1 h2 h3 hz hb
  go_enter Tryd.func27, Tryd.ntmps27
  go_wp2_with (go_at_call 72; (with_reducible refine (HC.out).mono ?_); rintro e w1 ⟨hb, rfl⟩; have hb9 := below_then H0.out H0.out.size hb; have hz9 := blk_below HZ.out hb; have hv9 := blk_below HV.out hb; obtain ⟨s0, s1, s2, s3, u0, u1, u2, u3⟩ := cells4z hv9; have HBu := Lk.mk (belowF hb9 (show w.heap.size ≤ w.heap.size + 1 + 1 by omega) (.int .u8 Z0) (.int .u64 Z1) (.int .i64 Z2) (.int .i64 Z3)); have HVd := Lk.mk (blk_drew (set4 hv9 (.int .u8 Z0) (.int .u64 Z1) (.int .i64 Z2) (.int .i64 Z3))); have HZu := Lk.mk (far4 hz9 (show w.heap.size + 1 ≠ w.heap.size + 1 + 1 by omega) (.int .u8 Z0) (.int .u64 Z1) (.int .i64 Z2) (.int .i64 Z3)); have HZd := Lk.mk (blk_drew (far4 hz9 (show w.heap.size + 1 ≠ w.heap.size + 1 + 1 by omega) (.int .u8 Z0) (.int .u64 Z1) (.int .i64 Z2) (.int .i64 Z3))); clear hb hb9 hz9 hv9)
  obtain ⟨s0, s1, s2, s3, u0, u1, u2, u3⟩ := cells4z HZd.out
  obtain ⟨r0, r1, r2, r3, x0, x1, x2, x3⟩ := cells4z HZu.out
  obtain ⟨t0, t1, t2, t3⟩ := cells4v HVd.out
  go_region
  go_wp2
  have hfin := below_drew (belowF HBu.out (show w.heap.size ≤ w.heap.size + 1 by omega) (.int .u8 Z0) (.int .u64 Z1) (.int .i64 Z2) (.int .i64 Z3))
  exact bodyPost_ret (results_tct Tryd.results27 _ _ (w.heap.size + 1) 56 #[.int .u8 Z0, .int .u64 Z1, .int .i64 Z2, .int .i64 Z3] (0, 0) _ rfl (blk_drew (set4 HZu.out (.int .u8 Z0) (.int .u64 Z1) (.int .i64 Z2) (.int .i64 Z3))) Tryd.underlying56 rfl (by kernel_rfl)) rfl ⟨hfin, A, c, rfl, HCL.out _ hfin⟩
set_option maxRecDepth 100000 in
set_option maxHeartbeats 2000000 in
theorem does_b4 (q : Option Addr) (ent : List (Int × (List Int × List Int))) (A : Option Addr) (c : Nat) (l : List Af) (f d s v0 v1 v2 v3 x op : Int) (S : Option Addr) (sl : List Int) (sc : Nat) (w : World) (ht : TblOr w (.pointer q) ent) (he : EntIn ent) (hw : ∀ e ∈ ent, Bm.Words e.2.1) (hr : kAf.C w A l.length l) (hl : AfLen l) (hl2 : l.length < 1048576) (hv : AfIn l) (hR : ¬ RightP (tSize ent) (tPtr ent) l) (hvi : VlIn (v0, v1, v2, v3)) (hs9 : s ≤ 9223372036854775807) (hsz : tSize ent f ≤ 1048576) (hsl : ReadsInt w .i64 S sl.length sl) (hsn : ∀ j : Nat, sl.getD j 0 ≤ 9223372036854775807) :
    Calls Tryd.prog 27 #[.pointer q, .slice A l.length c, .agg #[.int .i64 4, .int .i64 f, .int .i64 d, .int .i64 s, .int .u8 v0, .int .u64 v1, .int .i64 v2, .int .i64 v3, .int .u64 x, .int .u8 op, .slice S sl.length sc]] w fun e w' => DoesL (l) (Sl.dVl) (9) w e w' := by
  have h1 : (w.alloc (.cells #[.int .i64 4, .int .i64 f, .int .i64 d, .int .i64 s, .int .u8 v0, .int .u64 v1, .int .i64 v2, .int .i64 v3, .int .u64 x, .int .u8 op, .slice S sl.length sc] 58)).heap.size = w.heap.size + 1 := by simp
  have h2 : ((w.alloc (.cells #[.int .i64 4, .int .i64 f, .int .i64 d, .int .i64 s, .int .u8 v0, .int .u64 v1, .int .i64 v2, .int .i64 v3, .int .u64 x, .int .u8 op, .slice S sl.length sc] 58)).alloc (.cells #[.int .u8 0, .int .u64 0, .int .i64 0, .int .i64 0] 56)).heap.size = w.heap.size + 1 + 1 := by simp
  have h3 : (((w.alloc (.cells #[.int .i64 4, .int .i64 f, .int .i64 d, .int .i64 s, .int .u8 v0, .int .u64 v1, .int .i64 v2, .int .i64 v3, .int .u64 x, .int .u8 op, .slice S sl.length sc] 58)).alloc (.cells #[.int .u8 0, .int .u64 0, .int .i64 0, .int .i64 0] 56)).alloc (.cells #[.int .u8 0, .int .u64 0, .int .i64 0, .int .i64 0] 56)).heap.size = w.heap.size + 1 + 1 + 1 := by simp
  have H0 := Lk.mk (below_alloc (below_alloc (below_alloc (Below.refl w.heap.size w) (.cells #[.int .i64 4, .int .i64 f, .int .i64 d, .int .i64 s, .int .u8 v0, .int .u64 v1, .int .i64 v2, .int .i64 v3, .int .u64 x, .int .u8 op, .slice S sl.length sc] 58)) (.cells #[.int .u8 0, .int .u64 0, .int .i64 0, .int .i64 0] 56)) (.cells #[.int .u8 0, .int .u64 0, .int .i64 0, .int .i64 0] 56))
  have HA := Lk.mk (blk_alloc (blk_alloc (blk_new w (.cells #[.int .i64 4, .int .i64 f, .int .i64 d, .int .i64 s, .int .u8 v0, .int .u64 v1, .int .i64 v2, .int .i64 v3, .int .u64 x, .int .u8 op, .slice S sl.length sc] 58)) (.cells #[.int .u8 0, .int .u64 0, .int .i64 0, .int .i64 0] 56)) (.cells #[.int .u8 0, .int .u64 0, .int .i64 0, .int .i64 0] 56))
  have hz := blk_alloc (blk_new (w.alloc (.cells #[.int .i64 4, .int .i64 f, .int .i64 d, .int .i64 s, .int .u8 v0, .int .u64 v1, .int .i64 v2, .int .i64 v3, .int .u64 x, .int .u8 op, .slice S sl.length sc] 58)) (.cells #[.int .u8 0, .int .u64 0, .int .i64 0, .int .i64 0] 56)) (.cells #[.int .u8 0, .int .u64 0, .int .i64 0, .int .i64 0] 56)
  rw [h1] at hz
  have hb := blk_new ((w.alloc (.cells #[.int .i64 4, .int .i64 f, .int .i64 d, .int .i64 s, .int .u8 v0, .int .u64 v1, .int .i64 v2, .int .i64 v3, .int .u64 x, .int .u8 op, .slice S sl.length sc] 58)).alloc (.cells #[.int .u8 0, .int .u64 0, .int .i64 0, .int .i64 0] 56)) (.cells #[.int .u8 0, .int .u64 0, .int .i64 0, .int .i64 0] 56)
  rw [h2] at hb
  have HZ := Lk.mk hz
  have HV := Lk.mk hb
  have HC := Lk.mk (mload_bad q ent A c l d s _ (ht.below H0.out) he hw (Kd.C_below hr H0.out) hl hv hR)
  have HS3 := Lk.mk h3
  have HCL := Lk.mk (fun W (hb : Below w.heap.size w W) => Kd.C_below hr hb)
  have a0 := blk_cell HA.out 0
  have a2 := blk_cell HA.out 2
  have a3 := blk_cell HA.out 3
  simp only [List.getElem?_toArray, List.getElem?_cons_zero, List.getElem?_cons_succ] at a0 a2 a3
  generalize (Sl.dVl) = Z at *
  obtain ⟨Z0, Z1, Z2, Z3⟩ := Z
  clear ht he hw hr hl hl2 hv hR hvi hs9 hsz hsl hsn h1 h2 h3 hz hb
  go_enter Tryd.func27, Tryd.ntmps27
  go_wp2_with (go_at_call 73; (with_reducible refine (HC.out).mono ?_); rintro e w1 ⟨hb, rfl⟩; have hb9 := below_then H0.out H0.out.size hb; have hz9 := blk_below HZ.out hb; have hv9 := blk_below HV.out hb; obtain ⟨s0, s1, s2, s3, u0, u1, u2, u3⟩ := cells4z hv9; have HBu := Lk.mk (belowF hb9 (show w.heap.size ≤ w.heap.size + 1 + 1 by omega) (.int .u8 Z0) (.int .u64 Z1) (.int .i64 Z2) (.int .i64 Z3)); have HVd := Lk.mk (blk_drew (set4 hv9 (.int .u8 Z0) (.int .u64 Z1) (.int .i64 Z2) (.int .i64 Z3))); have HZu := Lk.mk (far4 hz9 (show w.heap.size + 1 ≠ w.heap.size + 1 + 1 by omega) (.int .u8 Z0) (.int .u64 Z1) (.int .i64 Z2) (.int .i64 Z3)); have HZd := Lk.mk (blk_drew (far4 hz9 (show w.heap.size + 1 ≠ w.heap.size + 1 + 1 by omega) (.int .u8 Z0) (.int .u64 Z1) (.int .i64 Z2) (.int .i64 Z3))); clear hb hb9 hz9 hv9)
  obtain ⟨s0, s1, s2, s3, u0, u1, u2, u3⟩ := cells4z HZd.out
  obtain ⟨r0, r1, r2, r3, x0, x1, x2, x3⟩ := cells4z HZu.out
  obtain ⟨t0, t1, t2, t3⟩ := cells4v HVd.out
  go_region
  go_wp2
  have hfin := below_drew (belowF HBu.out (show w.heap.size ≤ w.heap.size + 1 by omega) (.int .u8 Z0) (.int .u64 Z1) (.int .i64 Z2) (.int .i64 Z3))
  exact bodyPost_ret (results_tct Tryd.results27 _ _ (w.heap.size + 1) 56 #[.int .u8 Z0, .int .u64 Z1, .int .i64 Z2, .int .i64 Z3] (0, 0) _ rfl (blk_drew (set4 HZu.out (.int .u8 Z0) (.int .u64 Z1) (.int .i64 Z2) (.int .i64 Z3))) Tryd.underlying56 rfl (by kernel_rfl)) rfl ⟨hfin, A, c, rfl, HCL.out _ hfin⟩
set_option maxRecDepth 100000 in
set_option maxHeartbeats 2000000 in
theorem does_b5 (q : Option Addr) (ent : List (Int × (List Int × List Int))) (A : Option Addr) (c : Nat) (l : List Af) (f d s v0 v1 v2 v3 x op : Int) (S : Option Addr) (sl : List Int) (sc : Nat) (w : World) (ht : TblOr w (.pointer q) ent) (he : EntIn ent) (hw : ∀ e ∈ ent, Bm.Words e.2.1) (hr : kAf.C w A l.length l) (hl : AfLen l) (hl2 : l.length < 1048576) (hv : AfIn l) (hR : ¬ RightP (tSize ent) (tPtr ent) l) (hvi : VlIn (v0, v1, v2, v3)) (hs9 : s ≤ 9223372036854775807) (hsz : tSize ent f ≤ 1048576) (hsl : ReadsInt w .i64 S sl.length sl) (hsn : ∀ j : Nat, sl.getD j 0 ≤ 9223372036854775807) :
    Calls Tryd.prog 27 #[.pointer q, .slice A l.length c, .agg #[.int .i64 5, .int .i64 f, .int .i64 d, .int .i64 s, .int .u8 v0, .int .u64 v1, .int .i64 v2, .int .i64 v3, .int .u64 x, .int .u8 op, .slice S sl.length sc]] w fun e w' => DoesL (l) (Sl.dVl) (9) w e w' := by
  have h1 : (w.alloc (.cells #[.int .i64 5, .int .i64 f, .int .i64 d, .int .i64 s, .int .u8 v0, .int .u64 v1, .int .i64 v2, .int .i64 v3, .int .u64 x, .int .u8 op, .slice S sl.length sc] 58)).heap.size = w.heap.size + 1 := by simp
  have h2 : ((w.alloc (.cells #[.int .i64 5, .int .i64 f, .int .i64 d, .int .i64 s, .int .u8 v0, .int .u64 v1, .int .i64 v2, .int .i64 v3, .int .u64 x, .int .u8 op, .slice S sl.length sc] 58)).alloc (.cells #[.int .u8 0, .int .u64 0, .int .i64 0, .int .i64 0] 56)).heap.size = w.heap.size + 1 + 1 := by simp
  have h3 : (((w.alloc (.cells #[.int .i64 5, .int .i64 f, .int .i64 d, .int .i64 s, .int .u8 v0, .int .u64 v1, .int .i64 v2, .int .i64 v3, .int .u64 x, .int .u8 op, .slice S sl.length sc] 58)).alloc (.cells #[.int .u8 0, .int .u64 0, .int .i64 0, .int .i64 0] 56)).alloc (.cells #[.int .u8 0, .int .u64 0, .int .i64 0, .int .i64 0] 56)).heap.size = w.heap.size + 1 + 1 + 1 := by simp
  have H0 := Lk.mk (below_alloc (below_alloc (below_alloc (Below.refl w.heap.size w) (.cells #[.int .i64 5, .int .i64 f, .int .i64 d, .int .i64 s, .int .u8 v0, .int .u64 v1, .int .i64 v2, .int .i64 v3, .int .u64 x, .int .u8 op, .slice S sl.length sc] 58)) (.cells #[.int .u8 0, .int .u64 0, .int .i64 0, .int .i64 0] 56)) (.cells #[.int .u8 0, .int .u64 0, .int .i64 0, .int .i64 0] 56))
  have HA := Lk.mk (blk_alloc (blk_alloc (blk_new w (.cells #[.int .i64 5, .int .i64 f, .int .i64 d, .int .i64 s, .int .u8 v0, .int .u64 v1, .int .i64 v2, .int .i64 v3, .int .u64 x, .int .u8 op, .slice S sl.length sc] 58)) (.cells #[.int .u8 0, .int .u64 0, .int .i64 0, .int .i64 0] 56)) (.cells #[.int .u8 0, .int .u64 0, .int .i64 0, .int .i64 0] 56))
  have hz := blk_alloc (blk_new (w.alloc (.cells #[.int .i64 5, .int .i64 f, .int .i64 d, .int .i64 s, .int .u8 v0, .int .u64 v1, .int .i64 v2, .int .i64 v3, .int .u64 x, .int .u8 op, .slice S sl.length sc] 58)) (.cells #[.int .u8 0, .int .u64 0, .int .i64 0, .int .i64 0] 56)) (.cells #[.int .u8 0, .int .u64 0, .int .i64 0, .int .i64 0] 56)
  rw [h1] at hz
  have hb := blk_new ((w.alloc (.cells #[.int .i64 5, .int .i64 f, .int .i64 d, .int .i64 s, .int .u8 v0, .int .u64 v1, .int .i64 v2, .int .i64 v3, .int .u64 x, .int .u8 op, .slice S sl.length sc] 58)).alloc (.cells #[.int .u8 0, .int .u64 0, .int .i64 0, .int .i64 0] 56)) (.cells #[.int .u8 0, .int .u64 0, .int .i64 0, .int .i64 0] 56)
  rw [h2] at hb
  have HZ := Lk.mk hz
  have HV := Lk.mk hb
  have HC := Lk.mk (mwrite_bad q ent A c l d s x _ (ht.below H0.out) he hw (Kd.C_below hr H0.out) hl hv hR)
  have HS3 := Lk.mk h3
  have HCL := Lk.mk (fun W (hb : Below w.heap.size w W) => Kd.C_below hr hb)
  have a0 := blk_cell HA.out 0
  have a2 := blk_cell HA.out 2
  have a3 := blk_cell HA.out 3
  have a8 := blk_cell HA.out 8
  simp only [List.getElem?_toArray, List.getElem?_cons_zero, List.getElem?_cons_succ] at a0 a2 a3 a8
  clear ht he hw hr hl hl2 hv hR hvi hs9 hsz hsl hsn h1 h2 h3 hz hb
  go_enter Tryd.func27, Tryd.ntmps27
  go_wp2_with (go_at_call 74; (with_reducible refine (HC.out).mono ?_); rintro e w1 ⟨hb, u, hR, rfl⟩; obtain ⟨A', c', rfl, _, _⟩ := Kd.R_reads hR; have HRu := Lk.mk hR; have HBu := Lk.mk (below_then H0.out H0.out.size hb); have HZu := Lk.mk (blk_below HZ.out hb); have HZd := Lk.mk (blk_drew (blk_below HZ.out hb)); have HVd := Lk.mk (blk_drew (blk_below HV.out hb)); clear hb hR)
  obtain ⟨s0, s1, s2, s3, u0, u1, u2, u3⟩ := cells4z HZd.out
  obtain ⟨r0, r1, r2, r3, x0, x1, x2, x3⟩ := cells4z HZu.out
  obtain ⟨t0, t1, t2, t3⟩ := cells4v HVd.out
  go_region
  go_wp2
  have h3 := HS3.out
  exact bodyPost_ret (results_tct Tryd.results27 _ _ (w.heap.size + 1) 56 #[.int .u8 0, .int .u64 0, .int .i64 0, .int .i64 0] (0, 0) _ rfl (blk_drew (set4 HZu.out (.int .u8 0) (.int .u64 0) (.int .i64 0) (.int .i64 0))) Tryd.underlying56 rfl (by kernel_rfl)) rfl ⟨below_drew (belowF HBu.out (by omega) (.int .u8 0) (.int .u64 0) (.int .i64 0) (.int .i64 0)), A', c', rfl, Kd.C_below (R_set4 HRu.out (by omega) (.int .u8 0) (.int .u64 0) (.int .i64 0) (.int .i64 0)) (below_drew (Below.refl _ _))⟩
set_option maxRecDepth 100000 in
set_option maxHeartbeats 2000000 in
theorem does_bkd (q : Option Addr) (ent : List (Int × (List Int × List Int))) (A : Option Addr) (c : Nat) (l : List Af) (kd : Int) (hk : ¬ kd = 0 ∧ ¬ kd = 1 ∧ ¬ kd = 2 ∧ ¬ kd = 3 ∧ ¬ kd = 4 ∧ ¬ kd = 5) (f d s v0 v1 v2 v3 x op : Int) (S : Option Addr) (sl : List Int) (sc : Nat) (w : World) (ht : TblOr w (.pointer q) ent) (he : EntIn ent) (hw : ∀ e ∈ ent, Bm.Words e.2.1) (hr : kAf.C w A l.length l) (hl : AfLen l) (hl2 : l.length < 1048576) (hv : AfIn l) (hR : ¬ RightP (tSize ent) (tPtr ent) l) (hvi : VlIn (v0, v1, v2, v3)) (hs9 : s ≤ 9223372036854775807) (hsz : tSize ent f ≤ 1048576) (hsl : ReadsInt w .i64 S sl.length sl) (hsn : ∀ j : Nat, sl.getD j 0 ≤ 9223372036854775807) :
    Calls Tryd.prog 27 #[.pointer q, .slice A l.length c, .agg #[.int .i64 kd, .int .i64 f, .int .i64 d, .int .i64 s, .int .u8 v0, .int .u64 v1, .int .i64 v2, .int .i64 v3, .int .u64 x, .int .u8 op, .slice S sl.length sc]] w fun e w' => DoesL (l) (Sl.dVl) (9) w e w' := by
  have h1 : (w.alloc (.cells #[.int .i64 kd, .int .i64 f, .int .i64 d, .int .i64 s, .int .u8 v0, .int .u64 v1, .int .i64 v2, .int .i64 v3, .int .u64 x, .int .u8 op, .slice S sl.length sc] 58)).heap.size = w.heap.size + 1 := by simp
  have h2 : ((w.alloc (.cells #[.int .i64 kd, .int .i64 f, .int .i64 d, .int .i64 s, .int .u8 v0, .int .u64 v1, .int .i64 v2, .int .i64 v3, .int .u64 x, .int .u8 op, .slice S sl.length sc] 58)).alloc (.cells #[.int .u8 0, .int .u64 0, .int .i64 0, .int .i64 0] 56)).heap.size = w.heap.size + 1 + 1 := by simp
  have h3 : (((w.alloc (.cells #[.int .i64 kd, .int .i64 f, .int .i64 d, .int .i64 s, .int .u8 v0, .int .u64 v1, .int .i64 v2, .int .i64 v3, .int .u64 x, .int .u8 op, .slice S sl.length sc] 58)).alloc (.cells #[.int .u8 0, .int .u64 0, .int .i64 0, .int .i64 0] 56)).alloc (.cells #[.int .u8 0, .int .u64 0, .int .i64 0, .int .i64 0] 56)).heap.size = w.heap.size + 1 + 1 + 1 := by simp
  have H0 := Lk.mk (below_alloc (below_alloc (below_alloc (Below.refl w.heap.size w) (.cells #[.int .i64 kd, .int .i64 f, .int .i64 d, .int .i64 s, .int .u8 v0, .int .u64 v1, .int .i64 v2, .int .i64 v3, .int .u64 x, .int .u8 op, .slice S sl.length sc] 58)) (.cells #[.int .u8 0, .int .u64 0, .int .i64 0, .int .i64 0] 56)) (.cells #[.int .u8 0, .int .u64 0, .int .i64 0, .int .i64 0] 56))
  have HA := Lk.mk (blk_alloc (blk_alloc (blk_new w (.cells #[.int .i64 kd, .int .i64 f, .int .i64 d, .int .i64 s, .int .u8 v0, .int .u64 v1, .int .i64 v2, .int .i64 v3, .int .u64 x, .int .u8 op, .slice S sl.length sc] 58)) (.cells #[.int .u8 0, .int .u64 0, .int .i64 0, .int .i64 0] 56)) (.cells #[.int .u8 0, .int .u64 0, .int .i64 0, .int .i64 0] 56))
  have hz := blk_alloc (blk_new (w.alloc (.cells #[.int .i64 kd, .int .i64 f, .int .i64 d, .int .i64 s, .int .u8 v0, .int .u64 v1, .int .i64 v2, .int .i64 v3, .int .u64 x, .int .u8 op, .slice S sl.length sc] 58)) (.cells #[.int .u8 0, .int .u64 0, .int .i64 0, .int .i64 0] 56)) (.cells #[.int .u8 0, .int .u64 0, .int .i64 0, .int .i64 0] 56)
  rw [h1] at hz
  have hb := blk_new ((w.alloc (.cells #[.int .i64 kd, .int .i64 f, .int .i64 d, .int .i64 s, .int .u8 v0, .int .u64 v1, .int .i64 v2, .int .i64 v3, .int .u64 x, .int .u8 op, .slice S sl.length sc] 58)).alloc (.cells #[.int .u8 0, .int .u64 0, .int .i64 0, .int .i64 0] 56)) (.cells #[.int .u8 0, .int .u64 0, .int .i64 0, .int .i64 0] 56)
  rw [h2] at hb
  have HZ := Lk.mk hz
  have HV := Lk.mk hb
  have HC := Lk.mk (mcalc_bad q ent A c l op d S sl.length sc _ (ht.below H0.out) he hw (Kd.C_below hr H0.out) hl hv hR)
  have HS3 := Lk.mk h3
  have HCL := Lk.mk (fun W (hb : Below w.heap.size w W) => Kd.C_below hr hb)
  obtain ⟨k0, k1, k2, k3, k4, k5⟩ := hk
  have a0 := blk_cell HA.out 0
  have a2 := blk_cell HA.out 2
  have a9 := blk_cell HA.out 9
  have a10 := blk_cell HA.out 10
  simp only [List.getElem?_toArray, List.getElem?_cons_zero, List.getElem?_cons_succ] at a0 a2 a9 a10
  clear ht he hw hr hl hl2 hv hR hvi hs9 hsz hsl hsn h1 h2 h3 hz hb
  go_enter Tryd.func27, Tryd.ntmps27
  go_wp2_with (go_at_call 75; (with_reducible refine (HC.out).mono ?_); rintro e w1 ⟨hb, u, hR, rfl⟩; obtain ⟨A', c', rfl, _, _⟩ := Kd.R_reads hR; have HRu := Lk.mk hR; have HBu := Lk.mk (below_then H0.out H0.out.size hb); have HZu := Lk.mk (blk_below HZ.out hb); have HZd := Lk.mk (blk_drew (blk_below HZ.out hb)); have HVd := Lk.mk (blk_drew (blk_below HV.out hb)); clear hb hR)
  obtain ⟨s0, s1, s2, s3, u0, u1, u2, u3⟩ := cells4z HZd.out
  obtain ⟨r0, r1, r2, r3, x0, x1, x2, x3⟩ := cells4z HZu.out
  obtain ⟨t0, t1, t2, t3⟩ := cells4v HVd.out
  go_region
  go_wp2
  have h3 := HS3.out
  exact bodyPost_ret (results_tct Tryd.results27 _ _ (w.heap.size + 1) 56 #[.int .u8 0, .int .u64 0, .int .i64 0, .int .i64 0] (0, 0) _ rfl (blk_drew (set4 HZu.out (.int .u8 0) (.int .u64 0) (.int .i64 0) (.int .i64 0))) Tryd.underlying56 rfl (by kernel_rfl)) rfl ⟨below_drew (belowF HBu.out (by omega) (.int .u8 0) (.int .u64 0) (.int .i64 0) (.int .i64 0)), A', c', rfl, Kd.C_below (R_set4 HRu.out (by omega) (.int .u8 0) (.int .u64 0) (.int .i64 0) (.int .i64 0)) (below_drew (Below.refl _ _))⟩
/-- what an act leaves, what it tells, and its error -/
noncomputable def actL (ent : List (Int × (List Int × List Int))) (l : List Af) (kd f d s : Int) (v : Sl.Vl) (x op : Int) (sl : List Int) : List Af :=
  if kd = 0 then (if 0 ≤ tSize ent f then l ++ [(f, newsL ent f)] else l) else if kd = 1 then (if 1 < l.length then l.take (l.length - 1) else l) else if kd = 2 then setR (tPtr ent) l d s v else if kd = 3 then l else if kd = 4 then l else if kd = 5 then writeR (tPtr ent) l d s x else calcR (tPtr ent) l op d sl
def actZ (ent : List (Int × (List Int × List Int))) (l : List Af) (kd d s : Int) : Sl.Vl := if kd = 3 then getZ l d s else if kd = 4 then loadZ (tPtr ent) l d s else Sl.dVl
noncomputable def actN (ent : List (Int × (List Int × List Int))) (l : List Af) (kd f d s : Int) (v : Sl.Vl) (op : Int) (sl : List Int) : Int :=
  if kd = 0 then (if 0 ≤ tSize ent f then 0 else 1) else if kd = 1 then (if 1 < l.length then 0 else 8) else if kd = 2 then setN (tPtr ent) l d s v else if kd = 3 then getN l d s else if kd = 4 then refersN (tPtr ent) l d s else if kd = 5 then writeN (tPtr ent) l d s else calcN (tPtr ent) l op d sl
theorem does_any (q : Option Addr) (ent : List (Int × (List Int × List Int))) (A : Option Addr) (c : Nat) (l : List Af) (kd : Int) (f d s v0 v1 v2 v3 x op : Int) (S : Option Addr) (sl : List Int) (sc : Nat) (w : World) (ht : TblOr w (.pointer q) ent) (he : EntIn ent) (hw : ∀ e ∈ ent, Bm.Words e.2.1) (hr : kAf.C w A l.length l) (hl : AfLen l) (hl2 : l.length < 1048576) (hv : AfIn l) (hR : RightP (tSize ent) (tPtr ent) l) (hvi : VlIn (v0, v1, v2, v3)) (hs9 : s ≤ 9223372036854775807) (hsz : tSize ent f ≤ 1048576) (hsl : ReadsInt w .i64 S sl.length sl) (hsn : ∀ j : Nat, sl.getD j 0 ≤ 9223372036854775807) :
    Calls Tryd.prog 27 #[.pointer q, .slice A l.length c, .agg #[.int .i64 kd, .int .i64 f, .int .i64 d, .int .i64 s, .int .u8 v0, .int .u64 v1, .int .i64 v2, .int .i64 v3, .int .u64 x, .int .u8 op, .slice S sl.length sc]] w fun e w' => DoesL (actL ent l kd f d s (v0, v1, v2, v3) x op sl) (actZ ent l kd d s) (actN ent l kd f d s (v0, v1, v2, v3) op sl) w e w' := by
  unfold actL actZ actN
  by_cases k0 : kd = 0
  · subst k0
    exact does_a0 q ent A c l f d s v0 v1 v2 v3 x op S sl sc w ht he hw hr hl hl2 hv hR hvi hs9 hsz hsl hsn
  · skip
    by_cases k1 : kd = 1
    · subst k1
      exact does_a1 q ent A c l f d s v0 v1 v2 v3 x op S sl sc w ht he hw hr hl hl2 hv hR hvi hs9 hsz hsl hsn
    · skip
      by_cases k2 : kd = 2
      · subst k2
        exact does_a2 q ent A c l f d s v0 v1 v2 v3 x op S sl sc w ht he hw hr hl hl2 hv hR hvi hs9 hsz hsl hsn
      · skip
        by_cases k3 : kd = 3
        · subst k3
          exact does_a3 q ent A c l f d s v0 v1 v2 v3 x op S sl sc w ht he hw hr hl hl2 hv hR hvi hs9 hsz hsl hsn
        · skip
          by_cases k4 : kd = 4
          · subst k4
            exact does_a4 q ent A c l f d s v0 v1 v2 v3 x op S sl sc w ht he hw hr hl hl2 hv hR hvi hs9 hsz hsl hsn
          · skip
            by_cases k5 : kd = 5
            · subst k5
              exact does_a5 q ent A c l f d s v0 v1 v2 v3 x op S sl sc w ht he hw hr hl hl2 hv hR hvi hs9 hsz hsl hsn
            · skip
              rw [if_neg k0, if_neg k1, if_neg k2, if_neg k3, if_neg k4, if_neg k5, if_neg k3, if_neg k4, if_neg k0, if_neg k1, if_neg k2, if_neg k3, if_neg k4, if_neg k5]
              exact does_akd q ent A c l kd ⟨k0, k1, k2, k3, k4, k5⟩ f d s v0 v1 v2 v3 x op S sl sc w ht he hw hr hl hl2 hv hR hvi hs9 hsz hsl hsn
theorem does_bad (q : Option Addr) (ent : List (Int × (List Int × List Int))) (A : Option Addr) (c : Nat) (l : List Af) (kd : Int) (f d s v0 v1 v2 v3 x op : Int) (S : Option Addr) (sl : List Int) (sc : Nat) (w : World) (ht : TblOr w (.pointer q) ent) (he : EntIn ent) (hw : ∀ e ∈ ent, Bm.Words e.2.1) (hr : kAf.C w A l.length l) (hl : AfLen l) (hl2 : l.length < 1048576) (hv : AfIn l) (hR : ¬ RightP (tSize ent) (tPtr ent) l) (hvi : VlIn (v0, v1, v2, v3)) (hs9 : s ≤ 9223372036854775807) (hsz : tSize ent f ≤ 1048576) (hsl : ReadsInt w .i64 S sl.length sl) (hsn : ∀ j : Nat, sl.getD j 0 ≤ 9223372036854775807) :
    Calls Tryd.prog 27 #[.pointer q, .slice A l.length c, .agg #[.int .i64 kd, .int .i64 f, .int .i64 d, .int .i64 s, .int .u8 v0, .int .u64 v1, .int .i64 v2, .int .i64 v3, .int .u64 x, .int .u8 op, .slice S sl.length sc]] w fun e w' => DoesL (l) (Sl.dVl) (9) w e w' := by
  by_cases k0 : kd = 0
  · subst k0
    exact does_b0 q ent A c l f d s v0 v1 v2 v3 x op S sl sc w ht he hw hr hl hl2 hv hR hvi hs9 hsz hsl hsn
  · skip
    by_cases k1 : kd = 1
    · subst k1
      exact does_b1 q ent A c l f d s v0 v1 v2 v3 x op S sl sc w ht he hw hr hl hl2 hv hR hvi hs9 hsz hsl hsn
    · skip
      by_cases k2 : kd = 2
      · subst k2
        exact does_b2 q ent A c l f d s v0 v1 v2 v3 x op S sl sc w ht he hw hr hl hl2 hv hR hvi hs9 hsz hsl hsn
      · skip
        by_cases k3 : kd = 3
        · subst k3
          exact does_b3 q ent A c l f d s v0 v1 v2 v3 x op S sl sc w ht he hw hr hl hl2 hv hR hvi hs9 hsz hsl hsn
        · skip
          by_cases k4 : kd = 4
          · subst k4
            exact does_b4 q ent A c l f d s v0 v1 v2 v3 x op S sl sc w ht he hw hr hl hl2 hv hR hvi hs9 hsz hsl hsn
          · skip
            by_cases k5 : kd = 5
            · subst k5
              exact does_b5 q ent A c l f d s v0 v1 v2 v3 x op S sl sc w ht he hw hr hl hl2 hv hR hvi hs9 hsz hsl hsn
            · skip
              exact does_bkd q ent A c l kd ⟨k0, k1, k2, k3, k4, k5⟩ f d s v0 v1 v2 v3 x op S sl sc w ht he hw hr hl hl2 hv hR hvi hs9 hsz hsl hsn
end Go.Proofs.YtcepafllgjnngaaDoor
