/-
  Several texts as one.
-/
import Derived.Test.YtcepafllgjnngaaDoorTa
import Derived.Test.YtcepafllgjnngaaDoorK7
import Derived.Test.YtcepafllgjnngaaDoorPx
import Derived.Test.YtcepafllgjnngaaDoorSb
import Derived.Test.YtcepafllgjnngaaDoorSe
import Derived.Laws.Rows
import Derived.StillTailTactics
/-
  The walks of the model's Right and change at a row that is not right; conditions: the row and the table read as told.
-/
namespace Go.Proofs.YtcepafllgjnngaaDoor
open Go.RowKit Go.Proofs.YtcepafllgjnngaaDoorW.PrintWords

set_option maxRecDepth 100000 in
set_option maxHeartbeats 2000000 in
theorem mRight_bad (p : Value) (ent : List (Int × (List Int × List Int))) (A : Option Addr) (c : Nat) (l : List Af) (w : World) (ht : TblOr w p ent) (he : EntIn ent) (hw : ∀ e ∈ ent, Bm.Words e.2.1) (hr : kAf.C w A l.length l) (hv : AfIn l) (hR : ¬ RightP (tSize ent) (tPtr ent) l) :
    Calls Tryd.prog 154 #[p, .slice A l.length c] w fun e w' => e = .returned (.bool false) ∧ Below w.heap.size w w' := by
  obtain ⟨q, rfl⟩ : ∃ q, p = .pointer q := by rcases ht with ⟨e, _⟩ | ⟨g2, _, _, e, _⟩ <;> exact ⟨_, e⟩
  have H := Lk.mk (mright_bad (.pointer q) ent A c l w ht he hw hr hv hR)
  clear ht hw hr hv hR he
  go_enter Tryd.func154, Tryd.ntmps154
  go_wp2_with (go_at_call 171; (with_reducible refine (H.out).mono ?_); rintro e w1 ⟨⟨n, hn, rfl⟩, hb⟩; have hb9 : (n == 0) = false := beq_false_of_ne hn; clear hn)
  go_ret
  exact ⟨rfl, hb⟩
set_option maxRecDepth 100000 in
set_option maxHeartbeats 2000000 in
theorem mchange_bad (q : Option Addr) (ent : List (Int × (List Int × List Int))) (g : Nat) (lb : Array Value) (A : Option Addr) (c : Nat) (l : List Af) (w : World) (ht : TblOr w (.pointer q) ent) (he : EntIn ent) (hw : ∀ e ∈ ent, Bm.Words e.2.1) (hr : kAf.C w A l.length l) (hl : AfLen l) (hv : AfIn l) (hR : ¬ RightP (tSize ent) (tPtr ent) l) :
    Calls Tryd.prog 110 #[.pointer q, .slice A l.length c, .func (.func g) #[] lb] w fun e w' => Below w.heap.size w w' ∧ ∃ v, kAf.R 113 w' w.heap.size (fun _ => True) v l ∧ e = .returned (.tuple #[v, .int .i64 9]) := by
  have hs1 : (w.alloc (.cells #[.slice A l.length c] 42)).heap.size = w.heap.size + 1 := by simp
  have hs2 : ((w.alloc (.cells #[.slice A l.length c] 42)).alloc (.cells #[.slice none 0 0] 42)).heap.size = w.heap.size + 1 + 1 := by simp
  have hs3 : (((w.alloc (.cells #[.slice A l.length c] 42)).alloc (.cells #[.slice none 0 0] 42)).alloc (.cells #[.int .i64 0] 30)).heap.size = w.heap.size + 1 + 1 + 1 := by simp
  have H0 := Lk.mk (below_alloc (below_alloc (below_alloc (Below.refl w.heap.size w) (.cells #[.slice A l.length c] 42)) (.cells #[.slice none 0 0] 42)) (.cells #[.int .i64 0] 30))
  have HL0 := Lk.mk (blk_alloc (blk_alloc (blk_new w (.cells #[.slice A l.length c] 42)) (.cells #[.slice none 0 0] 42)) (.cells #[.int .i64 0] 30))
  have ho0 := blk_alloc (blk_new (w.alloc (.cells #[.slice A l.length c] 42)) (.cells #[.slice none 0 0] 42)) (.cells #[.int .i64 0] 30)
  rw [hs1] at ho0
  have HO0 := Lk.mk ho0
  have he0 := blk_new ((w.alloc (.cells #[.slice A l.length c] 42)).alloc (.cells #[.slice none 0 0] 42)) (.cells #[.int .i64 0] 30)
  rw [hs2] at he0
  have HE0 := Lk.mk he0
  have hcl := mclone_any A c l _ (Kd.C_below hr H0.out) hl
  rw [hs3] at hcl
  have HCL := Lk.mk hcl
  have HRT := Lk.mk (fun W (hb : Below w.heap.size w W) => mRight_bad (.pointer q) ent A c l W (ht.below hb) he hw (Kd.C_below hr hb) hv hR)
  have HRC := Lk.mk hr
  have HLN := Lk.mk hl
  have HS3 := Lk.mk hs3
  have hl0c := blk_cell HL0.out 0
  simp only [List.getElem?_toArray, List.getElem?_cons_zero] at hl0c
  clear ht hw hr hl hv hR he hcl ho0 he0 hs1 hs2 hs3
  go_enter_defers Tryd.func110, Tryd.ntmps110
  go_wp2_with (first
    | (go_at_call 151; (with_reducible refine (HCL.out).mono ?_); rintro e w1 ⟨v, rfl, hR, hb⟩; obtain ⟨A1, c1, rfl, _, _⟩ := Kd.R_reads hR; have HR1 := Lk.mk hR; have HB1 := Lk.mk (below_then H0.out H0.out.size (HS3.out ▸ hb)); have HL1 := Lk.mk (blk_below HL0.out (HS3.out ▸ hb)); have HO1 := Lk.mk (blk_below HO0.out (HS3.out ▸ hb)); have HE1 := Lk.mk (blk_below HE0.out (HS3.out ▸ hb)); have hsz1 : w.heap.size + 1 + 1 + 1 ≤ w1.heap.size := HS3.out ▸ hb.size; have hl1c := blk_cell (blk_alloc HL1.out (.cells #[.pointer q, .slice A1 l.length c1] 179)) 0; simp only [List.getElem?_toArray, List.getElem?_cons_zero] at hl1c; have HBa := Lk.mk (below_alloc HB1.out (.cells #[.pointer q, .slice A1 l.length c1] 179)); clear hb hR)
    | (go_at_call 154; (with_reducible refine (HRT.out _ HBa.out).mono ?_); rintro e w3 ⟨rfl, hb⟩; have HB3 := Lk.mk (below_then HBa.out HBa.out.size hb); have HX3 := Lk.mk (blk_below (blk_new w1 (.cells #[.pointer q, .slice A1 l.length c1] 179)) hb); have HR3 := Lk.mk (Kd.R_below (Kd.R_alloc (Kd.R_mono (Kd.R_bound HR1.out) (fun k hk => hk.2.2.1)) (.cells #[.pointer q, .slice A1 l.length c1] 179)) hb); have HL3 := Lk.mk (blk_below (blk_alloc HL1.out (.cells #[.pointer q, .slice A1 l.length c1] 179)) hb); have HO3 := Lk.mk (blk_below (blk_alloc HO1.out (.cells #[.pointer q, .slice A1 l.length c1] 179)) hb); have HE3 := Lk.mk (blk_below (blk_alloc HE1.out (.cells #[.pointer q, .slice A1 l.length c1] 179)) hb); have hsz3 : w1.heap.size ≤ w3.heap.size := Nat.le_trans (by simp) hb.size; clear hb)
    | (go_at_call 112; (with_reducible refine (mmust_no _ _).mono ?_); rintro e w' ⟨rfl, hw⟩; obtain rfl := hw.symm; clear hw))
  have ec := blk_cell HE3.out 0
  have ez := blk_frozen HE3.out 0
  simp only [List.getElem?_toArray, List.getElem?_cons_zero] at ec
  have HW5 := Lk.mk (blk_alloc HE3.out (.cells #[.int .i64 9] 205))
  have HE5 := Lk.mk (blk_put (cs' := #[.int .i64 9]) HW5.out 0 (.int .i64 9) rfl)
  have HO5 := Lk.mk ((Below.heap_setCell (w3.alloc (.cells #[.int .i64 9] 205)) ⟨w.heap.size + 1 + 1, 0, none⟩ (.int .i64 9) _ (by show w.heap.size + 1 ≠ w.heap.size + 1 + 1; omega)).trans (blk_alloc HO3.out (.cells #[.int .i64 9] 205)))
  have HL5 := Lk.mk ((Below.heap_setCell (w3.alloc (.cells #[.int .i64 9] 205)) ⟨w.heap.size + 1 + 1, 0, none⟩ (.int .i64 9) _ (by show w.heap.size ≠ w.heap.size + 1 + 1; omega)).trans (blk_alloc HL3.out (.cells #[.int .i64 9] 205)))
  have HB5 := Lk.mk ((below_alloc HB3.out (.cells #[.int .i64 9] 205)).setCell (p := ⟨w.heap.size + 1 + 1, 0, none⟩) (by show w.heap.size ≤ w.heap.size + 1 + 1; omega) (.int .i64 9))
  refine leaves_cons (f := 153) (args := #[.pointer (some ⟨w.heap.size + 1 + 1, 0, none⟩)]) (by simp) (by simp [go_sem]) ?_
  refine (mcaught_thrown (w.heap.size + 1 + 1) (.int .i64 0) 9 _ ec ez).mono ?_
  rintro e u' w'' ⟨rfl, rfl, rfl⟩
  simp only [settle, List.dropWhile]
  refine leaves_cons (f := 152) (args := #[.pointer (some ⟨w.heap.size + 1 + 1, 0, none⟩), .pointer (some ⟨w.heap.size, 0, none⟩), .pointer (some ⟨w.heap.size + 1, 0, none⟩)]) (by simp) (by simp [go_sem]) ?_
  refine (mch1_err _ _ _ _ 9 A c l _ _ (by decide) HE5.out HL5.out HO5.out (Kd.C_below HRC.out HB5.out) HLN.out).mono ?_
  rintro e u' w'' ⟨rfl, rfl, v, w6, hR, hb, rfl⟩
  have HE6 := Lk.mk (blk_below HE5.out hb)
  have HO6 := Lk.mk (blk_below HO5.out hb)
  have HO7 := Lk.mk (blk_put (cs' := #[v]) HO6.out 0 v rfl)
  have HE7 := Lk.mk ((Below.heap_setCell w6 ⟨w.heap.size + 1, 0, none⟩ v _ (by show w.heap.size + 1 + 1 ≠ w.heap.size + 1; omega)).trans HE6.out)
  have or6 := blk_cell HO7.out 0
  have er6 := blk_cell HE7.out 0
  simp only [List.getElem?_toArray, List.getElem?_cons_zero] at or6 er6
  have HB7 := Lk.mk ((below_then HB5.out HB5.out.size hb).setCell (p := ⟨w.heap.size + 1, 0, none⟩) (Nat.le_succ _) v)
  have hsz5 : w.heap.size + 1 + 1 < ((w3.alloc (.cells #[.int .i64 9] 205)).setCell ⟨w.heap.size + 1 + 1, 0, none⟩ (.int .i64 9)).heap.size := blk_lt HE5.out
  have HR7 := Lk.mk (Kd.R_far (Kd.R_mono (Kd.R_bound hR) (fun k hk => hk.2.1)) (p := ⟨w.heap.size + 1, 0, none⟩) (fun k hk => by show k ≠ w.heap.size + 1; omega) v)
  simp [Leaves, settle, results, Tryd.results110, go_sem]
  refine ⟨.tuple #[v, .int .i64 9], ?_, HB7.out, v, Kd.R_lower (Kd.R_mono HR7.out (fun _ _ => trivial)) (by omega), rfl⟩
  rw [or6]
  dsimp only [Result.andThen]
  rw [er6]
end Go.Proofs.YtcepafllgjnngaaDoor

/-
  The walk of the model's ask; conditions: the row and the table read as told.
-/
namespace Go.Proofs.YtcepafllgjnngaaDoor
open Go.RowKit Go.Proofs.YtcepafllgjnngaaDoorW.PrintWords

/-- ask's way out: what its named results hold -/
theorem ask_out {W : World} {tmps : Array Value} {R : Ending → World → Prop} {u : FrameMode} {v0 v1 v2 v3 n : Int} {g : Nat} (hu : u = .returning) (hV : W.heap[g]? = some (.cells #[.int .u8 v0, .int .u64 v1, .int .i64 v2, .int .i64 v3] 56 (0, 0))) (hE : W.heap[g + 1]? = some (.cells #[.int .i64 n] 30 (0, 0))) (h6 : tmps[6]?.getD undef = .pointer (some ⟨g, 0, none⟩)) (h7 : tmps[7]?.getD undef = .pointer (some ⟨g + 1, 0, none⟩)) (hR : R (.returned (.tuple #[.agg #[.int .u8 v0, .int .u64 v1, .int .i64 v2, .int .i64 v3], .int .i64 n])) W) :
    Leaves Tryd.prog Tryd.f119 tmps R [] u W := by
  subst hu
  refine ⟨.tuple #[.agg #[.int .u8 v0, .int .u64 v1, .int .i64 v2, .int .i64 v3], .int .i64 n], ?_, hR⟩
  obtain ⟨x0, x1, x2, x3⟩ := cells4v hV
  have hc := blk_cell hE 0
  simp only [List.getElem?_toArray, List.getElem?_cons_zero] at hc
  simp [results, Tryd.results119, h6, h7, asAddr, go_sem, x0, x1, x2, x3, hc, Result.andThen]
/-- what a question answers: a value, or what it throws -/
def AskL (res : Sl.Vl → Prop) (err : Int → Prop) (W : World) (e : Ending) (W' : World) : Prop :=
  Below W.heap.size W W' ∧ ((∃ v0 v1 v2 v3 : Int, res (v0, v1, v2, v3) ∧ e = .returned (.agg #[.int .u8 v0, .int .u64 v1, .int .i64 v2, .int .i64 v3])) ∨ ∃ n, ¬ n = 0 ∧ err n ∧ e = .panicked (wrongC n))
theorem AskL.open_ {res : Sl.Vl → Prop} {err : Int → Prop} {W W' : World} {e : Ending} (h : AskL res err W e W') : Below W.heap.size W W' ∧ ((∃ v0 v1 v2 v3 : Int, res (v0, v1, v2, v3) ∧ e = .returned (.agg #[.int .u8 v0, .int .u64 v1, .int .i64 v2, .int .i64 v3])) ∨ ∃ n, ¬ n = 0 ∧ err n ∧ e = .panicked (wrongC n)) := h
theorem askW {w W : World} {n : Int} (hE : W.heap[w.heap.size + 1]? = some (.cells #[.int .i64 0] 30 (0, 0))) (hV : W.heap[w.heap.size]? = some (.cells #[.int .u8 0, .int .u64 0, .int .i64 0, .int .i64 0] 56 (0, 0))) (hb : Below w.heap.size w W) (n : Int) :
    ((W.alloc (.cells #[.int .i64 n] 205)).setCell ⟨w.heap.size + 1, 0, none⟩ (.int .i64 n)).heap[w.heap.size]? = some (.cells #[.int .u8 0, .int .u64 0, .int .i64 0, .int .i64 0] 56 (0, 0)) ∧ ((W.alloc (.cells #[.int .i64 n] 205)).setCell ⟨w.heap.size + 1, 0, none⟩ (.int .i64 n)).heap[w.heap.size + 1]? = some (.cells #[.int .i64 n] 30 (0, 0)) ∧ Below w.heap.size w ((W.alloc (.cells #[.int .i64 n] 205)).setCell ⟨w.heap.size + 1, 0, none⟩ (.int .i64 n)) :=
  ⟨(Below.heap_setCell (W.alloc (.cells #[.int .i64 n] 205)) ⟨w.heap.size + 1, 0, none⟩ (.int .i64 n) _ (by show w.heap.size ≠ w.heap.size + 1; omega)).trans (blk_alloc hV _), blk_put (cs' := #[.int .i64 n]) (blk_alloc hE _) 0 (.int .i64 n) rfl, (below_alloc hb _).setCell (p := ⟨w.heap.size + 1, 0, none⟩) (Nat.le_succ _) _⟩
set_option maxRecDepth 100000 in
set_option maxHeartbeats 2000000 in
theorem mask_bad (q : Option Addr) (ent : List (Int × (List Int × List Int))) (g : Nat) (lb : Array Value) (A : Option Addr) (c : Nat) (l : List Af) (w : World) (ht : TblOr w (.pointer q) ent) (he : EntIn ent) (hw : ∀ e ∈ ent, Bm.Words e.2.1) (hr : kAf.C w A l.length l) (hv : AfIn l) (hR : ¬ RightP (tSize ent) (tPtr ent) l) :
    Calls Tryd.prog 119 #[.pointer q, .slice A l.length c, .func (.func g) #[] lb] w fun e w' => e = .returned (.tuple #[.agg #[.int .u8 0, .int .u64 0, .int .i64 0, .int .i64 0], .int .i64 9]) ∧ Below w.heap.size w w' := by
  have hs1 : (w.alloc (.cells #[.int .u8 0, .int .u64 0, .int .i64 0, .int .i64 0] 56)).heap.size = w.heap.size + 1 := by simp
  have h0 := below_alloc (below_alloc (Below.refl w.heap.size w) (.cells #[.int .u8 0, .int .u64 0, .int .i64 0, .int .i64 0] 56)) (.cells #[.int .i64 0] 30)
  have H0 := Lk.mk h0
  have HV0 := Lk.mk (blk_alloc (blk_new w (.cells #[.int .u8 0, .int .u64 0, .int .i64 0, .int .i64 0] 56)) (.cells #[.int .i64 0] 30))
  have hE0 := blk_new (w.alloc (.cells #[.int .u8 0, .int .u64 0, .int .i64 0, .int .i64 0] 56)) (.cells #[.int .i64 0] 30)
  rw [hs1] at hE0
  have HE0 := Lk.mk hE0
  have HRT := Lk.mk (mRight_bad (.pointer q) ent A c l _ (ht.below h0) he hw (Kd.C_below hr h0) hv hR)
  clear ht he hw hr hv hR hs1 h0 hE0
  go_enter_defers Tryd.func119, Tryd.ntmps119
  go_wp2_with (first
    | (go_at_call 154; (with_reducible refine (HRT.out).mono ?_); rintro e w3 ⟨rfl, hb⟩; have HB3 := Lk.mk (below_then H0.out H0.out.size hb); have HV3 := Lk.mk (blk_below HV0.out hb); have HE3 := Lk.mk (blk_below HE0.out hb); clear hb)
    | (go_at_call 112; (with_reducible refine (mmust_no _ _).mono ?_); rintro e w' ⟨rfl, hw⟩; obtain rfl := hw.symm; clear hw))
  refine leaves_cons (f := 153) (args := #[.pointer (some ⟨w.heap.size + 1, 0, none⟩)]) (by simp) (by simp [go_sem]) ?_
  refine (mright_caught (w.heap.size + 1) 9 _ HE3.out).mono ?_
  rintro e u' w'' ⟨rfl, rfl, rfl⟩
  obtain ⟨k1, k2, k3⟩ := askW (n := 9) HE3.out HV3.out HB3.out 9
  exact ask_out (by simp only [settle, List.dropWhile]) k1 k2 rfl rfl ⟨rfl, k3⟩
set_option maxRecDepth 100000 in
set_option maxHeartbeats 2000000 in
theorem mask_any (q : Option Addr) (ent : List (Int × (List Int × List Int))) (g : Nat) (lb : Array Value) (A : Option Addr) (c : Nat) (l : List Af) (res : Sl.Vl → Prop) (err : Int → Prop) (w : World) (eg : ∀ args w, (callFunc g args).run Tryd.prog w = .ok (.enter g args) w) (ht : TblOr w (.pointer q) ent) (hw : ∀ e ∈ ent, Bm.Words e.2.1) (hr : kAf.C w A l.length l) (hv : AfIn l) (hR : RightP (tSize ent) (tPtr ent) l)
    (hwhat : ∀ W, Below w.heap.size w W → Calls Tryd.prog g (#[.agg #[.pointer q, .slice A l.length c]] ++ lb) W fun e W' => AskL res err W e W') :
    Calls Tryd.prog 119 #[.pointer q, .slice A l.length c, .func (.func g) #[] lb] w fun e w' => Below w.heap.size w w' ∧ ((∃ v0 v1 v2 v3 : Int, res (v0, v1, v2, v3) ∧ e = .returned (.tuple #[.agg #[.int .u8 v0, .int .u64 v1, .int .i64 v2, .int .i64 v3], .int .i64 0])) ∨ ∃ n, ¬ n = 0 ∧ err n ∧ e = .returned (.tuple #[.agg #[.int .u8 0, .int .u64 0, .int .i64 0, .int .i64 0], .int .i64 n])) := by
  have hs1 : (w.alloc (.cells #[.int .u8 0, .int .u64 0, .int .i64 0, .int .i64 0] 56)).heap.size = w.heap.size + 1 := by simp
  have h0 := below_alloc (below_alloc (Below.refl w.heap.size w) (.cells #[.int .u8 0, .int .u64 0, .int .i64 0, .int .i64 0] 56)) (.cells #[.int .i64 0] 30)
  have H0 := Lk.mk h0
  have HV0 := Lk.mk (blk_alloc (blk_new w (.cells #[.int .u8 0, .int .u64 0, .int .i64 0, .int .i64 0] 56)) (.cells #[.int .i64 0] 30))
  have hE0 := blk_new (w.alloc (.cells #[.int .u8 0, .int .u64 0, .int .i64 0, .int .i64 0] 56)) (.cells #[.int .i64 0] 30)
  rw [hs1] at hE0
  have HE0 := Lk.mk hE0
  have HRT := Lk.mk (mRight_ok (.pointer q) ent A c l _ (ht.below h0) hw (Kd.C_below hr h0) hv hR)
  have HWH := Lk.mk hwhat
  clear ht hw hr hv hR hs1 h0 hE0 hwhat
  go_enter_defers Tryd.func119, Tryd.ntmps119
  go_wp2_with (first
    | (go_at_call 154; (with_reducible refine (HRT.out).mono ?_); rintro e w3 ⟨rfl, hb⟩; have HB3 := Lk.mk (below_then H0.out H0.out.size hb); have HV3 := Lk.mk (blk_below HV0.out hb); have HE3 := Lk.mk (blk_below HE0.out hb); clear hb)
    | (go_at_call 112; (with_reducible refine (mmust_ok _ _).mono ?_); rintro e w' ⟨rfl, hw⟩; obtain rfl := hw.symm; clear hw)
    | (go_at_fn g; go_loud ((with_reducible refine (HWH.out w3 HB3.out).mono ?_); rintro e w4 hw4; obtain ⟨hb, hor⟩ := AskL.open_ hw4; have HB4 := Lk.mk (below_then HB3.out HB3.out.size hb); have HV4 := Lk.mk (blk_below HV3.out hb); have HE4 := Lk.mk (blk_below HE3.out hb); obtain ⟨s0, s1, s2, s3, u0, u1, u2, u3⟩ := cells4z HV4.out; have ec := blk_cell HE4.out 0; have ez := blk_frozen HE4.out 0; simp only [List.getElem?_toArray, List.getElem?_cons_zero] at ec; clear hb hw4; rcases hor with ⟨v0, v1, v2, v3, hres, rfl⟩ | ⟨n, hn, herr, rfl⟩)))
  · have HRS := Lk.mk hres
    clear hres
    have hV5 := (Below.heap_setCell ((((w4.setCell ⟨w.heap.size, 0, none⟩ (.int .u8 v0)).setCell ⟨w.heap.size, 1, none⟩ (.int .u64 v1)).setCell ⟨w.heap.size, 2, none⟩ (.int .i64 v2)).setCell ⟨w.heap.size, 3, none⟩ (.int .i64 v3)) ⟨w.heap.size + 1, 0, none⟩ (.int .i64 0) _ (by show w.heap.size ≠ w.heap.size + 1; omega)).trans (set4 HV4.out (.int .u8 v0) (.int .u64 v1) (.int .i64 v2) (.int .i64 v3))
    have hE4 : ((((w4.setCell ⟨w.heap.size, 0, none⟩ (.int .u8 v0)).setCell ⟨w.heap.size, 1, none⟩ (.int .u64 v1)).setCell ⟨w.heap.size, 2, none⟩ (.int .i64 v2)).setCell ⟨w.heap.size, 3, none⟩ (.int .i64 v3)).heap[w.heap.size + 1]? = some (.cells #[.int .i64 0] 30 (0, 0)) := by
      rw [Below.heap_setCell _ _ _ _ (by show w.heap.size + 1 ≠ w.heap.size; omega), Below.heap_setCell _ _ _ _ (by show w.heap.size + 1 ≠ w.heap.size; omega), Below.heap_setCell _ _ _ _ (by show w.heap.size + 1 ≠ w.heap.size; omega), Below.heap_setCell _ _ _ _ (by show w.heap.size + 1 ≠ w.heap.size; omega)]
      exact HE4.out
    have hE5 := blk_put (cs' := #[.int .i64 0]) hE4 0 (.int .i64 0) rfl
    have hB5 := (below4 HB4.out (.int .u8 v0) (.int .u64 v1) (.int .i64 v2) (.int .i64 v3)).setCell (p := ⟨w.heap.size + 1, 0, none⟩) (Nat.le_succ _) (.int .i64 0)
    have HX := Lk.mk (And.intro hV5 (And.intro hE5 hB5))
    clear hV5 hE5 hB5 hE4
    try go_wp2
    refine leaves_cons (f := 153) (args := #[.pointer (some ⟨w.heap.size + 1, 0, none⟩)]) (by simp) (by simp [go_sem]) ?_
    refine (mcaught_idle _ _).mono ?_
    rintro e u' w'' ⟨rfl, rfl, rfl⟩
    obtain ⟨k1, k2, k3⟩ := HX.out
    exact ask_out rfl k1 k2 rfl rfl ⟨k3, .inl ⟨v0, v1, v2, v3, HRS.out, rfl⟩⟩
  · refine leaves_cons (f := 153) (args := #[.pointer (some ⟨w.heap.size + 1, 0, none⟩)]) (by simp) (by simp [go_sem]) ?_
    refine (mright_caught (w.heap.size + 1) n _ HE4.out).mono ?_
    rintro e u' w'' ⟨rfl, rfl, rfl⟩
    obtain ⟨k1, k2, k3⟩ := askW (n := n) HE4.out HV4.out HB4.out n
    exact ask_out (by simp only [settle, List.dropWhile]) k1 k2 rfl rfl ⟨k3, .inr ⟨n, hn, herr, rfl⟩⟩
end Go.Proofs.YtcepafllgjnngaaDoor

/-
  The walks of the model's Get and Load; conditions: the row and the table read as told.
-/
namespace Go.Proofs.YtcepafllgjnngaaDoor
open Go.RowKit Go.Proofs.YtcepafllgjnngaaDoorW.PrintWords

def slotZ (l : List Af) (d s : Int) : Sl.Vl := (l.getD d.toNat dAf).2.getD s.toNat Sl.dVl
/-- a slot's cells in a row -/
theorem af_slot {w : World} {A : Option Addr} {l : List Af} (hr : kAf.C w A l.length l) {k i : Nat} (hk : k < l.length) (hi : i < (l.getD k dAf).2.length) : ∃ ad A1 c1, A = some ad ∧ w.cell? ⟨(ad.add (k * 2)).block, (ad.add (k * 2)).off + 1, none⟩ = some (.slice (some A1) (l.getD k dAf).2.length c1) ∧ w.cell? (A1.add (i * 4)) = some (.int .u8 (slotZ l k i).1) ∧ w.cell? ⟨(A1.add (i * 4)).block, (A1.add (i * 4)).off + 1, none⟩ = some (.int .u64 (slotZ l k i).2.1) ∧ w.cell? ⟨(A1.add (i * 4)).block, (A1.add (i * 4)).off + 2, none⟩ = some (.int .i64 (slotZ l k i).2.2.1) ∧ w.cell? ⟨(A1.add (i * 4)).block, (A1.add (i * 4)).off + 3, none⟩ = some (.int .i64 (slotZ l k i).2.2.2) := by
  obtain ⟨ad, A1, c1, e, _, h1, _, hC⟩ := kAf_at hr k hk
  obtain ⟨ad1, e1, z0, z1, z2, z3⟩ := kVl_at hC i hi
  subst e1
  unfold slotZ
  rw [Int.toNat_natCast, Int.toNat_natCast]
  exact ⟨ad, ad1, c1, e, h1, z0, z1, z2, z3⟩
set_option maxRecDepth 100000 in
set_option maxHeartbeats 2000000 in
theorem mget1_any (q : Option Addr) (A : Option Addr) (c : Nat) (l : List Af) (d s : Int) (bd bs : Nat) (W : World) (hbd : W.heap[bd]? = some (.cells #[.int .i64 d] 3 (0, 0))) (hbs : W.heap[bs]? = some (.cells #[.int .i64 s] 3 (0, 0))) (hr : kAf.C W A l.length l) :
    Calls Tryd.prog 120 #[.agg #[.pointer q, .slice A l.length c], .pointer (some ⟨bd, 0, none⟩), .pointer (some ⟨bs, 0, none⟩)] W fun e W' => AskL (fun v => hasA l d s = true ∧ v = slotZ l d s) (fun n => n = 2 ∧ hasA l d s = false) W e W' := by
  have hs1 : (W.alloc (.cells #[.pointer q, .slice A l.length c] 179)).heap.size = W.heap.size + 1 := by simp
  have h0 := below_alloc (below_alloc (Below.refl W.heap.size W) (.cells #[.pointer q, .slice A l.length c] 179)) (.cells #[.int .u8 0, .int .u64 0, .int .i64 0, .int .i64 0] 56)
  have H0 := Lk.mk h0
  have HR0 := Lk.mk (blk_alloc (blk_new W (.cells #[.pointer q, .slice A l.length c] 179)) (.cells #[.int .u8 0, .int .u64 0, .int .i64 0, .int .i64 0] 56))
  have hV0 := blk_new (W.alloc (.cells #[.pointer q, .slice A l.length c] 179)) (.cells #[.int .u8 0, .int .u64 0, .int .i64 0, .int .i64 0] 56)
  rw [hs1] at hV0
  have HV0 := Lk.mk hV0
  have HD0 := Lk.mk (blk_below hbd (below_then h0 h0.size (Below.refl _ _)))
  have HS0 := Lk.mk (blk_below hbs (below_then h0 h0.size (Below.refl _ _)))
  have HH := Lk.mk (mhas_any (.pointer q) A c l d s _ (Kd.C_below hr h0))
  obtain ⟨r0, r1⟩ := cells2v HR0.out
  have d0 := blk_cell HD0.out 0
  have s0 := blk_cell HS0.out 0
  simp only [List.getElem?_toArray, List.getElem?_cons_zero] at d0 s0
  have HC := Lk.mk (Kd.C_below hr h0)
  clear hbd hbs hr hs1 h0 hV0
  cases hh : hasA l d s with
  | false =>
    rw [hh] at HH
    clear hh
    go_enter Tryd.func120, Tryd.ntmps120
    go_wp2_with (first
      | (go_at_call 117; (with_reducible refine (HH.out).mono ?_); rintro e w1 ⟨rfl, hb⟩; have HB1 := Lk.mk (below_then H0.out H0.out.size hb); clear hb)
      | (go_at_call 112; (with_reducible refine (mmust_no _ _).mono ?_); rintro e w' ⟨rfl, hw⟩; obtain rfl := hw.symm; clear hw))
    exact ⟨rfl, HB1.out, .inr ⟨2, by decide, ⟨rfl, by first | rfl | trivial⟩, rfl⟩⟩
  | true =>
    obtain ⟨k, i, rfl, rfl, hk, hi⟩ := has_inv hh
    rw [hh] at HH
    have HZ := Lk.mk (fun W' (hb : Below _ _ W') => af_slot (Kd.C_below HC.out hb) hk hi)
    have hkz : (k : Int) < (l.length : Int) := by omega
    have hiz : (i : Int) < ((l.getD k dAf).2.length : Int) := by omega
    clear hh HC
    generalize hz9 : slotZ l k i = z at *
    generalize (l.getD k dAf).2.length = N at *
    obtain ⟨z0, z1, z2, z3⟩ := z
    dsimp only at HZ
    clear hk hi
    go_enter Tryd.func120, Tryd.ntmps120
    go_wp2_with (first
      | (go_at_call 117; (with_reducible refine (HH.out).mono ?_); rintro e w1 ⟨rfl, hb⟩; have HB1 := Lk.mk (below_drew (below_then H0.out H0.out.size hb)); have HR1 := Lk.mk (blk_drew (blk_below HR0.out hb)); have HD1 := Lk.mk (blk_drew (blk_below HD0.out hb)); have HS1 := Lk.mk (blk_drew (blk_below HS0.out hb)); have HV1 := Lk.mk (blk_drew (blk_below HV0.out hb)); have HZ1 := Lk.mk (HZ.out _ (below_drew hb)); clear hb)
      | (go_at_call 112; (with_reducible refine (mmust_ok _ _).mono ?_); rintro e w' ⟨rfl, hw⟩; obtain rfl := hw.symm; clear hw))
    obtain ⟨W9, hW9⟩ : ∃ W9, W9 = w1.drew := ⟨_, rfl⟩
    rw [← hW9] at HB1 HR1 HD1 HS1 HV1 HZ1
    obtain ⟨ad, A1, c1, rfl, a1, b0, b1, b2, b3⟩ := HZ1.out
    clear d0 s0 r0 r1
    obtain ⟨r0, r1⟩ := cells2v HR1.out
    have d0 := blk_cell HD1.out 0
    have s0 := blk_cell HS1.out 0
    simp only [List.getElem?_toArray, List.getElem?_cons_zero] at d0 s0
    obtain ⟨t0, t1, t2, t3, u0, u1, u2, u3⟩ := cells4z HV1.out
    refine wp_region_still_tail 9 (by kernel_rfl) (by kernel_rfl) ?_
    rw [show ({ w1 with drawn := w1.drawn + 1 } : World) = W9 from hW9.symm]
    clear hW9
    simp only [List.take_succ_cons, List.take_zero, List.drop_succ_cons, List.drop_zero]
    repeat (with_reducible refine wpStill_step (fun K hK => ?_); go_simp; with_reducible refine hK _ ?_; clear hK K)
    refine wpStill_nil ?_
    go_wp2
    exact bodyPost_ret (results_cell_row Tryd.results120 _ _ (W.heap.size + 1) 56 #[.int .u8 z0, .int .u64 z1, .int .i64 z2, .int .i64 z3] (0, 0) _ rfl (set4 HV1.out _ _ _ _) Tryd.underlying56 rfl (by kernel_rfl)) rfl ⟨belowF HB1.out (Nat.le_succ _) _ _ _ _, .inl ⟨z0, z1, z2, z3, ⟨by first | rfl | trivial, by first | rfl | trivial | exact hz9.symm⟩, rfl⟩⟩
end Go.Proofs.YtcepafllgjnngaaDoor

/-
  The walks of the model's refers and Load; conditions: the row and the table read as told.
-/
namespace Go.Proofs.YtcepafllgjnngaaDoor
open Go.RowKit Go.Proofs.YtcepafllgjnngaaDoorW.PrintWords

def refersN (ptr : Int → Int → Bool) (l : List Af) (d s : Int) : Int := if hasA l d s = true then (if ptr (l.getD d.toNat dAf).1 s = true then (if (slotZ l d s).1 = 2 then 0 else 12) else 5) else 2
theorem right_ref {sz : Int → Int} {ptr : Int → Int → Bool} {l : List Af} (hR : RightP sz ptr l) {d s : Int} (h : hasA l d s = true) (h2 : (slotZ l d s).1 = 2) : hasA l (slotZ l d s).2.2.1 (slotZ l d s).2.2.2 = true := by
  obtain ⟨k, i, rfl, rfl, hk, hi⟩ := has_inv h
  have hf := hR.2 k i hk hi
  have hs : slotV l k i = slotZ l k i := by unfold slotV slotZ; rw [Int.toNat_natCast, Int.toNat_natCast]
  rw [hs] at hf
  unfold fitsN at hf
  by_cases h1 : Sl.mayV (slotZ l k i) = true
  · rw [if_pos h1] at hf
    by_cases h3 : ptr (l.getD (k : Int).toNat dAf).1 i = !(decide ((slotZ l k i).1 = 1))
    · rw [if_pos h3, if_pos h2] at hf
      by_cases h4 : hasA l (slotZ l k i).2.2.1 (slotZ l k i).2.2.2 = true
      · exact h4
      · rw [if_neg h4] at hf; exact absurd hf (by decide)
    · rw [if_neg h3] at hf; exact absurd hf (by decide)
  · rw [if_neg h1] at hf; exact absurd hf (by decide)
theorem refers_has {ptr : Int → Int → Bool} {l : List Af} {d s : Int} (h : refersN ptr l d s = 0) : hasA l d s = true := by
  unfold refersN at h
  by_cases h1 : hasA l d s = true
  · exact h1
  · rw [if_neg h1] at h; exact absurd h (by decide)
theorem refers_two {ptr : Int → Int → Bool} {l : List Af} {d s : Int} (h : refersN ptr l d s = 0) : (slotZ l d s).1 = 2 := by
  unfold refersN at h
  rw [if_pos (refers_has (ptr := ptr) h)] at h
  by_cases h1 : ptr (l.getD d.toNat dAf).1 s = true
  · rw [if_pos h1] at h
    by_cases h2 : (slotZ l d s).1 = 2
    · exact h2
    · rw [if_neg h2] at h; exact absurd h (by decide)
  · rw [if_neg h1] at h; exact absurd h (by decide)
/-- what refers answers -/
def RefL (n : Int) (v : Sl.Vl) (e : Ending) : Prop := (n = 0 ∧ e = .returned (.agg #[.int .u8 v.1, .int .u64 v.2.1, .int .i64 v.2.2.1, .int .i64 v.2.2.2])) ∨ (¬ n = 0 ∧ e = .panicked (wrongC n))
set_option maxRecDepth 100000 in
set_option maxHeartbeats 2000000 in
theorem mrefers_any (q : Option Addr) (ent : List (Int × (List Int × List Int))) (A : Option Addr) (c : Nat) (l : List Af) (d s : Int) (W : World) (ht : TblOr W (.pointer q) ent) (hw : ∀ e ∈ ent, Bm.Words e.2.1) (hr : kAf.C W A l.length l) (hs9 : s ≤ 9223372036854775807) :
    Calls Tryd.prog 122 #[.agg #[.pointer q, .slice A l.length c], .int .i64 d, .int .i64 s] W fun e W' => RefL (refersN (tPtr ent) l d s) (slotZ l d s) e ∧ Below W.heap.size W W' := by
  have hs1 : (W.alloc (.cells #[.pointer q, .slice A l.length c] 179)).heap.size = W.heap.size + 1 := by simp
  have h0 := below_alloc (below_alloc (Below.refl W.heap.size W) (.cells #[.pointer q, .slice A l.length c] 179)) (.cells #[.int .u8 0, .int .u64 0, .int .i64 0, .int .i64 0] 56)
  have H0 := Lk.mk h0
  have HR0 := Lk.mk (blk_alloc (blk_new W (.cells #[.pointer q, .slice A l.length c] 179)) (.cells #[.int .u8 0, .int .u64 0, .int .i64 0, .int .i64 0] 56))
  have hV0 := blk_new (W.alloc (.cells #[.pointer q, .slice A l.length c] 179)) (.cells #[.int .u8 0, .int .u64 0, .int .i64 0, .int .i64 0] 56)
  rw [hs1] at hV0
  have HV0 := Lk.mk hV0
  have HH := Lk.mk (mhas_any (.pointer q) A c l d s _ (Kd.C_below hr h0))
  have HP := Lk.mk (fun W' (k : Nat) (hb : Below W.heap.size W W') (hk : k < l.length) => mptr_any (.pointer q) ent A c l k s W' (ht.below hb) hw (Kd.C_below hr hb) hk hs9)
  have HN := Lk.mk (show refersN (tPtr ent) l d s = if hasA l d s = true then (if tPtr ent (l.getD d.toNat dAf).1 s = true then (if (slotZ l d s).1 = 2 then 0 else 12) else 5) else 2 from rfl)
  obtain ⟨r0, r1⟩ := cells2v HR0.out
  have HC := Lk.mk hr
  clear ht hw hr hs1 h0 hV0 hs9
  generalize refersN (tPtr ent) l d s = n at *
  cases hh : hasA l d s with
  | false =>
    rw [hh] at HH
    have HN2 := Lk.mk (show n = 2 by rw [HN.out, if_neg (by rw [hh]; decide)])
    clear hh HN
    go_enter Tryd.func122, Tryd.ntmps122
    go_wp2_with (first
      | (go_at_call 117; (with_reducible refine (HH.out).mono ?_); rintro e w1 ⟨rfl, hb⟩; have HB1 := Lk.mk (below_then H0.out H0.out.size hb); clear hb)
      | (go_at_call 112; (with_reducible refine (mmust_no _ _).mono ?_); rintro e w' ⟨rfl, hw⟩; obtain rfl := hw.symm; clear hw))
    obtain rfl := HN2.out
    exact ⟨rfl, .inr ⟨by decide, rfl⟩, HB1.out⟩
  | true =>
    rw [hh, if_pos rfl] at HN
    obtain ⟨k, i, rfl, rfl, hk, hi⟩ := has_inv hh
    rw [hh] at HH
    have HPk := Lk.mk (fun W' hb => HP.out W' k hb hk)
    rw [Int.toNat_natCast] at HN
    have HZ := Lk.mk (fun W' (hb : Below _ _ W') => af_slot (Kd.C_below HC.out hb) hk hi)
    have hkz : (k : Int) < (l.length : Int) := by omega
    have hiz : (i : Int) < ((l.getD k dAf).2.length : Int) := by omega
    clear hh HC HP
    generalize tPtr ent (l.getD k dAf).1 i = pt at *
    generalize slotZ l k i = z at *
    generalize (l.getD k dAf).2.length = N at *
    obtain ⟨z0, z1, z2, z3⟩ := z
    dsimp only at HZ HN
    clear hk hi
    cases pt with
    | false =>
      rw [if_neg (by decide)] at HN
      go_enter Tryd.func122, Tryd.ntmps122
      go_wp2_with (first
        | (go_at_call 117; (with_reducible refine (HH.out).mono ?_); rintro e w1 ⟨rfl, hb⟩; have HB := Lk.mk (below_then H0.out H0.out.size hb); have HR := Lk.mk (blk_below HR0.out hb); obtain ⟨r0, r1⟩ := cells2v HR.out; clear hb)
        | (go_at_call 124; (with_reducible refine (HPk.out _ HB.out).mono ?_); rintro e w2 ⟨rfl, hb⟩; have HB2 := Lk.mk (below_then HB.out HB.out.size hb); clear hb)
        | (go_at_call 112; (with_reducible refine (mmust_ok _ _).mono ?_); rintro e w' ⟨rfl, hw⟩; obtain rfl := hw.symm; clear hw)
        | (go_at_call 112; (with_reducible refine (mmust_no _ _).mono ?_); rintro e w' ⟨rfl, hw⟩; obtain rfl := hw.symm; clear hw))
      obtain rfl := HN.out
      exact ⟨rfl, .inr ⟨by decide, rfl⟩, HB2.out⟩
    | true =>
      rw [if_pos rfl] at HN
      by_cases h2 : z0 = 2
      · subst h2
        rw [if_pos rfl] at HN
        go_enter Tryd.func122, Tryd.ntmps122
        go_wp2_with (first
          | (go_at_call 117; (with_reducible refine (HH.out).mono ?_); rintro e w1 ⟨rfl, hb⟩; have HB := Lk.mk (below_then H0.out H0.out.size hb); have HR := Lk.mk (blk_below HR0.out hb); have HV := Lk.mk (blk_below HV0.out hb); obtain ⟨r0, r1⟩ := cells2v HR.out; clear hb)
          | (go_at_call 124; (with_reducible refine (HPk.out _ HB.out).mono ?_); rintro e w2 ⟨rfl, hb⟩; have HB2 := Lk.mk (below_then HB.out HB.out.size hb); have HR2 := Lk.mk (blk_below HR.out hb); obtain ⟨q0, q1⟩ := cells2v HR2.out; have HV2 := Lk.mk (blk_alloc (blk_below HV.out hb) (.cells #[.int .u8 2, .int .u64 z1, .int .i64 z2, .int .i64 z3] 56)); obtain ⟨s0, s1, s2, s3, u0, u1, u2, u3⟩ := cells4z HV2.out; obtain ⟨n0, n1, n2, n3⟩ := cells4v (blk_new w2 (.cells #[.int .u8 2, .int .u64 z1, .int .i64 z2, .int .i64 z3] 56)); obtain ⟨ad, A1, c1, rfl, a1, b0, b1, b2, b3⟩ := HZ.out _ HB2.out; clear hb)
          | (go_at_call 112; (with_reducible refine (mmust_ok _ _).mono ?_); rintro e w' ⟨rfl, hw⟩; obtain rfl := hw.symm; clear hw))
        obtain rfl := HN.out
        exact bodyPost_ret (results_cell_row Tryd.results122 _ _ (W.heap.size + 1) 56 #[.int .u8 2, .int .u64 z1, .int .i64 z2, .int .i64 z3] (0, 0) _ rfl (set4 HV2.out _ _ _ _) Tryd.underlying56 rfl (by kernel_rfl)) rfl ⟨.inl ⟨rfl, rfl⟩, belowF (below_alloc HB2.out _) (Nat.le_succ _) _ _ _ _⟩
      · rw [if_neg h2] at HN
        have h2b : (z0 == 2) = false := beq_false_of_ne h2
        clear h2
        go_enter Tryd.func122, Tryd.ntmps122
        go_wp2_with (first
          | (go_at_call 117; (with_reducible refine (HH.out).mono ?_); rintro e w1 ⟨rfl, hb⟩; have HB := Lk.mk (below_then H0.out H0.out.size hb); have HR := Lk.mk (blk_below HR0.out hb); obtain ⟨r0, r1⟩ := cells2v HR.out; clear hb)
          | (go_at_call 124; (with_reducible refine (HPk.out _ HB.out).mono ?_); rintro e w2 ⟨rfl, hb⟩; have HB2 := Lk.mk (below_then HB.out HB.out.size hb); have HR2 := Lk.mk (blk_below HR.out hb); obtain ⟨q0, q1⟩ := cells2v HR2.out; obtain ⟨n0, n1, n2, n3⟩ := cells4v (blk_new w2 (.cells #[.int .u8 z0, .int .u64 z1, .int .i64 z2, .int .i64 z3] 56)); obtain ⟨ad, A1, c1, rfl, a1, b0, b1, b2, b3⟩ := HZ.out _ HB2.out; clear hb)
          | (go_at_call 112; (with_reducible refine (mmust_ok _ _).mono ?_); rintro e w' ⟨rfl, hw⟩; obtain rfl := hw.symm; clear hw)
          | (go_at_call 112; (with_reducible refine (mmust_no _ _).mono ?_); rintro e w' ⟨rfl, hw⟩; obtain rfl := hw.symm; clear hw))
        obtain rfl := HN.out
        exact ⟨rfl, .inr ⟨by decide, rfl⟩, below_alloc HB2.out _⟩
set_option maxRecDepth 100000 in
set_option maxHeartbeats 2000000 in
theorem mload1_any (q : Option Addr) (ent : List (Int × (List Int × List Int))) (A : Option Addr) (c : Nat) (l : List Af) (d s : Int) (bd bs : Nat) (W : World) (ht : TblOr W (.pointer q) ent) (hw : ∀ e ∈ ent, Bm.Words e.2.1) (hbd : W.heap[bd]? = some (.cells #[.int .i64 d] 3 (0, 0))) (hbs : W.heap[bs]? = some (.cells #[.int .i64 s] 3 (0, 0))) (hr : kAf.C W A l.length l) (hs9 : s ≤ 9223372036854775807) (hR : RightP (tSize ent) (tPtr ent) l) :
    Calls Tryd.prog 121 #[.agg #[.pointer q, .slice A l.length c], .pointer (some ⟨bd, 0, none⟩), .pointer (some ⟨bs, 0, none⟩)] W fun e W' => AskL (fun v => refersN (tPtr ent) l d s = 0 ∧ v = slotZ l (slotZ l d s).2.2.1 (slotZ l d s).2.2.2) (fun n => n = refersN (tPtr ent) l d s) W e W' := by
  have hs1 : (W.alloc (.cells #[.pointer q, .slice A l.length c] 179)).heap.size = W.heap.size + 1 := by simp
  have h0 := below_alloc (below_alloc (Below.refl W.heap.size W) (.cells #[.pointer q, .slice A l.length c] 179)) (.cells #[.int .u8 0, .int .u64 0, .int .i64 0, .int .i64 0] 56)
  have H0 := Lk.mk h0
  have HR0 := Lk.mk (blk_alloc (blk_new W (.cells #[.pointer q, .slice A l.length c] 179)) (.cells #[.int .u8 0, .int .u64 0, .int .i64 0, .int .i64 0] 56))
  have hV0 := blk_new (W.alloc (.cells #[.pointer q, .slice A l.length c] 179)) (.cells #[.int .u8 0, .int .u64 0, .int .i64 0, .int .i64 0] 56)
  rw [hs1] at hV0
  have HV0 := Lk.mk hV0
  have HRF := Lk.mk (mrefers_any q ent A c l d s _ (ht.below h0) hw (Kd.C_below hr h0) hs9)
  obtain ⟨r0, r1⟩ := cells2v HR0.out
  have d0 := blk_cell (blk_below hbd h0) 0
  have s0 := blk_cell (blk_below hbs h0) 0
  simp only [List.getElem?_toArray, List.getElem?_cons_zero] at d0 s0
  have HC := Lk.mk hr
  have HRT := Lk.mk (fun (h : refersN (tPtr ent) l d s = 0) => right_ref hR (refers_has h) (refers_two h))
  clear ht hw hr hs1 h0 hV0 hs9 hbd hbs hR
  by_cases hn : refersN (tPtr ent) l d s = 0
  · have HT := Lk.mk (HRT.out hn)
    have HRF2 := Lk.mk (HRF.out.mono (fun e W' h => (show e = .returned (.agg #[.int .u8 (slotZ l d s).1, .int .u64 (slotZ l d s).2.1, .int .i64 (slotZ l d s).2.2.1, .int .i64 (slotZ l d s).2.2.2]) ∧ Below _ _ W' from ⟨by rcases h.1 with ⟨_, h⟩ | ⟨h, _⟩; exact h; exact absurd hn h, h.2⟩)))
    have HN := Lk.mk hn
    clear HRF HRT hn
    generalize slotZ l d s = v at *
    obtain ⟨v0, v1, v2, v3⟩ := v
    dsimp only at *
    obtain ⟨k, i, rfl, rfl, hk, hi⟩ := has_inv HT.out
    have HZ := Lk.mk (fun W' (hb : Below _ _ W') => af_slot (Kd.C_below HC.out hb) hk hi)
    have hkz : (k : Int) < (l.length : Int) := by omega
    have hiz : (i : Int) < ((l.getD k dAf).2.length : Int) := by omega
    generalize hz9 : slotZ l k i = z at *
    generalize (l.getD k dAf).2.length = N at *
    obtain ⟨z0, z1, z2, z3⟩ := z
    dsimp only at HZ
    clear hk hi HT HC
    go_enter Tryd.func121, Tryd.ntmps121
    go_wp2_with (first
      | (go_at_call 122; (with_reducible refine (HRF2.out).mono ?_); rintro e w1 ⟨rfl, hb⟩; have HB1 := Lk.mk (below_drew (below_alloc (below_then H0.out H0.out.size hb) (.cells #[.int .u8 v0, .int .u64 v1, .int .i64 (k : Int), .int .i64 (i : Int)] 56))); have HR1 := Lk.mk (blk_drew (blk_alloc (blk_below HR0.out hb) (.cells #[.int .u8 v0, .int .u64 v1, .int .i64 (k : Int), .int .i64 (i : Int)] 56))); have HV1 := Lk.mk (blk_drew (blk_alloc (blk_below HV0.out hb) (.cells #[.int .u8 v0, .int .u64 v1, .int .i64 (k : Int), .int .i64 (i : Int)] 56))); have HT1 := Lk.mk (blk_drew (blk_new w1 (.cells #[.int .u8 v0, .int .u64 v1, .int .i64 (k : Int), .int .i64 (i : Int)] 56))); have HZ1 := Lk.mk (HZ.out _ HB1.out); clear hb))
    obtain ⟨W9, hW9⟩ : ∃ W9, W9 = (w1.alloc (.cells #[.int .u8 v0, .int .u64 v1, .int .i64 (k : Int), .int .i64 (i : Int)] 56)).drew := ⟨_, rfl⟩
    rw [← hW9] at HB1 HR1 HV1 HT1 HZ1
    obtain ⟨ad, A1, c1, rfl, a1, b0, b1, b2, b3⟩ := HZ1.out
    clear d0 s0 r0 r1
    obtain ⟨r0, r1⟩ := cells2v HR1.out
    obtain ⟨t0, t1, t2, t3, u0, u1, u2, u3⟩ := cells4z HV1.out
    obtain ⟨y0, y1, y2, y3⟩ := cells4v HT1.out
    refine wp_region_still_tail 11 (by kernel_rfl) (by kernel_rfl) ?_
    rw [show ({ w1.alloc (.cells #[.int .u8 v0, .int .u64 v1, .int .i64 (k : Int), .int .i64 (i : Int)] 56) with drawn := (w1.alloc (.cells #[.int .u8 v0, .int .u64 v1, .int .i64 (k : Int), .int .i64 (i : Int)] 56)).drawn + 1 } : World) = W9 from hW9.symm]
    clear hW9
    simp only [List.take_succ_cons, List.take_zero, List.drop_succ_cons, List.drop_zero]
    repeat (with_reducible refine wpStill_step (fun K hK => ?_); go_simp; with_reducible refine hK _ ?_; clear hK K)
    refine wpStill_nil ?_
    go_wp2
    exact bodyPost_ret (results_cell_row Tryd.results121 _ _ (W.heap.size + 1) 56 #[.int .u8 z0, .int .u64 z1, .int .i64 z2, .int .i64 z3] (0, 0) _ rfl (set4 HV1.out _ _ _ _) Tryd.underlying56 rfl (by kernel_rfl)) rfl ⟨belowF HB1.out (Nat.le_succ _) _ _ _ _, .inl ⟨z0, z1, z2, z3, ⟨HN.out, by first | rfl | trivial | exact hz9.symm⟩, rfl⟩⟩
  · have HRF2 := Lk.mk (HRF.out.mono (fun e W' h => (show e = .panicked (wrongC (refersN (tPtr ent) l d s)) ∧ Below _ _ W' from ⟨by rcases h.1 with ⟨h, _⟩ | ⟨_, h⟩; exact absurd h hn; exact h, h.2⟩)))
    have HN := Lk.mk hn
    clear HRF HRT hn HC
    generalize refersN (tPtr ent) l d s = n at *
    go_enter Tryd.func121, Tryd.ntmps121
    go_wp2_with (first
      | (go_at_call 122; (with_reducible refine (HRF2.out).mono ?_); rintro e w1 ⟨rfl, hb⟩; have HB1 := Lk.mk (below_then H0.out H0.out.size hb); clear hb))
    exact ⟨rfl, HB1.out, .inr ⟨n, HN.out, by first | rfl | trivial, rfl⟩⟩
end Go.Proofs.YtcepafllgjnngaaDoor
