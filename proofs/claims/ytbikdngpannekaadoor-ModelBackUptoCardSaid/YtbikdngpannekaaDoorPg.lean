/-
  The walk of the model's change; conditions: the row and the table read as told, the row is right; how turns the row, or throws.
-/
import Derived.Test.YtbikdngpannekaaDoorPf
namespace Go.Proofs.YtbikdngpannekaaDoor
open Go.RowKit Go.Proofs.YtbikdngpannekaaDoorW.PrintWords

set_option maxRecDepth 100000 in
set_option maxHeartbeats 2000000 in
theorem mch1_idle (a b c : Nat) (u : FrameMode) (w : World) (h : w.heap[a]? = some (.cells #[.int .i64 0] 33 (0, 0))) :
    CallsD Tryd.prog 125 #[.pointer (some ⟨a, 0, none⟩), .pointer (some ⟨b, 0, none⟩), .pointer (some ⟨c, 0, none⟩)] u w fun e u' w' => u' = u ∧ e = .returned (.tuple #[]) ∧ w' = w := by
  have hc := blk_cell h 0
  simp only [List.getElem?_toArray, List.getElem?_cons_zero] at hc
  go_enter_d Tryd.func125, Tryd.ntmps125
  go_wp2
  simp [bodyPost, results, Tryd.results125]
set_option maxRecDepth 100000 in
set_option maxHeartbeats 2000000 in
theorem mch1_err (a b c : Nat) (u : FrameMode) (n : Int) (A : Option Addr) (cp : Nat) (l : List Af) (x : Value) (w : World) (hn : ¬ n = 0) (h : w.heap[a]? = some (.cells #[.int .i64 n] 33 (0, 0))) (hb : w.heap[b]? = some (.cells #[.slice A l.length cp] 68 (0, 0))) (hc : w.heap[c]? = some (.cells #[x] 68 (0, 0))) (hr : kAf.C w A l.length l) (hl : AfLen l) :
    CallsD Tryd.prog 125 #[.pointer (some ⟨a, 0, none⟩), .pointer (some ⟨b, 0, none⟩), .pointer (some ⟨c, 0, none⟩)] u w fun e u' w' => u' = u ∧ e = .returned (.tuple #[]) ∧ ∃ v w2, kAf.R 124 w2 w.heap.size (fun _ => True) v l ∧ Below w.heap.size w w2 ∧ w' = w2.setCell ⟨c, 0, none⟩ v := by
  have ha0 := blk_cell h 0
  have hb0 := blk_cell hb 0
  simp only [List.getElem?_toArray, List.getElem?_cons_zero] at ha0 hb0
  have HC := Lk.mk hc
  have HCL := Lk.mk (mclone_any A cp l w hr hl)
  clear h hb hc hr hl
  go_enter_d Tryd.func125, Tryd.ntmps125
  go_wp2_with (go_at_call 124; (with_reducible refine (HCL.out).mono ?_); rintro e w1 ⟨v, rfl, hR, hb⟩; obtain ⟨A1, c1, rfl, _, _⟩ := Kd.R_reads hR; have HR := Lk.mk hR; have HB := Lk.mk hb; have hc1 := blk_cell (blk_below HC.out hb) 0; have hz1 := blk_frozen (blk_below HC.out hb) 0; simp only [List.getElem?_toArray, List.getElem?_cons_zero] at hc1; clear hb hR)
  simp [bodyPost, results, Tryd.results125]
  exact ⟨_, _, HR.out, HB.out, rfl⟩
/-- what how leaves of a row: it is turned, or an error's number is thrown -/
def HowL (res : List Af → Prop) (err : Int → Prop) (p : Value) (B qr : Nat) (W : World) (e : Ending) (W' : World) : Prop :=
  Below B W W' ∧ ((e = .returned (.tuple #[]) ∧ ∃ v' l', res l' ∧ W'.heap[qr]? = some (.cells #[p, v'] 130 (0, 0)) ∧ kAf.R 124 W' B (fun k => k ≠ qr) v' l') ∨ ∃ n, ¬ n = 0 ∧ err n ∧ e = .panicked (wrongC n))
theorem HowL.open_ {res : List Af → Prop} {err : Int → Prop} {p : Value} {B qr : Nat} {W W' : World} {e : Ending} (h : HowL res err p B qr W e W') : Below B W W' ∧ ((e = .returned (.tuple #[]) ∧ ∃ A' c' l', res l' ∧ W'.cell? ⟨qr, 1, none⟩ = some (.slice A' l'.length c') ∧ kAf.R 124 W' B (fun k => k ≠ qr) (.slice A' l'.length c') l') ∨ ∃ n, ¬ n = 0 ∧ err n ∧ e = .panicked (wrongC n)) := by
  obtain ⟨hb, ⟨he, v', l', h1, h2, h3⟩ | h⟩ := h
  · obtain ⟨A', c', rfl, _, _⟩ := Kd.R_reads h3
    exact ⟨hb, .inl ⟨he, A', c', l', h1, (cells2v h2).2, h3⟩⟩
  · exact ⟨hb, .inr h⟩
set_option maxRecDepth 100000 in
set_option maxHeartbeats 2000000 in
theorem mchange_any (q : Option Addr) (ent : List (Int × (List Int × List Int))) (g : Nat) (lb : Array Value) (A : Option Addr) (c : Nat) (l : List Af) (res : List Af → Prop) (err : Int → Prop) (w : World) (eg : ∀ args w, (callFunc g args).run Tryd.prog w = .ok (.enter g args) w) (ht : TblOr w (.pointer q) ent) (hw : ∀ e ∈ ent, Bm.Words e.2.1) (hr : kAf.C w A l.length l) (hl : AfLen l) (hv : AfIn l) (hR : RightP (tSize ent) (tPtr ent) l)
    (hhow : ∀ W qr v, Below w.heap.size w W → w.heap.size + 3 ≤ qr → W.heap[qr]? = some (.cells #[.pointer q, v] 130 (0, 0)) → kAf.R 124 W (w.heap.size + 3) (fun k => k < qr) v l → Calls Tryd.prog g (#[.pointer (some ⟨qr, 0, none⟩)] ++ lb) W fun e W' => HowL res err (.pointer q) (w.heap.size + 3) qr W e W') :
    Calls Tryd.prog 84 #[.pointer q, .slice A l.length c, .func (.func g) #[] lb] w fun e w' => Below w.heap.size w w' ∧ ∃ v l' n, e = .returned (.tuple #[v, .int .i64 n]) ∧ kAf.R 124 w' w.heap.size (fun _ => True) v l' ∧ ((n = 0 ∧ res l') ∨ (¬ n = 0 ∧ err n ∧ l' = l)) := by
  have hs1 : (w.alloc (.cells #[.slice A l.length c] 68)).heap.size = w.heap.size + 1 := by simp
  have hs2 : ((w.alloc (.cells #[.slice A l.length c] 68)).alloc (.cells #[.slice none 0 0] 68)).heap.size = w.heap.size + 1 + 1 := by simp
  have hs3 : (((w.alloc (.cells #[.slice A l.length c] 68)).alloc (.cells #[.slice none 0 0] 68)).alloc (.cells #[.int .i64 0] 33)).heap.size = w.heap.size + 1 + 1 + 1 := by simp
  have H0 := Lk.mk (below_alloc (below_alloc (below_alloc (Below.refl w.heap.size w) (.cells #[.slice A l.length c] 68)) (.cells #[.slice none 0 0] 68)) (.cells #[.int .i64 0] 33))
  have HL0 := Lk.mk (blk_alloc (blk_alloc (blk_new w (.cells #[.slice A l.length c] 68)) (.cells #[.slice none 0 0] 68)) (.cells #[.int .i64 0] 33))
  have ho0 := blk_alloc (blk_new (w.alloc (.cells #[.slice A l.length c] 68)) (.cells #[.slice none 0 0] 68)) (.cells #[.int .i64 0] 33)
  rw [hs1] at ho0
  have HO0 := Lk.mk ho0
  have he0 := blk_new ((w.alloc (.cells #[.slice A l.length c] 68)).alloc (.cells #[.slice none 0 0] 68)) (.cells #[.int .i64 0] 33)
  rw [hs2] at he0
  have HE0 := Lk.mk he0
  have hcl := mclone_any A c l _ (Kd.C_below hr H0.out) hl
  rw [hs3] at hcl
  have HCL := Lk.mk hcl
  have HRT := Lk.mk (fun W (hb : Below w.heap.size w W) => mRight_ok (.pointer q) ent A c l W (ht.below hb) hw (Kd.C_below hr hb) hv hR)
  have HHW := Lk.mk hhow
  have HRC := Lk.mk hr
  have HLN := Lk.mk hl
  have HS3 := Lk.mk hs3
  have hl0c := blk_cell HL0.out 0
  simp only [List.getElem?_toArray, List.getElem?_cons_zero] at hl0c
  clear ht hw hr hl hv hR hhow hcl ho0 he0 hs1 hs2 hs3
  go_enter_defers Tryd.func84, Tryd.ntmps84
  go_wp2_with (first
    | (go_at_call 124; (with_reducible refine (HCL.out).mono ?_); rintro e w1 ⟨v, rfl, hR, hb⟩; obtain ⟨A1, c1, rfl, _, _⟩ := Kd.R_reads hR; have HR1 := Lk.mk hR; have HB1 := Lk.mk (below_then H0.out H0.out.size (HS3.out ▸ hb)); have HL1 := Lk.mk (blk_below HL0.out (HS3.out ▸ hb)); have HO1 := Lk.mk (blk_below HO0.out (HS3.out ▸ hb)); have HE1 := Lk.mk (blk_below HE0.out (HS3.out ▸ hb)); have hsz1 : w.heap.size + 1 + 1 + 1 ≤ w1.heap.size := HS3.out ▸ hb.size; have hl1c := blk_cell (blk_alloc HL1.out (.cells #[.pointer q, .slice A1 l.length c1] 130)) 0; simp only [List.getElem?_toArray, List.getElem?_cons_zero] at hl1c; have HBa := Lk.mk (below_alloc HB1.out (.cells #[.pointer q, .slice A1 l.length c1] 130)); clear hb hR)
    | (go_at_call 127; (with_reducible refine (HRT.out _ HBa.out).mono ?_); rintro e w3 ⟨rfl, hb⟩; have HB3 := Lk.mk (below_then HBa.out HBa.out.size hb); have HX3 := Lk.mk (blk_below (blk_new w1 (.cells #[.pointer q, .slice A1 l.length c1] 130)) hb); have HR3 := Lk.mk (Kd.R_below (Kd.R_alloc (Kd.R_mono (Kd.R_bound HR1.out) (fun k hk => hk.2.2.1)) (.cells #[.pointer q, .slice A1 l.length c1] 130)) hb); have HL3 := Lk.mk (blk_below (blk_alloc HL1.out (.cells #[.pointer q, .slice A1 l.length c1] 130)) hb); have HO3 := Lk.mk (blk_below (blk_alloc HO1.out (.cells #[.pointer q, .slice A1 l.length c1] 130)) hb); have HE3 := Lk.mk (blk_below (blk_alloc HE1.out (.cells #[.pointer q, .slice A1 l.length c1] 130)) hb); have hsz3 : w1.heap.size ≤ w3.heap.size := Nat.le_trans (by simp) hb.size; clear hb)
    | (go_at_call 86; (with_reducible refine (mmust_ok _ _).mono ?_); rintro e w' ⟨rfl, hw⟩; obtain rfl := hw.symm; clear hw)
    | (go_at_fn g; (with_reducible refine (HHW.out w3 w1.heap.size (.slice A1 l.length c1) HB3.out (by omega) HX3.out HR3.out).mono ?_); rintro e w4 hw4; obtain ⟨hb, hor⟩ := hw4.open_; have HL4 := Lk.mk ((hb.block _ (by omega)).trans HL3.out); have HO4 := Lk.mk ((hb.block _ (by omega)).trans HO3.out); have HE4 := Lk.mk ((hb.block _ (by omega)).trans HE3.out); have HBw := Lk.mk (show Below w.heap.size w w4 from HB3.out.trans ⟨hb.os, hb.tape, hb.output, hb.size, fun k hk => hb.block k (by omega)⟩); have hsz4 := hb.size; have oc := blk_cell HO4.out 0; have oz := blk_frozen HO4.out 0; have ec := blk_cell HE4.out 0; have ez := blk_frozen HE4.out 0; simp only [List.getElem?_toArray, List.getElem?_cons_zero] at oc ec; clear hb hw4; rcases hor with ⟨rfl, A', c', l', hres, hx1, hR⟩ | ⟨n, hn, herr, rfl⟩))
  · have HO5 := Lk.mk (blk_put (cs' := #[.slice A' l'.length c']) HO4.out 0 (.slice A' l'.length c') rfl)
    have HE5 := Lk.mk ((Below.heap_setCell w4 ⟨w.heap.size + 1, 0, none⟩ (.slice A' l'.length c') _ (by show w.heap.size + 1 + 1 ≠ w.heap.size + 1; omega)).trans HE4.out)
    have HO6 := Lk.mk ((Below.heap_setCell _ ⟨w.heap.size + 1 + 1, 0, none⟩ (.int .i64 0) _ (by show w.heap.size + 1 ≠ w.heap.size + 1 + 1; omega)).trans HO5.out)
    have HE6 := Lk.mk (blk_put (cs' := #[.int .i64 0]) HE5.out 0 (.int .i64 0) rfl)
    have HB6 := Lk.mk ((HBw.out.setCell (p := ⟨w.heap.size + 1, 0, none⟩) (Nat.le_succ _) (.slice A' l'.length c')).setCell (p := ⟨w.heap.size + 1 + 1, 0, none⟩) (by show w.heap.size ≤ w.heap.size + 1 + 1; omega) (.int .i64 0))
    have HR6 := Lk.mk (Kd.R_far (Kd.R_far (Kd.R_mono (Kd.R_bound hR) (fun k hk => hk.2.1)) (p := ⟨w.heap.size + 1, 0, none⟩) (fun k hk => by show k ≠ w.heap.size + 1; omega) (.slice A' l'.length c')) (p := ⟨w.heap.size + 1 + 1, 0, none⟩) (fun k hk => by show k ≠ w.heap.size + 1 + 1; omega) (.int .i64 0))
    have or6 := blk_cell HO6.out 0
    have or5 := blk_cell HO5.out 0
    have er6 := blk_cell HE6.out 0
    simp only [List.getElem?_toArray, List.getElem?_cons_zero] at or6 er6 or5
    refine leaves_cons (f := 126) (args := #[.pointer (some ⟨w.heap.size + 1 + 1, 0, none⟩)]) (by simp) (by simp [go_sem]) ?_
    refine (mcaught_idle _ _).mono ?_
    rintro e u' w'' ⟨rfl, rfl, rfl⟩
    dsimp only [settle]
    refine leaves_cons (f := 125) (args := #[.pointer (some ⟨w.heap.size + 1 + 1, 0, none⟩), .pointer (some ⟨w.heap.size, 0, none⟩), .pointer (some ⟨w.heap.size + 1, 0, none⟩)]) (by simp) (by simp [go_sem]) ?_
    refine (mch1_idle _ _ _ _ _ HE6.out).mono ?_
    rintro e u' w'' ⟨rfl, rfl, rfl⟩
    simp [Leaves, settle, results, Tryd.results84, go_sem]
    refine ⟨.tuple #[.slice A' l'.length c', .int .i64 0], ?_, HB6.out, _, l', 0, rfl, Kd.R_lower (Kd.R_mono HR6.out (fun _ _ => trivial)) (by omega), .inl ⟨rfl, hres⟩⟩
    first | rw [or6] | rw [or5]
    dsimp only [Result.andThen]
    rw [er6]
  · have HW5 := Lk.mk (blk_alloc HE4.out (.cells #[.int .i64 n] 170))
    have HE5 := Lk.mk (blk_put (cs' := #[.int .i64 n]) HW5.out 0 (.int .i64 n) rfl)
    have HO5 := Lk.mk ((Below.heap_setCell (w4.alloc (.cells #[.int .i64 n] 170)) ⟨w.heap.size + 1 + 1, 0, none⟩ (.int .i64 n) _ (by show w.heap.size + 1 ≠ w.heap.size + 1 + 1; omega)).trans (blk_alloc HO4.out (.cells #[.int .i64 n] 170)))
    have HL5 := Lk.mk ((Below.heap_setCell (w4.alloc (.cells #[.int .i64 n] 170)) ⟨w.heap.size + 1 + 1, 0, none⟩ (.int .i64 n) _ (by show w.heap.size ≠ w.heap.size + 1 + 1; omega)).trans (blk_alloc HL4.out (.cells #[.int .i64 n] 170)))
    have HB5 := Lk.mk ((below_alloc HBw.out (.cells #[.int .i64 n] 170)).setCell (p := ⟨w.heap.size + 1 + 1, 0, none⟩) (by show w.heap.size ≤ w.heap.size + 1 + 1; omega) (.int .i64 n))
    refine leaves_cons (f := 126) (args := #[.pointer (some ⟨w.heap.size + 1 + 1, 0, none⟩)]) (by simp) (by simp [go_sem]) ?_
    refine (mcaught_thrown (w.heap.size + 1 + 1) (.int .i64 0) n _ ec ez).mono ?_
    rintro e u' w'' ⟨rfl, rfl, rfl⟩
    simp only [settle, List.dropWhile]
    refine leaves_cons (f := 125) (args := #[.pointer (some ⟨w.heap.size + 1 + 1, 0, none⟩), .pointer (some ⟨w.heap.size, 0, none⟩), .pointer (some ⟨w.heap.size + 1, 0, none⟩)]) (by simp) (by simp [go_sem]) ?_
    refine (mch1_err _ _ _ _ n A c l _ _ hn HE5.out HL5.out HO5.out (Kd.C_below HRC.out HB5.out) HLN.out).mono ?_
    rintro e u' w'' ⟨rfl, rfl, v, w6, hR, hb, rfl⟩
    have HE6 := Lk.mk (blk_below HE5.out hb)
    have HO6 := Lk.mk (blk_below HO5.out hb)
    have HO7 := Lk.mk (blk_put (cs' := #[v]) HO6.out 0 v rfl)
    have HE7 := Lk.mk ((Below.heap_setCell w6 ⟨w.heap.size + 1, 0, none⟩ v _ (by show w.heap.size + 1 + 1 ≠ w.heap.size + 1; omega)).trans HE6.out)
    have or6 := blk_cell HO7.out 0
    have er6 := blk_cell HE7.out 0
    simp only [List.getElem?_toArray, List.getElem?_cons_zero] at or6 er6
    have HB7 := Lk.mk ((below_then HB5.out HB5.out.size hb).setCell (p := ⟨w.heap.size + 1, 0, none⟩) (Nat.le_succ _) v)
    have hsz5 : w.heap.size + 1 + 1 < ((w4.alloc (.cells #[.int .i64 n] 170)).setCell ⟨w.heap.size + 1 + 1, 0, none⟩ (.int .i64 n)).heap.size := blk_lt HE5.out
    have HR7 := Lk.mk (Kd.R_far (Kd.R_mono (Kd.R_bound hR) (fun k hk => hk.2.1)) (p := ⟨w.heap.size + 1, 0, none⟩) (fun k hk => by show k ≠ w.heap.size + 1; omega) v)
    simp [Leaves, settle, results, Tryd.results84, go_sem]
    refine ⟨.tuple #[v, .int .i64 n], ?_, HB7.out, v, l, n, rfl, Kd.R_lower (Kd.R_mono HR7.out (fun _ _ => trivial)) (by omega), .inr ⟨hn, herr, rfl⟩⟩
    rw [or6]
    dsimp only [Result.andThen]
    rw [er6]
end Go.Proofs.YtbikdngpannekaaDoor
