/-
  Several texts as one.
-/
import Derived.Test.YtcepafllgjnngaaDoorPe
/-
  The walks of the library's Clone at values and of the model's clone; conditions: the row reads as told.
-/
namespace Go.Proofs.YtcepafllgjnngaaDoor
open Go.RowKit Go.Proofs.YtcepafllgjnngaaDoorW.PrintWords

theorem infoVl : (Tryd.prog.info? 56).map (fun i => (i.zero, i.size, i.bytes)) = some (some (.agg #[.int .u8 0, .int .u64 0, .int .i64 0, .int .i64 0]), 4, 32) := by kernel_rfl
theorem infoAf : (Tryd.prog.info? 113).map (fun i => (i.zero, i.size, i.bytes)) = some (some (.agg #[.int .i64 0, .slice none 0 0]), 2, 32) := by kernel_rfl
set_option maxRecDepth 100000 in
set_option maxHeartbeats 2000000 in
theorem cloneV (A : Option Addr) (c : Nat) (l : List Sl.Vl) (w : World) (hr : kVl.C w A l.length l) (hl : l.length ≤ 1048576) :
    Calls Tryd.prog 170 #[.slice A l.length c] w fun e w' => ∃ v, e = .returned v ∧ kVl.R 56 w' w.heap.size (fun k => w.heap.size ≤ k) v l ∧ Below w.heap.size w w' := by
  have hm := hr.2.1
  have q : ∀ (w : World) (a : Option Addr) (n c n' c' : Nat), (binOp .eql 111 (.slice a n c) (.slice none n' c')).run Tryd.prog w = .ok (.bool a.isNone) w := fun w a n c n' c' => Lib.run_eql_slice_nil w _ _ a n c n' c' Tryd.underlying111
  cases A with
  | none =>
    have h0 : l = [] := by
      cases l with
      | nil => rfl
      | cons x xs => obtain ⟨ad, h, _⟩ := hr.2.2 (by simp); cases h
    subst h0
    clear hr
    go_enter Tryd.func170, Tryd.ntmps170
    go_wp2
    go_ret
    exact ⟨_, rfl, Kd.R_nil _ _ _ _ _, Below.refl _ _⟩
  | some ad =>
    have HR := Lk.mk hr
    have HBa := Lk.mk (below_alloc (Below.refl w.heap.size w) (.cells #[] 56))
    clear hr
    go_enter Tryd.func170, Tryd.ntmps170
    go_wp2_with (at_builtin
                 refine Kd.R_append_rows (w0 := w) kVl w.heap.size rfl _ _ 111 56 _ 32 rfl Tryd.underlying111 infoVl rfl (show 0 < (4 : Nat) from by decide) (show 0 < (32 : Nat) from by decide) (.slice (some ⟨w.heap.size, 0, none⟩) 0 0) [] l (some ad) l.length c (fun k => w.heap.size ≤ k) (fun _ => False) rfl rfl ?q1 (Kd.C_below HR.out HBa.out) (fun _ _ h => h) (fun _ h => h.elim) ?q3 HBa.out HBa.out.size ?q2 ?_
                 case q1 => exact ⟨fun k hk => by have : w.heap.size = k := (by simpa [Value.ownBlock] using hk)
                                                  omega, [], World.ownsRow_lit (base := w.heap.size) (e := 56) (size := 4) w #[] 0 (Nat.le_refl _) (by decide) (by rfl), Reps.none _ _⟩
                 case q2 => (simp only [List.length_nil]; omega)
                 case q3 => (intro k hk; simp at hk; omega)
                 intro v4 w4 hR4 hb4 _ _
                 rw [List.nil_append] at hR4
                 have HR4 := Lk.mk hR4
                 have HB4 := Lk.mk hb4
                 clear hR4 hb4)
    go_ret
    exact ⟨_, rfl, HR4.out, HB4.out⟩
theorem af_M {w3 : World} {b B m : Nat} {s : Int} {xs : List Sl.Vl} {v3 : Value} (h3 : kVl.R 56 w3 B (fun k => B ≤ k) v3 xs) (hB : b ≤ B) (hm : m ≤ B) : kAf.M w3 b (fun k => m ≤ k) (s, xs) [.int .i64 s, v3] :=
  ⟨[_], [_], rfl, rfl, ⟨v3, rfl, Kd.R_lower (Kd.R_mono h3 (fun k hk => Nat.le_trans hm hk)) hB⟩⟩
theorem af_take {l : List Af} {k : Nat} (h : k < l.length) : l.take (k + 1) = l.take k ++ [l.getD k dAf] := by
  rw [List.take_add_one, List.getD_eq_getElem?_getD, List.getElem?_eq_getElem h]; rfl
def AfLen (l : List Af) : Prop := l.length ≤ 1048576 ∧ ∀ f ∈ l, f.2.length ≤ 1048576
set_option maxRecDepth 100000 in
set_option maxHeartbeats 2000000 in
theorem mclone_any (A : Option Addr) (c : Nat) (l : List Af) (w : World) (hr : kAf.C w A l.length l) (hl : AfLen l) :
    Calls Tryd.prog 151 #[.slice A l.length c] w fun e w' => ∃ v, e = .returned v ∧ kAf.R 113 w' w.heap.size (fun _ => True) v l ∧ Below w.heap.size w w' := by
  have hm := hr.2.1
  have hl0 := hl.1
  obtain ⟨i0, hi, hzz⟩ := Option.map_eq_some_iff.1 infoAf
  simp only [Prod.mk.injEq] at hzz
  obtain ⟨hz0, hz1, hz2⟩ := hzz
  obtain ⟨wm, hmk, hown, hgr⟩ := run_make_own (P := Tryd.prog) w w.heap.size 42 113 i0 _ 2 Tryd.underlying42 hi hz0 hz1 .i64 .i64 l.length (by rw [hz2]; omega) (by simp only [maxLen]; omega) (Nat.le_refl _)
  have HB0 := Lk.mk (show Below w.heap.size w wm from ⟨hgr.os, hgr.tape, hgr.output, hgr.size, fun k hk => hgr.block k hk (by simp)⟩)
  have HR0 := Lk.mk (show kAf.R 113 wm w.heap.size (fun _ => True) (.slice (some ⟨w.heap.size, 0, none⟩) 0 l.length) [] from ⟨fun _ _ => trivial, [], hown, Reps.none _ _⟩)
  have HRC := Lk.mk hr
  have HL := Lk.mk hl
  clear hr hl hown hgr hz0 hz1 hz2 hi
  go_enter Tryd.func151, Tryd.ntmps151
  go_wp2
  go_loopg [3, 11] l.length (fun gg v3 v11 wr => ∃ k : Nat, k ≤ l.length ∧ l.length - k ≤ gg ∧ v11 = .int .i64 k ∧ Lk (kAf.R 113 wr w.heap.size (fun _ => True) v3 (l.take k)) ∧ Lk (Below w.heap.size w wr))
  case atStart => exact ⟨0, by omega, by omega, rfl, HR0, HB0⟩
  case round =>
    obtain ⟨k, hk, hg, rfl, HE, HB⟩ := hrel
    clear hmk HR0 HB0
    by_cases hlt : k < l.length
    · have hltz : (k : Int) < (l.length : Int) := by omega
      obtain ⟨ad, A1, c1, rfl, b0, b1, hc1, hC1⟩ := kAf_at (Kd.C_below HRC.out HB.out) k hlt
      have HX := Lk.mk (af_take hlt)
      have HLK := Lk.mk (HL.out.2 (l.getD k dAf) (getD_mem _ hlt))
      have HLT := Lk.mk (show ((l.take k).length + 1) * 32 ≤ 140737488355328 by have := HL.out.1; rw [List.length_take]; omega)
      generalize l.getD k dAf = f at *
      obtain ⟨f0, f1⟩ := f
      dsimp only at *
      have HBa := Lk.mk (below_drew (below_alloc (Below.refl wr.heap.size wr) (.cells #[.int .i64 f0, .slice A1 f1.length c1] 113)))
      have HFa := Lk.mk (blk_drew (blk_new wr (.cells #[.int .i64 f0, .slice A1 f1.length c1] 113)))
      have HCl := Lk.mk (cloneV A1 c1 f1 _ (Kd.C_below hC1 HBa.out) HLK.out)
      have HV := Lk.mk (Kd.R_bound HE.out).1
      have HOK := Lk.mk (show ∀ k, wr.heap.size + 1 ≤ k → True ∧ some k ≠ u3.ownBlock from fun k hk => ⟨trivial, fun e => by have := (HV.out k e.symm).2.2.1; omega⟩)
      have hsz : (wr.alloc (.cells #[.int .i64 f0, .slice A1 f1.length c1] 113)).drew.heap.size = wr.heap.size + 1 := by show (wr.alloc _).heap.size = _; simp
      have HSZ := Lk.mk hsz
      have HS := HB.out.size
      obtain ⟨q0, q1⟩ := cells2v HFa.out
      clear hC1 hc1 hsz
      go_wp2
      go_region_held3 (fun W => W.cell? ⟨wr.heap.size, 0, none⟩ = some (.int .i64 f0) ∧ W.cell? ⟨wr.heap.size, 1, none⟩ = some (.slice A1 f1.length c1)) (first | exact ⟨q0, q1⟩ | exact ⟨pw_cell_below hb3 q0, pw_cell_below hb3 q1⟩ | exact ⟨pw_cell_below (below_alloc hb3 _) q0, pw_cell_below (below_alloc hb3 _) q1⟩ | exact K4.out) (first
        | (go_at_call 170; (with_reducible refine (HCl.out).mono ?_); rintro e w3 ⟨v3, rfl, ho3, hb3⟩; rw [HSZ.out] at ho3; obtain ⟨A3, c3, rfl, _, _⟩ := Kd.R_reads ho3; have HBx := Lk.mk (below_then HB.out HB.out.size (below_then HBa.out HBa.out.size hb3)))
        | (have HP := Lk.mk (af_M (b := w.heap.size) (m := wr.heap.size + 1) (s := f0) ho3 (by omega) (Nat.le_refl _))
           have HR4 := Lk.mk (Kd.R_below (Kd.R_below HE.out HBa.out) hb3)
           refine Kd.R_append_step (w0 := w) kAf w.heap.size (by rfl) _ _ 42 113 _ 32 (by rfl) Tryd.underlying42 infoAf rfl (by decide) (by decide) u3 _ (f0, f1) _ (fun _ => True) (fun k => wr.heap.size + 1 ≤ k) (by rfl) (by rfl) HP.out HOK.out (fun _ _ => trivial) HR4.out HBx.out HBx.out.size HLT.out ?_
           intro v4 w4 hE4 hb4 hg4 hat4
           have K4 := Lk.mk (show w4.cell? ⟨wr.heap.size, 0, none⟩ = some (.int .i64 f0) ∧ w4.cell? ⟨wr.heap.size, 1, none⟩ = some (.slice A1 f1.length c1) from by
             have hne : some wr.heap.size ≠ u3.ownBlock := fun e => by have := (HV.out _ e.symm).2.2.1; omega
             have h5 := (hg4.block _ (blk_lt (blk_below HFa.out hb3)) hne).trans (blk_below HFa.out hb3)
             exact cells2v h5)))
      go_wp2
      have HE4 := Lk.mk hE4
      have HB4 := Lk.mk hb4
      clear hE4 hb4 hg4 hat4
      go_roundg (l.length - (k + 1))
      case measure => omega
      case rel => exact ⟨k + 1, by omega, by omega, by go_num, ⟨by rw [HX.out]; exact HE4.out⟩, HB4⟩
    · have hltz : ¬ (k : Int) < (l.length : Int) := by omega
      obtain rfl : k = l.length := by omega
      rw [List.take_length] at HE
      go_wp2
      go_ret
      exact ⟨_, rfl, HE.out, HB.out⟩
end Go.Proofs.YtcepafllgjnngaaDoor

/-
  The walk of the model's change; conditions: the row and the table read as told, the row is right; how turns the row, or throws.
-/
namespace Go.Proofs.YtcepafllgjnngaaDoor
open Go.RowKit Go.Proofs.YtcepafllgjnngaaDoorW.PrintWords

set_option maxRecDepth 100000 in
set_option maxHeartbeats 2000000 in
theorem mch1_idle (a b c : Nat) (u : FrameMode) (w : World) (h : w.heap[a]? = some (.cells #[.int .i64 0] 30 (0, 0))) :
    CallsD Tryd.prog 152 #[.pointer (some ⟨a, 0, none⟩), .pointer (some ⟨b, 0, none⟩), .pointer (some ⟨c, 0, none⟩)] u w fun e u' w' => u' = u ∧ e = .returned (.tuple #[]) ∧ w' = w := by
  have hc := blk_cell h 0
  simp only [List.getElem?_toArray, List.getElem?_cons_zero] at hc
  go_enter_d Tryd.func152, Tryd.ntmps152
  go_wp2
  simp [bodyPost, results, Tryd.results152]
set_option maxRecDepth 100000 in
set_option maxHeartbeats 2000000 in
theorem mch1_err (a b c : Nat) (u : FrameMode) (n : Int) (A : Option Addr) (cp : Nat) (l : List Af) (x : Value) (w : World) (hn : ¬ n = 0) (h : w.heap[a]? = some (.cells #[.int .i64 n] 30 (0, 0))) (hb : w.heap[b]? = some (.cells #[.slice A l.length cp] 42 (0, 0))) (hc : w.heap[c]? = some (.cells #[x] 42 (0, 0))) (hr : kAf.C w A l.length l) (hl : AfLen l) :
    CallsD Tryd.prog 152 #[.pointer (some ⟨a, 0, none⟩), .pointer (some ⟨b, 0, none⟩), .pointer (some ⟨c, 0, none⟩)] u w fun e u' w' => u' = u ∧ e = .returned (.tuple #[]) ∧ ∃ v w2, kAf.R 113 w2 w.heap.size (fun _ => True) v l ∧ Below w.heap.size w w2 ∧ w' = w2.setCell ⟨c, 0, none⟩ v := by
  have ha0 := blk_cell h 0
  have hb0 := blk_cell hb 0
  simp only [List.getElem?_toArray, List.getElem?_cons_zero] at ha0 hb0
  have HC := Lk.mk hc
  have HCL := Lk.mk (mclone_any A cp l w hr hl)
  clear h hb hc hr hl
  go_enter_d Tryd.func152, Tryd.ntmps152
  go_wp2_with (go_at_call 151; (with_reducible refine (HCL.out).mono ?_); rintro e w1 ⟨v, rfl, hR, hb⟩; obtain ⟨A1, c1, rfl, _, _⟩ := Kd.R_reads hR; have HR := Lk.mk hR; have HB := Lk.mk hb; have hc1 := blk_cell (blk_below HC.out hb) 0; have hz1 := blk_frozen (blk_below HC.out hb) 0; simp only [List.getElem?_toArray, List.getElem?_cons_zero] at hc1; clear hb hR)
  simp [bodyPost, results, Tryd.results152]
  exact ⟨_, _, HR.out, HB.out, rfl⟩
/-- what how leaves of a row: it is turned, or an error's number is thrown -/
def HowL (res : List Af → Prop) (err : Int → Prop) (p : Value) (B qr : Nat) (W : World) (e : Ending) (W' : World) : Prop :=
  Below B W W' ∧ ((e = .returned (.tuple #[]) ∧ ∃ v' l', res l' ∧ W'.heap[qr]? = some (.cells #[p, v'] 179 (0, 0)) ∧ kAf.R 113 W' B (fun k => k ≠ qr) v' l') ∨ ∃ n, ¬ n = 0 ∧ err n ∧ e = .panicked (wrongC n))
theorem HowL.open_ {res : List Af → Prop} {err : Int → Prop} {p : Value} {B qr : Nat} {W W' : World} {e : Ending} (h : HowL res err p B qr W e W') : Below B W W' ∧ ((e = .returned (.tuple #[]) ∧ ∃ A' c' l', res l' ∧ W'.cell? ⟨qr, 1, none⟩ = some (.slice A' l'.length c') ∧ kAf.R 113 W' B (fun k => k ≠ qr) (.slice A' l'.length c') l') ∨ ∃ n, ¬ n = 0 ∧ err n ∧ e = .panicked (wrongC n)) := by
  obtain ⟨hb, ⟨he, v', l', h1, h2, h3⟩ | h⟩ := h
  · obtain ⟨A', c', rfl, _, _⟩ := Kd.R_reads h3
    exact ⟨hb, .inl ⟨he, A', c', l', h1, (cells2v h2).2, h3⟩⟩
  · exact ⟨hb, .inr h⟩
set_option maxRecDepth 100000 in
set_option maxHeartbeats 2000000 in
theorem mchange_any (q : Option Addr) (ent : List (Int × (List Int × List Int))) (g : Nat) (lb : Array Value) (A : Option Addr) (c : Nat) (l : List Af) (res : List Af → Prop) (err : Int → Prop) (w : World) (eg : ∀ args w, (callFunc g args).run Tryd.prog w = .ok (.enter g args) w) (ht : TblOr w (.pointer q) ent) (hw : ∀ e ∈ ent, Bm.Words e.2.1) (hr : kAf.C w A l.length l) (hl : AfLen l) (hv : AfIn l) (hR : RightP (tSize ent) (tPtr ent) l)
    (hhow : ∀ W qr v, Below w.heap.size w W → w.heap.size + 3 ≤ qr → W.heap[qr]? = some (.cells #[.pointer q, v] 179 (0, 0)) → kAf.R 113 W (w.heap.size + 3) (fun k => k < qr) v l → Calls Tryd.prog g (#[.pointer (some ⟨qr, 0, none⟩)] ++ lb) W fun e W' => HowL res err (.pointer q) (w.heap.size + 3) qr W e W') :
    Calls Tryd.prog 110 #[.pointer q, .slice A l.length c, .func (.func g) #[] lb] w fun e w' => Below w.heap.size w w' ∧ ∃ v l' n, e = .returned (.tuple #[v, .int .i64 n]) ∧ kAf.R 113 w' w.heap.size (fun _ => True) v l' ∧ ((n = 0 ∧ res l') ∨ (¬ n = 0 ∧ err n ∧ l' = l)) := by
  have hs1 : (w.alloc (.cells #[.slice A l.length c] 42)).heap.size = w.heap.size + 1 := by simp
  have hs2 : ((w.alloc (.cells #[.slice A l.length c] 42)).alloc (.cells #[.slice none 0 0] 42)).heap.size = w.heap.size + 1 + 1 := by simp
  have hs3 : (((w.alloc (.cells #[.slice A l.length c] 42)).alloc (.cells #[.slice none 0 0] 42)).alloc (.cells #[.int .i64 0] 30)).heap.size = w.heap.size + 1 + 1 + 1 := by simp
  have H0 := Lk.mk (below_alloc (below_alloc (below_alloc (Below.refl w.heap.size w) (.cells #[.slice A l.length c] 42)) (.cells #[.slice none 0 0] 42)) (.cells #[.int .i64 0] 30))
  have HL0 := Lk.mk (blk_alloc (blk_alloc (blk_new w (.cells #[.slice A l.length c] 42)) (.cells #[.slice none 0 0] 42)) (.cells #[.int .i64 0] 30))
  have ho0 := blk_alloc (blk_new (w.alloc (.cells #[.slice A l.length c] 42)) (.cells #[.slice none 0 0] 42)) (.cells #[.int .i64 0] 30)
  rw [hs1] at ho0
  have HO0 := Lk.mk ho0
  have he0 := blk_new ((w.alloc (.cells #[.slice A l.length c] 42)).alloc (.cells #[.slice none 0 0] 42)) (.cells #[.int .i64 0] 30)
  rw [hs2] at he0
  have HE0 := Lk.mk he0
  have hcl := mclone_any A c l _ (Kd.C_below hr H0.out) hl
  rw [hs3] at hcl
  have HCL := Lk.mk hcl
  have HRT := Lk.mk (fun W (hb : Below w.heap.size w W) => mRight_ok (.pointer q) ent A c l W (ht.below hb) hw (Kd.C_below hr hb) hv hR)
  have HHW := Lk.mk hhow
  have HRC := Lk.mk hr
  have HLN := Lk.mk hl
  have HS3 := Lk.mk hs3
  have hl0c := blk_cell HL0.out 0
  simp only [List.getElem?_toArray, List.getElem?_cons_zero] at hl0c
  clear ht hw hr hl hv hR hhow hcl ho0 he0 hs1 hs2 hs3
  go_enter_defers Tryd.func110, Tryd.ntmps110
  go_wp2_with (first
    | (go_at_call 151; (with_reducible refine (HCL.out).mono ?_); rintro e w1 ⟨v, rfl, hR, hb⟩; obtain ⟨A1, c1, rfl, _, _⟩ := Kd.R_reads hR; have HR1 := Lk.mk hR; have HB1 := Lk.mk (below_then H0.out H0.out.size (HS3.out ▸ hb)); have HL1 := Lk.mk (blk_below HL0.out (HS3.out ▸ hb)); have HO1 := Lk.mk (blk_below HO0.out (HS3.out ▸ hb)); have HE1 := Lk.mk (blk_below HE0.out (HS3.out ▸ hb)); have hsz1 : w.heap.size + 1 + 1 + 1 ≤ w1.heap.size := HS3.out ▸ hb.size; have hl1c := blk_cell (blk_alloc HL1.out (.cells #[.pointer q, .slice A1 l.length c1] 179)) 0; simp only [List.getElem?_toArray, List.getElem?_cons_zero] at hl1c; have HBa := Lk.mk (below_alloc HB1.out (.cells #[.pointer q, .slice A1 l.length c1] 179)); clear hb hR)
    | (go_at_call 154; (with_reducible refine (HRT.out _ HBa.out).mono ?_); rintro e w3 ⟨rfl, hb⟩; have HB3 := Lk.mk (below_then HBa.out HBa.out.size hb); have HX3 := Lk.mk (blk_below (blk_new w1 (.cells #[.pointer q, .slice A1 l.length c1] 179)) hb); have HR3 := Lk.mk (Kd.R_below (Kd.R_alloc (Kd.R_mono (Kd.R_bound HR1.out) (fun k hk => hk.2.2.1)) (.cells #[.pointer q, .slice A1 l.length c1] 179)) hb); have HL3 := Lk.mk (blk_below (blk_alloc HL1.out (.cells #[.pointer q, .slice A1 l.length c1] 179)) hb); have HO3 := Lk.mk (blk_below (blk_alloc HO1.out (.cells #[.pointer q, .slice A1 l.length c1] 179)) hb); have HE3 := Lk.mk (blk_below (blk_alloc HE1.out (.cells #[.pointer q, .slice A1 l.length c1] 179)) hb); have hsz3 : w1.heap.size ≤ w3.heap.size := Nat.le_trans (by simp) hb.size; clear hb)
    | (go_at_call 112; (with_reducible refine (mmust_ok _ _).mono ?_); rintro e w' ⟨rfl, hw⟩; obtain rfl := hw.symm; clear hw)
    | (go_at_fn g; (with_reducible refine (HHW.out w3 w1.heap.size (.slice A1 l.length c1) HB3.out (by omega) HX3.out HR3.out).mono ?_); rintro e w4 hw4; obtain ⟨hb, hor⟩ := hw4.open_; have HL4 := Lk.mk ((hb.block _ (by omega)).trans HL3.out); have HO4 := Lk.mk ((hb.block _ (by omega)).trans HO3.out); have HE4 := Lk.mk ((hb.block _ (by omega)).trans HE3.out); have HBw := Lk.mk (show Below w.heap.size w w4 from HB3.out.trans ⟨hb.os, hb.tape, hb.output, hb.size, fun k hk => hb.block k (by omega)⟩); have hsz4 := hb.size; have oc := blk_cell HO4.out 0; have oz := blk_frozen HO4.out 0; have ec := blk_cell HE4.out 0; have ez := blk_frozen HE4.out 0; simp only [List.getElem?_toArray, List.getElem?_cons_zero] at oc ec; clear hb hw4; rcases hor with ⟨rfl, A', c', l', hres, hx1, hR⟩ | ⟨n, hn, herr, rfl⟩))
  · have HO5 := Lk.mk (blk_put (cs' := #[.slice A' l'.length c']) HO4.out 0 (.slice A' l'.length c') rfl)
    have HE5 := Lk.mk ((Below.heap_setCell w4 ⟨w.heap.size + 1, 0, none⟩ (.slice A' l'.length c') _ (by show w.heap.size + 1 + 1 ≠ w.heap.size + 1; omega)).trans HE4.out)
    have HO6 := Lk.mk ((Below.heap_setCell _ ⟨w.heap.size + 1 + 1, 0, none⟩ (.int .i64 0) _ (by show w.heap.size + 1 ≠ w.heap.size + 1 + 1; omega)).trans HO5.out)
    have HE6 := Lk.mk (blk_put (cs' := #[.int .i64 0]) HE5.out 0 (.int .i64 0) rfl)
    have HB6 := Lk.mk ((HBw.out.setCell (p := ⟨w.heap.size + 1, 0, none⟩) (Nat.le_succ _) (.slice A' l'.length c')).setCell (p := ⟨w.heap.size + 1 + 1, 0, none⟩) (by show w.heap.size ≤ w.heap.size + 1 + 1; omega) (.int .i64 0))
    have HR6 := Lk.mk (Kd.R_far (Kd.R_far (Kd.R_mono (Kd.R_bound hR) (fun k hk => hk.2.1)) (p := ⟨w.heap.size + 1, 0, none⟩) (fun k hk => by show k ≠ w.heap.size + 1; omega) (.slice A' l'.length c')) (p := ⟨w.heap.size + 1 + 1, 0, none⟩) (fun k hk => by show k ≠ w.heap.size + 1 + 1; omega) (.int .i64 0))
    have or6 := blk_cell HO6.out 0
    have or5 := blk_cell HO5.out 0
    have er6 := blk_cell HE6.out 0
    simp only [List.getElem?_toArray, List.getElem?_cons_zero] at or6 er6 or5
    refine leaves_cons (f := 153) (args := #[.pointer (some ⟨w.heap.size + 1 + 1, 0, none⟩)]) (by simp) (by simp [go_sem]) ?_
    refine (mcaught_idle _ _).mono ?_
    rintro e u' w'' ⟨rfl, rfl, rfl⟩
    dsimp only [settle]
    refine leaves_cons (f := 152) (args := #[.pointer (some ⟨w.heap.size + 1 + 1, 0, none⟩), .pointer (some ⟨w.heap.size, 0, none⟩), .pointer (some ⟨w.heap.size + 1, 0, none⟩)]) (by simp) (by simp [go_sem]) ?_
    refine (mch1_idle _ _ _ _ _ HE6.out).mono ?_
    rintro e u' w'' ⟨rfl, rfl, rfl⟩
    simp [Leaves, settle, results, Tryd.results110, go_sem]
    refine ⟨.tuple #[.slice A' l'.length c', .int .i64 0], ?_, HB6.out, _, l', 0, rfl, Kd.R_lower (Kd.R_mono HR6.out (fun _ _ => trivial)) (by omega), .inl ⟨rfl, hres⟩⟩
    first | rw [or6] | rw [or5]
    dsimp only [Result.andThen]
    rw [er6]
  · have HW5 := Lk.mk (blk_alloc HE4.out (.cells #[.int .i64 n] 205))
    have HE5 := Lk.mk (blk_put (cs' := #[.int .i64 n]) HW5.out 0 (.int .i64 n) rfl)
    have HO5 := Lk.mk ((Below.heap_setCell (w4.alloc (.cells #[.int .i64 n] 205)) ⟨w.heap.size + 1 + 1, 0, none⟩ (.int .i64 n) _ (by show w.heap.size + 1 ≠ w.heap.size + 1 + 1; omega)).trans (blk_alloc HO4.out (.cells #[.int .i64 n] 205)))
    have HL5 := Lk.mk ((Below.heap_setCell (w4.alloc (.cells #[.int .i64 n] 205)) ⟨w.heap.size + 1 + 1, 0, none⟩ (.int .i64 n) _ (by show w.heap.size ≠ w.heap.size + 1 + 1; omega)).trans (blk_alloc HL4.out (.cells #[.int .i64 n] 205)))
    have HB5 := Lk.mk ((below_alloc HBw.out (.cells #[.int .i64 n] 205)).setCell (p := ⟨w.heap.size + 1 + 1, 0, none⟩) (by show w.heap.size ≤ w.heap.size + 1 + 1; omega) (.int .i64 n))
    refine leaves_cons (f := 153) (args := #[.pointer (some ⟨w.heap.size + 1 + 1, 0, none⟩)]) (by simp) (by simp [go_sem]) ?_
    refine (mcaught_thrown (w.heap.size + 1 + 1) (.int .i64 0) n _ ec ez).mono ?_
    rintro e u' w'' ⟨rfl, rfl, rfl⟩
    simp only [settle, List.dropWhile]
    refine leaves_cons (f := 152) (args := #[.pointer (some ⟨w.heap.size + 1 + 1, 0, none⟩), .pointer (some ⟨w.heap.size, 0, none⟩), .pointer (some ⟨w.heap.size + 1, 0, none⟩)]) (by simp) (by simp [go_sem]) ?_
    refine (mch1_err _ _ _ _ n A c l _ _ hn HE5.out HL5.out HO5.out (Kd.C_below HRC.out HB5.out) HLN.out).mono ?_
    rintro e u' w'' ⟨rfl, rfl, v, w6, hR, hb, rfl⟩
    have HE6 := Lk.mk (blk_below HE5.out hb)
    have HO6 := Lk.mk (blk_below HO5.out hb)
    have HO7 := Lk.mk (blk_put (cs' := #[v]) HO6.out 0 v rfl)
    have HE7 := Lk.mk ((Below.heap_setCell w6 ⟨w.heap.size + 1, 0, none⟩ v _ (by show w.heap.size + 1 + 1 ≠ w.heap.size + 1; omega)).trans HE6.out)
    have or6 := blk_cell HO7.out 0
    have er6 := blk_cell HE7.out 0
    simp only [List.getElem?_toArray, List.getElem?_cons_zero] at or6 er6
    have HB7 := Lk.mk ((below_then HB5.out HB5.out.size hb).setCell (p := ⟨w.heap.size + 1, 0, none⟩) (Nat.le_succ _) v)
    have hsz5 : w.heap.size + 1 + 1 < ((w4.alloc (.cells #[.int .i64 n] 205)).setCell ⟨w.heap.size + 1 + 1, 0, none⟩ (.int .i64 n)).heap.size := blk_lt HE5.out
    have HR7 := Lk.mk (Kd.R_far (Kd.R_mono (Kd.R_bound hR) (fun k hk => hk.2.1)) (p := ⟨w.heap.size + 1, 0, none⟩) (fun k hk => by show k ≠ w.heap.size + 1; omega) v)
    simp [Leaves, settle, results, Tryd.results110, go_sem]
    refine ⟨.tuple #[v, .int .i64 n], ?_, HB7.out, v, l, n, rfl, Kd.R_lower (Kd.R_mono HR7.out (fun _ _ => trivial)) (by omega), .inr ⟨hn, herr, rfl⟩⟩
    rw [or6]
    dsimp only [Result.andThen]
    rw [er6]
end Go.Proofs.YtcepafllgjnngaaDoor

/-
  The walks of the model's Call and Return at a function without slots; conditions: the row and the table read as told, the row is right.
-/
namespace Go.Proofs.YtcepafllgjnngaaDoor
open Go.RowKit Go.Proofs.YtcepafllgjnngaaDoorW.PrintWords

theorem vl_zero (W : World) (b : Nat) (okp : Nat → Prop) : kVl.M W b okp (0, 0, 0, 0) (Value.agg #[.int .u8 0, .int .u64 0, .int .i64 0, .int .i64 0]).cells.toList := by
  exact ⟨[_], [_, _, _], rfl, rfl, ⟨[_], [_, _], rfl, rfl, ⟨[_], [_], rfl, rfl, rfl⟩⟩⟩
set_option maxRecDepth 100000 in
set_option maxHeartbeats 2000000 in
theorem mcall1_zero (q : Option Addr) (ent : List (Int × (List Int × List Int))) (f : Int) (l : List Af) (B bf qr : Nat) (v : Value) (W : World) (hl : AfLen l) (hl2 : l.length < 1048576) (ht : TblOr W (.pointer q) ent) (hs : tSize ent f = 0) (hB : bf < B) (hB2 : B ≤ qr) (hbf : W.heap[bf]? = some (.cells #[.int .i64 f] 3 (0, 0))) (hq : W.heap[qr]? = some (.cells #[.pointer q, v] 179 (0, 0))) (hR : kAf.R 113 W B (fun k => k < qr) v l) :
    Calls Tryd.prog 111 #[.pointer (some ⟨qr, 0, none⟩), .pointer (some ⟨bf, 0, none⟩)] W fun e W' => HowL (fun l' => l' = l ++ [(f, [])]) (fun _ => False) (.pointer q) B qr W e W' := by
  obtain ⟨A, c, rfl, _, _⟩ := Kd.R_reads hR
  have HSZ := Lk.mk (fun W' (hb : Below W.heap.size W W') => hs ▸ size_any (.pointer q) ent f W' (ht.below hb))
  have HD := Lk.mk (below_drew (Below.refl W.heap.size W))
  have HD2 := Lk.mk (below_drew HD.out)
  have hqd := blk_drew hq
  have hfd := blk_drew hbf
  obtain ⟨q0, q1⟩ := cells2v hqd
  have f0 := blk_cell hfd 0
  simp only [List.getElem?_toArray, List.getElem?_cons_zero] at f0
  obtain ⟨r0, r1⟩ := cells2v (blk_drew hqd)
  have s0 := blk_cell (blk_drew hfd) 0
  simp only [List.getElem?_toArray, List.getElem?_cons_zero] at s0
  have hqa := blk_drew (blk_drew (blk_alloc hq (.cells #[] 56)))
  have hfa := blk_drew (blk_drew (blk_alloc hbf (.cells #[] 56)))
  obtain ⟨t0, t1⟩ := cells2v hqa
  have u0 := blk_cell hfa 0
  simp only [List.getElem?_toArray, List.getElem?_cons_zero] at u0
  obtain ⟨x0, x1⟩ := cells2v (blk_drew hqa)
  have y0 := blk_cell (blk_drew hfa) 0
  simp only [List.getElem?_toArray, List.getElem?_cons_zero] at y0
  have HBa := Lk.mk (below_drew (below_drew (below_drew (below_alloc (Below.refl W.heap.size W) (.cells #[] 56)))))
  have HR := Lk.mk (Kd.R_below hR HBa.out)
  have HQ := Lk.mk (blk_drew hqa)
  have HQ0 := Lk.mk hq
  have HF0 := Lk.mk hbf
  have HLW := Lk.mk (blk_lt hq)
  have HOWN := Lk.mk (show ∀ k, (Value.slice A l.length c).ownBlock = some k → k < qr from fun k hk => hR.1 k hk)
  have HL := Lk.mk hl
  have HL2 := Lk.mk hl2
  have HBB := Lk.mk hB
  have HBQ := Lk.mk hB2
  clear hR ht hs hbf hq hqd hfd hl hl2 hB hB2 hqa hfa
  have HB0 := Lk.mk (show Below B W ((W.alloc (.cells #[] 56)).drew.drew.drew) from ⟨HBa.out.os, HBa.out.tape, HBa.out.output, by have := HBa.out.size; omega, fun k hk => HBa.out.block k (by have := HLW.out; have := HBQ.out; omega)⟩)
  have hP1 : kVl.R 56 (W.alloc (.cells #[] 56)) W.heap.size (fun k => W.heap.size ≤ k) (.slice (some ⟨W.heap.size, 0, none⟩) 0 0) [] := ⟨fun k hk => (show W.heap.size = k by simpa [Value.ownBlock] using hk) ▸ Nat.le_refl _, [], World.ownsRow_lit (base := W.heap.size) (e := 56) (size := 4) W #[] 0 (Nat.le_refl _) (by decide) (by rfl), Reps.none _ _⟩
  have HP := Lk.mk (af_M (b := B) (m := W.heap.size) (s := f) (Kd.R_drew (Kd.R_drew (Kd.R_drew hP1))) (by have := HLW.out; have := HBQ.out; omega) (Nat.le_refl _))
  clear hP1
  have HBS := Lk.mk (show B ≤ ((W.alloc (.cells #[] 56)).drew.drew.drew).heap.size by have := HBa.out.size; have := HLW.out; have := HBQ.out; omega)
  have HOK := Lk.mk (show ∀ k, W.heap.size ≤ k → k ≠ qr ∧ some k ≠ (Value.slice A l.length c).ownBlock from fun k hk => ⟨by have := HLW.out; omega, fun e => by have := HOWN.out k e.symm; have := HLW.out; omega⟩)
  have HFR := Lk.mk (show ∀ k, ((W.alloc (.cells #[] 56)).drew.drew.drew).heap.size ≤ k → k ≠ qr from fun k hk => by have := HBa.out.size; have := HLW.out; omega)
  have HRm := Lk.mk (Kd.R_mono HR.out (fun k hk => (Nat.ne_of_lt hk : k ≠ qr)))
  have HLN := Lk.mk (show (l.length + 1) * 32 ≤ 140737488355328 by have := HL2.out; omega)
  have HLQ := Lk.mk (show qr < ((W.alloc (.cells #[] 56)).drew.drew.drew).heap.size by have := HBa.out.size; have := HLW.out; omega)
  have HNE := Lk.mk (show some qr ≠ (Value.slice A l.length c).ownBlock from fun e => by have := HOWN.out qr e.symm; omega)
  obtain ⟨z0, z1⟩ := cells2v (blk_alloc (blk_alloc HQ0.out (.cells #[] 56)) (.cells #[.int .i64 f, .slice (some ⟨W.heap.size, 0, none⟩) 0 0] 113))
  have zf := blk_cell (blk_alloc (blk_alloc HF0.out (.cells #[] 56)) (.cells #[.int .i64 f, .slice (some ⟨W.heap.size, 0, none⟩) 0 0] 113)) 0
  simp only [List.getElem?_toArray, List.getElem?_cons_zero] at zf
  have HSW := Lk.mk (show ((W.alloc (.cells #[] 56)).drew.drew.drew).heap.size = W.heap.size + 1 by show (W.alloc _).heap.size = _; simp)
  have hmk : ∀ w : World, (Instr.makeSlice 111 (.int .i64 0) (.int .i64 0)).run Tryd.prog w = .ok (.slice (some ⟨w.heap.size, 0, none⟩) 0 0) (w.alloc (.cells #[] 56)) := fun _ => by kernel_rfl
  go_enter Tryd.func111, Tryd.ntmps111
  go_wp2
  go_region_held3 (fun W' => W'.cell? ⟨qr, 0, none⟩ = some (.pointer q) ∧ W'.cell? ⟨bf, 0, none⟩ = some (.int .i64 f)) (first | exact ⟨q0, f0⟩) (first
    | (go_at_call 63; (with_reducible refine (HSZ.out _ HD.out).mono ?_); rintro e w' ⟨rfl, hw⟩; obtain rfl := hw.symm; clear hw)
    | (go_at_call 112; (with_reducible refine (mmust_ok _ _).mono ?_); rintro e w' ⟨rfl, hw⟩; obtain rfl := hw.symm; clear hw))
  go_wp2
  go_region_held3 (fun W' => W'.cell? ⟨qr, 0, none⟩ = some (.pointer q) ∧ W'.cell? ⟨bf, 0, none⟩ = some (.int .i64 f)) (first | exact ⟨r0, s0⟩ | exact ⟨t0, u0⟩) (first
    | (go_at_call 63; (with_reducible refine (HSZ.out _ HD2.out).mono ?_); rintro e w' ⟨rfl, hw⟩; obtain rfl := hw.symm; clear hw))
  go_wp2
  go_loopg [22] 0 (fun gg v22 wr => v22 = .int .i64 0 ∧ wr = (W.alloc (.cells #[] 56)).drew.drew)
  case atStart => exact ⟨rfl, rfl⟩
  case round =>
    obtain ⟨rfl, rfl⟩ := hrel
    go_wp2
    go_region_law (refine Kd.R_append_step (w0 := W) kAf B (by rfl) _ _ 42 113 _ 32 (by rfl) Tryd.underlying42 infoAf rfl (by decide) (by decide) (.slice A l.length c) l (f, []) _ (fun k => k ≠ qr) (fun k => W.heap.size ≤ k) (by rfl) (by rw [HSW.out]; rfl) HP.out HOK.out HFR.out HRm.out HB0.out HBS.out HLN.out ?_
                   intro v4 w4 hE4 hb4 hg4 hat4
                   obtain ⟨A4, c4, e4, hc4, hC4⟩ := Kd.R_reads hE4
                   rw [List.length_append, show [((f, []) : Af)].length = 1 from rfl] at e4
                   subst e4
                   have HG4 := Lk.mk ((hg4.block qr HLQ.out HNE.out).trans HQ.out)
                   have hf4 := blk_cell HG4.out 1
                   simp only [List.getElem?_toArray, List.getElem?_cons_zero, List.getElem?_cons_succ] at hf4
                   have hz4 := blk_frozen HG4.out 1)
    all_goals
      have HE4 := Lk.mk hE4
      have HB4 := Lk.mk hb4
      clear hE4 hb4 hg4 hat4 hC4 hc4
      go_wp2
      simp [bodyPost, results, Tryd.results111]
      exact ⟨HB4.out.setCell (p := ⟨qr, 1, none⟩) HBQ.out _, .inl ⟨rfl, _, _, rfl, blk_put HG4.out 1 _ rfl, Kd.R_far HE4.out (fun k hk => hk) _⟩⟩
end Go.Proofs.YtcepafllgjnngaaDoor

/-
  The walks of the model's Call at a function without slots, and of Return; conditions: the row and the table read as told, the row is right.
-/
namespace Go.Proofs.YtcepafllgjnngaaDoor
open Go.RowKit Go.Proofs.YtcepafllgjnngaaDoorW.PrintWords

set_option maxRecDepth 100000 in
set_option maxHeartbeats 2000000 in
theorem mret1_any (q : Option Addr) (l : List Af) (B qr : Nat) (v : Value) (W : World) (hl2 : l.length < 1048576) (hB2 : B ≤ qr) (hq : W.heap[qr]? = some (.cells #[.pointer q, v] 179 (0, 0))) (hR : kAf.R 113 W B (fun k => k < qr) v l) :
    Calls Tryd.prog 113 #[.pointer (some ⟨qr, 0, none⟩)] W fun e W' => HowL (fun l' => l' = l.take (l.length - 1) ∧ 1 < l.length) (fun n => n = 8 ∧ ¬ 1 < l.length) (.pointer q) B qr W e W' := by
  obtain ⟨A, c, rfl, hc, _⟩ := Kd.R_reads hR
  obtain ⟨q0, q1⟩ := cells2v hq
  obtain ⟨r0, r1⟩ := cells2v (blk_drew hq)
  have HQ := Lk.mk (blk_drew hq)
  have HQ0 := Lk.mk hq
  have HR := Lk.mk (Kd.R_drew hR)
  have HBQ := Lk.mk hB2
  have HLW := Lk.mk (blk_lt hq)
  have rz := blk_frozen (blk_drew hq) 1
  clear hR hq hB2
  by_cases h : 1 < l.length
  · have hz : (1 : Int) < (l.length : Int) := by omega
    have HH := Lk.mk h
    obtain ⟨n, hn⟩ : ∃ n, l.length = n + 1 := ⟨l.length - 1, by omega⟩
    have HN := Lk.mk hn
    have HT := Lk.mk (Kd.R_take (m := n) HR.out (by omega))
    have hc2 : (n : Int) ≤ (c : Int) := by omega
    have hwr : IntKind.i64.wrap ((l.length : Int) - 1) = (n : Int) := by
      rw [show (l.length : Int) - 1 = (n : Int) by omega]
      exact IntWalk.i64_in _ (by omega)
    have wz := blk_frozen (blk_drew HQ0.out) 1
    clear h hn hl2
    go_enter Tryd.func113, Tryd.ntmps113
    go_wp2_with (go_at_call 112; (with_reducible refine (mmust_ok _ _).mono ?_); rintro e w' ⟨rfl, hw⟩; obtain rfl := hw.symm; clear hw)
    go_region_law (fail "none")
    all_goals
      go_wp2
      simp [bodyPost, results, Tryd.results113]
      refine ⟨(below_drew (Below.refl B W)).setCell (p := ⟨qr, 1, none⟩) HBQ.out _, .inl ⟨rfl, .slice A n c, _, ⟨?_, HH.out⟩, blk_put HQ.out 1 (.slice A n c) rfl, Kd.R_mono (Kd.R_far HT.out (p := ⟨qr, 1, none⟩) (fun k hk => Nat.ne_of_lt hk) _) (fun k hk => Nat.ne_of_lt hk)⟩⟩
      rw [HN.out]
      rfl
  · have hz : ¬ (1 : Int) < (l.length : Int) := by omega
    have HH := Lk.mk h
    clear h
    go_enter Tryd.func113, Tryd.ntmps113
    go_wp2_with (go_at_call 112; (with_reducible refine (mmust_no _ _).mono ?_); rintro e w' ⟨rfl, hw⟩; obtain rfl := hw.symm; clear hw)
    exact ⟨rfl, Below.refl _ _, .inr ⟨8, by decide, ⟨rfl, HH.out⟩, rfl⟩⟩
set_option maxRecDepth 100000 in
set_option maxHeartbeats 2000000 in
theorem mcall_zero (q : Option Addr) (ent : List (Int × (List Int × List Int))) (f : Int) (A : Option Addr) (c : Nat) (l : List Af) (w : World) (ht : TblOr w (.pointer q) ent) (hw : ∀ e ∈ ent, Bm.Words e.2.1) (hr : kAf.C w A l.length l) (hl : AfLen l) (hl2 : l.length < 1048576) (hv : AfIn l) (hR : RightP (tSize ent) (tPtr ent) l) (hs : tSize ent f = 0) :
    Calls Tryd.prog 68 #[.pointer q, .slice A l.length c, .int .i64 f] w fun e w' => Below w.heap.size w w' ∧ ∃ v, e = .returned (.tuple #[v, .int .i64 0]) ∧ kAf.R 113 w' w.heap.size (fun _ => True) v (l ++ [(f, [])]) := by
  have H0 := Lk.mk (below_alloc (Below.refl w.heap.size w) (.cells #[.int .i64 f] 3))
  have hx := blk_new w (.cells #[.int .i64 f] 3)
  have hsz : (w.alloc (.cells #[.int .i64 f] 3)).heap.size = w.heap.size + 1 := by simp
  have eg := enters_of Tryd.func111 (by kernel_rfl) rfl
  have HC := Lk.mk (mchange_any q ent 111 #[.pointer (some ⟨w.heap.size, 0, none⟩)] A c l (fun l' => l' = l ++ [(f, [])]) (fun _ => False) (w.alloc (.cells #[.int .i64 f] 3)) eg (ht.below H0.out) hw (Kd.C_below hr H0.out) hl hv hR
    (fun W qr v hb hqr hq hRR => mcall1_zero q ent f l _ w.heap.size qr v W hl hl2 (ht.below (below_then H0.out H0.out.size hb)) hs (by omega) hqr (blk_below hx hb) hq hRR))
  clear ht hw hr hl hl2 hv hR hs hx hsz
  go_enter Tryd.func68, Tryd.ntmps68
  go_wp2_with (go_at_call 110; (with_reducible refine (HC.out).mono ?_); rintro e w1 ⟨hb, v, l', n, rfl, hR1, hor⟩; obtain ⟨rfl, rfl⟩ : n = 0 ∧ l' = l ++ [(f, [])] := (by rcases hor with ⟨h1, h2⟩ | ⟨_, h, _⟩; exact ⟨h1, h2⟩; exact h.elim); have HB := Lk.mk (below_then H0.out H0.out.size hb); have HRx := Lk.mk hR1; clear hb hR1 hor)
  go_ret2
  exact ⟨HB.out, _, rfl, Kd.R_lower HRx.out H0.out.size⟩
set_option maxRecDepth 100000 in
set_option maxHeartbeats 2000000 in
theorem mreturn_any (q : Option Addr) (ent : List (Int × (List Int × List Int))) (A : Option Addr) (c : Nat) (l : List Af) (w : World) (ht : TblOr w (.pointer q) ent) (hw : ∀ e ∈ ent, Bm.Words e.2.1) (hr : kAf.C w A l.length l) (hl : AfLen l) (hl2 : l.length < 1048576) (hv : AfIn l) (hR : RightP (tSize ent) (tPtr ent) l) :
    Calls Tryd.prog 69 #[.pointer q, .slice A l.length c] w fun e w' => Below w.heap.size w w' ∧ ∃ v, kAf.R 113 w' w.heap.size (fun _ => True) v (if 1 < l.length then l.take (l.length - 1) else l) ∧ e = .returned (.tuple #[v, .int .i64 (if 1 < l.length then 0 else 8)]) := by
  have eg := enters_of Tryd.func113 (by kernel_rfl) rfl
  have HC := Lk.mk (mchange_any q ent 113 #[] A c l (fun l' => l' = l.take (l.length - 1) ∧ 1 < l.length) (fun n => n = 8 ∧ ¬ 1 < l.length) w eg ht hw hr hl hv hR
    (fun W qr v hb hqr hq hRR => mret1_any q l _ qr v W hl2 (by omega) hq hRR))
  clear ht hw hr hl hl2 hv hR
  by_cases h : 1 < l.length
  · have HH := Lk.mk h
    rw [if_pos h, if_pos h]
    clear h
    go_enter Tryd.func69, Tryd.ntmps69
    go_wp2_with (go_at_call 110; (with_reducible refine (HC.out).mono ?_); rintro e w1 ⟨hb, v, l', n, rfl, hR1, hor⟩; obtain ⟨rfl, rfl⟩ : n = 0 ∧ l' = l.take (l.length - 1) := (by rcases hor with ⟨h1, h2, _⟩ | ⟨_, h, _⟩; exact ⟨h1, h2⟩; exact absurd HH.out h.2); have HB := Lk.mk hb; have HRx := Lk.mk hR1; clear hb hR1 hor)
    go_ret2
    exact ⟨HB.out, _, HRx.out, rfl⟩
  · have HH := Lk.mk h
    rw [if_neg h, if_neg h]
    clear h
    go_enter Tryd.func69, Tryd.ntmps69
    go_wp2_with (go_at_call 110; (with_reducible refine (HC.out).mono ?_); rintro e w1 ⟨hb, v, l', n, rfl, hR1, hor⟩; obtain ⟨rfl, hl3⟩ : n = 8 ∧ l' = l := (by rcases hor with ⟨h1, _, h2⟩ | ⟨_, h, h2⟩; exact absurd h2 HH.out; exact ⟨h.1, h2⟩); have HB := Lk.mk hb; have HRx := Lk.mk (show kAf.R 113 w1 w.heap.size (fun _ => True) v l from hl3 ▸ hR1); clear hb hR1 hor hl3)
    go_ret2
    exact ⟨HB.out, _, HRx.out, rfl⟩
end Go.Proofs.YtcepafllgjnngaaDoor
