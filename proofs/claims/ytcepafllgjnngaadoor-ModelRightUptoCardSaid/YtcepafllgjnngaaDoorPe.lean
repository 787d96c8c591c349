/-
  The walks of the model's right and Right; conditions: the row and the table read as told.
-/
import Derived.Test.YtcepafllgjnngaaDoorPd
namespace Go.Proofs.YtcepafllgjnngaaDoor
open Go.RowKit Go.Proofs.YtcepafllgjnngaaDoorW.PrintWords

theorem as_false {G : Prop} {K : Act → World → Prop} (a : Act) (w : World) (hp : G) (_ : False → K a w) : G := hp
def slotV (l : List Af) (d i : Nat) : Sl.Vl := (l.getD d dAf).2.getD i Sl.dVl
/-- is a row right -/
def RightP (sz : Int → Int) (ptr : Int → Int → Bool) (l : List Af) : Prop := (∀ d, d < l.length → sz (l.getD d dAf).1 = (l.getD d dAf).2.length) ∧ ∀ d i : Nat, d < l.length → i < (l.getD d dAf).2.length → fitsN ptr l d i (slotV l d i) = 0
/-- each value is of its types -/
def AfIn (l : List Af) : Prop := ∀ f ∈ l, VlsIn f.2
theorem mright_caught (g : Nat) (n : Int) (w : World) (h : w.heap[g]? = some (.cells #[.int .i64 0] 30 (0, 0))) :
    CallsD Tryd.prog 153 #[.pointer (some ⟨g, 0, none⟩)] (.panicking [{ v := .iface 205 (.agg #[.int .i64 n]), recovered := false }]) w fun e u' w' => e = .returned (.tuple #[]) ∧ u' = .panicking [{ v := .iface 205 (.agg #[.int .i64 n]), recovered := true }] ∧ w' = (w.alloc (.cells #[.int .i64 n] 205)).setCell ⟨g, 0, none⟩ (.int .i64 n) :=
  mcaught_thrown g (.int .i64 0) n w (by rw [blk_cell h 0]; rfl) (blk_frozen h 0)
set_option maxRecDepth 100000 in
set_option maxHeartbeats 2000000 in
theorem mright_ok (p : Value) (ent : List (Int × (List Int × List Int))) (A : Option Addr) (c : Nat) (l : List Af) (w : World) (ht : TblOr w p ent) (hw : ∀ e ∈ ent, Bm.Words e.2.1) (hr : kAf.C w A l.length l) (hv : AfIn l) (hR : RightP (tSize ent) (tPtr ent) l) :
    Calls Tryd.prog 171 #[.agg #[p, .slice A l.length c]] w fun e w' => e = .returned (.int .i64 0) ∧ Below w.heap.size w w' := by
  have hm := hr.2.1
  have H0 := Lk.mk (below_alloc (below_alloc (Below.refl w.heap.size w) (.cells #[p, .slice A l.length c] 179)) (.cells #[.int .i64 0] 30))
  have HX0 := Lk.mk (blk_alloc (blk_new w (.cells #[p, .slice A l.length c] 179)) (.cells #[.int .i64 0] 30))
  have hs1 : (w.alloc (.cells #[p, .slice A l.length c] 179)).heap.size = w.heap.size + 1 := by simp
  have hE0 := blk_new (w.alloc (.cells #[p, .slice A l.length c] 179)) (.cells #[.int .i64 0] 30)
  rw [hs1] at hE0
  have HE0 := Lk.mk hE0
  have HRC := Lk.mk hr
  have HSZ := Lk.mk (fun W f (hb : Below w.heap.size w W) => size_any p ent f W (ht.below hb))
  have HFT := Lk.mk (fun W (k : Nat) (s : Int) v (hb : Below w.heap.size w W) (hk : k < l.length) (hs : s ≤ 9223372036854775807) (hv : VlIn v) (h0 : fitsN (tPtr ent) l k s v = 0) => (mfits_any p ent A c l k s v W (ht.below hb) hw (Kd.C_below hr hb) hk hs hv).mono (fun e W' (h : FitsE (fitsN (tPtr ent) l k s v) e ∧ Below W.heap.size W W') => (show e = .returned (.tuple #[]) ∧ Below W.heap.size W W' from ⟨by rcases h.1 with ⟨_, h⟩ | ⟨h, _⟩; exact h; exact absurd h0 h, h.2⟩)))
  have HV := Lk.mk hv
  have HRP := Lk.mk hR
  clear ht hw hr hv hs1 hE0 hR
  obtain ⟨a0, a1⟩ := cells2v HX0.out
  go_enter_defers Tryd.func171, Tryd.ntmps171
  go_wp2
  go_loopg [12] l.length (fun gg v12 wr => ∃ k : Nat, k ≤ l.length ∧ l.length - k ≤ gg ∧ v12 = .int .i64 k ∧ Lk (wr.heap[w.heap.size]? = some (.cells #[p, .slice A l.length c] 179 (0, 0))) ∧ Lk (wr.heap[w.heap.size + 1]? = some (.cells #[.int .i64 0] 30 (0, 0))) ∧ Lk (Below w.heap.size w wr))
  case atStart => exact ⟨0, by omega, by omega, rfl, HX0, HE0, H0⟩
  case round =>
    obtain ⟨k, hk, hg, rfl, HX, HE, HB⟩ := hrel
    obtain ⟨wo, rfl⟩ : ∃ wo : World, wo = wr := ⟨_, rfl⟩
    by_cases hlt : k < l.length
    · have hltz : (k : Int) < (l.length : Int) := by omega
      obtain ⟨ad, A1, c1, rfl, b0, b1, _, _⟩ := kAf_at (Kd.C_below HRC.out HB.out) k hlt
      have hz := HRP.out.1 k hlt
      generalize l.getD k dAf = f at *
      obtain ⟨f0, f1⟩ := f
      dsimp only at *
      have HBd := Lk.mk (below_drew (below_alloc HB.out (.cells #[.int .i64 f0, .slice A1 f1.length c1] 113)))
      have HXd := Lk.mk (blk_drew (blk_alloc HX.out (.cells #[.int .i64 f0, .slice A1 f1.length c1] 113)))
      have HEd := Lk.mk (blk_drew (blk_alloc HE.out (.cells #[.int .i64 f0, .slice A1 f1.length c1] 113)))
      have HFd := Lk.mk (blk_drew (blk_new wo (.cells #[.int .i64 f0, .slice A1 f1.length c1] 113)))
      have HC := Lk.mk (HSZ.out _ f0 HBd.out)
      obtain ⟨x0, x1⟩ := cells2v HXd.out
      obtain ⟨y0, y1⟩ := cells2v HFd.out
      generalize tSize ent f0 = z at *
      have hz0 : (0 : Int) ≤ z := by omega
      subst hz
      go_wp2
      go_region_held3 (fun W => W.cell? ⟨w.heap.size, 0, none⟩ = some p ∧ W.cell? ⟨wo.heap.size, 0, none⟩ = some (.int .i64 f0) ∧ W.cell? ⟨wo.heap.size, 1, none⟩ = some (.slice A1 f1.length c1)) (first | exact ⟨x0, y0, y1⟩) (first
        | (go_at_call 63; (with_reducible refine (HC.out).mono ?_); rintro e w' ⟨rfl, hw⟩; obtain rfl := hw.symm; clear hw)
        | (go_at_call 112; (with_reducible refine (mmust_ok _ _).mono ?_); rintro e w' ⟨rfl, hw⟩; obtain rfl := hw.symm; clear hw))
      go_wp2
      go_roundg (l.length - (k + 1))
      case measure => omega
      case rel => exact ⟨k + 1, by omega, by omega, by go_num, HXd, HEd, HBd⟩
    · obtain rfl : k = l.length := by omega
      have hltz : ¬ (l.length : Int) < (l.length : Int) := by omega
      obtain ⟨x0, x1⟩ := cells2v HX.out
      go_wp2
      go_loopg [38] l.length (fun gg v38 W2 => ∃ d : Nat, d ≤ l.length ∧ l.length - d ≤ gg ∧ v38 = .int .i64 d ∧ Lk (W2.heap[w.heap.size]? = some (.cells #[p, .slice A l.length c] 179 (0, 0))) ∧ Lk (W2.heap[w.heap.size + 1]? = some (.cells #[.int .i64 0] 30 (0, 0))) ∧ Lk (Below w.heap.size w W2))
      case atStart => exact ⟨0, by omega, by omega, rfl, HX, HE, HB⟩
      case round =>
        obtain ⟨d, hd, hg2, rfl, HX2, HE2, HB2⟩ := hrel
        obtain ⟨w2, rfl⟩ : ∃ w2 : World, w2 = wr := ⟨_, rfl⟩
        clear HX HE HB x0 x1
        obtain ⟨x0, x1⟩ := cells2v HX2.out
        by_cases hdl : d < l.length
        · have hdz : (d : Int) < (l.length : Int) := by omega
          obtain ⟨ad, A1, c1, rfl, b0, b1, _, hC1⟩ := kAf_at (Kd.C_below HRC.out HB2.out) d hdl
          have HCV := Lk.mk hC1
          have hmx := hC1.2.1
          have HFI := Lk.mk (fun i (hi : i < (l.getD d dAf).2.length) => HRP.out.2 d i hdl hi)
          unfold slotV at HFI
          have HVI := Lk.mk (HV.out _ (getD_mem dAf hdl))
          generalize l.getD d dAf = f at *
          obtain ⟨f0, f1⟩ := f
          dsimp only at *
          have HBa := Lk.mk (below_alloc HB2.out (.cells #[.int .i64 f0, .slice A1 f1.length c1] 113))
          have HXa := Lk.mk (blk_alloc HX2.out (.cells #[.int .i64 f0, .slice A1 f1.length c1] 113))
          have HEa := Lk.mk (blk_alloc HE2.out (.cells #[.int .i64 f0, .slice A1 f1.length c1] 113))
          have HCa := Lk.mk (Kd.C_below HCV.out (below_alloc (Below.refl _ _) (.cells #[.int .i64 f0, .slice A1 f1.length c1] 113)))
          obtain ⟨y0, y1⟩ := cells2v (blk_new w2 (.cells #[.int .i64 f0, .slice A1 f1.length c1] 113))
          clear hC1
          go_wp2
          go_loopg [46] f1.length (fun gg v46 W3 => ∃ i : Nat, i ≤ f1.length ∧ f1.length - i ≤ gg ∧ v46 = .int .i64 i ∧ Lk (W3.heap[w.heap.size]? = some (.cells #[p, .slice (some ad) l.length c] 179 (0, 0))) ∧ Lk (W3.heap[w.heap.size + 1]? = some (.cells #[.int .i64 0] 30 (0, 0))) ∧ Lk (kVl.C W3 A1 f1.length f1) ∧ Lk (Below w.heap.size w W3))
          case atStart => exact ⟨0, by omega, by omega, rfl, HXa, HEa, HCa, HBa⟩
          case round =>
            obtain ⟨i, hi, hg3, rfl, HX3, HE3, HC3, HB3⟩ := hrel
            obtain ⟨w3, rfl⟩ : ∃ w3 : World, w3 = wr := ⟨_, rfl⟩
            clear HXa HEa HCa HBa x0 x1 y0 y1 b0 b1
            by_cases hil : i < f1.length
            · have hiz : (i : Int) < (f1.length : Int) := by omega
              obtain ⟨ad1, rfl, e0, e1, e2, e3⟩ := kVl_at HC3.out i hil
              have HF := Lk.mk (HFT.out ((w3.alloc (.cells #[.int .u8 (f1.getD i Sl.dVl).1, .int .u64 (f1.getD i Sl.dVl).2.1, .int .i64 (f1.getD i Sl.dVl).2.2.1, .int .i64 (f1.getD i Sl.dVl).2.2.2] 56))) d (i : Int) (f1.getD i Sl.dVl) (below_alloc HB3.out _) hdl (by omega) (HVI.out _ (getD_mem _ hil)) (HFI.out i hil))
              have HBv := Lk.mk (below_alloc (Below.refl w3.heap.size w3) (.cells #[.int .u8 (f1.getD i Sl.dVl).1, .int .u64 (f1.getD i Sl.dVl).2.1, .int .i64 (f1.getD i Sl.dVl).2.2.1, .int .i64 (f1.getD i Sl.dVl).2.2.2] 56))
              have HVn := Lk.mk (blk_new w3 (.cells #[.int .u8 (f1.getD i Sl.dVl).1, .int .u64 (f1.getD i Sl.dVl).2.1, .int .i64 (f1.getD i Sl.dVl).2.2.1, .int .i64 (f1.getD i Sl.dVl).2.2.2] 56))
              have HXv := Lk.mk (blk_alloc HX3.out (.cells #[.int .u8 (f1.getD i Sl.dVl).1, .int .u64 (f1.getD i Sl.dVl).2.1, .int .i64 (f1.getD i Sl.dVl).2.2.1, .int .i64 (f1.getD i Sl.dVl).2.2.2] 56))
              have HEv := Lk.mk (blk_alloc HE3.out (.cells #[.int .u8 (f1.getD i Sl.dVl).1, .int .u64 (f1.getD i Sl.dVl).2.1, .int .i64 (f1.getD i Sl.dVl).2.2.1, .int .i64 (f1.getD i Sl.dVl).2.2.2] 56))
              generalize f1.getD i Sl.dVl = v at *
              obtain ⟨v0, v1, v2, v3⟩ := v
              dsimp only at *
              obtain ⟨x0, x1⟩ := cells2v HXv.out
              obtain ⟨y0, y1, y2, y3⟩ := cells4v HVn.out
              go_wp2_with (go_at_call 118; (with_reducible refine (HF.out).mono ?_); rintro e w4 ⟨rfl, hb⟩; have HB4 := Lk.mk (below_then HB3.out HB3.out.size (below_then HBv.out HBv.out.size hb)); have HX4 := Lk.mk (blk_below HXv.out hb); have HE4 := Lk.mk (blk_below HEv.out hb); have HC4 := Lk.mk (Kd.C_below (Kd.C_below HC3.out HBv.out) hb); clear hb)
              go_roundg (f1.length - (i + 1))
              case measure => omega
              case rel => exact ⟨i + 1, by omega, by omega, by go_num, HX4, HE4, HC4, HB4⟩
            · have hiz : ¬ (i : Int) < (f1.length : Int) := by omega
              go_wp2
              go_roundg (l.length - (d + 1))
              case measure => omega
              case rel => exact ⟨d + 1, by omega, by omega, by go_num, HX3, HE3, HB3⟩
        · have hdz : ¬ (d : Int) < (l.length : Int) := by omega
          have hc0 := blk_cell HE2.out 0
          have hz0 := blk_frozen HE2.out 0
          simp only [List.getElem?_toArray, List.getElem?_cons_zero] at hc0
          go_wp2
          have hE3 := blk_put (cs' := #[.int .i64 0]) HE2.out 0 (.int .i64 0) rfl
          have hr1 := blk_cell hE3 0
          simp only [List.getElem?_toArray, List.getElem?_cons_zero] at hr1
          have HBZ := Lk.mk (HB2.out.setCell (p := ⟨w.heap.size + 1, 0, none⟩) (Nat.le_succ _) (.int .i64 0))
          refine leaves_cons (f := 153) (args := #[.pointer (some ⟨w.heap.size + 1, 0, none⟩)]) (by simp) (by simp [go_sem]) ?_
          refine (mcaught_idle _ _).mono ?_
          rintro e u' w'' ⟨rfl, rfl, rfl⟩
          simp [Leaves, settle, results, Tryd.results171, go_sem]
          refine ⟨.int .i64 0, ?_, rfl, HBZ.out⟩
          rw [hr1]
set_option maxRecDepth 100000 in
set_option maxHeartbeats 2000000 in
theorem mRight_ok (p : Value) (ent : List (Int × (List Int × List Int))) (A : Option Addr) (c : Nat) (l : List Af) (w : World) (ht : TblOr w p ent) (hw : ∀ e ∈ ent, Bm.Words e.2.1) (hr : kAf.C w A l.length l) (hv : AfIn l) (hR : RightP (tSize ent) (tPtr ent) l) :
    Calls Tryd.prog 154 #[p, .slice A l.length c] w fun e w' => e = .returned (.bool true) ∧ Below w.heap.size w w' := by
  obtain ⟨q, rfl⟩ : ∃ q, p = .pointer q := by rcases ht with ⟨e, _⟩ | ⟨g2, _, _, e, _⟩ <;> exact ⟨_, e⟩
  have H := Lk.mk (mright_ok (.pointer q) ent A c l w ht hw hr hv hR)
  clear ht hw hr hv hR
  go_enter Tryd.func154, Tryd.ntmps154
  go_wp2_with (go_at_call 171; (with_reducible refine (H.out).mono ?_); rintro e w1 ⟨rfl, hb⟩)
  go_ret
  exact ⟨rfl, hb⟩
end Go.Proofs.YtcepafllgjnngaaDoor
