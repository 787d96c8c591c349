/-
  Several texts as one.
-/
import Derived.Test.YtpnklpjjbpheeaaGreatDoorK1
import Derived.Deep.RegionHeld3
import Derived.Laws.CopyOwn
import Derived.Recover
import Derived.Laws.Pointers
import Derived.WalkLawsBesides
import Derived.Lib.SliceRun
import Derived.Deep.RegionLaw
import Derived.Defers
/-
  Plain: frames' slots: sizes, addresses, and which slot has an address.
-/
namespace Sl

/-- a frame: its address, its function, its link -/
abbrev Fr := Int × (Int × Int)
def dFr : Fr := (0, (0, 0))
/-- how many slots a frame has; sz: how many its function has -/
def sizeS (sz : Int → Int) (x : Fr) : Int := if x.1 < 0 ∨ 1099511627776 < x.1 then 0 else max 0 (sz x.2.1)
def addrOk (sz : Int → Int) (l : List Fr) (d s : Int) : Bool := decide (0 ≤ d) && decide (d < l.length) && decide (0 ≤ s) && decide (s < sizeS sz (l.getD d.toNat dFr))
def addr (sz : Int → Int) (l : List Fr) (d s : Int) : Int := if addrOk sz l d s = true then (l.getD d.toNat dFr).1 + 2 + s else -1
def hit (sz : Int → Int) (a : Int) (x : Fr) : Bool := decide (0 ≤ x.1) && decide (x.1 ≤ 1099511627776) && decide (x.1 + 2 ≤ a) && decide (a - x.1 - 2 < sz x.2.1)
def findAt (sz : Int → Int) (l : List Fr) (a : Int) : Option Nat := l.findIdx? (hit sz a)
def findD (sz : Int → Int) (l : List Fr) (a : Int) : Int := match findAt sz l a with | some d => (d : Int) | none => 0
def findI (sz : Int → Int) (l : List Fr) (a : Int) : Int := match findAt sz l a with | some d => a - (l.getD d dFr).1 - 2 | none => 0
def findB (sz : Int → Int) (l : List Fr) (a : Int) : Bool := match findAt sz l a with | some _ => true | none => false

theorem findAt_some {sz : Int → Int} {l : List Fr} {a : Int} {k : Nat} (h : k < l.length) (hn : ∀ j, j < k → hit sz a (l.getD j dFr) = false) (hk : hit sz a (l.getD k dFr) = true) : findAt sz l a = some k := by
  unfold findAt
  rw [List.findIdx?_eq_some_iff_getElem]
  refine ⟨h, ?_, fun j hj => ?_⟩
  · rwa [List.getD_eq_getElem?_getD, List.getElem?_eq_getElem h] at hk
  · have := hn j hj
    rw [List.getD_eq_getElem?_getD, List.getElem?_eq_getElem (Nat.lt_trans hj h)] at this
    simpa using this
theorem findAt_none {sz : Int → Int} {l : List Fr} {a : Int} (hn : ∀ j, j < l.length → hit sz a (l.getD j dFr) = false) : findAt sz l a = none := by
  unfold findAt
  rw [List.findIdx?_eq_none_iff]
  intro x hx
  obtain ⟨j, hj, rfl⟩ := List.getElem_of_mem hx
  have := hn j hj
  rwa [List.getD_eq_getElem?_getD, List.getElem?_eq_getElem hj] at this
theorem find_yes {sz : Int → Int} {l : List Fr} {a : Int} {k : Nat} (h : findAt sz l a = some k) : findD sz l a = k ∧ findI sz l a = a - (l.getD k dFr).1 - 2 ∧ findB sz l a = true := by
  unfold findD findI findB; rw [h]; exact ⟨rfl, rfl, rfl⟩
theorem find_no {sz : Int → Int} {l : List Fr} {a : Int} (h : findAt sz l a = none) : findD sz l a = 0 ∧ findI sz l a = 0 ∧ findB sz l a = false := by
  unfold findD findI findB; rw [h]; exact ⟨rfl, rfl, rfl⟩

/-- a value: its kind, bits, depth, slot -/
abbrev Vl := Int × (Int × (Int × Int))
def dVl : Vl := (0, (0, (0, 0)))
/-- may a value be -/
def mayV (v : Vl) : Bool :=
  if v.1 = 0 then decide (v.2.1 = 0) && decide (v.2.2.1 = 0) && decide (v.2.2.2 = 0)
  else if v.1 = 1 then decide (v.2.2.1 = 0) && decide (v.2.2.2 = 0)
  else if v.1 = 2 then decide (v.2.1 = 0) && decide (0 ≤ v.2.2.1) && decide (0 ≤ v.2.2.2)
  else false
theorem mayV_iff (v : Vl) : mayV v = true ↔ (v.1 = 0 ∧ v.2.1 = 0 ∧ v.2.2.1 = 0 ∧ v.2.2.2 = 0) ∨ (v.1 = 1 ∧ v.2.2.1 = 0 ∧ v.2.2.2 = 0) ∨ (v.1 = 2 ∧ v.2.1 = 0 ∧ 0 ≤ v.2.2.1 ∧ 0 ≤ v.2.2.2) := by
  unfold mayV
  by_cases h0 : v.1 = 0
  · rw [if_pos h0]; simp only [Bool.and_eq_true, decide_eq_true_eq]; omega
  · rw [if_neg h0]
    by_cases h1 : v.1 = 1
    · rw [if_pos h1]; simp only [Bool.and_eq_true, decide_eq_true_eq]; omega
    · rw [if_neg h1]
      by_cases h2 : v.1 = 2
      · rw [if_pos h2]; simp only [Bool.and_eq_true, decide_eq_true_eq]; omega
      · rw [if_neg h2]; simp only [Bool.false_eq_true, false_iff]; omega
def mayVs (l : List Vl) : Bool := !(l.any fun v => !(mayV v))
end Sl

/-
  Rows of frames that are read; the walks of slots.size, frame.Slot and slots.Address, and of the reference's Size and Address; conditions: what is handed in reads as told.
-/
namespace Go.Proofs.YtpnklpjjbpheeaaGreatDoor
open Go.RowKit Go.Proofs.YtpnklpjjbpheeaaGreatDoorW.PrintWords

def kFr : Kd Sl.Fr := Kd.pair (Kd.int .i64) (Kd.pair (Kd.int .i64) (Kd.int .i64))
theorem kFr_at {w : World} {A : Option Addr} {n : Nat} {l : List Sl.Fr} (h : kFr.C w A n l) (k : Nat) (hk : k < n) : ∃ ad, A = some ad ∧ w.cell? (ad.add (k * 3)) = some (.int .i64 (l.getD k Sl.dFr).1) ∧ w.cell? ⟨(ad.add (k * 3)).block, (ad.add (k * 3)).off + 1, none⟩ = some (.int .i64 (l.getD k Sl.dFr).2.1) ∧ w.cell? ⟨(ad.add (k * 3)).block, (ad.add (k * 3)).off + 2, none⟩ = some (.int .i64 (l.getD k Sl.dFr).2.2) := by
  obtain ⟨ad, c, e, _, ⟨c0, c', rfl, rfl, c1, c2, rfl, rfl, rfl⟩, hc⟩ := ReadsRow.get_ h Sl.dFr (k : Int) (by omega) (by omega)
  rw [Int.toNat_natCast] at hc
  have hc0 := hc 0 _ rfl
  have hc1 := hc 1 _ rfl
  have hc2 := hc 2 _ rfl
  rw [Nat.add_zero] at hc0
  refine ⟨ad, e, hc0, ?_, ?_⟩
  · rw [← add_field _ _ 1 (by omega)]; exact hc1
  · rw [← add_field _ _ 2 (by omega)]; exact hc2
/-- what the machine's types say of frames -/
def FrIn (l : List Sl.Fr) : Prop := ∀ x ∈ l, (-9223372036854775808 ≤ x.1 ∧ x.1 ≤ 9223372036854775807) ∧ (-9223372036854775808 ≤ x.2.1 ∧ x.2.1 ≤ 9223372036854775807) ∧ (-9223372036854775808 ≤ x.2.2 ∧ x.2.2 ≤ 9223372036854775807)
/-- sizes of a table's functions -/
def EntIn (ent : List (Int × (List Int × List Int))) : Prop := ∀ e ∈ ent, 0 ≤ e.1 ∧ e.1 ≤ 1000
theorem tSize_in {ent : List (Int × (List Int × List Int))} (h : EntIn ent) (f : Int) : -1 ≤ tSize ent f ∧ tSize ent f ≤ 1000 := by
  unfold tSize
  cases hf : tHas ent f with
  | false => simp
  | true =>
    have h1 := tHas_true hf
    have := h (ent.getD f.toNat dE) (getD_mem _ (by omega))
    rw [if_pos rfl]; omega

theorem addrOk_true {sz : Int → Int} {l : List Sl.Fr} {d s : Int} (h : Sl.addrOk sz l d s = true) : 0 ≤ d ∧ d < l.length ∧ 0 ≤ s ∧ s < Sl.sizeS sz (l.getD d.toNat Sl.dFr) := by
  unfold Sl.addrOk at h; simp only [Bool.and_eq_true, decide_eq_true_eq] at h; omega
theorem addrOk_false {sz : Int → Int} {l : List Sl.Fr} {d s : Int} (h : Sl.addrOk sz l d s = false) : d < 0 ∨ l.length ≤ d ∨ s < 0 ∨ Sl.sizeS sz (l.getD d.toNat Sl.dFr) ≤ s := by
  by_cases h1 : d < 0 ∨ l.length ≤ d ∨ s < 0 ∨ Sl.sizeS sz (l.getD d.toNat Sl.dFr) ≤ s
  · exact h1
  · have : Sl.addrOk sz l d s = true := by unfold Sl.addrOk; simp only [Bool.and_eq_true, decide_eq_true_eq]; omega
    rw [this] at h; cases h
theorem sizeS_in {sz : Int → Int} {x : Sl.Fr} {s : Int} (h0 : 0 ≤ s) (h : s < Sl.sizeS sz x) : 0 ≤ x.1 ∧ x.1 ≤ 1099511627776 ∧ s < sz x.2.1 := by
  unfold Sl.sizeS at h
  by_cases hx : x.1 < 0 ∨ 1099511627776 < x.1
  · rw [if_pos hx] at h; omega
  · rw [if_neg hx] at h; omega

end Go.Proofs.YtpnklpjjbpheeaaGreatDoor

/-
  Rows of values that are read; the walks of slots.may, of the library's IndexFunc and ContainsFunc at values, of slots.May, and of the reference's May; conditions: what is handed in reads as told.
-/
namespace Go.Proofs.YtpnklpjjbpheeaaGreatDoor
open Go.RowKit Go.Proofs.YtpnklpjjbpheeaaGreatDoorW.PrintWords

def kVl : Kd Sl.Vl := Kd.pair (Kd.int .u8) (Kd.pair (Kd.int .u64) (Kd.pair (Kd.int .i64) (Kd.int .i64)))
/-- a value as Go has it -/
def vAgg (v : Sl.Vl) : Value := .agg #[.int .u8 v.1, .int .u64 v.2.1, .int .i64 v.2.2.1, .int .i64 v.2.2.2]
theorem kVl_at {w : World} {A : Option Addr} {n : Nat} {l : List Sl.Vl} (h : kVl.C w A n l) (k : Nat) (hk : k < n) : ∃ ad, A = some ad ∧ w.cell? (ad.add (k * 4)) = some (.int .u8 (l.getD k Sl.dVl).1) ∧ w.cell? ⟨(ad.add (k * 4)).block, (ad.add (k * 4)).off + 1, none⟩ = some (.int .u64 (l.getD k Sl.dVl).2.1) ∧ w.cell? ⟨(ad.add (k * 4)).block, (ad.add (k * 4)).off + 2, none⟩ = some (.int .i64 (l.getD k Sl.dVl).2.2.1) ∧ w.cell? ⟨(ad.add (k * 4)).block, (ad.add (k * 4)).off + 3, none⟩ = some (.int .i64 (l.getD k Sl.dVl).2.2.2) := by
  obtain ⟨ad, c, e, _, ⟨c0, c', rfl, rfl, c1, c2, rfl, rfl, c3, c4, rfl, rfl, rfl⟩, hc⟩ := ReadsRow.get_ h Sl.dVl (k : Int) (by omega) (by omega)
  rw [Int.toNat_natCast] at hc
  have hc0 := hc 0 _ rfl
  have hc1 := hc 1 _ rfl
  have hc2 := hc 2 _ rfl
  have hc3 := hc 3 _ rfl
  rw [Nat.add_zero] at hc0
  refine ⟨ad, e, hc0, ?_, ?_, ?_⟩
  · rw [← add_field _ _ 1 (by omega)]; exact hc1
  · rw [← add_field _ _ 2 (by omega)]; exact hc2
  · rw [← add_field _ _ 3 (by omega)]; exact hc3
/-- what the machine's types say of a value -/
def VlIn (v : Sl.Vl) : Prop := (0 ≤ v.1 ∧ v.1 ≤ 255) ∧ (0 ≤ v.2.1 ∧ v.2.1 ≤ 18446744073709551615) ∧ (-9223372036854775808 ≤ v.2.2.1 ∧ v.2.2.1 ≤ 9223372036854775807) ∧ (-9223372036854775808 ≤ v.2.2.2 ∧ v.2.2.2 ≤ 9223372036854775807)

set_option maxRecDepth 100000 in
set_option maxHeartbeats 2000000 in
theorem smay_any (v : Sl.Vl) (w : World) (hv : VlIn v) : Calls Tryz.prog 50 #[.agg #[.int .u8 v.1, .int .u64 v.2.1, .int .i64 v.2.2.1, .int .i64 v.2.2.2]] w fun e w' => e = .returned (.bool (Sl.mayV v)) ∧ Below w.heap.size w w' := by
  obtain ⟨k, b, d, s⟩ := v
  have h0 : Below w.heap.size w (w.alloc (.cells #[.int .u8 k, .int .u64 b, .int .i64 d, .int .i64 s] 46)) := below_alloc (Below.refl _ _) _
  have H0 := Lk.mk h0
  have H := Lk.mk (Sl.mayV_iff (k, b, d, s))
  dsimp only at H
  have hv' := hv
  obtain ⟨hk, hb, hd, hs⟩ := hv
  dsimp only at hk hb hd hs ⊢
  clear h0 hv'
  generalize Sl.mayV (k, b, d, s) = r at *
  go_enter Tryz.func50, Tryz.ntmps50
  go_wp2
  all_goals go_ret
  all_goals refine ⟨ret_bool ?_, below_alloc (Below.refl _ _) _⟩
  all_goals rw [Bool.eq_iff_iff, H.out]
  all_goals clear H H0
  all_goals (simp only [beq_iff_eq, bne_iff_ne, beq_eq_false_iff_ne, bne_eq_false_iff_eq, decide_eq_true_eq, decide_eq_false_iff_not, ne_eq, Bool.false_eq_true, Bool.true_eq_false, Bool.and_eq_true, Bool.or_eq_true, Bool.not_eq_true', not_true_eq_false, not_false_eq_true, false_iff, true_iff, iff_true, iff_false, or_false, false_or, or_true, true_or, and_true, true_and, and_false, false_and] at * <;> omega)

set_option maxRecDepth 100000 in
set_option maxHeartbeats 2000000 in
theorem index_vals (A : Option Addr) (c : Nat) (l : List Sl.Vl) (p : Sl.Vl → Bool) (g : Nat) (lb : Array Value) (w : World) (eg : ∀ args w, (callFunc g args).run Tryz.prog w = .ok (.enter g args) w) (hr : kVl.C w A l.length l)
    (hp : ∀ W f, f ∈ l → Below w.heap.size w W → Calls Tryz.prog g (#[.agg #[.int .u8 f.1, .int .u64 f.2.1, .int .i64 f.2.2.1, .int .i64 f.2.2.2]] ++ lb) W fun e W' => e = .returned (.bool (p f)) ∧ Below W.heap.size W W') :
    Calls Tryz.prog 69 #[.slice A l.length c, .func (.func g) #[] lb] w fun e w' => (∃ j : Int, e = .returned (.int .i64 j) ∧ decide (0 ≤ j) = l.any p) ∧ Below w.heap.size w w' := by
  have HR := Lk.mk hr
  have HP := Lk.mk hp
  have hm := hr.2.1
  clear hr hp
  go_enter Tryz.func69, Tryz.ntmps69
  go_wp2
  go_loopg [5, 8] l.length (fun gg _ v8 wr => ∃ kk : Nat, kk ≤ l.length ∧ l.length - kk ≤ gg ∧ v8 = .int .i64 kk ∧ Lk (∀ j, j < kk → p (l.getD j Sl.dVl) = false) ∧ Lk (Below w.heap.size w wr))
  case atStart => exact ⟨0, by omega, by omega, rfl, ⟨fun j hj => absurd hj (by omega)⟩, ⟨Below.refl _ _⟩⟩
  case round =>
    obtain ⟨kk, hk, hg, rfl, HN, HB⟩ := hrel
    by_cases hlt : kk < l.length
    · obtain ⟨ad, rfl, hcell0, hcell1, hcell2, hcell3⟩ := kVl_at (Kd.C_below HR.out HB.out) kk hlt
      have hltz : (kk : Int) < (l.length : Int) := by omega
      obtain ⟨f, hf⟩ : ∃ f, f = l.getD kk Sl.dVl := ⟨_, rfl⟩
      rw [← hf] at hcell0 hcell1 hcell2 hcell3
      have HM := Lk.mk (show f ∈ l by rw [hf]; exact getD_mem _ hlt)
      have HF := Lk.mk hf
      have hq := Lk.mk (HP.out wr f HM.out HB.out)
      clear hf
      cases hpx : p f with
      | true =>
        rw [hpx] at hq
        have HPX := Lk.mk hpx
        clear hpx
        go_wp2_with (go_at_fn g; (with_reducible refine hq.out.mono ?_); rintro e w' ⟨rfl, hb⟩)
        go_ret
        refine ⟨⟨_, rfl, ?_⟩, below_then HB.out HB.out.size hb⟩
        have : l.any p = true := List.any_eq_true.2 ⟨f, HM.out, HPX.out⟩
        rw [this]; simp
      | false =>
        rw [hpx] at hq
        have HPX := Lk.mk hpx
        clear hpx
        go_wp2_with (go_at_fn g; (with_reducible refine hq.out.mono ?_); rintro e w' ⟨rfl, hb⟩)
        go_roundg (l.length - (kk + 1))
        case measure => omega
        case rel =>
          refine ⟨kk + 1, by omega, by omega, by go_num, ⟨fun j hj => ?_⟩, ⟨below_then HB.out HB.out.size hb⟩⟩
          by_cases e : j = kk
          · subst e; rw [← HF.out]; exact HPX.out
          · exact HN.out j (by omega)
    · have hltz : ¬ (kk : Int) < (l.length : Int) := by omega
      obtain rfl : kk = l.length := by omega
      go_wp2
      go_ret
      refine ⟨⟨_, rfl, ?_⟩, HB.out⟩
      have : l.any p = false := by
        rw [List.any_eq_false]
        intro x hx
        obtain ⟨j, hj, rfl⟩ := List.getElem_of_mem hx
        have := HN.out j hj
        rw [List.getD_eq_getElem?_getD, List.getElem?_eq_getElem hj] at this
        simpa using this
      rw [this]; simp
set_option maxRecDepth 100000 in
set_option maxHeartbeats 2000000 in
theorem contains_vals (A : Option Addr) (c : Nat) (l : List Sl.Vl) (p : Sl.Vl → Bool) (g : Nat) (lb : Array Value) (w : World) (eg : ∀ args w, (callFunc g args).run Tryz.prog w = .ok (.enter g args) w) (hr : kVl.C w A l.length l)
    (hp : ∀ W f, f ∈ l → Below w.heap.size w W → Calls Tryz.prog g (#[.agg #[.int .u8 f.1, .int .u64 f.2.1, .int .i64 f.2.2.1, .int .i64 f.2.2.2]] ++ lb) W fun e W' => e = .returned (.bool (p f)) ∧ Below W.heap.size W W') :
    Calls Tryz.prog 48 #[.slice A l.length c, .func (.func g) #[] lb] w fun e w' => e = .returned (.bool (l.any p)) ∧ Below w.heap.size w w' := by
  have HI := Lk.mk (index_vals A c l p g lb w eg hr hp)
  clear hr hp
  generalize l.any p = r at *
  go_enter Tryz.func48, Tryz.ntmps48
  go_wp2_with (go_at_call 69; (with_reducible refine (HI.out).mono ?_); rintro e w' ⟨⟨j, rfl, hj⟩, hb⟩; have HJ := Lk.mk hj; clear hj)
  all_goals go_ret
  all_goals exact ⟨ret_bool (by rw [← HJ.out]), hb⟩

set_option maxRecDepth 100000 in
set_option maxHeartbeats 2000000 in
theorem smayLit_any (v : Sl.Vl) (w : World) (hv : VlIn v) : Calls Tryz.prog 49 #[.agg #[.int .u8 v.1, .int .u64 v.2.1, .int .i64 v.2.2.1, .int .i64 v.2.2.2]] w fun e w' => e = .returned (.bool (!(Sl.mayV v))) ∧ Below w.heap.size w w' := by
  have h0 : Below w.heap.size w (w.alloc (.cells #[.int .u8 v.1, .int .u64 v.2.1, .int .i64 v.2.2.1, .int .i64 v.2.2.2] 46)) := below_alloc (Below.refl _ _) _
  have HM := Lk.mk (fun W => smay_any v W hv)
  have H0 := Lk.mk h0
  clear h0
  generalize Sl.mayV v = r at *
  go_enter Tryz.func49, Tryz.ntmps49
  go_wp2_with (go_at_call 50; (with_reducible refine (HM.out _).mono ?_); rintro e w' ⟨rfl, hb⟩)
  go_ret
  exact ⟨rfl, below_then H0.out H0.out.size hb⟩

def VlsIn (l : List Sl.Vl) : Prop := ∀ v ∈ l, VlIn v
set_option maxRecDepth 100000 in
set_option maxHeartbeats 2000000 in
theorem smayAll_any (A : Option Addr) (c : Nat) (l : List Sl.Vl) (w : World) (hr : kVl.C w A l.length l) (hv : VlsIn l) :
    Calls Tryz.prog 33 #[.slice A l.length c] w fun e w' => e = .returned (.bool (Sl.mayVs l)) ∧ Below w.heap.size w w' := by
  have HC := Lk.mk (contains_vals A c l (fun v => !(Sl.mayV v)) 49 #[] w (enters_of Tryz.func49 (by kernel_rfl) rfl) hr
    (fun W f hf hb => smayLit_any f W (hv f hf)))
  have H := Lk.mk (show Sl.mayVs l = !(l.any fun v => !(Sl.mayV v)) from rfl)
  clear hr
  generalize Sl.mayVs l = r at *
  generalize (l.any fun v => !(Sl.mayV v)) = q at *
  go_enter Tryz.func33, Tryz.ntmps33
  go_wp2_with (go_at_call 48; (with_reducible refine (HC.out).mono ?_); rintro e w' ⟨rfl, hb⟩)
  go_ret
  exact ⟨ret_bool (by rw [H.out]), hb⟩
end Go.Proofs.YtpnklpjjbpheeaaGreatDoor

/-
  The walks of slots.Find and of the reference's Size, Address, Find; conditions: what is handed in reads as told.
-/
namespace Go.Proofs.YtpnklpjjbpheeaaGreatDoor
open Go.RowKit Go.Proofs.YtpnklpjjbpheeaaGreatDoorW.PrintWords

theorem hit_iff (sz : Int → Int) (a : Int) (x : Sl.Fr) : Sl.hit sz a x = true ↔ 0 ≤ x.1 ∧ x.1 ≤ 1099511627776 ∧ x.1 + 2 ≤ a ∧ a - x.1 - 2 < sz x.2.1 := by
  unfold Sl.hit; simp only [Bool.and_eq_true, decide_eq_true_eq]; omega
theorem sizeS_cases (sz : Int → Int) (x : Sl.Fr) : Sl.sizeS sz x = 0 ∨ (Sl.sizeS sz x = sz x.2.1 ∧ 0 ≤ x.1 ∧ x.1 ≤ 1099511627776) := by
  unfold Sl.sizeS
  by_cases h : x.1 < 0 ∨ 1099511627776 < x.1
  · rw [if_pos h]; omega
  · rw [if_neg h]; omega
/-- what the program asks of a frame: is the address one of its slots' -/
theorem hit_size {sz : Int → Int} {a : Int} {x : Sl.Fr} : Sl.hit sz a x = true ↔ x.1 ≤ a ∧ 0 ≤ a - x.1 - 2 ∧ a - x.1 - 2 < Sl.sizeS sz x := by
  rw [hit_iff]
  unfold Sl.sizeS
  by_cases h : x.1 < 0 ∨ 1099511627776 < x.1
  · rw [if_pos h]; omega
  · rw [if_neg h]; omega
theorem ret_iib {a b a' b' : Int} {c c' : Bool} (h1 : a = a') (h2 : b = b') (h3 : c = c') : Ending.returned (.tuple #[.int .i64 a, .int .i64 b, .bool c]) = .returned (.tuple #[.int .i64 a', .int .i64 b', .bool c']) := by rw [h1, h2, h3]
theorem find_yes' {sz : Int → Int} {l : List Sl.Fr} {a : Int} {k : Nat} {x : Sl.Fr} (h : Sl.findAt sz l a = some k) (hx : x = l.getD k Sl.dFr) : Sl.findD sz l a = k ∧ Sl.findI sz l a = a - x.1 - 2 ∧ Sl.findB sz l a = true := by
  subst hx; exact Sl.find_yes h

end Go.Proofs.YtpnklpjjbpheeaaGreatDoor

/-
  The walks of the reference's Size, Address and Find of slots; conditions: what is handed in reads as told.
-/
namespace Go.Proofs.YtpnklpjjbpheeaaGreatDoor
open Go.RowKit Go.Proofs.YtpnklpjjbpheeaaGreatDoorW.PrintWords

end Go.Proofs.YtpnklpjjbpheeaaGreatDoor

/-
  The walks of the slots' great and awake; conditions: what is handed in reads as told.
-/
namespace Go.Proofs.YtpnklpjjbpheeaaGreatDoor
open Go.RowKit Go.Proofs.YtpnklpjjbpheeaaGreatDoorW.PrintWords

/-- the functions of the layer's awake -/
def lS : List (Int × List Int) := [(3, [])]
theorem lS_ok : newOk lS = true := by decide +kernel
theorem lS_words : FnsOk lS := by
  intro f hf
  obtain rfl : f = (3, []) := by simpa [lS] using hf
  exact ⟨(fun x hx => by cases hx), by decide, by decide, by decide⟩
theorem tS : tSize (lS.map entryOf) 0 = 3 ∧ EntIn (lS.map entryOf) := by
  refine ⟨by decide +kernel, fun e he => ?_⟩
  obtain rfl : e = entryOf (3, []) := by simpa [lS] using he
  decide +kernel
def frS : List Sl.Fr := [(59, (0, -1))]
theorem kFr_one {w : World} {ad : Addr} {a f k : Int} (h0 : w.cell? (ad.add 0) = some (.int .i64 a)) (h1 : w.cell? (ad.add 1) = some (.int .i64 f)) (h2 : w.cell? (ad.add 2) = some (.int .i64 k)) : kFr.C w (some ad) ([(a, (f, k))] : List Sl.Fr).length [(a, (f, k))] := by
  refine ⟨rfl, by simp, fun _ => ⟨ad, rfl, fun j p hj => ?_⟩⟩
  cases j with
  | zero =>
    obtain rfl : p = (a, (f, k)) := by simpa using hj.symm
    refine ⟨[.int .i64 a, .int .i64 f, .int .i64 k], rfl, ⟨[_], [_, _], rfl, rfl, [_], [_], rfl, rfl, rfl⟩, fun i u hu => ?_⟩
    cases i with
    | zero => obtain rfl : u = _ := by simpa using hu.symm
              simpa using h0
    | succ i => cases i with
      | zero => obtain rfl : u = _ := by simpa using hu.symm
                simpa using h1
      | succ i => cases i with
        | zero => obtain rfl : u = _ := by simpa using hu.symm
                  simpa using h2
        | succ i => simp at hu
  | succ j => simp at hj
theorem kVl_one {w : World} {ad : Addr} {a b c d : Int} (h0 : w.cell? (ad.add 0) = some (.int .u8 a)) (h1 : w.cell? (ad.add 1) = some (.int .u64 b)) (h2 : w.cell? (ad.add 2) = some (.int .i64 c)) (h3 : w.cell? (ad.add 3) = some (.int .i64 d)) : kVl.C w (some ad) ([(a, (b, (c, d)))] : List Sl.Vl).length [(a, (b, (c, d)))] := by
  refine ⟨rfl, by simp, fun _ => ⟨ad, rfl, fun j p hj => ?_⟩⟩
  cases j with
  | zero =>
    obtain rfl : p = (a, (b, (c, d))) := by simpa using hj.symm
    refine ⟨[.int .u8 a, .int .u64 b, .int .i64 c, .int .i64 d], rfl, ⟨[_], [_, _, _], rfl, rfl, [_], [_, _], rfl, rfl, [_], [_], rfl, rfl, rfl⟩, fun i u hu => ?_⟩
    cases i with
    | zero => obtain rfl : u = _ := by simpa using hu.symm
              simpa using h0
    | succ i => cases i with
      | zero => obtain rfl : u = _ := by simpa using hu.symm
                simpa using h1
      | succ i => cases i with
        | zero => obtain rfl : u = _ := by simpa using hu.symm
                  simpa using h2
        | succ i => cases i with
          | zero => obtain rfl : u = _ := by simpa using hu.symm
                    simpa using h3
          | succ i => simp at hu
  | succ j => simp at hj
theorem fnC_new {w : World} (s : Int) : FnC (w.alloc (.cells #[.int .i64 s, .slice none 0 0] 56)) (some ⟨w.heap.size, 0, none⟩) 1 [(s, [])] :=
  fnC_one (A1 := none) (c1 := 0) (m := []) (by simp [Addr.add]) (by simp [Addr.add]) (by decide) ⟨rfl, by simp, fun h => by simp at h⟩

theorem sM1 (W : World) : Calls Tryz.prog 33 #[.slice (some ⟨W.heap.size, 0, none⟩) 1 1] (W.alloc (.cells #[.int .u8 1, .int .u64 7, .int .i64 0, .int .i64 0] 46)) fun e w' => e = .returned (.bool true) ∧ Below W.heap.size W w' := by
  have h0 := below_alloc (Below.refl W.heap.size W) (.cells #[.int .u8 1, .int .u64 7, .int .i64 0, .int .i64 0] 46)
  have := smayAll_any (some ⟨W.heap.size, 0, none⟩) 1 [(1, (7, (0, 0)))] (W.alloc (.cells #[.int .u8 1, .int .u64 7, .int .i64 0, .int .i64 0] 46)) (kVl_one (by simp [Addr.add]) (by simp [Addr.add]) (by simp [Addr.add]) (by simp [Addr.add])) (by intro v hv; obtain rfl : v = _ := (by simpa using hv); unfold VlIn; decide)
  exact this.mono fun e w' ⟨he, hb⟩ => ⟨he, below_then h0 h0.size hb⟩
theorem sM2 (W : World) : Calls Tryz.prog 33 #[.slice (some ⟨W.heap.size, 0, none⟩) 1 1] (W.alloc (.cells #[.int .u8 0, .int .u64 7, .int .i64 0, .int .i64 0] 46)) fun e w' => e = .returned (.bool false) ∧ Below W.heap.size W w' := by
  have h0 := below_alloc (Below.refl W.heap.size W) (.cells #[.int .u8 0, .int .u64 7, .int .i64 0, .int .i64 0] 46)
  have := smayAll_any (some ⟨W.heap.size, 0, none⟩) 1 [(0, (7, (0, 0)))] (W.alloc (.cells #[.int .u8 0, .int .u64 7, .int .i64 0, .int .i64 0] 46)) (kVl_one (by simp [Addr.add]) (by simp [Addr.add]) (by simp [Addr.add]) (by simp [Addr.add])) (by intro v hv; obtain rfl : v = _ := (by simpa using hv); unfold VlIn; decide)
  exact this.mono fun e w' ⟨he, hb⟩ => ⟨he, below_then h0 h0.size hb⟩
end Go.Proofs.YtpnklpjjbpheeaaGreatDoor

/-
  Plain: when two bitmaps have the same bits.
-/
namespace Bm

def sameB (a b : List Int) : Bool := (List.range (max a.length b.length)).all fun k => a.getD k 0 == b.getD k 0
theorem sameB_iff (a b : List Int) : sameB a b = true ↔ ∀ k, a.getD k 0 = b.getD k 0 := by
  unfold sameB
  rw [List.all_eq_true]
  constructor
  · intro h k
    by_cases hk : k < max a.length b.length
    · simpa using h k (List.mem_range.2 hk)
    · rw [List.getD_eq_getElem?_getD, List.getD_eq_getElem?_getD, List.getElem?_eq_none (by omega), List.getElem?_eq_none (by omega)]
  · intro h k _
    simpa using h k
theorem cut_getD (l : List Int) (k : Nat) : (cutL l).getD k 0 = l.getD k 0 := by
  obtain ⟨n, e, _⟩ := cut_ex l
  rw [List.getD_eq_getElem?_getD, List.getD_eq_getElem?_getD]
  conv => rhs; rw [e]
  by_cases h : k < (cutL l).length
  · rw [List.getElem?_append_left h]
  · rw [List.getElem?_eq_none (by omega), List.getElem?_append_right (by omega), List.getElem?_replicate]
    split <;> rfl
theorem cut_tight (l : List Int) (h : (cutL l).length ≠ 0) : (cutL l).getD ((cutL l).length - 1) 0 ≠ 0 := by
  obtain ⟨n, e, hh⟩ := cut_ex l
  rcases hh with hh | ⟨m, x, hm, hx⟩
  · rw [hh] at h; simp at h
  · rw [hm, List.getD_eq_getElem?_getD, List.length_append, List.length_singleton, Nat.add_sub_cancel, List.getElem?_append_right (Nat.le_refl _)]
    simpa using hx
theorem same_cut (a b : List Int) : sameB a b = decide (cutL a = cutL b) := by
  rw [Bool.eq_iff_iff, sameB_iff, decide_eq_true_eq]
  constructor
  · intro h
    have hg : ∀ k, (cutL a).getD k 0 = (cutL b).getD k 0 := fun k => by rw [cut_getD, cut_getD]; exact h k
    have hlen : (cutL a).length = (cutL b).length := by
      rcases Nat.lt_trichotomy (cutL a).length (cutL b).length with hl | hl | hl
      · have h1 := cut_tight b (by omega)
        rw [← hg, List.getD_eq_getElem?_getD, List.getElem?_eq_none (by omega)] at h1
        exact absurd rfl h1
      · exact hl
      · have h1 := cut_tight a (by omega)
        rw [hg, List.getD_eq_getElem?_getD, List.getElem?_eq_none (by omega)] at h1
        exact absurd rfl h1
    apply List.ext_getElem hlen
    intro i h1 h2
    have := hg i
    rwa [List.getD_eq_getElem?_getD, List.getD_eq_getElem?_getD, List.getElem?_eq_getElem h1, List.getElem?_eq_getElem h2] at this
  · intro h k
    rw [← cut_getD a, ← cut_getD b, h]
/-- the same bits: the same words -/
theorem word_ext {x y : Nat} (h : ∀ j, j < 64 → x.testBit j = y.testBit j) (hx : x < 2 ^ 64) (hy : y < 2 ^ 64) : x = y := by
  apply Nat.eq_of_testBit_eq
  intro j
  by_cases hj : j < 64
  · exact h j hj
  · rw [Nat.testBit_lt_two_pow (Nat.lt_of_lt_of_le hx (Nat.pow_le_pow_right (by omega) (by omega))), Nat.testBit_lt_two_pow (Nat.lt_of_lt_of_le hy (Nat.pow_le_pow_right (by omega) (by omega)))]
theorem word_nn {l : List Int} (h : Words l) (k : Nat) : 0 ≤ l.getD k 0 ∧ l.getD k 0 < 18446744073709551616 := by
  rw [List.getD_eq_getElem?_getD]
  rcases Nat.lt_or_ge k l.length with hk | hk
  · rw [List.getElem?_eq_getElem hk]; exact h _ (List.getElem_mem hk)
  · rw [List.getElem?_eq_none hk]; exact ⟨by decide, by decide⟩
theorem same_bits {a b : List Int} (ha : Words a) (hb : Words b) (h : ∀ i, bitAt a i = bitAt b i) : sameB a b = true := by
  rw [sameB_iff]
  intro k
  have h1 := word_nn ha k
  have h2 := word_nn hb k
  have : (a.getD k 0).toNat = (b.getD k 0).toNat := by
    apply word_ext _ (by omega) (by omega)
    intro j hj
    have := h (64 * k + j)
    unfold bitAt at this
    rwa [show (64 * k + j) / 64 = k by omega, show (64 * k + j) % 64 = j by omega] at this
  omega
def tightL (l : List Int) : Bool := decide (l.length = 0) || decide (l.getD (l.length - 1) 0 ≠ 0)
theorem tight_cut (l : List Int) : tightL (cutL l) = true := by
  unfold tightL
  by_cases h : (cutL l).length = 0
  · rw [decide_eq_true h]; rfl
  · rw [decide_eq_true (cut_tight l h), Bool.or_true]
theorem with_cut (l : List Int) (i : Int) (on : Bool) : ∃ m, withL l i on = cutL m := by
  unfold withL
  split
  · exact ⟨_, rfl⟩
  · exact ⟨_, rfl⟩
theorem tight_with (l : List Int) (i : Int) (on : Bool) : tightL (withL l i on) = true := by
  obtain ⟨m, e⟩ := with_cut l i on
  rw [e]; exact tight_cut m
theorem of_cut (l : List Int) : ofL l = [] ∨ ∃ m, ofL l = cutL m := by
  unfold ofL
  suffices h : ∀ (l b : List Int), (b = [] ∨ ∃ m, b = cutL m) → (l.foldl (fun b i => if fits i then withL b i true else b) b = [] ∨ ∃ m, l.foldl (fun b i => if fits i then withL b i true else b) b = cutL m) from h l [] (Or.inl rfl)
  intro l
  induction l with
  | nil => intro b hb; exact hb
  | cons x l ih =>
    intro b hb
    rw [List.foldl_cons]
    apply ih
    split
    · exact Or.inr (with_cut _ _ _)
    · exact hb
theorem tight_of (l : List Int) : tightL (ofL l) = true := by
  rcases of_cut l with e | ⟨m, e⟩
  · rw [e]; rfl
  · rw [e]; exact tight_cut m
end Bm

/-
  The arena: words that are written while all else stays; the walks of arena.New, Words, In; conditions: what is handed in reads as told.
-/
namespace Go.Proofs.YtpnklpjjbpheeaaGreatDoor
open Go.RowKit Go.Proofs.YtpnklpjjbpheeaaGreatDoorW.PrintWords

/-- of what was there only block b may have changed -/
structure KeepW (b : Nat) (w w' : World) : Prop where
  os : w'.os = w.os
  tape : w'.tape = w.tape
  output : w'.output = w.output
  size : w.heap.size ≤ w'.heap.size
  block : ∀ k, k < w.heap.size → k ≠ b → w'.heap[k]? = w.heap[k]?
theorem KeepW.refl (b : Nat) (w : World) : KeepW b w w := ⟨rfl, rfl, rfl, Nat.le_refl _, fun _ _ _ => rfl⟩
theorem KeepW.trans {b : Nat} {w w1 w2 : World} (h : KeepW b w w1) (k : KeepW b w1 w2) : KeepW b w w2 :=
  ⟨k.os.trans h.os, k.tape.trans h.tape, k.output.trans h.output, Nat.le_trans h.size k.size, fun i hi hb => (k.block i (Nat.lt_of_lt_of_le hi h.size) hb).trans (h.block i hi hb)⟩
theorem KeepW.of_below {w w' : World} (h : Below w.heap.size w w') (b : Nat) : KeepW b w w' := ⟨h.os, h.tape, h.output, h.size, fun k hk _ => h.block k hk⟩
theorem KeepW.then_ {b : Nat} {w w1 w2 : World} (h : KeepW b w w1) (k : Below w1.heap.size w1 w2) : KeepW b w w2 := h.trans (KeepW.of_below k b)
theorem KeepW.setCell {b : Nat} {w w1 : World} (h : KeepW b w w1) (j : Nat) (u : Value) : KeepW b w (w1.setCell ⟨b, j, none⟩ u) :=
  h.trans ⟨rfl, rfl, rfl, by simp [World.setCell], fun k _ hb => Below.heap_setCell w1 ⟨b, j, none⟩ u k hb⟩
theorem KeepW.below {b B : Nat} {w0 w w' : World} (h : KeepW b w w') (hb : Below B w0 w) (h1 : B ≤ b) (h2 : B ≤ w.heap.size) : Below B w0 w' :=
  hb.trans ⟨h.os, h.tape, h.output, h.size, fun k hk => h.block k (by omega) (by omega)⟩
/-- P holds, and goes on to hold whatever is written into block b -/
def Stab (b : Nat) (P : World → Prop) (w : World) : Prop := ∀ w', KeepW b w w' → P w'
theorem Stab.now {b : Nat} {P : World → Prop} {w : World} (h : Stab b P w) : P w := h w (KeepW.refl b w)
theorem Stab.keep {b : Nat} {P : World → Prop} {w w' : World} (h : Stab b P w) (k : KeepW b w w') : Stab b P w' := fun w2 h2 => h w2 (k.trans h2)
theorem Stab.of_old {b : Nat} {P : World → Prop} {w0 w : World} (h : ∀ w', Below w0.heap.size w0 w' → P w') (hb : Below w0.heap.size w0 w) (h1 : w0.heap.size ≤ b) : Stab b P w := fun _ k => h _ (k.below hb h1 hb.size)
theorem Stab.mono {b : Nat} {P Q : World → Prop} {w : World} (h : Stab b P w) (hq : ∀ w, P w → Q w) : Stab b Q w := fun w' k => hq _ (h w' k)

theorem nums_get (k : IntKind) (l : List Int) (j : Nat) (h : j < l.length) : (nums k l)[j]? = some (.int k (l.getD j 0)) := by
  unfold nums; rw [List.getElem?_map, List.getD_eq_getElem?_getD, List.getElem?_eq_getElem h]; rfl
/-- are n words there from an address on -/
def inL (len : Nat) (at_ n : Int) : Bool := decide (0 ≤ n) && decide (0 ≤ at_) && decide (at_ ≤ len) && decide (n ≤ len - at_)
theorem inL_true {len : Nat} {a n : Int} (h : inL len a n = true) : 0 ≤ n ∧ 0 ≤ a ∧ a + n ≤ len := by
  unfold inL at h; simp only [Bool.and_eq_true, decide_eq_true_eq] at h; omega
theorem inL_false {len : Nat} {a n : Int} (h : inL len a n = false) : n < 0 ∨ a < 0 ∨ len < a ∨ len < a + n := by
  by_cases h1 : n < 0 ∨ a < 0 ∨ (len : Int) < a ∨ (len : Int) < a + n
  · exact h1
  · have : inL len a n = true := by unfold inL; simp only [Bool.and_eq_true, decide_eq_true_eq]; omega
    rw [this] at h; cases h

theorem made_nums (m : Nat) : madeCells #[Value.int .u64 0] m = (nums .u64 (List.replicate m 0)).toArray := by
  apply Array.ext
  · simp [nums, madeCells]
  · intro i h1 h2
    simp [nums, madeCells, Nat.mod_one]
theorem words_zero (m : Nat) : Bm.Words (List.replicate m 0) := by
  intro x hx
  obtain rfl := (List.mem_replicate.1 hx).2
  decide
end Go.Proofs.YtpnklpjjbpheeaaGreatDoor

/-
  The arena's caught, as a deferred call of a frame that returns and of one that panics; part; conditions: the arena reads as told.
-/
namespace Go.Proofs.YtpnklpjjbpheeaaGreatDoor
open Go.RowKit Go.Proofs.YtpnklpjjbpheeaaGreatDoorW.PrintWords

end Go.Proofs.YtpnklpjjbpheeaaGreatDoor

/-
  The walks of the arena's Store and Zero; conditions: the arena reads as told.
-/
namespace Go.Proofs.YtpnklpjjbpheeaaGreatDoor
open Go.RowKit Go.Proofs.YtpnklpjjbpheeaaGreatDoorW.PrintWords

def putW (ws : List Int) (a : Nat) (l : List Int) : List Int := ws.take a ++ (l ++ ws.drop (a + l.length))
theorem putW_length (ws : List Int) (a : Nat) (l : List Int) (h : a + l.length ≤ ws.length) : (putW ws a l).length = ws.length := by
  unfold putW; simp only [List.length_append, List.length_take, List.length_drop]; omega
theorem putW_nil (ws : List Int) (a : Nat) : putW ws a [] = ws := by
  unfold putW; simp
theorem putW_words {ws : List Int} {a : Nat} {l : List Int} (h : Bm.Words ws) (hl : Bm.Words l) : Bm.Words (putW ws a l) := by
  intro x hx
  unfold putW at hx
  rw [List.mem_append, List.mem_append] at hx
  rcases hx with hx | hx | hx
  · exact h x (List.mem_of_mem_take hx)
  · exact hl x hx
  · exact h x (List.mem_of_mem_drop hx)
theorem putW_nums (ws : List Int) (a : Nat) (l : List Int) : nums .u64 (putW ws a l) = (nums .u64 ws).take a ++ (nums .u64 l ++ (nums .u64 ws).drop (a + (nums .u64 l).length)) := by
  unfold putW nums
  rw [List.map_append, List.map_append, List.map_take, List.map_drop, List.length_map]
theorem zero64 (w : World) : (zeroValue 44).run Tryz.prog w = .ok (.int .u64 0) w := by kernel_rfl
end Go.Proofs.YtpnklpjjbpheeaaGreatDoor

/-
  The walks of frame.word, frame.End, frame.Read and of the reference's; conditions: the arena and the table read as told.
-/
namespace Go.Proofs.YtpnklpjjbpheeaaGreatDoor
open Go.RowKit Go.Proofs.YtpnklpjjbpheeaaGreatDoorW.PrintWords

/-- a base as a link -/
def linkW (n : Int) : Int := (if n < -1 then -1 else n) + 1
theorem two_of (ws : List Int) (a : Nat) (h : a + 2 ≤ ws.length) : (ws.drop a).take 2 = [ws.getD a 0, ws.getD (a + 1) 0] := by
  apply List.ext_getElem
  · simp; omega
  · intro i h1 h2
    have hi : i = 0 ∨ i = 1 := by simp at h2; omega
    rcases hi with rfl | rfl
    · simp [List.getD_eq_getElem?_getD, List.getElem?_eq_getElem (show a < ws.length by omega)]
    · simp [List.getD_eq_getElem?_getD, List.getElem?_eq_getElem (show a + 1 < ws.length by omega)]
theorem cells3 {w : World} {g : Nat} {t : TypeId} {a b c : Value} (h : w.heap[g]? = some (.cells #[a, b, c] t (0, 0))) : w.cell? ⟨g, 0, none⟩ = some a ∧ w.cell? ⟨g, 1, none⟩ = some b ∧ w.cell? ⟨g, 2, none⟩ = some c ∧ w.frozen? ⟨g, 0, none⟩ = false ∧ w.frozen? ⟨g, 1, none⟩ = false ∧ w.frozen? ⟨g, 2, none⟩ = false :=
  ⟨by rw [blk_cell h 0]; rfl, by rw [blk_cell h 1]; rfl, by rw [blk_cell h 2]; rfl, blk_frozen h 0, blk_frozen h 1, blk_frozen h 2⟩
theorem set3 {w : World} {g : Nat} {t : TypeId} {a b c : Value} (h : w.heap[g]? = some (.cells #[a, b, c] t (0, 0))) (a' b' c' : Value) : (((w.setCell ⟨g, 0, none⟩ a').setCell ⟨g, 1, none⟩ b').setCell ⟨g, 2, none⟩ c').heap[g]? = some (.cells #[a', b', c'] t (0, 0)) :=
  blk_put (blk_put (blk_put h 0 a' rfl) 1 b' rfl) 2 c' rfl
theorem below3 {w w1 : World} (h : Below w.heap.size w w1) (a' b' c' : Value) : Below w.heap.size w (((w1.setCell ⟨w.heap.size, 0, none⟩ a').setCell ⟨w.heap.size, 1, none⟩ b').setCell ⟨w.heap.size, 2, none⟩ c') :=
  ((h.setCell (p := ⟨w.heap.size, 0, none⟩) (Nat.le_refl _) _).setCell (p := ⟨w.heap.size, 1, none⟩) (Nat.le_refl _) _).setCell (p := ⟨w.heap.size, 2, none⟩) (Nat.le_refl _) _
/-- what stands at an address is a frame -/
def RdOk (ws : List Int) (ent : List (Int × (List Int × List Int))) (a : Nat) : Prop := ws.getD a 0 ≤ ws.length ∧ 1 ≤ ws.getD (a + 1) 0 ∧ ws.getD (a + 1) 0 ≤ ent.length ∧ (a : Int) + tWords ent (ws.getD (a + 1) 0 - 1) ≤ ws.length
end Go.Proofs.YtpnklpjjbpheeaaGreatDoor

/-
  The walk of frame.Push; conditions: the arena and the table read as told.
-/
namespace Go.Proofs.YtpnklpjjbpheeaaGreatDoor
open Go.RowKit Go.Proofs.YtpnklpjjbpheeaaGreatDoorW.PrintWords

/-- the words behind a push -/
def pushW (ws : List Int) (base n : Nat) (link f : Int) : List Int := putW (putW ws base (List.replicate n 0)) base [linkW link, f + 1]
end Go.Proofs.YtpnklpjjbpheeaaGreatDoor

/-
  The walk of the frames' awake; conditions: the table of deBruijn stands.
-/
namespace Go.Proofs.YtpnklpjjbpheeaaGreatDoor
open Go.RowKit Go.Proofs.YtpnklpjjbpheeaaGreatDoorW.PrintWords

theorem tbl_stab {b : Nat} {w w' : World} {p : Value} {ents : List (Int × (List Int × List Int))} (h : ∀ W : World, (∀ k, w.heap.size ≤ k → k < w'.heap.size → W.heap[k]? = w'.heap[k]?) → TblAt W p ents) (hb : b < w.heap.size) : Stab b (TblAt · p ents) w' :=
  fun W k => h W (fun j h1 h2 => k.block j h2 (by omega))
def awW : List Int := pushW (List.replicate (64 * 4) 0) 59 5 (-1) 0
def entS : List (Int × (List Int × List Int)) := lS.map entryOf
theorem awW_rd : RdOk awW entS 59 := by
  refine ⟨?_, ?_, ?_, ?_⟩ <;> decide +kernel
end Go.Proofs.YtpnklpjjbpheeaaGreatDoor

/-
  The walks of the words' reference: In, Store; conditions: what is handed in reads as told.
-/
namespace Go.Proofs.YtpnklpjjbpheeaaGreatDoor
open Go.RowKit Go.Proofs.YtpnklpjjbpheeaaGreatDoorW.PrintWords

theorem rdk (l : List Int) (k : Nat) : rd l k = l.getD k 0 := by unfold rd; rw [Int.toNat_natCast]
/-- the words while they are being written -/
def midW (ws l : List Int) (k : Nat) : List Int := l.take k ++ ws.drop k
theorem midW_length (ws l : List Int) (k : Nat) (hk : k ≤ l.length) (hl : l.length ≤ ws.length) : (midW ws l k).length = ws.length := by
  unfold midW; simp; omega
theorem midW_next (ws l : List Int) (k : Nat) (hk : k < l.length) (hl : l.length ≤ ws.length) : (midW ws l k).set k (l.getD k 0) = midW ws l (k + 1) := by
  unfold midW
  apply List.ext_getElem?
  intro i
  rw [List.getElem?_set]
  simp only [List.getElem?_append, List.length_append, List.length_take, List.length_drop, List.getElem?_take, List.getElem?_drop, Nat.min_eq_left (Nat.le_of_lt hk), Nat.min_eq_left (show k + 1 ≤ l.length by omega)]
  by_cases h : k = i
  · subst h
    rw [if_pos rfl, if_pos (by omega), if_pos (by omega), if_pos (by omega)]
    simp [List.getD_eq_getElem?_getD, List.getElem?_eq_getElem hk]
  · rw [if_neg h]
    by_cases h2 : i < k
    · rw [if_pos h2, if_pos h2, if_pos (by omega), if_pos (by omega)]
    · rw [if_neg h2, if_neg (by omega)]
      congr 1; omega
theorem midW_end (ws l : List Int) : midW ws l l.length = putW ws 0 l := by
  unfold midW putW; simp
end Go.Proofs.YtpnklpjjbpheeaaGreatDoor

/-
  The walk of the reference's Read; conditions: what is handed in reads as told, the table may be.
-/
namespace Go.Proofs.YtpnklpjjbpheeaaGreatDoor
open Go.RowKit Go.Proofs.YtpnklpjjbpheeaaGreatDoorW.PrintWords

theorem read_at2 {w : World} {A : Option Addr} {ws : List Int} {a : Nat} (h : ReadsInt w .u64 A ws.length ws) (hi : a + 2 ≤ ws.length) : ∃ ad, A = some ad ∧ w.cell? (ad.add a) = some (.int .u64 (ws.getD a 0)) ∧ w.cell? (ad.add (a + 1)) = some (.int .u64 (ws.getD (a + 1) 0)) := by
  obtain ⟨ad, rfl, hc⟩ := h.at_ (a : Int) (by omega) (by omega)
  obtain ⟨ad', h', hc'⟩ := h.at_ ((a : Int) + 1) (by omega) (by omega)
  injection h' with h'
  subst h'
  rw [Int.toNat_natCast, rdk] at hc
  rw [show ((a : Int) + 1).toNat = a + 1 by omega, show (a : Int) + 1 = ((a + 1 : Nat) : Int) by omega, rdk] at hc'
  exact ⟨ad, rfl, hc, hc'⟩
end Go.Proofs.YtpnklpjjbpheeaaGreatDoor
