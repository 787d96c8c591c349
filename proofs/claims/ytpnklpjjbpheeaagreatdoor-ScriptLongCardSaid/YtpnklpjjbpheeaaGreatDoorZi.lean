/-
  Rows of steps that are read; the walks of script.Line, script.Step; conditions: the steps read as told, the tables stand.
-/
import Derived.Test.YtpnklpjjbpheeaaGreatDoorZh
import Derived.Lib.ConvBytes
import Derived.Laws.BytesArg
import Derived.Laws.Rows
import Derived.Deep.RegionHeld3
namespace Go.Proofs.YtpnklpjjbpheeaaGreatDoor
open Go.RowKit Go.Proofs.YtpnklpjjbpheeaaGreatDoorW.PrintWords
open Go.Proofs.Fl Go.Proofs.YtpnklpjjbpheeaaGreatDoor.Flt

abbrev Tp := Int × (Int × (Int × (Int × (Int × (Int × (Sl.Vl × (Int × List Int)))))))
def dTp : Tp := (0, (0, (0, (0, (0, (0, (Sl.dVl, (0, []))))))))
def kSt : Kd Tp := Kd.pair (Kd.int .u8) (Kd.pair (Kd.int .i64) (Kd.pair (Kd.int .i64) (Kd.pair (Kd.int .i64) (Kd.pair (Kd.int .i64) (Kd.pair (Kd.int .i64) (Kd.pair kVl (Kd.pair (Kd.int .u8) (Kd.slice 3 (Kd.int .i64)))))))))
def tSt (t : Tp) : St := ⟨t.1, t.2.1, t.2.2.1, t.2.2.2.1, t.2.2.2.2.1, t.2.2.2.2.2.1, t.2.2.2.2.2.2.1.1, t.2.2.2.2.2.2.1.2.1, t.2.2.2.2.2.2.1.2.2.1, t.2.2.2.2.2.2.1.2.2.2, t.2.2.2.2.2.2.2.1⟩
def tSl (t : Tp) : List Int := t.2.2.2.2.2.2.2.2
theorem kSt_at {w : World} {A : Option Addr} {n : Nat} {l : List Tp} (h : kSt.C w A n l) (k : Nat) (hk : k < n) : ∃ ad A1 c1, A = some ad ∧
    ((w.cell? (ad.add (k * 12)) = some (.int .u8 (tSt (l.getD k dTp)).k) ∧ w.cell? ⟨(ad.add (k * 12)).block, (ad.add (k * 12)).off + 1, none⟩ = some (.int .i64 (tSt (l.getD k dTp)).p) ∧ w.cell? ⟨(ad.add (k * 12)).block, (ad.add (k * 12)).off + 2, none⟩ = some (.int .i64 (tSt (l.getD k dTp)).g) ∧ w.cell? ⟨(ad.add (k * 12)).block, (ad.add (k * 12)).off + 3, none⟩ = some (.int .i64 (tSt (l.getD k dTp)).f) ∧ w.cell? ⟨(ad.add (k * 12)).block, (ad.add (k * 12)).off + 4, none⟩ = some (.int .i64 (tSt (l.getD k dTp)).d) ∧ w.cell? ⟨(ad.add (k * 12)).block, (ad.add (k * 12)).off + 5, none⟩ = some (.int .i64 (tSt (l.getD k dTp)).s)) ∧
    w.cell? ⟨(ad.add (k * 12)).block, (ad.add (k * 12)).off + 6, none⟩ = some (.int .u8 (tSt (l.getD k dTp)).v0) ∧ w.cell? ⟨(ad.add (k * 12)).block, (ad.add (k * 12)).off + 7, none⟩ = some (.int .u64 (tSt (l.getD k dTp)).v1) ∧ w.cell? ⟨(ad.add (k * 12)).block, (ad.add (k * 12)).off + 8, none⟩ = some (.int .i64 (tSt (l.getD k dTp)).v2) ∧ w.cell? ⟨(ad.add (k * 12)).block, (ad.add (k * 12)).off + 9, none⟩ = some (.int .i64 (tSt (l.getD k dTp)).v3) ∧ w.cell? ⟨(ad.add (k * 12)).block, (ad.add (k * 12)).off + 10, none⟩ = some (.int .u8 (tSt (l.getD k dTp)).o) ∧ w.cell? ⟨(ad.add (k * 12)).block, (ad.add (k * 12)).off + 11, none⟩ = some (.slice A1 (tSl (l.getD k dTp)).length c1)) ∧
    (tSl (l.getD k dTp)).length ≤ c1 ∧ ReadsInt w .i64 A1 (tSl (l.getD k dTp)).length (tSl (l.getD k dTp)) := by
  obtain ⟨ad, c, e, _, ⟨a0, a1, rfl, rfl, b0, b1, rfl, rfl, c0, c1, rfl, rfl, d0, d1, rfl, rfl, e0, e1, rfl, rfl, f0, f1, rfl, rfl, g0, g1, rfl, ⟨h0, h1, rfl, rfl, i0, i1, rfl, rfl, j0, j1, rfl, rfl, rfl⟩, k0, k1, rfl, rfl, A1, n1, rfl, hl1, hC⟩, hc⟩ := ReadsRow.get_ h dTp (k : Int) (by omega) (by omega)
  rw [Int.toNat_natCast] at hc hl1 hC
  have hc0 := hc 0 _ rfl
  have hcj : ∀ j, 0 < j → ∀ u, _ → _ := fun j hj u hu => hc j u hu
  rw [Nat.add_zero] at hc0
  refine ⟨ad, A1, n1, e, ⟨⟨hc0, ?_, ?_, ?_, ?_, ?_⟩, ?_, ?_, ?_, ?_, ?_, ?_⟩, hl1, Kd.reads_of_C hC⟩
  · rw [← add_field _ _ 1 (by omega)]; exact hc 1 _ rfl
  · rw [← add_field _ _ 2 (by omega)]; exact hc 2 _ rfl
  · rw [← add_field _ _ 3 (by omega)]; exact hc 3 _ rfl
  · rw [← add_field _ _ 4 (by omega)]; exact hc 4 _ rfl
  · rw [← add_field _ _ 5 (by omega)]; exact hc 5 _ rfl
  · rw [← add_field _ _ 6 (by omega)]; exact hc 6 _ rfl
  · rw [← add_field _ _ 7 (by omega)]; exact hc 7 _ rfl
  · rw [← add_field _ _ 8 (by omega)]; exact hc 8 _ rfl
  · rw [← add_field _ _ 9 (by omega)]; exact hc 9 _ rfl
  · rw [← add_field _ _ 10 (by omega)]; exact hc 10 _ rfl
  · rw [← add_field _ _ 11 (by omega)]; exact hc 11 _ rfl
/-- a step stands in a row -/
def StAt (w : World) (ad : Addr) (k : Nat) (x : St) (A1 : Option Addr) (n c1 : Nat) : Prop :=
    (w.cell? (ad.add (k * 12)) = some (.int .u8 x.k) ∧ w.cell? ⟨(ad.add (k * 12)).block, (ad.add (k * 12)).off + 1, none⟩ = some (.int .i64 x.p) ∧ w.cell? ⟨(ad.add (k * 12)).block, (ad.add (k * 12)).off + 2, none⟩ = some (.int .i64 x.g) ∧ w.cell? ⟨(ad.add (k * 12)).block, (ad.add (k * 12)).off + 3, none⟩ = some (.int .i64 x.f) ∧ w.cell? ⟨(ad.add (k * 12)).block, (ad.add (k * 12)).off + 4, none⟩ = some (.int .i64 x.d) ∧ w.cell? ⟨(ad.add (k * 12)).block, (ad.add (k * 12)).off + 5, none⟩ = some (.int .i64 x.s)) ∧
    w.cell? ⟨(ad.add (k * 12)).block, (ad.add (k * 12)).off + 6, none⟩ = some (.int .u8 x.v0) ∧ w.cell? ⟨(ad.add (k * 12)).block, (ad.add (k * 12)).off + 7, none⟩ = some (.int .u64 x.v1) ∧ w.cell? ⟨(ad.add (k * 12)).block, (ad.add (k * 12)).off + 8, none⟩ = some (.int .i64 x.v2) ∧ w.cell? ⟨(ad.add (k * 12)).block, (ad.add (k * 12)).off + 9, none⟩ = some (.int .i64 x.v3) ∧ w.cell? ⟨(ad.add (k * 12)).block, (ad.add (k * 12)).off + 10, none⟩ = some (.int .u8 x.o) ∧ w.cell? ⟨(ad.add (k * 12)).block, (ad.add (k * 12)).off + 11, none⟩ = some (.slice A1 n c1)
theorem StAt.below {w w1 : World} {ad : Addr} {k : Nat} {x : St} {A1 : Option Addr} {n c1 : Nat} (h : StAt w ad k x A1 n c1) (hb : Below w.heap.size w w1) : StAt w1 ad k x A1 n c1 := by
  obtain ⟨⟨q0, q1, q2, q3, q4, q5⟩, q6, q7, q8, q9, q10, q11⟩ := h
  exact ⟨⟨pw_cell_below hb q0, pw_cell_below hb q1, pw_cell_below hb q2, pw_cell_below hb q3, pw_cell_below hb q4, pw_cell_below hb q5⟩, pw_cell_below hb q6, pw_cell_below hb q7, pw_cell_below hb q8, pw_cell_below hb q9, pw_cell_below hb q10, pw_cell_below hb q11⟩
theorem step_any (x : St) (A : Option Addr) (c : Nat) (l : List Int) (w : World) (hx : StIn x) (hr : ReadsInt w .i64 A l.length l) :
    Calls Tryz.prog 17 #[.agg (stCells x A l.length c)] w fun e w' => e = .returned (.bool (stepB x A l c)) ∧ Below w.heap.size w w' := by
  cases ho : okK x.k with
  | true => exact step_yes x A c l w hx hr ho
  | false =>
    rw [show stepB x A l c = false by unfold stepB; rw [ho]; rfl]
    exact step_no1 x A l.length c w hx ho
/-- a step's line -/
def lineS (x : St) (l : List Int) : ByteArray := joinW (lineW x.k x.p.toNat x.g.toNat x.f.toNat x.d.toNat x.s.toNat x.v0 x.v1.toNat x.v2.toNat x.v3.toNat x.o.toNat (l.map Int.toNat))
theorem stepB_nat {x : St} {A : Option Addr} {c : Nat} {l : List Int} (h : stepB x A l c = true) (hx : StIn x) (ho : 0 ≤ x.o ∧ x.o ≤ 255) (hl : l.length ≤ 1000) :
    x = stN x.k x.p.toNat x.g.toNat x.f.toNat x.d.toNat x.s.toNat x.v0 x.v1.toNat x.v2.toNat x.v3.toNat x.o.toNat ∧ l = (l.map Int.toNat).map (fun n : Nat => (n : Int)) ∧ LnIn x.p.toNat x.g.toNat x.f.toNat x.d.toNat x.s.toNat x.v1.toNat x.v2.toNat x.v3.toNat x.o.toNat (l.map Int.toNat) := by
  unfold stepB at h
  simp only [Bool.and_eq_true] at h
  obtain ⟨⟨⟨⟨⟨_, h7⟩, hs⟩, _⟩, _⟩, _⟩ := h
  obtain ⟨a1, a2, a3, a4, a5, a6, a7⟩ := plain7_iff h7
  have hv := hx.v.2.1
  unfold St.v at hv
  dsimp only at hv
  have hs2 : ∀ y ∈ l, 0 ≤ y ∧ y ≤ 1000000 := by
    intro y hy
    rw [Bool.not_eq_true', List.any_eq_false] at hs
    have := hs y hy
    unfold plN at this
    simp at this
    omega
  refine ⟨?_, ?_, ⟨by omega, by omega, by omega, by omega, by omega, by omega, by omega, by omega, by omega, by rw [List.length_map]; exact hl, ?_⟩⟩
  · obtain ⟨k, p, g, f, d, s, v0, v1, v2, v3, o⟩ := x
    unfold stN
    dsimp only at *
    rw [Int.toNat_of_nonneg (by omega), Int.toNat_of_nonneg (by omega), Int.toNat_of_nonneg (by omega), Int.toNat_of_nonneg (by omega), Int.toNat_of_nonneg (by omega), Int.toNat_of_nonneg (by omega), Int.toNat_of_nonneg (by omega), Int.toNat_of_nonneg (by omega), Int.toNat_of_nonneg (by omega)]
  · rw [List.map_map]
    conv => lhs; rw [← List.map_id l]
    apply List.map_congr_left
    intro y hy
    have := hs2 y hy
    show y = ((y.toNat : Nat) : Int)
    omega
  · intro y hy
    obtain ⟨z, hz, rfl⟩ := List.mem_map.1 hy
    have := hs2 z hz
    omega
theorem line_ok (x : St) (A : Option Addr) (c : Nat) (l : List Int) (w : World) (hx : StIn x) (ho : 0 ≤ x.o ∧ x.o ≤ 255) (hl : l.length ≤ 1000) (hr : ReadsInt w .i64 A l.length l) (hT : Tab w) (hP : P10 w) (h : stepB x A l c = true) :
    Calls Tryz.prog 18 #[.agg (stCells x A l.length c)] w fun e w' => e = .returned (.string (lineS x l)) ∧ Below w.heap.size w w' := by
  obtain ⟨e1, e2, hi⟩ := stepB_nat h hx ho hl
  have h0 := line_any x.k x.p.toNat x.g.toNat x.f.toNat x.d.toNat x.s.toNat x.v0 x.v1.toNat x.v2.toNat x.v3.toNat x.o.toNat A c (l.map Int.toNat) w hx.k hi (by rw [← e2, List.length_map]; exact hr) hT hP
  rw [← e1, List.length_map] at h0
  exact h0
set_option maxRecDepth 100000 in
set_option maxHeartbeats 8000000 in
theorem sLine_any (x : St) (A : Option Addr) (c : Nat) (l : List Int) (w : World) (hx : StIn x) (ho : 0 ≤ x.o ∧ x.o ≤ 255) (hl : l.length ≤ 1000) (hr : ReadsInt w .i64 A l.length l) (hT : Tab w) (hP : P10 w) :
    Calls Tryz.prog 9 #[.agg (stCells x A l.length c)] w fun e w' => e = .returned (.tuple #[.string (if stepB x A l c then lineS x l else ⟨#[]⟩), .int .i64 (if stepB x A l c then 0 else 1)]) ∧ Below w.heap.size w w' := by
  have HB0 := Lk.mk (below_alloc (Below.refl w.heap.size w) (.cells (stCells x A l.length c) 49))
  have HS := Lk.mk (fun W (hb : Below w.heap.size w W) => step_any x A c l W hx (hr.below hb))
  have HL := Lk.mk (fun W (hb : Below w.heap.size w W) => line_ok x A c l W hx ho hl (hr.below hb) (hT.below hb) (hP.below hb))
  have HBX := Lk.mk (show BoxS (w.alloc (.cells (stCells x A l.length c) 49)) w.heap.size ⟨x, A, l.length, c⟩ from blk_new w _)
  clear hr hT hP ho hx hl
  generalize stepB x A l c = b at *
  generalize lineS x l = L at *
  obtain ⟨⟨b0, b1, b2, b3, b4, b5⟩, b6, b7, b8, b9, b10, b11⟩ := box_cells HBX.out
  obtain ⟨k0, p, g, f, d, s, v0, v1, v2, v3, o⟩ := x
  unfold stCells at *
  dsimp only at *
  cases b with
  | false =>
    go_enter Tryz.func9, Tryz.ntmps9
    go_wp2_with (go_at_call 17; (with_reducible refine (HS.out _ HB0.out).mono ?_); rintro e w1 ⟨rfl, hb⟩; (have HB := Lk.mk (below_then HB0.out HB0.out.size hb); clear hb))
    go_ret2
    exact ⟨rfl, HB.out⟩
  | true =>
    replace HL := Lk.mk (fun W hb => HL.out W hb rfl)
    go_enter Tryz.func9, Tryz.ntmps9
    go_wp2_with (first
      | (go_at_call 17; (with_reducible refine (HS.out _ HB0.out).mono ?_); rintro e w1 ⟨rfl, hb⟩; (have HB := Lk.mk (below_then HB0.out HB0.out.size hb); have HX := Lk.mk (show BoxS w1 w.heap.size _ from blk_below HBX.out hb); obtain ⟨⟨b0, b1, b2, b3, b4, b5⟩, b6, b7, b8, b9, b10, b11⟩ := box_cells HX.out; clear hb))
      | (go_at_call 18; (with_reducible refine (HL.out _ HB.out).mono ?_); rintro e w2 ⟨rfl, hb⟩; have HB2 := Lk.mk (below_then HB.out HB.out.size hb); clear hb))
    go_ret2
    exact ⟨rfl, HB2.out⟩
end Go.Proofs.YtpnklpjjbpheeaaGreatDoor
