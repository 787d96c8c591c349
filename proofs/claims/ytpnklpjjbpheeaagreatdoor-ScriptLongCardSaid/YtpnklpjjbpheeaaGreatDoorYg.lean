/-
  The walks of the library's Trim with the digits to the base 16; conditions: none.
-/
import Derived.Test.YtpnklpjjbpheeaaGreatDoorYe
import Derived.Test.YtpnklpjjbpheeaaGreatDoorY2
import Derived.Lib.ConvBytes
import Derived.Laws.BytesArg
import Derived.Deep.WholeRow
namespace Go.Proofs.YtpnklpjjbpheeaaGreatDoor
open Go.RowKit Go.Proofs.YtpnklpjjbpheeaaGreatDoorW.PrintWords
open Go.Proofs.Fl Go.Proofs.YtpnklpjjbpheeaaGreatDoor.Flt

/-- all are digits -/
def aH (t : ByteArray) : Bool := t.data.toList.all Hx.hx
def EmI (r s : ByteArray) : Prop := r.size = 0 ↔ aH s = true
/-- the set of the digits stands at g -/
def SetAt16 (w : World) (g : Nat) : Prop := ∀ c : UInt8, w.cell? ⟨g, c.toNat, none⟩ = some (.bool (Hx.hx c))
set_option maxRecDepth 100000 in
set_option maxHeartbeats 8000000 in
theorem tright_any (g : Nat) (s : ByteArray) (w : World) (hS : SetAt16 w g) (hs : s.size ≤ 1000) :
    Calls Tryz.prog 90 #[.string s, .pointer (some ⟨g, 0, none⟩)] w fun e w' => ∃ r, e = .returned (.string r) ∧ aH r = aH s ∧ r.size ≤ 1000 ∧ w' = w := by
  have HC := Lk.mk (fun x v (h : Hx.hx x = v) => Tryz.asciiSet_contains g x v w (h ▸ hS x))
  have HS := Lk.mk hs
  clear hS hs
  go_enter Tryz.func90, Tryz.ntmps90
  go_wp2
  go_loopg [0] s.size (fun gg v0 wr => ∃ t : ByteArray, v0 = .string t ∧ Lk (aH t = aH s) ∧ Lk (t.size ≤ gg ∧ t.size ≤ 1000) ∧ wr = w)
  case atStart => exact ⟨s, rfl, ⟨rfl⟩, ⟨Nat.le_refl _, HS.out⟩, rfl⟩
  case round =>
    obtain ⟨t, rfl, HA, HG, hwr⟩ := hrel
    subst wr
    by_cases hz : t.size = 0
    · have hzz : ¬ (t.size : Int) > 0 := by omega
      have HSZ := Lk.mk (show t.size ≤ 1000 by omega)
      clear hz
      go_wp2
      go_ret
      exact ⟨t, rfl, HA.out, HSZ.out, rfl⟩
    · obtain ⟨n, hn⟩ : ∃ n, t.size = n + 1 := ⟨t.size - 1, by omega⟩
      have hzz : (t.size : Int) > 0 := by omega
      have hnt : n < t.size := by omega
      have hntz : (n : Int) < (t.size : Int) := by omega
      have hg := HG.out
      have hw : IntKind.i64.wrap ((t.size : Int) - 1) = (n : Int) := (IntWalk.i64_in _ (by omega)).trans (by omega)
      cases hc : Hx.hx (t[n]'hnt) with
      | true =>
        have HCC := Lk.mk (HC.out _ _ hc)
        have HA2 := Lk.mk ((By.all_last t Hx.hx n hn hc).trans HA.out)
        have HS2 := Lk.mk (show (t.extract 0 n).size = n ∧ n < t.size ∧ n ≤ 1000 from ⟨by rw [By.size_extract t 0 n (by omega)]; omega, hnt, by omega⟩)
        clear hz hn hg hc
        go_wp2_with (go_at_call 106; (with_reducible refine (HCC.out).mono ?_); rintro e w' ⟨rfl, rfl⟩)
        go_roundg n
        case measure => have := HG.out; have := HS2.out; omega
        case rel => exact ⟨t.extract 0 n, rfl, HA2, ⟨by rw [HS2.out.1]; exact Nat.le_refl _, by rw [HS2.out.1]; exact HS2.out.2.2⟩, rfl⟩
      | false =>
        have HCC := Lk.mk (HC.out _ _ hc)
        have HSZ := Lk.mk (show t.size ≤ 1000 by omega)
        clear hz hn hg hc
        go_wp2_with (go_at_call 106; (with_reducible refine (HCC.out).mono ?_); rintro e w' ⟨rfl, rfl⟩)
        go_ret
        exact ⟨t, rfl, HA.out, HSZ.out, rfl⟩
set_option maxRecDepth 100000 in
set_option maxHeartbeats 8000000 in
theorem tleft_any (g : Nat) (s : ByteArray) (w : World) (hS : SetAt16 w g) (hs : s.size ≤ 1000) :
    Calls Tryz.prog 89 #[.string s, .pointer (some ⟨g, 0, none⟩)] w fun e w' => ∃ r : ByteArray, e = .returned (.string r) ∧ EmI r s ∧ w' = w := by
  have HC := Lk.mk (fun x v (h : Hx.hx x = v) => Tryz.asciiSet_contains g x v w (h ▸ hS x))
  have HS := Lk.mk hs
  clear hS hs
  go_enter Tryz.func89, Tryz.ntmps89
  go_wp2
  go_loopg [0] s.size (fun gg v0 wr => ∃ t : ByteArray, v0 = .string t ∧ Lk (aH t = aH s) ∧ Lk (t.size ≤ gg ∧ t.size ≤ 1000) ∧ wr = w)
  case atStart => exact ⟨s, rfl, ⟨rfl⟩, ⟨Nat.le_refl _, HS.out⟩, rfl⟩
  case round =>
    obtain ⟨t, rfl, HA, HG, hwr⟩ := hrel
    subst wr
    by_cases hz : t.size = 0
    · have hzz : ¬ (t.size : Int) > 0 := by omega
      have HE := Lk.mk (show EmI t s from ⟨fun _ => by rw [← HA.out, By.nil_of t hz]; rfl, fun _ => hz⟩)
      clear hz
      go_wp2
      go_ret
      exact ⟨t, rfl, HE.out, rfl⟩
    · have hzz : (t.size : Int) > 0 := by omega
      have hnt : 0 < t.size := by omega
      have hg := HG.out
      cases hc : Hx.hx (t[0]'hnt) with
      | true =>
        have HCC := Lk.mk (HC.out _ _ hc)
        have HA2 := Lk.mk ((By.all_first t Hx.hx hnt hc).trans HA.out)
        have HS2 := Lk.mk (show (t.extract 1 t.size).size = t.size - 1 ∧ t.size - 1 < t.size ∧ t.size - 1 ≤ 1000 from ⟨by rw [By.size_extract t 1 t.size (Nat.le_refl _)], by omega, by omega⟩)
        have h1 : ¬ t.size < 1 := by omega
        clear hz hg hc
        go_wp2_with (go_at_call 106; (with_reducible refine (HCC.out).mono ?_); rintro e w' ⟨rfl, rfl⟩)
        go_roundg (t.size - 1)
        case measure => have := HG.out; have := HS2.out; omega
        case rel => exact ⟨t.extract 1 t.size, rfl, HA2, ⟨by rw [HS2.out.1]; exact Nat.le_refl _, by rw [HS2.out.1]; exact HS2.out.2.2⟩, rfl⟩
      | false =>
        have HCC := Lk.mk (HC.out _ _ hc)
        have HE := Lk.mk (show EmI t s from ⟨fun h => absurd h hz, fun h => by rw [← HA.out] at h; unfold aH at h; rw [By.all_not_last t Hx.hx 0 hnt hc] at h; cases h⟩)
        clear hz hg hc
        go_wp2_with (go_at_call 106; (with_reducible refine (HCC.out).mono ?_); rintro e w' ⟨rfl, rfl⟩)
        go_ret
        exact ⟨t, rfl, HE.out, rfl⟩
def asB : Value → Option Bool
  | .bool b => some b
  | _ => none
theorem of_asB {x : Option Value} {b : Bool} (h : x.bind asB = some b) : x = some (.bool b) := by
  cases x with
  | none => cases h
  | some v =>
    cases v <;> first | (simp [asB] at h; done) | skip
    simp [asB] at h
    rw [h]
theorem set_cells : ∀ c, c < 256 → ((Lib.setCells [48, 49, 50, 51, 52, 53, 54, 55, 56, 57, 97, 98, 99, 100, 101, 102])[c]?).bind asB = some (Hx.hx (UInt8.ofNat c)) := by decide +kernel
theorem set_at (w : World) (g : Nat) (t : TypeId) (h : w.heap[g]? = some (.cells (Lib.setCells [48, 49, 50, 51, 52, 53, 54, 55, 56, 57, 97, 98, 99, 100, 101, 102]) t (0, 0))) : SetAt16 w g := by
  intro c
  rw [blk_cell h c.toNat, of_asB (set_cells c.toNat c.toNat_lt), UInt8.ofNat_toNat]
theorem isE (s : ByteArray) : s.toList.isEmpty = decide (s.size = 0) := by
  rw [Lib.toList_data]
  have hl : s.data.toList.length = s.size := by simp
  rw [← hl]
  cases s.data.toList with
  | nil => rfl
  | cons x l => rfl
theorem digs_ascii : ∀ b ∈ ([48, 49, 50, 51, 52, 53, 54, 55, 56, 57, 97, 98, 99, 100, 101, 102] : List UInt8), b.toNat < 128 := by decide
set_option maxRecDepth 100000 in
set_option maxHeartbeats 2000000 in
theorem trim_any (s : ByteArray) (w : World) (hs : s.size = 16) :
    Calls Tryz.prog 66 #[.string s, .string ⟨#[48, 49, 50, 51, 52, 53, 54, 55, 56, 57, 97, 98, 99, 100, 101, 102]⟩] w fun e w' => ∃ r : ByteArray, e = .returned (.string r) ∧ EmI r s ∧ Below w.heap.size w w' := by
  have hz : ∀ W, (zeroValue 137).run Tryz.prog W = .ok (.agg (Array.replicate 256 (.bool false))) W := by intro W; kernel_rfl
  have hm := Tryz.strings_makeASCIISet hz ⟨#[48, 49, 50, 51, 52, 53, 54, 55, 56, 57, 97, 98, 99, 100, 101, 102]⟩ w (by decide) (fun j b h => digs_ascii b (List.mem_of_getElem? h))
  obtain ⟨C, hC⟩ : ∃ C, C = Lib.setCells [48, 49, 50, 51, 52, 53, 54, 55, 56, 57, 97, 98, 99, 100, 101, 102] := ⟨_, rfl⟩
  have HM := Lk.mk (show Calls Tryz.prog 88 #[.string ⟨#[48, 49, 50, 51, 52, 53, 54, 55, 56, 57, 97, 98, 99, 100, 101, 102]⟩] w fun e w' => e = .returned (.tuple #[.agg C, .bool true]) ∧ w' = w.alloc (.cells C 137) by rw [hC]; exact hm)
  have hne : s.toList.isEmpty = false := by rw [isE]; exact decide_eq_false (by omega)
  have HC := Lk.mk hC
  have HSZ := Lk.mk hs
  have hC2 : C.size = 256 := by rw [hC]; decide +kernel
  have hst : (storeCells ⟨w.heap.size + 1, 0, none⟩ C.toList).run Tryz.prog ((w.alloc (.cells C 137)).alloc (.cells Tryz.zeroCells137 137)) = .ok () ((w.alloc (.cells C 137)).alloc (.cells C 137)) := by
    have := run_storeCells_new (P := Tryz.prog) (w.alloc (.cells C 137)) 137 Tryz.zeroCells137 C (by rw [hC2]; kernel_rfl) (by rw [hC2]; kernel_rfl) (by rw [hC]; exact Lib.setCells_one _)
    simpa using this
  have HB2 := Lk.mk (below_alloc (below_alloc (Below.refl w.heap.size w) (.cells C 137)) (.cells C 137))
  have hse := set_at ((w.alloc (.cells C 137)).alloc (.cells C 137)) (w.heap.size + 1) 137 (by rw [← hC]; have := blk_new (w.alloc (.cells C 137)) (.cells C 137); simpa using this)
  have HTR := Lk.mk (tright_any (w.heap.size + 1) s _ hse (by omega))
  have HTL := Lk.mk (fun r (h : r.size ≤ 1000) => tleft_any (w.heap.size + 1) r _ hse h)
  clear hz hm hC hs hse
  go_enter Tryz.func66, Tryz.ntmps66
  go_wp2_with (first
    | (go_at_call 88; (with_reducible refine (HM.out).mono ?_); rintro e w' ⟨rfl, rfl⟩)
    | (go_at_call 90; (with_reducible refine (HTR.out).mono ?_); rintro e w2 ⟨r, rfl, ha, hr, rfl⟩; have HA := Lk.mk ha; have HR := Lk.mk hr; clear ha hr)
    | (go_at_call 89; (with_reducible refine (HTL.out _ HR.out).mono ?_); rintro e w3 ⟨q, rfl, hq, rfl⟩; have HQ := Lk.mk hq; clear hq))
  go_ret
  refine ⟨q, rfl, ?_, HB2.out⟩
  have h1 := HQ.out
  unfold EmI at h1 ⊢
  rw [h1, HA.out]
end Go.Proofs.YtpnklpjjbpheeaaGreatDoor
