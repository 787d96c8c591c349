/-
  The walks of the library's ParseUint to the base 16 at sixteen digits; conditions: all are digits.
-/
import Derived.Test.YtpnklpjjbpheeaaGreatDoorYg
import Derived.Lib.ConvBytes
import Derived.Laws.BytesArg
import Derived.Deep.WholeRow
namespace Go.Proofs.YtpnklpjjbpheeaaGreatDoor
open Go.RowKit Go.Proofs.YtpnklpjjbpheeaaGreatDoorW.PrintWords
open Go.Proofs.Fl Go.Proofs.YtpnklpjjbpheeaaGreatDoor.Flt

theorem or_low : ∀ k : Nat, k < 103 → 97 ≤ k → bits .or .u8 (k : Int) 32 = (k : Int) := by decide +kernel
theorem take_val (l : List UInt8) (i : Nat) (h : i < l.length) : Hx.val (l.take (i + 1)) = 16 * Hx.val (l.take i) + Hx.hv (l.getD i 0) := by
  rw [List.take_add_one, List.getElem?_eq_getElem h, List.getD_eq_getElem?_getD, List.getElem?_eq_getElem h]
  exact Hx.val_snoc _ _
theorem take_lt (l : List UInt8) (i : Nat) (ha : l.all Hx.hx = true) (h : i ≤ 15) : Hx.val (l.take i) < 1152921504606846976 := by
  have h1 : (l.take i).all Hx.hx = true := List.all_eq_true.2 fun x hx => List.all_eq_true.1 ha x (List.mem_of_mem_take hx)
  have h2 := Hx.val_lt h1
  have h3 : 16 ^ (l.take i).length ≤ 16 ^ 15 := Nat.pow_le_pow_right (by decide) (by rw [List.length_take]; omega)
  exact Nat.lt_of_lt_of_le h2 (Nat.le_trans h3 (by decide))
set_option maxRecDepth 100000 in
set_option maxHeartbeats 8000000 in
theorem iparse_any (s : ByteArray) (w : World) (hs : s.size = 16) (ha : aH s = true) :
    Calls Tryz.prog 93 #[.string s, .int .i64 16, .int .i64 64] w fun e w' => e = .returned (.tuple #[.int .u64 (Hx.val s.data.toList : Nat), .nilIface]) ∧ Below w.heap.size w w' := by
  have hne : s.toList.isEmpty = false := by rw [isE]; exact decide_eq_false (by omega)
  have hll : s.data.toList.length = 16 := by simpa using hs
  have hlow : ∀ (c : Int) (W : World), Calls Tryz.prog 109 #[.int .u8 c] W fun e w' => e = .returned (.int .u8 (bits .or .u8 c 32)) ∧ w' = W := fun c W => Tryz.internal_strconv_lower c W
  have HLO := Lk.mk hlow
  have kb : ∀ W : World, (convert 9 22 (.string s)).run Tryz.prog W = .ok (.slice (some ⟨W.heap.size, 0, none⟩) 16 (grownCap W 16 0 5)) (Lib.bytesWorld W 5 s) := fun W => by
    have := print_bytes (P := Tryz.prog) 9 22 5 Tryz.underlying9 Tryz.underlying22 Tryz.underlying5 s W
    rwa [hs] at this
  have HCE := Lk.mk (fun j (hj : j < 16) => Lib.bytesWorld_cell w 5 s j (by rw [hs]; exact hj))
  have HBY := Lk.mk (bytes_below (Below.refl w.heap.size w) (Nat.le_refl _) 5 s)
  have HLL := Lk.mk hll
  have HA := Lk.mk (show s.data.toList.all Hx.hx = true from ha)
  clear hs hll hlow ha
  obtain ⟨W1, hW1⟩ : ∃ W1, W1 = Lib.bytesWorld w 5 s := ⟨_, rfl⟩
  have HW1 := Lk.mk hW1
  rw [← hW1] at HCE HBY
  clear hW1
  generalize hl : s.data.toList = l at *
  clear hl
  obtain ⟨V, hV⟩ : ∃ V, V = Hx.val l := ⟨_, rfl⟩
  rw [← hV]
  have HV := Lk.mk hV
  clear hV
  go_enter Tryz.func93, Tryz.ntmps93
  go_wp2
  rw [← HW1.out]
  generalize grownCap w 16 0 5 = cp at *
  clear kb hne
  go_loopg [12, 13, 15, 16, 17, 101] 16 (fun gg v12 v13 _ _ _ v101 wr => ∃ i n : Nat, v12 = .bool false ∧ v13 = .int .u64 n ∧ v101 = .int .i64 i ∧ Lk (i ≤ 16 ∧ 16 - i ≤ gg) ∧ Lk (n = Hx.val (l.take i)) ∧ wr = W1)
  case atStart => exact ⟨0, 0, rfl, rfl, rfl, ⟨Nat.zero_le _, Nat.le_refl _⟩, ⟨rfl⟩, rfl⟩
  case round =>
    obtain ⟨i, n, rfl, rfl, rfl, HI, HN, hwr⟩ := hrel
    subst wr
    obtain ⟨i1, i2⟩ := HI.out
    by_cases hlt : i < 16
    · have hltz : (i : Int) < 16 := by omega
      have hce := HCE.out i hlt
      have hxx : Hx.hx (l.getD i 0) = true := List.all_eq_true.1 HA.out _ (by rw [List.getD_eq_getElem?_getD, List.getElem?_eq_getElem (by rw [HLL.out]; exact hlt)]; exact List.getElem_mem _)
      have hnl := take_lt l i HA.out (by omega)
      rw [← HN.out] at hnl
      have htv := take_val l i (by rw [HLL.out]; exact hlt)
      rw [← HN.out] at htv
      have hcs := Hx.hx_true hxx
      obtain ⟨d, hd⟩ : ∃ d, d = Hx.hv (l.getD i 0) := ⟨_, rfl⟩
      rw [← hd] at htv hcs
      generalize (l.getD i 0).toNat = k at *
      obtain ⟨m, hm⟩ : ∃ m, m = 16 * n := ⟨_, rfl⟩
      obtain ⟨n2, hn2⟩ : ∃ n2, n2 = m + d := ⟨_, rfl⟩
      have HN2 := Lk.mk (show n2 = Hx.val (l.take (i + 1)) by rw [hn2, hm, htv])
      have HI2 := Lk.mk (show (i + 1 ≤ 16 ∧ 16 - (i + 1) ≤ 16 - (i + 1)) ∧ 16 - (i + 1) < 16 - i by omega)
      have hd16 : d < 16 := by omega
      have hnz : ¬ (n : Int) ≥ 1152921504606846976 := by omega
      have hdz : ¬ (d : Int) ≥ 16 := by omega
      have h95 : ((k : Int) == 95) = false := beq_false_of_ne (by omega)
      have hw1 : IntKind.u64.wrap ((n : Int) * 16) = (m : Int) := (IntWalk.u64_in _ (by omega)).trans (by omega)
      have hw2 : IntKind.u64.wrap (d : Int) = (d : Int) := IntWalk.u64_in _ (by omega)
      have hw3 : IntKind.u64.wrap ((m : Int) + (d : Int)) = (n2 : Int) := (IntWalk.u64_in _ (by omega)).trans (by omega)
      have hc1 : ¬ (n2 : Int) < (m : Int) := by omega
      have hc2 : ¬ (n2 : Int) > 18446744073709551615 := by omega
      rcases hcs with ⟨c1, c2, c3⟩ | ⟨c1, c2, c3⟩
      · have e1 : (48 : Int) ≤ (k : Int) := by omega
        have e2 : (k : Int) ≤ 57 := by omega
        have hwk : IntKind.u8.wrap ((k : Int) - 48) = (d : Int) := (IntWalk.u8_in _ (by omega)).trans (by omega)
        clear i1 i2 hlt hxx hnl htv hd hm hn2 hd16 c1 c2 c3
        go_wp2
        go_roundg (16 - (i + 1))
        case measure => have := HI2.out.2; have := HI.out; omega
        case rel => exact ⟨i + 1, n2, rfl, rfl, by go_num, ⟨HI2.out.1⟩, HN2, rfl⟩
      · have e0 : (48 : Int) ≤ (k : Int) := by omega
        have e1 : ¬ (k : Int) ≤ 57 := by omega
        have e2 : (97 : Int) ≤ (k : Int) := by omega
        have e3 : (k : Int) ≤ 122 := by omega
        have hor : bits .or .u8 (k : Int) 32 = (k : Int) := or_low k (by omega) c1
        obtain ⟨q, hq⟩ : ∃ q, q = k - 97 := ⟨_, rfl⟩
        have hwk : IntKind.u8.wrap ((k : Int) - 97) = (q : Int) := (IntWalk.u8_in _ (by omega)).trans (by omega)
        have hwq : IntKind.u8.wrap ((q : Int) + 10) = (d : Int) := (IntWalk.u8_in _ (by omega)).trans (by omega)
        have HL2 := Lk.mk (fun W => HLO.out k W)
        rw [hor] at HL2
        clear i1 i2 hlt hxx hnl htv hd hm hn2 hd16 c1 c2 c3 hq HL2
        go_wp2
        go_roundg (16 - (i + 1))
        case measure => have := HI2.out.2; have := HI.out; omega
        case rel => exact ⟨i + 1, n2, rfl, rfl, by go_num, ⟨HI2.out.1⟩, HN2, rfl⟩
    · have hltz : ¬ (i : Int) < 16 := by omega
      obtain rfl : i = 16 := by omega
      have HE := Lk.mk (show n = V by rw [HN.out, HV.out, List.take_of_length_le (by rw [HLL.out]; exact Nat.le_refl _)])
      clear i1 i2 hlt
      obtain rfl := HE.out
      go_wp2
      go_ret2
      exact ⟨rfl, HBY.out⟩
set_option maxRecDepth 100000 in
set_option maxHeartbeats 2000000 in
theorem parse_any (s : ByteArray) (w : World) (hs : s.size = 16) (ha : aH s = true) :
    Calls Tryz.prog 67 #[.string s, .int .i64 16, .int .i64 64] w fun e w' => e = .returned (.tuple #[.int .u64 (Hx.val s.data.toList : Nat), .nilIface]) ∧ Below w.heap.size w w' := by
  have HP := Lk.mk (iparse_any s w hs ha)
  clear hs ha
  generalize Hx.val s.data.toList = V at *
  go_enter Tryz.func67, Tryz.ntmps67
  go_wp2_with (go_at_call 93; (with_reducible refine (HP.out).mono ?_); rintro e w1 ⟨rfl, hb⟩; have HB := Lk.mk hb; clear hb)
  go_ret2
  exact ⟨rfl, HB.out⟩
/-- what float.Read answers -/
def rdA (s : ByteArray) : Value := match Hx.rd s with
  | some v => .tuple #[.int .u64 (v : Nat), .int .i64 0]
  | none => .tuple #[.int .u64 0, .int .i64 10]
theorem rd_some {s : ByteArray} (hs : s.size = 16) (ha : aH s = true) : Hx.rd s = some (Hx.val s.data.toList) := if_pos ⟨hs, ha⟩
theorem rd_none {s : ByteArray} (h : ¬ (s.size = 16 ∧ aH s = true)) : Hx.rd s = none := if_neg h
set_option maxRecDepth 100000 in
set_option maxHeartbeats 8000000 in
theorem fread_any (s : ByteArray) (w : World) (hm : s.size ≤ 1000) :
    Calls Tryz.prog 45 #[.string s] w fun e w' => e = .returned (rdA s) ∧ Below w.heap.size w w' := by
  by_cases hs : s.size = 16
  · have HT := Lk.mk (trim_any s w hs)
    have hsz : (s.size : Int) = 16 := by omega
    cases ha : aH s with
    | true =>
      have hr : rdA s = .tuple #[.int .u64 (Hx.val s.data.toList : Nat), .int .i64 0] := by unfold rdA; rw [rd_some hs ha]
      rw [hr]
      have HP := Lk.mk (fun W => parse_any s W hs ha)
      have HE := Lk.mk (show ∀ r, EmI r s → r.toList.isEmpty = true from fun r h => by rw [isE]; exact decide_eq_true (h.2 ha))
      clear hm ha hr
      generalize Hx.val s.data.toList = V at *
      go_enter Tryz.func45, Tryz.ntmps45
      go_wp2_with (first
        | (go_at_call 66; (with_reducible refine (HT.out).mono ?_); rintro e w1 ⟨r, rfl, hq, hb⟩; have HB := Lk.mk hb; have hre := HE.out r hq; clear hb hq)
        | (go_at_call 67; (with_reducible refine (HP.out _).mono ?_); rintro e w2 ⟨rfl, hb⟩; have HB := Lk.mk (below_then HB.out HB.out.size hb); clear hb))
      go_ret2
      exact ⟨rfl, HB.out⟩
    | false =>
      have hr : rdA s = .tuple #[.int .u64 0, .int .i64 10] := by unfold rdA; rw [rd_none (by rw [ha]; simp)]
      rw [hr]
      have HE := Lk.mk (show ∀ r, EmI r s → r.toList.isEmpty = false from fun r h => by rw [isE]; exact decide_eq_false (fun e => by have := h.1 e; rw [ha] at this; cases this))
      clear hm ha hr
      go_enter Tryz.func45, Tryz.ntmps45
      go_wp2_with (go_at_call 66; (with_reducible refine (HT.out).mono ?_); rintro e w1 ⟨r, rfl, hq, hb⟩; have HB := Lk.mk hb; have hre := HE.out r hq; clear hb hq)
      go_ret2
      exact ⟨rfl, HB.out⟩
  · have hr : rdA s = .tuple #[.int .u64 0, .int .i64 10] := by unfold rdA; rw [rd_none (fun h => hs h.1)]
    rw [hr]
    have hsb : ((s.size : Int) != 16) = true := by rw [bne_iff_ne]; omega
    clear hm hs hr
    go_enter Tryz.func45, Tryz.ntmps45
    go_wp2
    go_ret2
    exact ⟨rfl, Below.refl _ _⟩
end Go.Proofs.YtpnklpjjbpheeaaGreatDoor
