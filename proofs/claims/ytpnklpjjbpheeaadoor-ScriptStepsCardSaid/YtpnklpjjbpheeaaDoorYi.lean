/-
  The walk of the reference's Read of sixteen digits; conditions: none.
-/
import Derived.Test.YtpnklpjjbpheeaaDoorYh
import Derived.Lib.ConvBytes
import Derived.Laws.BytesArg
namespace Go.Proofs.YtpnklpjjbpheeaaDoor
open Go.RowKit Go.Proofs.YtpnklpjjbpheeaaDoorW.PrintWords
open Go.Proofs.Fl Go.Proofs.YtpnklpjjbpheeaaDoor.Flt

/-- what the reference's Read answers -/
def rrA (s : ByteArray) : Value := match Hx.rd s with
  | some v => .tuple #[.int .u64 (v : Nat), .bool true]
  | none => .tuple #[.int .u64 0, .bool false]
theorem wrap_nat (z : Int) : ∃ m : Nat, IntKind.u64.wrap z = (m : Int) ∧ m < 18446744073709551616 := by
  rw [IntKind.wrap_u64]
  exact ⟨(z % 18446744073709551616).toNat, by omega, by omega⟩
theorem get_list (s : ByteArray) (i : Nat) (h : i < s.size) : s.data.toList.getD i 0 = s[i]'h := by
  rw [By.get_eq s i h, List.getD_eq_getElem?_getD, List.getElem?_eq_getElem (by simpa using h)]
  rfl
set_option maxRecDepth 100000 in
set_option maxHeartbeats 8000000 in
theorem rread_any (s : ByteArray) (w : World) (hm : s.size ≤ 1000) :
    Calls Tryd.prog 14 #[.string s] w fun e w' => e = .returned (rrA s) ∧ w' = w := by
  have HM := Lk.mk hm
  have hll : s.data.toList.length = s.size := by simp
  have HLL := Lk.mk hll
  obtain ⟨Z, hZ⟩ : ∃ Z, Z = rrA s := ⟨_, rfl⟩
  rw [← hZ]
  have HZ := Lk.mk hZ
  clear hm hll hZ
  go_enter Tryd.func14, Tryd.ntmps14
  go_wp2
  go_loopg [4, 5, 6, 7] 17 (fun gg v4 v5 _ _ wr => ∃ i n : Nat, v4 = .int .u64 n ∧ v5 = .int .i64 i ∧ Lk (i ≤ s.size ∧ i ≤ 17 ∧ 17 - i ≤ gg ∧ n < 18446744073709551616) ∧ Lk ((s.data.toList.take i).all Hx.hx = true) ∧ Lk (i ≤ 16 → n = Hx.val (s.data.toList.take i)) ∧ wr = w)
  case atStart => exact ⟨0, 0, rfl, rfl, ⟨Nat.zero_le _, Nat.zero_le _, Nat.le_refl _, by decide⟩, ⟨rfl⟩, ⟨fun _ => rfl⟩, rfl⟩
  case round =>
    obtain ⟨i, n, rfl, rfl, HI, HA, HN, hwr⟩ := hrel
    subst wr
    obtain ⟨i1, i2, i3, i4⟩ := HI.out
    by_cases hlt : i < s.size ∧ i < 17
    · obtain ⟨l1, l2⟩ := hlt
      have hlz : (i : Int) < (s.size : Int) := by omega
      have hl17 : (i : Int) < 17 := by omega
      obtain ⟨c, hc⟩ : ∃ c, c = s[i]'l1 := ⟨_, rfl⟩
      obtain ⟨k, hk⟩ : ∃ k, k = c.toNat := ⟨_, rfl⟩
      have hkk : (s[i]'l1).toNat = k := by rw [← hc, hk]
      have hkb : k < 256 := by rw [hk]; exact c.toNat_lt
      have hgl := (get_list s i l1).trans hc.symm
      cases hx : Hx.hx c with
      | false =>
        have hcs := Hx.hx_false hx
        rw [← hk] at hcs
        have HZN := Lk.mk (show Z = .tuple #[.int .u64 0, .bool false] by
          rw [HZ.out]
          unfold rrA
          rw [rd_none]
          rintro ⟨_, h⟩
          unfold aH at h
          have := By.all_not_last s Hx.hx i l1 (by rw [← hc]; exact hx)
          rw [this] at h
          cases h)
        obtain ⟨q1, q2⟩ := hcs
        clear HN HA HI hc hk hgl hx i1 i2 i3 i4 l2 hkb
        rcases q1 with q1 | q1
        · have e1 : ¬ (k : Int) ≥ 48 := by omega
          have e2 : ¬ (k : Int) ≥ 97 := by omega
          clear q1 q2
          go_wp2
          go_ret2
          exact ⟨by rw [HZN.out]; rfl, rfl⟩
        · have e1 : ¬ (k : Int) ≤ 57 := by omega
          have e0 : (k : Int) ≥ 48 := by omega
          rcases q2 with q2 | q2
          · have e2 : ¬ (k : Int) ≥ 97 := by omega
            clear q1 q2
            go_wp2
            go_ret2
            exact ⟨by rw [HZN.out]; rfl, rfl⟩
          · have e2 : (k : Int) ≥ 97 := by omega
            have e3 : ¬ (k : Int) ≤ 102 := by omega
            clear q1 q2
            go_wp2
            go_ret2
            exact ⟨by rw [HZN.out]; rfl, rfl⟩
      | true =>
        have hcs := Hx.hx_true hx
        obtain ⟨d, hd⟩ : ∃ d, d = Hx.hv c := ⟨_, rfl⟩
        rw [← hd, ← hk] at hcs
        have hd16 : d < 16 := by rw [hd]; exact Hx.hv_lt hx
        obtain ⟨m, hm, hm1⟩ := wrap_nat (16 * (n : Int))
        obtain ⟨n2, hn2, hn3⟩ := wrap_nat ((m : Int) + (d : Int))
        have HA2 := Lk.mk (show (s.data.toList.take (i + 1)).all Hx.hx = true by
          rw [List.take_add_one, List.all_append, HA.out, List.getElem?_eq_getElem (by rw [HLL.out]; exact l1)]
          have : s.data.toList[i]'(by rw [HLL.out]; exact l1) = c := by rw [hc, By.get_eq s i l1]
          rw [this]
          simp [hx])
        have HN2 := Lk.mk (show i + 1 ≤ 16 → n2 = Hx.val (s.data.toList.take (i + 1)) from fun h => by
          have h1 := HN.out (by omega)
          have h2 : n < 1152921504606846976 := by
            rw [h1]
            have h3 := Hx.val_lt HA.out
            have h4 : 16 ^ (s.data.toList.take i).length ≤ 16 ^ 15 := Nat.pow_le_pow_right (by decide) (by rw [List.length_take]; omega)
            exact Nat.lt_of_lt_of_le h3 (Nat.le_trans h4 (by decide))
          have h5 := take_val s.data.toList i (by rw [HLL.out]; exact l1)
          rw [hgl, ← hd, ← h1] at h5
          rw [h5]
          rw [IntWalk.u64_in _ (by omega)] at hm
          have h6 : m = 16 * n := by omega
          rw [IntWalk.u64_in _ (by omega)] at hn2
          omega)
        have HI2 := Lk.mk (show (i + 1 ≤ s.size ∧ i + 1 ≤ 17 ∧ 17 - (i + 1) ≤ 17 - (i + 1) ∧ n2 < 18446744073709551616) ∧ 17 - (i + 1) < 17 - i from ⟨⟨l1, l2, Nat.le_refl _, hn3⟩, by omega⟩)
        have hd15 : ¬ (d : Int) > 15 := by omega
        have hwd : IntKind.u64.wrap (d : Int) = (d : Int) := IntWalk.u64_in _ (by omega)
        rcases hcs with ⟨c1, c2, c3⟩ | ⟨c1, c2, c3⟩
        · have e1 : (k : Int) ≥ 48 := by omega
          have e2 : (k : Int) ≤ 57 := by omega
          have e3 : ¬ (k : Int) ≥ 97 := by omega
          have hwk : IntKind.u8.wrap ((k : Int) - 48) = (d : Int) := (IntWalk.u8_in _ (by omega)).trans (by omega)
          clear c1 c2 c3 i1 i2 i3 i4 l2 hc hk hgl hx hd hd16 hm1 hn3 hkb
          go_wp2
          go_roundg (17 - (i + 1))
          case measure => have := HI2.out.2; have := HI.out; omega
          case rel => exact ⟨i + 1, n2, rfl, by go_num, ⟨HI2.out.1⟩, HA2, HN2, rfl⟩
        · have e0 : (k : Int) ≥ 48 := by omega
          have e1 : ¬ (k : Int) ≤ 57 := by omega
          have e2 : (k : Int) ≥ 97 := by omega
          have e3 : (k : Int) ≤ 102 := by omega
          obtain ⟨q, hq⟩ : ∃ q, q = k - 97 := ⟨_, rfl⟩
          have hwk : IntKind.u8.wrap ((k : Int) - 97) = (q : Int) := (IntWalk.u8_in _ (by omega)).trans (by omega)
          have hwq : IntKind.u64.wrap (q : Int) = (q : Int) := IntWalk.u64_in _ (by omega)
          have hwr : IntKind.u64.wrap ((q : Int) + 10) = (d : Int) := (IntWalk.u64_in _ (by omega)).trans (by omega)
          clear c1 c2 c3 i1 i2 i3 i4 l2 hc hk hgl hx hd hd16 hm1 hn3 hkb hq
          go_wp2
          go_roundg (17 - (i + 1))
          case measure => have := HI2.out.2; have := HI.out; omega
          case rel => exact ⟨i + 1, n2, rfl, by go_num, ⟨HI2.out.1⟩, HA2, HN2, rfl⟩
    · have HE := Lk.mk (show i = s.size ∨ i = 17 by omega)
      by_cases hs : s.size = 16
      · obtain rfl : i = 16 := by have := HE.out; omega
        have hsz : (s.size : Int) = 16 := by omega
        have hall : s.data.toList.take 16 = s.data.toList := List.take_of_length_le (by rw [HLL.out, hs]; exact Nat.le_refl _)
        have HZN := Lk.mk (show Z = .tuple #[.int .u64 (n : Nat), .bool true] by
          have h1 := HN.out (Nat.le_refl _)
          have h2 := HA.out
          rw [hall] at h1 h2
          rw [HZ.out]
          unfold rrA
          rw [rd_some hs h2, h1])
        clear HN HA HI HE hall hlt i1 i2 i3 i4 hs
        go_wp2
        go_ret2
        exact ⟨by rw [HZN.out]; rfl, rfl⟩
      · have HZN := Lk.mk (show Z = .tuple #[.int .u64 0, .bool false] by
          rw [HZ.out]
          unfold rrA
          rw [rd_none (fun h => hs h.1)])
        have hsb : ((s.size : Int) != 16) = true := by rw [bne_iff_ne]; omega
        have he := HE.out
        rcases he with he | he
        · have hz : ¬ (i : Int) < (s.size : Int) := by omega
          clear HN HA HI HE hlt i1 i2 i3 i4 hs he
          go_wp2
          go_ret2
          exact ⟨by rw [HZN.out]; rfl, rfl⟩
        · subst he
          by_cases hz : 17 < s.size
          · have hzz : (17 : Int) < (s.size : Int) := by omega
            clear HN HA HI HE hlt i1 i2 i3 i4 hs hz
            go_wp2
            go_ret2
            exact ⟨by rw [HZN.out]; rfl, rfl⟩
          · have hzz : ¬ (17 : Int) < (s.size : Int) := by omega
            clear HN HA HI HE hlt i1 i2 i3 i4 hs hz
            go_wp2
            go_ret2
            exact ⟨by rw [HZN.out]; rfl, rfl⟩
end Go.Proofs.YtpnklpjjbpheeaaDoor
