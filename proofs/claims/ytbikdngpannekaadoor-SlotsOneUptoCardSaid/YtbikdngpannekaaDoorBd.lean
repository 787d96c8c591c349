/-
  The walk of bitmap.Has; conditions: what is handed in reads as told.
-/
import Derived.Test.YtbikdngpannekaaDoorBc
namespace Go.Proofs.YtbikdngpannekaaDoor
open Go.RowKit Go.Proofs.YtbikdngpannekaaDoorW.PrintWords

set_option maxHeartbeats 400000 in
theorem hasLit_any (B : Nat) (A : Option Addr) (c : Nat) (l : List Int) (i : Int) (w : World) (hB : w.cell? ⟨B, 0, none⟩ = some (.slice A l.length c)) (hr : ReadsInt w .u64 A l.length l) (hw : Bm.Words l) (hi : i ≤ 9223372036854775807) :
    Calls Tryd.prog 148 #[.int .i64 i, .pointer (some ⟨B, 0, none⟩)] w fun e w' => e = .returned (.bool (!(Bm.hasL l i))) ∧ w' = w := by
  have HH := Lk.mk (fun w' (h : w' = w) => has_any A c l i w' (h ▸ hr) hw hi)
  clear hr hw
  generalize Bm.hasL l i = r at *
  go_enter Tryd.func148, Tryd.ntmps148
  go_wp2_with (go_at_call 149; (with_reducible refine (HH.out _ rfl).mono ?_); rintro e w' ⟨rfl, rfl⟩)
  go_ret
  exact ⟨rfl, rfl⟩

def hasAll (l is : List Int) : Bool := !(is.any fun i => !(Bm.hasL l i))
set_option maxHeartbeats 1000000 in
theorem hasAll_any (A : Option Addr) (c : Nat) (l : List Int) (A2 : Option Addr) (c2 : Nat) (is : List Int) (w : World) (hr : ReadsInt w .u64 A l.length l) (hw : Bm.Words l) (hr2 : ReadsInt w .i64 A2 is.length is) (hi : ∀ x ∈ is, x ≤ 9223372036854775807) :
    Calls Tryd.prog 128 #[.slice A l.length c, .slice A2 is.length c2] w fun e w' => e = .returned (.bool (hasAll l is)) ∧ Below w.heap.size w w' := by
  have hmf : ∀ (fn : Fn) (first cap : Array Value) (w : World), (Instr.makeFunc fn first cap).run Tryd.prog w = .ok (.func fn first cap) w := fun _ _ _ _ => rfl
  have h0 : Below w.heap.size w (w.alloc (.cells #[.slice A l.length c] 37)) := below_alloc (Below.refl _ _) _
  have hb0 : (w.alloc (.cells #[.slice A l.length c] 37)).cell? ⟨w.heap.size, 0, none⟩ = some (.slice A l.length c) := by simp
  have HC := Lk.mk (contains_ints A2 c2 is (fun i => !(Bm.hasL l i)) 148 #[.pointer (some ⟨w.heap.size, 0, none⟩)] (w.alloc (.cells #[.slice A l.length c] 37)) (enters_of Tryd.func148 (by kernel_rfl) rfl) (hr2.below h0)
    (fun W x hx hb => (hasLit_any w.heap.size A c l x W (pw_cell_below hb hb0) ((hr.below h0).below hb) hw (hi x hx)).mono fun e W' h => ⟨h.1, h.2 ▸ Below.refl _ _⟩))
  have H := Lk.mk (show hasAll l is = !(is.any fun i => !(Bm.hasL l i)) from rfl)
  have H0 := Lk.mk h0
  clear hr hr2 hw h0 hb0 hi
  generalize hasAll l is = r at *
  generalize (is.any fun i => !(Bm.hasL l i)) = q at *
  go_enter Tryd.func128, Tryd.ntmps128
  go_wp2_with (go_at_call 134; (with_reducible refine HC.out.mono ?_); rintro e w' ⟨rfl, hb⟩)
  go_ret
  exact ⟨ret_bool (by rw [H.out]), below_then H0.out H0.out.size hb⟩
end Go.Proofs.YtbikdngpannekaaDoor
