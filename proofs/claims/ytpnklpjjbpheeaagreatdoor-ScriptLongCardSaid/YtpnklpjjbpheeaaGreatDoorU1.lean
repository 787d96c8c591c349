/-
  Plain: a region that draws its order, in which each operation, a call too, yields one value and keeps one condition on the world, whatever the order: walked in ONE order. Conditions: every operation, in every world that meets S, yields its value and leaves a world that meets S.
-/
import Derived.Deep.RegionHeld3
namespace Go.Proofs.YtpnklpjjbpheeaaGreatDoor
open Go

section
variable {P : Program} {ops : Array Oper} {Q : Exit → Act → World → Prop} {md : Region.Mode} {S : World → Prop}

/-- in every world that meets S the operation yields v and leaves a world that meets S -/
def DetU (P : Program) (ops : Array Oper) (Q : Exit → Act → World → Prop) (S : World → Prop) (o : Oper) (v : Value) (a : Act) : Prop :=
  (Region.wanted o (yielded ops a.tmps) = true ∧ ∀ w, S w → Oper.wp P o a w (fun a' w' => a' = a.put o.dst v ∧ S w') Q) ∨ (Region.wanted o (yielded ops a.tmps) = false ∧ v = undef)
theorem put_eq {a b : Act} {d : Option Tmp} {u v : Value} (hs : a.tmps.size = b.tmps.size) (h : a.put d u = a.put d v) : b.put d u = b.put d v := by
  cases d with
  | none => rfl
  | some k =>
    unfold Act.put at h ⊢
    dsimp only at h ⊢
    have h1 : a.tmps.setIfInBounds k u = a.tmps.setIfInBounds k v := congrArg Act.tmps h
    clear h
    by_cases hk : k < b.tmps.size
    · have h2 : (a.tmps.setIfInBounds k u)[k]? = (a.tmps.setIfInBounds k v)[k]? := by rw [h1]
      rw [Array.getElem?_setIfInBounds_self, Array.getElem?_setIfInBounds_self, if_pos (hs ▸ hk), if_pos (hs ▸ hk)] at h2
      rw [Option.some.inj h2]
    · rw [Array.setIfInBounds_eq_of_size_le (Nat.le_of_not_lt hk), Array.setIfInBounds_eq_of_size_le (Nat.le_of_not_lt hk)]
theorem put_down (hQ : ∀ c a k v w, Q (.panic c) (Act.put a (some k) v) w → Q (.panic c) a w) (c) (a : Act) (d : Option Tmp) (v : Value) (w : World) (h : Q (.panic c) (a.put d v) w) : Q (.panic c) a w := by
  cases d with
  | none => exact h
  | some k => exact hQ c a k v w h
theorem put_up (hQ : ∀ c a k v w, Q (.panic c) a w → Q (.panic c) (Act.put a (some k) v) w) (c) (a : Act) (d : Option Tmp) (v : Value) (w : World) (h : Q (.panic c) a w) : Q (.panic c) (a.put d v) w := by
  cases d with
  | none => exact h
  | some k => exact hQ c a k v w h
theorem put_size (a : Act) (d : Option Tmp) (v : Value) : (a.put d v).tmps.size = a.tmps.size := by
  cases d with
  | none => rfl
  | some k => simp [Act.put]
/-- one operation apart from another one does alike ahead of it and behind it -/
theorem DetU.off {oi oj : Oper} {v u : Value} (hap : oi.apart ops oj = true) (hsi : ∀ cs b, oi.op ≠ .select cs b) (hsj : ∀ cs b, oj.op ≠ .select cs b)
    (hQ : ∀ c a k v w, Q (.panic c) (Act.put a (some k) v) w → Q (.panic c) a w) {a : Act} (h : DetU P ops Q S oj u (a.put oi.dst v)) : DetU P ops Q S oj u a := by
  obtain ⟨h1, h2, h3⟩ := Oper.apart_spec hap
  unfold DetU at *
  rw [wanted_put oj a oi.dst v h1] at h
  rcases h with ⟨hw, h⟩ | h
  · refine .inl ⟨hw, fun w hS => ?_⟩
    have h := h w hS
    unfold Oper.wp at *
    rw [execOp_put oj hsj a oi.dst v h1] at h
    have key : ∀ x, (a.put oi.dst v).put oj.dst x = (a.put oi.dst v).put oj.dst u → a.put oj.dst x = a.put oj.dst u := fun x hx => put_eq (put_size a oi.dst v) hx
    generalize (execOp a.eval oj).run P w = r at *
    cases r with
    | ok n w' =>
      cases n <;> simp only [Oper.upon] at h ⊢
      case value x => exact ⟨key x h.1, h.2⟩
      case skip => exact ⟨key _ h.1, h.2⟩
      case defer d =>
        exfalso
        have := congrArg (fun x : Act => x.defers.length) h.1
        have e1 : ∀ (x : Act) (d : Option Tmp) (v : Value), (x.put d v).defers = x.defers := fun x d v => by cases d <;> rfl
        simp [e1] at this
      case enter f args =>
        refine Calls.mono h fun e w'' he => ?_
        cases e with
        | returned x => exact ⟨key x he.1, he.2⟩
        | panicked c => exact put_down hQ _ _ _ _ _ he
        | outgrown => exact he
      case row row args => exact Rows.mono h fun x w'' he => ⟨key x he.1, he.2⟩
    | halt x w' =>
      cases x <;> simp only [Oper.upon] at h ⊢
      case panic x => exact put_down hQ _ _ _ _ _ h
  · exact .inr h
theorem DetU.on {oi oj : Oper} {v u : Value} (hap : oi.apart ops oj = true) (hsi : ∀ cs b, oi.op ≠ .select cs b)
    (hQ : ∀ c a k v w, Q (.panic c) a w → Q (.panic c) (Act.put a (some k) v) w) {a : Act} (h : DetU P ops Q S oi v a) : DetU P ops Q S oi v (a.put oj.dst u) := by
  obtain ⟨h1, h2, h3⟩ := Oper.apart_spec hap
  unfold DetU at *
  rw [wanted_put oi a oj.dst u h3]
  rcases h with ⟨hw, h⟩ | h
  · refine .inl ⟨hw, fun w hS => ?_⟩
    have h := h w hS
    unfold Oper.wp at *
    rw [execOp_put oi hsi a oj.dst u h3]
    have key : ∀ x, a.put oi.dst x = a.put oi.dst v → (a.put oj.dst u).put oi.dst x = (a.put oj.dst u).put oi.dst v := fun x hx => put_eq (put_size a oj.dst u).symm hx
    generalize (execOp a.eval oi).run P w = r at *
    cases r with
    | ok n w' =>
      cases n <;> simp only [Oper.upon] at h ⊢
      case value x => exact ⟨key x h.1, h.2⟩
      case skip => exact ⟨key _ h.1, h.2⟩
      case defer d =>
        exfalso
        have := congrArg (fun x : Act => x.defers.length) h.1
        have e1 : ∀ (x : Act) (d : Option Tmp) (v : Value), (x.put d v).defers = x.defers := fun x d v => by cases d <;> rfl
        simp [e1] at this
      case enter f args =>
        refine Calls.mono h fun e w'' he => ?_
        cases e with
        | returned x => exact ⟨key x he.1, he.2⟩
        | panicked c => exact put_up hQ _ _ _ _ _ he
        | outgrown => exact he
      case row row args => exact Rows.mono h fun x w'' he => ⟨key x he.1, he.2⟩
    | halt x w' =>
      cases x <;> simp only [Oper.upon] at h ⊢
      case panic x => exact put_up hQ _ _ _ _ _ h
  · exact .inr h
/-- whatever the order, each operation yields one value -/
def wpU (P : Program) (md : Region.Mode) (ops : Array Oper) (Q : Exit → Act → World → Prop) (S : World → Prop) : Nat → Array Bool → Act → Prop
  | 0, listed, a => Region.ready md ops listed = [] ∧ ∀ w, S w → Q .normal a w
  | fuel + 1, listed, a =>
    (Region.ready md ops listed = [] → ∀ w, S w → Q .normal a w) ∧
    ∀ i ∈ Region.ready md ops listed, ∃ o v, ops[i]? = some o ∧ DetU P ops Q S o v a ∧ wpU P md ops Q S fuel (listed.setIfInBounds i true) (a.put o.dst v)
theorem wpU_any : ∀ (fuel : Nat) (listed : Array Bool) (a : Act), wpU P md ops Q S fuel listed a → ∀ w, S w → wpAny P md ops Q fuel listed a w
  | 0, _, _, h => fun w hS => ⟨h.1, h.2 w hS⟩
  | fuel + 1, listed, a, h => fun w hS => ⟨fun h0 => h.1 h0 w hS, fun i hi => by
      obtain ⟨o, v, ho, hd, hw⟩ := h.2 i hi
      unfold wpOp
      simp only [ho]
      rcases hd with ⟨hwt, hd⟩ | ⟨hwt, rfl⟩
      · simp only [hwt, if_true]
        refine .inl (Oper.wp_mono (fun a' w' h' => ?_) (hd w hS))
        obtain ⟨rfl, hS'⟩ := h'
        exact wpU_any fuel _ _ hw w' hS'
      · simp only [hwt, Bool.false_eq_true, if_false]
        exact wpU_any fuel _ _ hw w hS⟩
theorem wpU_first {i : Nat} {oi : Oper} {v : Value} (hi : ops[i]? = some oi) (hsel : ∀ (j : Nat) (o : Oper) cs b, ops[j]? = some o → o.op ≠ .select cs b)
    (hQ : ∀ c a k v w, Q (.panic c) (Act.put a (some k) v) w → Q (.panic c) a w) (hQ' : ∀ c a k v w, Q (.panic c) a w → Q (.panic c) (Act.put a (some k) v) w) :
    ∀ (fuel : Nat) (listed : Array Bool) (a : Act),
      (∀ j oj, ops[j]? = some oj → j ≠ i → listed.getD j true = false → (∀ e ∈ oj.after, Region.binds md e = true → e.on ≠ i) → oi.apart ops oj = true) →
      i ∈ Region.ready md ops listed → DetU P ops Q S oi v a →
      wpU P md ops Q S fuel (listed.setIfInBounds i true) (a.put oi.dst v) → wpU P md ops Q S (fuel + 1) listed a := by
  intro fuel
  induction fuel with
  | zero =>
    intro listed a _ hr hy H
    refine ⟨fun h => (by rw [h] at hr; cases hr), fun j hj => ?_⟩
    by_cases hji : j = i
    · subst hji; exact ⟨oi, v, hi, hy, H⟩
    · have := ready_mono hj hji
      rw [H.1] at this
      cases this
  | succ fuel ih =>
    intro listed a hfree hr hy H
    refine ⟨fun h => (by rw [h] at hr; cases hr), fun j hj => ?_⟩
    by_cases hji : j = i
    · subst hji; exact ⟨oi, v, hi, hy, H⟩
    · obtain ⟨oj, u, hoj, hdj, hwj⟩ := H.2 j (ready_mono hj hji)
      obtain ⟨hjun, oj', hoj', hall⟩ := mem_ready.1 hj
      obtain rfl : oj = oj' := Option.some.inj (hoj.symm.trans hoj')
      have hnot : ∀ e ∈ oj.after, Region.binds md e = true → e.on ≠ i := fun e he hb heq => by
        have h1 := hall e he hb
        have h0 := (mem_ready.1 hr).1
        rw [heq] at h1
        rcases Nat.lt_or_ge i listed.size with h' | h'
        · simp [h'] at h0 h1; rw [h0] at h1; cases h1
        · simp [Array.getElem?_eq_none h'] at h1
      have hap := hfree j oj hoj hji hjun hnot
      have hfree' : ∀ k ok, ops[k]? = some ok → k ≠ i → (listed.setIfInBounds j true).getD k true = false →
          (∀ e ∈ ok.after, Region.binds md e = true → e.on ≠ i) → oi.apart ops ok = true := fun k ok hk hki hun hno => by
        refine hfree k ok hk hki ?_ hno
        by_cases hjk : j = k
        · subst hjk; exact hjun
        · rw [getD_set_ne true hjk] at hun; exact hun
      refine ⟨oj, u, hoj, hdj.off hap (fun cs b => hsel i oi cs b hi) (fun cs b => hsel j oj cs b hoj) hQ, ?_⟩
      refine ih (listed.setIfInBounds j true) _ hfree' (ready_mono hr (Ne.symm hji)) (hy.on hap (fun cs b => hsel i oi cs b hi) hQ') ?_
      rw [Array.setIfInBounds_comm _ _ hji, Act.put_comm a u v (fun d hd he => (Oper.apart_spec hap).2.1 d he hd)]
      exact hwj
/-- take number i now: an operation that yields its value in every world that meets S -/
theorem wpU_pure {i : Nat} {oi : Oper} {rest : List Oper} {v : Value} {fuel : Nat} {listed : Array Bool} {a : Act} (hi : ops.toList.drop i = oi :: rest)
    (hs : Region.noSelect ops = true) (hf : Region.free md ops listed i = true) (hr : (Region.ready md ops listed).contains i = true)
    (hQ : ∀ c a k v w, Q (.panic c) (Act.put a (some k) v) w → Q (.panic c) a w) (hQ' : ∀ c a k v w, Q (.panic c) a w → Q (.panic c) (Act.put a (some k) v) w)
    (hw : Region.wanted oi (yielded ops a.tmps) = true) (hy : ∀ w, S w → (execOp a.eval oi).run P w = .ok (.value v) w)
    (h : wpU P md ops Q S fuel (listed.setIfInBounds i true) (a.put oi.dst v)) : wpU P md ops Q S (fuel + 1) listed a := by
  have hi' : ops[i]? = some oi := by
    have h1 : (ops.toList.drop i)[0]? = some oi := by rw [hi]; rfl
    rw [List.getElem?_drop] at h1
    simpa using h1
  exact wpU_first hi' (Region.noSelect_spec hs) hQ hQ' fuel listed a (Region.free_spec hi' hf) (by simpa using hr)
    (.inl ⟨hw, fun w hS => by unfold Oper.wp; rw [hy w hS]; exact ⟨rfl, hS⟩⟩) h
/-- take number i now: a call whose contract gives its value in every world that meets S, and keeps S -/
theorem wpU_call {i : Nat} {oi : Oper} {rest : List Oper} {f : FuncId} {args : Array Value} {v : Value} {fuel : Nat} {listed : Array Bool} {a : Act} (hi : ops.toList.drop i = oi :: rest)
    (hs : Region.noSelect ops = true) (hf : Region.free md ops listed i = true) (hr : (Region.ready md ops listed).contains i = true)
    (hQ : ∀ c a k v w, Q (.panic c) (Act.put a (some k) v) w → Q (.panic c) a w) (hQ' : ∀ c a k v w, Q (.panic c) a w → Q (.panic c) (Act.put a (some k) v) w)
    (hw : Region.wanted oi (yielded ops a.tmps) = true) (hy : ∀ w, S w → (execOp a.eval oi).run P w = .ok (.enter f args) w)
    (hc : ∀ w, S w → Calls P f args w fun e w' => e = .returned v ∧ S w')
    (h : wpU P md ops Q S fuel (listed.setIfInBounds i true) (a.put oi.dst v)) : wpU P md ops Q S (fuel + 1) listed a := by
  have hi' : ops[i]? = some oi := by
    have h1 : (ops.toList.drop i)[0]? = some oi := by rw [hi]; rfl
    rw [List.getElem?_drop] at h1
    simpa using h1
  exact wpU_first hi' (Region.noSelect_spec hs) hQ hQ' fuel listed a (Region.free_spec hi' hf) (by simpa using hr)
    (.inl ⟨hw, fun w hS => by
      unfold Oper.wp
      rw [hy w hS, Oper.upon_enter]
      refine Calls.mono (hc w hS) fun e w' he => ?_
      obtain ⟨rfl, hS'⟩ := he
      exact ⟨rfl, hS'⟩⟩) h
/-- all have come up -/
theorem wpU_done {listed : Array Bool} {a : Act} (hr : Region.ready md ops listed = []) (h : ∀ w, S w → Q .normal a w) : ∀ fuel, wpU P md ops Q S fuel listed a
  | 0 => ⟨hr, h⟩
  | _ + 1 => ⟨fun _ => h, by rw [hr]; simp⟩
/-- the beginning -/
theorem wpU_begin {id : Nat} {a : Act} {w : World} (S : World → Prop) (hm : P.follows .mixedOrders = true) (hS : S w.drew)
    (h : wpU P .any ops Q S ops.size (Array.replicate ops.size false) a) : (Code.region id ops true).wp P Q a w :=
  wp_region_any hm (wpU_any _ _ _ h _ hS)
/-! ### Likewise where a call's value hangs on the world: S is held, and may grow -/
theorem held_mono {S' : World → Prop} (hs : ∀ w, S' w → S w) : ∀ (fuel : Nat) (listed : Array Bool) (a : Act) (w : World), wpAnyH P md ops Q S' fuel listed a w → wpAnyH P md ops Q S fuel listed a w
  | 0, _, _, _, h => h
  | fuel + 1, _, _, _, h => ⟨h.1, fun i hi => wpOp_mono (fun a' w' h' => ⟨hs _ h'.1, held_mono hs fuel _ a' w' h'.2⟩) (h.2 i hi)⟩
theorem held_take {i : Nat} {oi : Oper} {rest : List Oper} {v : Value} {fuel : Nat} {listed : Array Bool} {a : Act} {w : World} (hi : ops.toList.drop i = oi :: rest)
    (hs : Region.noSelect ops = true) (hf : Region.free md ops listed i = true) (hr : (Region.ready md ops listed).contains i = true)
    (hQ : ∀ c a k v w, Q (.panic c) (Act.put a (some k) v) w → Q (.panic c) a w)
    (hw : Region.wanted oi (yielded ops a.tmps) = true) (hy : ∀ w, S w → (execOp a.eval oi).run P w = .ok (.value v) w) (hS : S w)
    (h : wpAnyH P md ops Q S fuel (listed.setIfInBounds i true) (a.put oi.dst v) w) : wpAnyH P md ops Q S (fuel + 1) listed a w := by
  have hi' : ops[i]? = some oi := by
    have h1 : (ops.toList.drop i)[0]? = some oi := by rw [hi]; rfl
    rw [List.getElem?_drop] at h1
    simpa using h1
  exact wpAnyH_take hi' hs hf hr (fun c a w => put_down hQ c a _ _ w) (.inl ⟨hw, hy⟩) hS h
theorem held_call {i : Nat} {oi : Oper} {rest : List Oper} {f : FuncId} {args : Array Value} {fuel : Nat} {listed : Array Bool} {a : Act} {w : World} (hi : ops.toList.drop i = oi :: rest)
    (hr : Region.ready md ops listed = [i]) (hw : Region.wanted oi (yielded ops a.tmps) = true) (hy : (execOp a.eval oi).run P w = .ok (.enter f args) w)
    (hc : Calls P f args w fun e w' => ∃ v, e = .returned v ∧ S w' ∧ wpAnyH P md ops Q S fuel (listed.setIfInBounds i true) (a.put oi.dst v) w') : wpAnyH P md ops Q S (fuel + 1) listed a w := by
  have hi' : ops[i]? = some oi := by
    have h1 : (ops.toList.drop i)[0]? = some oi := by rw [hi]; rfl
    rw [List.getElem?_drop] at h1
    simpa using h1
  refine wpAnyH_all hr (by simp) fun j hj => ?_
  obtain rfl : j = i := by simpa using hj
  unfold wpOp
  simp only [hi', hw, if_true]
  refine .inl ?_
  unfold Oper.wp
  rw [hy, Oper.upon_enter]
  refine Calls.mono hc fun e w' he => ?_
  obtain ⟨v, rfl, h1, h2⟩ := he
  exact ⟨h1, h2⟩
theorem held_begin {id : Nat} {a : Act} {w : World} (S : World → Prop) (hm : P.follows .mixedOrders = true)
    (h : wpAnyH P .any ops Q S ops.size (Array.replicate ops.size false) a w.drew) : (Code.region id ops true).wp P Q a w := wp_region_held hm h
theorem held_done {listed : Array Bool} {a : Act} {w : World} (hr : Region.ready md ops listed = []) (h : Q .normal a w) : ∀ fuel, wpAnyH P md ops Q S fuel listed a w := wpAnyH_done hr h
end
end Go.Proofs.YtpnklpjjbpheeaaGreatDoor
