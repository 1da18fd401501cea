/- The evaluator over memory known by name: arguments of integers, and of structs and arrays of integers. -/
import Derived.Test.YthndnammnnallaaSymM
import Derived.Test.YthndnammnnallaaLift
namespace Go.Proofs.Ythndnammnnallaa.Sy
open Go.RowKit

/-- an argument: an integer; a struct or an array of integers -/
inductive Sh where
  | i (k : IntKind)
  | a (ks : List IntKind)
  | b
def Sh.kinds : Sh → List IntKind
  | .i k => [k]
  | .a ks => ks
  | .b => [.u8]
def symInts : List IntKind → Nat → List V
  | [], _ => []
  | k :: ks, i => .int k (.d (.v i)) :: symInts ks (i + 1)
def Sh.v (s : Sh) (i : Nat) : V := match s with
  | .i k => .int k (.d (.v i))
  | .a ks => .agg (symInts ks i)
  | .b => .bool (.d (.eq (.v i) (.c 1)))
def shArgs : List Sh → Nat → List V
  | [], _ => []
  | s :: l, i => s.v i :: shArgs l (i + s.kinds.length)
def shKinds : List Sh → List IntKind
  | [] => []
  | s :: l => s.kinds ++ shKinds l
def shB (l : List Sh) : List (Int × Int) := (shKinds l).map fun k => (kmin k, kmax k)
def intVals : List IntKind → List Int → List Value
  | k :: ks, x :: xs => .int k x :: intVals ks xs
  | _, _ => []
def Sh.val (s : Sh) (xs : List Int) : Value := match s with
  | .i k => .int k (xs.headD 0)
  | .a ks => .agg (intVals ks xs).toArray
  | .b => .bool (decide (xs.headD 0 = 1))
def shVals : List Sh → List Int → List Value
  | [], _ => []
  | s :: l, xs => s.val (xs.take s.kinds.length) :: shVals l (xs.drop s.kinds.length)

/-- a value of that shape -/
def Sh.Fits : Sh → Value → Prop
  | .i k, v => ∃ n, v = .int k n ∧ k.min ≤ n ∧ n ≤ k.max
  | .a ks, v => ∃ cs : List Value, v = .agg cs.toArray ∧ Fit (ks.map some) cs
  | .b, v => ∃ b, v = .bool b
def FitsAll : List Sh → List Value → Prop
  | [], [] => True
  | s :: l, v :: vs => s.Fits v ∧ FitsAll l vs
  | _, _ => False

theorem open_bool_ok {P : Program} {W : World} {r : Reach} {base : Nat} {t : TypeId} {v : Value} (hu : P.underlying t = some .bool) (ho : Value.okWide P W r base t v) : ∃ b, v = .bool b := by
  unfold Value.okWide at ho
  simp only [hu] at ho
  unfold Cell.okWide Cell.ok at ho
  simp only [hu] at ho
  cases v <;> simp at ho
  exact ⟨_, rfl⟩
theorem inAll_len : ∀ {xs : List Int} {vs : List (Int × Int)}, inAll xs vs → xs.length = vs.length
  | [], [], _ => rfl
  | _ :: _, _ :: _, h => by simp [inAll_len h.2]
  | [], _ :: _, h => h.elim
  | _ :: _, [], h => h.elim
theorem inAll_app : ∀ {xs ys : List Int} {vs us : List (Int × Int)}, inAll xs vs → inAll ys us → inAll (xs ++ ys) (vs ++ us)
  | [], _, [], _, _, h => h
  | _ :: _, _, _ :: _, _, h, h2 => ⟨h.1, inAll_app h.2 h2⟩
  | [], _, _ :: _, _, h, _ => h.elim
  | _ :: _, _, [], _, h, _ => h.elim

theorem den_intsρ {ρ : Nat → Int} (σ : List (Nat × Nat)) : ∀ (ks : List IntKind) (xs : List Int) (i : Nat), xs.length = ks.length → (∀ j, j < xs.length → ρ (i + j) = xs.getD j 0) → denL ρ σ (symInts ks i) = some (intVals ks xs)
  | [], [], i, _, _ => denL_nil
  | k :: ks, x :: xs, i, hl, h => by
    refine denL_cons ?_ (den_intsρ σ ks xs (i + 1) (by simpa using hl) (fun j hj => ?_))
    · have := h 0 (by simp)
      simp only [Nat.add_zero, List.getD_cons_zero] at this
      simp only [den, DN.val, E.val, this]
    · have := h (j + 1) (by simp; omega)
      rw [show i + 1 + j = i + (j + 1) by omega, this]
      simp
  | [], _ :: _, _, hl, _ => by simp at hl
  | _ :: _, [], _, hl, _ => by simp at hl
theorem den_shρ {ρ : Nat → Int} (σ : List (Nat × Nat)) (s : Sh) (xs : List Int) (i : Nat) (hl : xs.length = s.kinds.length) (h : ∀ j, j < xs.length → ρ (i + j) = xs.getD j 0) : den ρ σ (s.v i) = some (s.val xs) := by
  cases s with
  | i k =>
    match xs, hl with
    | [x], _ =>
      have := h 0 (by simp)
      simp only [Nat.add_zero, List.getD_cons_zero] at this
      simp only [Sh.v, Sh.val, den, DN.val, E.val, this, List.headD_cons]
  | a ks =>
    have := den_intsρ σ ks xs i hl h
    simp only [Sh.v, Sh.val, den, this]
  | b =>
    match xs, hl with
    | [x], _ =>
      have := h 0 (by simp)
      simp only [Nat.add_zero, List.getD_cons_zero] at this
      simp only [Sh.v, Sh.val, den, DB.val, B.val, E.val, this, List.headD_cons]
      rfl
theorem den_shsρ {ρ : Nat → Int} (σ : List (Nat × Nat)) : ∀ (l : List Sh) (xs : List Int) (i : Nat), xs.length = (shKinds l).length → (∀ j, j < xs.length → ρ (i + j) = xs.getD j 0) → denL ρ σ (shArgs l i) = some (shVals l xs)
  | [], _, _, _, _ => denL_nil
  | s :: l, xs, i, hl, h => by
    simp only [shKinds, List.length_append] at hl
    have ht : (xs.take s.kinds.length).length = s.kinds.length := by rw [List.length_take]; omega
    refine denL_cons (den_shρ σ s (xs.take s.kinds.length) i ht ?_) (den_shsρ σ l (xs.drop s.kinds.length) (i + s.kinds.length) (by rw [List.length_drop]; omega) ?_)
    · intro j hj
      rw [h j (by omega), List.getD_eq_getElem?_getD, List.getD_eq_getElem?_getD, List.getElem?_take, if_pos (by omega)]
    · intro j hj
      rw [List.length_drop] at hj
      rw [Nat.add_assoc, h (s.kinds.length + j) (by omega), List.getD_eq_getElem?_getD, List.getD_eq_getElem?_getD, List.getElem?_drop]
theorem den_shs (σ : List (Nat × Nat)) (l : List Sh) (all xs : List Int) (i : Nat) (hl : xs.length = (shKinds l).length) (h : ∀ j, j < xs.length → all.getD (i + j) 0 = xs.getD j 0) : denL (fun i => all.getD i 0) σ (shArgs l i) = some (shVals l xs) :=
  den_shsρ σ l xs i hl h

theorem fit_ints : ∀ (ks : List IntKind) (cs : List Value), Fit (ks.map some) cs → ∃ xs : List Int, cs = intVals ks xs ∧ inAll xs (ks.map fun k => (kmin k, kmax k))
  | [], [], _ => ⟨[], rfl, trivial⟩
  | k :: ks, c :: cs, h => by
    obtain ⟨h1, h2⟩ := h
    obtain ⟨xs, rfl, h4⟩ := fit_ints ks cs h2
    cases c <;> simp only [FitC] at h1
    rename_i k' n
    obtain ⟨rfl, h5, h6⟩ := h1
    exact ⟨n :: xs, rfl, ⟨Int.le_trans (Int.le_of_eq (kmin_eq _)) h5, Int.le_trans h6 (Int.le_of_eq (kmax_eq _).symm)⟩, h4⟩
  | [], _ :: _, h => h.elim
  | _ :: _, [], h => h.elim
theorem fits_all : ∀ (l : List Sh) (vs : List Value), FitsAll l vs → ∃ xs : List Int, vs = shVals l xs ∧ inAll xs (shB l)
  | [], [], _ => ⟨[], rfl, trivial⟩
  | s :: l, v :: vs, h => by
    obtain ⟨h1, h2⟩ := h
    obtain ⟨ys, rfl, h4⟩ := fits_all l vs h2
    have one : ∃ xs : List Int, v = s.val xs ∧ inAll xs (s.kinds.map fun k => (kmin k, kmax k)) := by
      cases s with
      | i k =>
        obtain ⟨n, rfl, h5, h6⟩ := h1
        exact ⟨[n], rfl, ⟨Int.le_trans (Int.le_of_eq (kmin_eq _)) h5, Int.le_trans h6 (Int.le_of_eq (kmax_eq _).symm)⟩, trivial⟩
      | a ks =>
        obtain ⟨cs, rfl, h5⟩ := h1
        obtain ⟨xs, rfl, h6⟩ := fit_ints ks cs h5
        exact ⟨xs, rfl, h6⟩
      | b =>
        obtain ⟨b, rfl⟩ := h1
        cases b with
        | true => exact ⟨[1], rfl, ⟨by decide, by decide⟩, trivial⟩
        | false => exact ⟨[0], rfl, ⟨by decide, by decide⟩, trivial⟩
    obtain ⟨xs, rfl, h5⟩ := one
    have hl : xs.length = s.kinds.length := by have := inAll_len h5; simpa using this
    refine ⟨xs ++ ys, ?_, ?_⟩
    · simp only [shVals]
      rw [← hl, List.take_left, List.drop_left]
    · unfold shB
      simp only [shKinds, List.map_append]
      exact inAll_app h5 h4
  | [], _ :: _, h => h.elim
  | _ :: _, [], h => h.elim

/-- a call, with arguments of those shapes, of which the evaluator says that it comes to true -/
theorem calls_sh {P : Program} (hm : P.follows .mixedOrders = true) (k : Nat) (f : FuncId) (l : List Sh) (vs : List Value) (hv : FitsAll l vs) (h : (xcall P k ⟨shB l, [], [], 0⟩ f (shArgs l 0) mem0).allB isTrue = true) (w : World) :
    Calls P f vs.toArray w fun e w' => e = .returned (.bool true) ∧ Below w.heap.size w w' := by
  obtain ⟨xs, rfl, hx⟩ := fits_all l vs hv
  have hl : xs.length = (shKinds l).length := by have := inAll_len hx; simpa [shB] using this
  exact calls_true hm (fun i => xs.getD i 0) k f (shArgs l 0) (shVals l xs) (gok_of hx 0) rfl (den_shs [] l xs xs 0 hl (fun j _ => by rw [Nat.zero_add])) h w
end Go.Proofs.Ythndnammnnallaa.Sy
