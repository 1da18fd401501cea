/- From a run of the evaluator to a tied card: package-level variables that the program's text lays. -/
import Derived.Test.YtkljleenmmeneaaGreatDoorSymO
import Derived.Test.YtkljleenmmeneaaGreatDoorLift
import Derived.Handed
import Derived.LaidMore
import Derived.LaidLaws
import Derived.MakeChecks
import Derived.OpenShut
import Derived.FnData
import Derived.Stop.Joined
namespace Go.Proofs.YtkljleenmmeneaaGreatDoor
open Go.ChangeShapes Go.WideShapes Go.ChangeAt Go.RowKit

/-- what is laid in one variable that is an array of integers -/
theorem laid_sub {P : Program} {w : World} : ∀ (laid : List (String × DataW Unit)) (ps : List MemPlace), DataW.LaidVars P w laid ps → ∀ n d, (n, d) ∈ laid →
    ∃ g t cs fuel p, P.globalNamed n = some g ∧ (P.globals[g]?).map (·.type) = some t ∧ w.var? P n = some cs ∧ DataW.trod (fun _ => ()) P w 0 (fun _ => true) false fuel t cs.toList = some (d, p) ∧ ∀ x ∈ MemPlace.row ⟨g, 0, none⟩ cs.size, x ∈ ps
  | [], _, _, _, _, h => by cases h
  | (n', d') :: r, ps, h, n, d, hm => by
    obtain ⟨g, t, cs, fuel, p, q, h1, h2, h3, h4, h5, rfl⟩ := h
    rcases List.mem_cons.1 hm with e | hm
    · cases e
      exact ⟨g, t, cs, fuel, p, h1, h2, h3, h4, fun x hx => by simp [hx]⟩
    · obtain ⟨g', t', cs', f', p', a1, a2, a3, a4, a5⟩ := laid_sub r q h5 n d hm
      exact ⟨g', t', cs', f', p', a1, a2, a3, a4, fun x hx => by simp [a5 x hx]⟩
theorem laid_ints {P : Program} {w : World} {laid : List (String × DataW Unit)} (h : laidMetH P laid w) (hp : (laid.all fun x => x.2.handleName?.isNone) = true) {name : String} {g n : Nat} {t e : TypeId} {k : IntKind} {ns : List Int}
    (hm : (name, .agg (ns.map fun n => .lit (.int k n))) ∈ laid) (hg : P.globalNamed name = some g) (hy : (P.globals[g]?).map (·.type) = some t) (ht : P.underlying t = some (.array n e)) (he : P.underlying e = some (.int k))
    (hce : P.cellsOf e = 1) (hct : P.cellsOf t = ns.length) (hpos : 0 < ns.length) : ∃ t', w.heap[g]? = some (.cells (ns.map fun n => Value.int k n).toArray t' (0, 0)) := by
  rw [MakeChecks.laidMetH_plain _ _ _ hp] at h
  obtain ⟨ps, hv, _, hcell⟩ := h
  obtain ⟨g', t', cs, fuel, p, h1, h2, h3, h4, h5⟩ := laid_sub laid ps hv _ _ hm
  obtain rfl := Option.some.inj (hg.symm.trans h1)
  obtain rfl := Option.some.inj (hy.symm.trans h2)
  obtain ⟨xs, m, rfl, hx, hlen, hn, hel⟩ := DataW.trod_array ht h4
  simp only [Prod.mk.injEq, DataW.agg.injEq] at hx
  have hxl : ns.length = xs.length := by have := congrArg List.length hx.1; simpa using this
  have hcs : cs.toList = ns.map fun n => Value.int k n := by
    apply List.ext_getElem?
    intro i
    by_cases hi : i < ns.length
    · have h6 := hel i (by omega)
      rw [hce, Nat.mul_one] at h6
      have hxi : xs[i]? = some xs[i] := List.getElem?_eq_getElem (by omega)
      rw [hxi] at h6
      obtain ⟨z, e1, e2, _⟩ := DataW.trod_int he h6
      have e3 : (xs.map (·.1))[i]? = (ns.map fun n => DataW.lit (.int k n))[i]? := by rw [hx.1]
      rw [List.getElem?_map, List.getElem?_map, hxi, List.getElem?_eq_getElem hi] at e3
      simp only [Option.map_some, Option.some.injEq, e2, DataW.lit.injEq, Lit.int.injEq, true_and] at e3
      have e4 : cs.toList[i]? = some (.int k z) := by
        have := congrArg (fun l : List Value => l[0]?) e1
        simp only [List.getElem?_take, List.getElem?_drop, Nat.add_zero, List.getElem?_cons_zero] at this
        simpa using this
      rw [e4, List.getElem?_map, List.getElem?_eq_getElem hi, e3]
      rfl
    · rw [List.getElem?_eq_none (by omega), List.getElem?_eq_none (by simp; omega)]
  have hsz : 0 < cs.size := by have := congrArg List.length hcs; simp at this; omega
  obtain ⟨⟨c, tt, hh⟩, _⟩ := hcell g 0 (h5 _ (MemPlace.mem_row.2 ⟨0, hsz, by simp⟩))
  refine ⟨tt, ?_⟩
  simp only [World.var?, hg, Option.bind_some, hh, Option.some.injEq] at h3
  subst h3
  rw [hh, ← hcs]

namespace Sy
def GlobsAre (w : World) (ng : Nat) (l : List (Nat × IntKind × List Int)) : Prop := ∀ x ∈ l, x.1 < ng ∧ ∃ t, w.heap[x.1]? = some (.cells (x.2.2.map fun n => Value.int x.2.1 n).toArray t (0, 0))
def sigG (ng : Nat) : List (Nat × Nat) := (List.range ng).map fun i => (i, 0)
theorem sigG_get {ng i : Nat} (h : i < ng) : (sigG ng)[i]? = some (i, 0) := by
  unfold sigG
  rw [List.getElem?_map, List.getElem?_eq_getElem (by simpa using h)]
  simp
theorem gTab_get : ∀ (l : List (Nat × IntKind × List Int)) (n : Nat) (k : Blk), (gTab l).get n = some k → ∃ x ∈ l, x.1 = n ∧ k = .cells roT x.2.2.length (PT.ofL 8 (x.2.2.map fun n => .int x.2.1 (.s n)))
  | [], n, k, h => by
    have := PT.get_full _ _ _ _ h
    cases this
  | (g, kd, ns) :: l, n, k, h => by
    rcases PT.get_set _ _ _ _ _ h with ⟨rfl, rfl⟩ | ⟨_, h⟩
    · exact ⟨_, List.mem_cons_self, rfl, rfl⟩
    · obtain ⟨x, hx, h1, h2⟩ := gTab_get l n k h
      exact ⟨x, List.mem_cons_of_mem _ hx, h1, h2⟩
theorem den_lits (ρ : Nat → Int) (σ : List (Nat × Nat)) (k : IntKind) : ∀ (ns : List Int), denL ρ σ (ns.map fun n => .int k (.s n)) = some (ns.map fun n => Value.int k n)
  | [] => denL_nil
  | n :: ns => denL_cons rfl (den_lits ρ σ k ns)
theorem RM.globs (ρ : Nat → Int) {w : World} {ng : Nat} {l : List (Nat × IntKind × List Int)} (h : GlobsAre w ng l) : RM ρ [] w (sigG ng) (memG ng l) w := by
  refine ⟨Fr.refl [] w, by simp [sigG, memG], ?_, ?_, ?_⟩
  · intro n k hk
    obtain ⟨x, hx, rfl, rfl⟩ := gTab_get l n k hk
    obtain ⟨h1, t, h2⟩ := h x hx
    refine ⟨x.1, 0, sigG_get h1, _, t, h2, ⟨by simp, fun i v hi hv => ?_⟩, by simp⟩
    obtain ⟨y, e1, e2⟩ := denL_nth (den_lits ρ (sigG ng) x.2.1 x.2.2) (PT.get_ofL _ _ _ _ hv)
    exact ⟨y, e2, by simpa using e1⟩
  · intro n b c hl hs
    have hl : ng ≤ n := hl
    rw [List.getElem?_eq_none (by simp [sigG]; exact hl)] at hs; cases hs
  · intro i j k m hk hm hne _ _ _ x y hx hy
    obtain ⟨a, ha, rfl, rfl⟩ := gTab_get l i k hk
    obtain ⟨b, hb, rfl, rfl⟩ := gTab_get l j m hm
    rw [sigG_get (h a ha).1] at hx
    rw [sigG_get (h b hb).1] at hy
    cases hx; cases hy
    exact hne

/-- the law holds of arguments of which these tests hold, wherever the variables are what they are -/
def HoldsG (P : Program) (ng : Nat) (gl : List (Nat × IntKind × List Int)) (f : FuncId) (l : List Sh) (pc : List (B × Bool)) : Prop :=
  ∀ xs : List Int, inAll xs (shB l) → (∀ b t, (b, t) ∈ pc → b.val (fun i => xs.getD i 0) = t) → ∀ w, GlobsAre w ng gl → Calls P f (shVals l xs).toArray w fun e w' => e = .returned (.bool true) ∧ Below w.heap.size w w'
theorem holdsG_run {P : Program} (hm : P.follows .mixedOrders = true) (k ng : Nat) (gl : List (Nat × IntKind × List Int)) {f : FuncId} {l : List Sh} {pc : List (B × Bool)} (h : (xcall P k ⟨shB l, pc, [], ng⟩ f (shArgs l 0) (memG ng gl)).allB isTrue = true) : HoldsG P ng gl f l pc := by
  intro xs hx hpc w hW
  have hl : xs.length = (shKinds l).length := by have := inAll_len hx; simpa [shB] using this
  have hg : Gok (fun i => xs.getD i 0) ⟨shB l, pc, [], ng⟩ := ⟨(gok_of hx 0).vs, hpc⟩
  refine (all_ok hm k).1 _ f (shArgs l 0) (memG ng gl) (shVals l xs) [] w (sigG ng) w _ hg (fun i hi => ⟨0, sigG_get hi⟩) (RM.globs _ hW) (den_shs (sigG ng) l xs xs 0 hl (fun j _ => by rw [Nat.zero_add])) (T.all_mono ?_ (T.all_of_allB h))
  rintro ⟨e, m⟩ he τ w' hM
  cases e with
  | pan v => cases he
  | ret v =>
    cases v with
    | bool b =>
      cases b with
      | s b =>
        intro x hx
        cases (den_bool hx)
        simp only [isTrue] at he
        subst he
        exact ⟨rfl, hM.fr.below⟩
      | d b => cases he
    | _ => cases he
theorem holdsG_split {P : Program} {ng : Nat} {gl : List (Nat × IntKind × List Int)} {f : FuncId} {l : List Sh} {pc : List (B × Bool)} (b : B) (h1 : HoldsG P ng gl f l ((b, true) :: pc)) (h2 : HoldsG P ng gl f l ((b, false) :: pc)) : HoldsG P ng gl f l pc := by
  intro xs hx hpc w hW
  cases hb : b.val (fun i => xs.getD i 0) with
  | true => exact h1 xs hx (fun b' t' hm => by rcases List.mem_cons.1 hm with e | hm; cases e; exact hb; exact hpc b' t' hm) w hW
  | false => exact h2 xs hx (fun b' t' hm => by rcases List.mem_cons.1 hm with e | hm; cases e; exact hb; exact hpc b' t' hm) w hW
theorem calls_holdsG {P : Program} {ng : Nat} {gl : List (Nat × IntKind × List Int)} {f : FuncId} {l : List Sh} (vs : List Value) (hv : FitsAll l vs) (h : HoldsG P ng gl f l []) (w : World) (hW : GlobsAre w ng gl) : Calls P f vs.toArray w fun e w' => e = .returned (.bool true) ∧ Below w.heap.size w w' := by
  obtain ⟨xs, rfl, hx⟩ := fits_all l vs hv
  exact h xs hx (fun b t hm => by cases hm) w hW
end Sy

/-- what a law's walk owes: of whatever arguments that can be read, where the variables hold what is laid -/
def OwedT (P : Program) (f : FuncId) (fn : Func) (X : World → Prop) : Prop :=
  ∀ (H : Type) (enc : TypeId × Value → H) (W : World) (base : Nat) (args : Array Value) (ds : List (DataW H)) (p : List MemPlace), X W →
    (∀ (j : Nat) t v, fn.params[j]? = some t → args[j]? = some v → Value.okWide P W .any base t v) →
    DataW.TrodAll enc P W 0 (fun _ => true) true fn.params.toList args.toList ds p →
    Calls P f args W fun e W' => e = .returned (.bool true) ∧ Below W.heap.size W W'
theorem law_tied {H : Type} {enc : TypeId × Value → H} {C : Checked} {os : Os} {f : FuncId} {fn : Func} {s : ChangeSpec} {conds : List PathCond} {tb : TypeId} {laid : List (String × DataW Unit)}
    (own : ownKnob C.prog.godebug = none) (started : os.Started) (noInit : C.prog.inits.idxOf? f = none) (hfn : C.prog.funcs[f]? = some fn)
    (witness : ∃ (w : World) (tape : Tape) (i : Input), w.os = os ∧ (w.forCall tape i).Shaped C.prog ∧ i.vars = [] ∧ Input.okWide C.prog (w.forCall tape i) .any w.heap.size f i ∧
      ((s.pre enc C.prog fn conds false (w.forCall tape i).memory i.args ∧ laidMetH C.prog laid (w.forCall tape i).memory) ∧ sizedMet enc C.prog fn (OpenSpec.ofChange s) false (w.forCall tape i).memory i.args) ∧ Assume.holds {} C.prog (lone (Frame.enter C.prog f i.args .normal) [] (w.forCall tape i)))
    (hres : fn.resultTypes = #[tb]) (hb : C.prog.underlying tb = some .bool) (hvars : s.vars = [])
    (hspec : ∀ ds : List (DataW H), ds.length = fn.params.size → (s.fn H ds).results = [.lit (.bool true)] ∧ (s.fn H ds).args = ds ∧ (s.fn H ds).vars = [])
    (hl : laidOutB C.prog = true) (hpar : ∀ t ∈ fn.params.toList, C.prog.readableRec t = true ∧ t < C.prog.types.size) (walk : OwedT C.prog f fn (laidMetH C.prog laid)) :
    ReturnsInHanded {} C os f .any (fun w args => (s.pre enc C.prog fn conds false w args ∧ laidMetH C.prog laid w) ∧ sizedMet enc C.prog fn (OpenSpec.ofChange s) false w args) (s.post enc C.prog fn false true false false) := by
  refine returnsInHanded_of_change_and (X := fun w _ => laidMetH C.prog laid w) (fun _ _ _ hh h => laidMetH.of_heap hh h) own started noInit hfn witness ?_
  intro W base args ds gs before hval hW hcnd _ hL _
  have hW' := hW
  obtain ⟨p, q, hA, hV, rfl, hfz, hnd⟩ := hW
  rw [hvars] at hV
  obtain ⟨rfl, rfl⟩ := trodVars_none hV
  refine (walk H enc W base args ds p hL hval hA).mono fun e W' ⟨he, bel⟩ => ?_
  subst he
  have hlen := (trodAll_len _ _ _ _ hA).2
  obtain ⟨e1, e2, e3⟩ := hspec (ds ++ []) (by simpa using hlen)
  refine ⟨_, rfl, ds, [], p ++ [], [], p, [], hW', ?_, ?_, ?_, bel.frame _, fun h => by cases h⟩
  · rw [e1, hres]
    exact trodAll_mk1 (shut_bool hb _)
  · rw [e2]
    simpa using trodAll_below hl bel _ _ _ _ hpar hA
  · rw [e3, hvars]
    rfl
end Go.Proofs.YtkljleenmmeneaaGreatDoor
