/- From a walk to a given statement: 'whatever the input, the law returns true, and its input reads as it did'. -/
import Derived.Test.YtihlbfbplmehiaaRows
import Derived.WalkKit
import Derived.ProofKit
import Derived.OpenShut
import Derived.ChangeOld
import Derived.Below
import Derived.Carry
import Derived.Test.YtihlbfbplmehiaaBase
namespace Go.Proofs.Ytihlbfbplmehiaa
open Go.ChangeShapes Go.WideShapes Go.ChangeAt Go.RowKit

theorem trodAll_below {H : Type} {enc : TypeId × Value → H} {P : Program} (hl : laidOutB P = true) {W W' : World} (hb : Below W.heap.size W W') :
    ∀ (ts : List TypeId) (vs : List Value) (ds : List (DataW H)) (p : List MemPlace), (∀ t ∈ ts, P.readableRec t = true ∧ t < P.types.size) →
      DataW.TrodAll enc P W 0 (fun _ => true) true ts vs ds p → DataW.TrodAll enc P W' 0 (fun b => decide (b < W.heap.size)) true ts vs ds p
  | [], [], [], p, _, h => h
  | t :: ts, v :: vs, d :: ds, p, hr, h => by
    obtain ⟨p1, q1, h1, h2, rfl⟩ := h
    have ht := hr t (by simp)
    refine ⟨p1, q1, Below.trod hl ht.1 ht.2 h1 hb ?_, trodAll_below hl hb ts vs ds q1 (fun t ht => hr t (by simp [ht])) h2, rfl⟩
    obtain ⟨m, hm⟩ := h1
    exact DataW.trod_lt m _ _ _ hm
  | [], _ :: _, _, _, _, h => h.elim
  | [], [], _ :: _, _, _, h => h.elim
  | _ :: _, [], _, _, _, h => h.elim
  | _ :: _, _ :: _, [], _, _, h => h.elim

theorem trodAll_len {H : Type} {enc : TypeId × Value → H} {P : Program} {W : World} : ∀ (ts : List TypeId) (vs : List Value) (ds : List (DataW H)) (p : List MemPlace),
    DataW.TrodAll enc P W 0 (fun _ => true) true ts vs ds p → vs.length = ts.length ∧ ds.length = ts.length
  | [], [], [], p, _ => ⟨rfl, rfl⟩
  | t :: ts, v :: vs, d :: ds, p, h => by
    obtain ⟨p1, q1, h1, h2, rfl⟩ := h
    have := trodAll_len ts vs ds q1 h2
    exact ⟨by simp [this.1], by simp [this.2]⟩
  | [], _ :: _, _, _, h => h.elim
  | [], [], _ :: _, _, h => h.elim
  | _ :: _, [], _, _, h => h.elim
  | _ :: _, _ :: _, [], _, h => h.elim

theorem trodAll_head {H : Type} {enc : TypeId × Value → H} {P : Program} {W : World} {t : TypeId} {ts : List TypeId} {v : Value} {vs : List Value} {ds : List (DataW H)} {p : List MemPlace}
    (h : DataW.TrodAll enc P W 0 (fun _ => true) true (t :: ts) (v :: vs) ds p) : ∃ d ds' p' q, DataW.Trod enc P W 0 (fun _ => true) true t v d p' ∧ DataW.TrodAll enc P W 0 (fun _ => true) true ts vs ds' q := by
  match ds, h with
  | d :: ds, ⟨p1, q1, h1, h2, _⟩ => exact ⟨d, ds, p1, q1, h1, h2⟩

/-- what a law's walk owes: of whatever arguments that can be read -/
def Owed (P : Program) (f : FuncId) (fn : Func) : Prop :=
  ∀ (H : Type) (enc : TypeId × Value → H) (W : World) (base : Nat) (args : Array Value) (ds : List (DataW H)) (p : List MemPlace),
    (∀ (j : Nat) t v, fn.params[j]? = some t → args[j]? = some v → Value.okWide P W .any base t v) →
    DataW.TrodAll enc P W 0 (fun _ => true) true fn.params.toList args.toList ds p →
    Calls P f args W fun e W' => e = .returned (.bool true) ∧ Below W.heap.size W W'

theorem law_handed {H : Type} {enc : TypeId × Value → H} {C : Checked} {os : Os} {f : FuncId} {fn : Func} {s : ChangeSpec} {conds : List PathCond} {tb : TypeId}
    (own : ownKnob C.prog.godebug = none) (started : os.Started) (noInit : C.prog.inits.idxOf? f = none) (hfn : C.prog.funcs[f]? = some fn)
    (witness : ∃ (w : World) (tape : Tape) (i : Input), w.os = os ∧ (w.forCall tape i).Shaped C.prog ∧ i.vars = [] ∧ Input.okWide C.prog (w.forCall tape i) .any w.heap.size f i ∧
      s.pre6 enc C.prog fn conds false (w.forCall tape i).memory i.args ∧ Assume.holds {} C.prog (lone (Frame.enter C.prog f i.args .normal) [] (w.forCall tape i)))
    (hres : fn.resultTypes = #[tb]) (hb : C.prog.underlying tb = some .bool) (hvars : s.vars = [])
    (hspec : ∀ ds : List (DataW H), ds.length = fn.params.size → (s.fn H ds).results = [.lit (.bool true)] ∧ (s.fn H ds).args = ds ∧ (s.fn H ds).vars = [])
    (hl : laidOutB C.prog = true) (hpar : ∀ t ∈ fn.params.toList, C.prog.readableRec t = true ∧ t < C.prog.types.size) (walk : Owed C.prog f fn) :
    ReturnsInHanded {} C os f .any (s.pre6 enc C.prog fn conds false) (s.post enc C.prog fn false true false false) := by
  refine returnsInHanded_of_change own started noInit hfn witness ?_
  intro W base args ds gs before hval hW hcnd _
  have hW' := hW
  obtain ⟨p, q, hA, hV, rfl, hfz, hnd⟩ := hW
  rw [hvars] at hV
  obtain ⟨rfl, rfl⟩ := trodVars_none hV
  refine (walk H enc W base args ds p hval hA).mono fun e W' ⟨he, bel⟩ => ?_
  subst he
  have hlen := (trodAll_len _ _ _ _ hA).2
  obtain ⟨e1, e2, e3⟩ := hspec (ds ++ []) (by simpa using hlen)
  refine ⟨_, rfl, ds, [], p ++ [], [], p, [], hW', ?_, ?_, ?_, bel.frame _, fun h => by cases h⟩
  · rw [e1, hres]
    exact trodAll_mk1 (shut_bool hb _)
  · rw [e2]
    simpa using trodAll_below hl bel _ _ _ _ hpar hA
  · rw [e3, hvars]
    rfl

/-! ### values of integers and bools alone -/
/-- a cell of a kind: an integer in its bounds, or a bool -/
def FitC : Option IntKind → Value → Prop
  | some k, .int k' n => k' = k ∧ k.min ≤ n ∧ n ≤ k.max
  | none, .bool _ => True
  | _, _ => False
def Fit : List (Option IntKind) → List Value → Prop
  | [], [] => True
  | k :: ks, c :: cs => FitC k c ∧ Fit ks cs
  | _, _ => False

def kindOf (P : Program) (t : TypeId) : Option (Option IntKind) :=
  match P.underlying t with
  | some (.int k) => some (some k)
  | some .bool => some none
  | _ => none

theorem fitC_of_ok {P : Program} {w : World} {r : Reach} {base : Nat} {u : TypeId} {v : Value} {k : Option IntKind} (hk : kindOf P u = some k) (h : Cell.okWide P w r base u v) : FitC k v := by
  unfold kindOf at hk
  split at hk
  · rename_i k' hu
    cases hk
    unfold Cell.okWide Cell.ok at h
    simp only [hu] at h
    cases v <;> simp at h
    exact ⟨h.1, h.2.1, h.2.2⟩
  · rename_i hu
    cases hk
    unfold Cell.okWide Cell.ok at h
    simp only [hu] at h
    cases v <;> simp at h
    trivial
  · cases hk

theorem fit_of_cells {P : Program} {w : World} {r : Reach} {base : Nat} : ∀ (ts : List TypeId) (ks : List (Option IntKind)) (cs : List Value), ts.mapM (kindOf P) = some ks → cs.length = ts.length →
    (∀ (i : Nat) (v : Value) (u : TypeId), cs[i]? = some v → ts[i]? = some u → Cell.okWide P w r base u v) → Fit ks cs
  | [], ks, [], hk, _, _ => by simp at hk; subst hk; trivial
  | t :: ts, ks, c :: cs, hk, hl, h => by
    rw [List.mapM_cons] at hk
    simp only [bind, Option.bind_eq_some_iff, pure, Option.some.injEq] at hk
    obtain ⟨k, hk1, ks', hk2, rfl⟩ := hk
    exact ⟨fitC_of_ok hk1 (h 0 c t rfl rfl), fit_of_cells ts ks' cs hk2 (by simpa using hl) (fun i v u hv hu => h (i + 1) v u hv hu)⟩
  | [], _, _ :: _, _, hl, _ => by simp at hl
  | _ :: _, _, [], _, hl, _ => by simp at hl

/-- an argument that is a struct or an array of integers and bools -/
theorem open_flat {P : Program} {w : World} {r : Reach} {base : Nat} {t : TypeId} {v : Value} {d : TypeDesc} {ts : List TypeId} {ks : List (Option IntKind)} (hu : P.underlying t = some d) (hd : (match d with | .struct _ | .array _ _ => true | _ => false) = true)
    (hts : P.cellTypes P.depth t = some ts) (hks : ts.mapM (kindOf P) = some ks) (hn : P.cellsOf t = ts.length) (h : Value.okWide P w r base t v) : ∃ cs : List Value, v = .agg cs.toArray ∧ Fit ks cs := by
  unfold Value.okWide at h
  have h' : ∃ cs, v = .agg cs ∧ cs.size = P.cellsOf t ∧ Row.okWide P w r base t cs := by
    rw [hu] at h
    cases d <;> simp at hd <;> exact h
  obtain ⟨cs, rfl, hsz, ts', hts', _, hc⟩ := h'
  rw [hts] at hts'
  cases hts'
  refine ⟨cs.toList, by simp, fit_of_cells (w := w) (r := r) (base := base) ts ks cs.toList hks (by simp [hsz, hn]) ?_⟩
  intro i v u hv hu
  have hi : i < ts.length := (List.getElem?_eq_some_iff.1 hu).1
  obtain ⟨u', hu', ho⟩ := hc i v (by simpa using hv)
  rw [Nat.mod_eq_of_lt hi, hu] at hu'
  cases hu'
  exact ho

/-- an argument that is a slice of words: what it reads as, where it is not too long -/
theorem open_words {H : Type} {enc : TypeId × Value → H} {P : Program} {W : World} {r : Reach} {base : Nat} {t e : TypeId} {v : Value} {d : DataW H} {p : List MemPlace} (hu : P.underlying t = some (.slice e)) (he : P.underlying e = some (.int .u32)) (hc : P.cellsOf e = 1)
    (ho : Value.okWide P W r base t v) (h : DataW.Trod enc P W 0 (fun _ => true) true t v d p) :
    ∃ a cap, ∃ l : List Int, v = .slice a l.length cap ∧ cap ≤ 9223372036854775807 ∧ (l.length ≤ 140737488355328 → Sl W v l) := by
  obtain ⟨fuel, hf⟩ := h
  obtain ⟨a0, len, cap, rfl⟩ := okWide_slice hu ho
  rcases open_ints hu he hc hf with ⟨hcs, hx⟩ | ⟨a, l, c, zs, hcs, hx0, hl, hm, hz, hx, hcell, hwz⟩
  · simp only [Value.cells, List.cons.injEq, Value.slice.injEq, and_true] at hcs
    obtain ⟨rfl, rfl, rfl⟩ := hcs
    exact ⟨none, 0, [], rfl, by omega, fun _ => .inl ⟨rfl, rfl⟩⟩
  · simp only [Value.cells, List.cons.injEq, Value.slice.injEq, and_true] at hcs
    obtain ⟨rfl, rfl, rfl⟩ := hcs
    have hzl : zs.length = cap := by simpa using hz
    have hlen : (zs.take len).length = len := by rw [List.length_take]; omega
    refine ⟨some a, cap, zs.take len, by rw [hlen], by unfold maxLen at hm; omega, fun hb => ?_⟩
    have hlt : a.spot = none ∧ a.block < W.heap.size := by
      unfold Value.okWide at ho
      simp only [hu] at ho
      unfold Cell.okWide Cell.ok at ho
      simp only [hu] at ho
      obtain ⟨_, _, _, h1, row, cells, h2, _⟩ := ho
      refine ⟨h1, ?_⟩
      unfold World.shape? at h2
      split at h2
      · rename_i hh
        rw [Array.getElem?_eq_some_iff] at hh
        exact hh.1
      · cases h2
    obtain ⟨b, off, spot⟩ := a
    obtain ⟨h1, h2⟩ := hlt
    dsimp only at h1 h2
    subst h1
    refine .inr ⟨b, off, cap, by rw [hlen], by omega, by unfold maxLen at hm; omega, hb, h2, ?_, ?_⟩
    · intro i hi
      rw [hlen] at hi
      have := hcell i (by omega)
      rw [addr_add] at this
      rw [this, List.getElem?_take, if_pos hi, List.getD_eq_getElem?_getD]
    · intro x hx
      have hw := hwz x (List.mem_of_mem_take hx)
      simp [Lit.wf, IntKind.min, IntKind.max, IntKind.signed, IntKind.bits] at hw
      omega

theorem okWide_slice_le {P : Program} {W : World} {r : Reach} {base : Nat} {t e : TypeId} {a : Option Addr} {len cap : Nat} (hu : P.underlying t = some (.slice e)) (ho : Value.okWide P W r base t (.slice a len cap)) : len ≤ 9223372036854775807 := by
  unfold Value.okWide at ho
  simp only [hu] at ho
  unfold Cell.okWide Cell.ok at ho
  simp only [hu] at ho
  cases a with
  | none =>
    match len, cap, ho with
    | 0, _, _ => omega
  | some a =>
    obtain ⟨h1, h2, _⟩ := ho
    have : IntKind.i64.max = 9223372036854775807 := rfl
    omega

/-- an argument that is an integer -/
theorem open_int_ok {P : Program} {W : World} {r : Reach} {base : Nat} {t : TypeId} {v : Value} {k : IntKind} (hu : P.underlying t = some (.int k)) (ho : Value.okWide P W r base t v) : ∃ n, v = .int k n ∧ k.min ≤ n ∧ n ≤ k.max := by
  unfold Value.okWide at ho
  simp only [hu] at ho
  unfold Cell.okWide Cell.ok at ho
  simp only [hu] at ho
  cases v <;> simp at ho
  obtain ⟨rfl, h1, h2⟩ := ho
  exact ⟨_, rfl, h1, h2⟩
theorem open_u32 {P : Program} {W : World} {r : Reach} {base : Nat} {t : TypeId} {v : Value} (hu : P.underlying t = some (.int .u32)) (ho : Value.okWide P W r base t v) : ∃ n, v = .int .u32 n ∧ 0 ≤ n ∧ n < 4294967296 := by
  obtain ⟨n, rfl, h1, h2⟩ := open_int_ok hu ho
  have e1 : IntKind.u32.min = 0 := rfl
  have e2 : IntKind.u32.max = 4294967295 := rfl
  exact ⟨n, rfl, by omega, by omega⟩
theorem open_u8 {P : Program} {W : World} {r : Reach} {base : Nat} {t : TypeId} {v : Value} (hu : P.underlying t = some (.int .u8)) (ho : Value.okWide P W r base t v) : ∃ n, v = .int .u8 n ∧ 0 ≤ n ∧ n < 256 := by
  obtain ⟨n, rfl, h1, h2⟩ := open_int_ok hu ho
  have e1 : IntKind.u8.min = 0 := rfl
  have e2 : IntKind.u8.max = 255 := rfl
  exact ⟨n, rfl, by omega, by omega⟩
theorem open_u16 {P : Program} {W : World} {r : Reach} {base : Nat} {t : TypeId} {v : Value} (hu : P.underlying t = some (.int .u16)) (ho : Value.okWide P W r base t v) : ∃ n, v = .int .u16 n ∧ 0 ≤ n ∧ n < 65536 := by
  obtain ⟨n, rfl, h1, h2⟩ := open_int_ok hu ho
  have e1 : IntKind.u16.min = 0 := rfl
  have e2 : IntKind.u16.max = 65535 := rfl
  exact ⟨n, rfl, by omega, by omega⟩
theorem open_i64 {P : Program} {W : World} {r : Reach} {base : Nat} {t : TypeId} {v : Value} (hu : P.underlying t = some (.int .i64)) (ho : Value.okWide P W r base t v) : ∃ n, v = .int .i64 n ∧ -9223372036854775808 ≤ n ∧ n ≤ 9223372036854775807 := by
  obtain ⟨n, rfl, h1, h2⟩ := open_int_ok hu ho
  have e1 : IntKind.i64.min = -9223372036854775808 := rfl
  have e2 : IntKind.i64.max = 9223372036854775807 := rfl
  exact ⟨n, rfl, by omega, by omega⟩
end Go.Proofs.Ytihlbfbplmehiaa
