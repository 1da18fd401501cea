/- The evaluator over memory known by name: operations that leave memory alone are sound. -/
import Derived.Test.YthndnammnnallaaSymP
namespace Go.Proofs.Ythndnammnnallaa.Sy
open Go.RowKit

section
variable {P : Program} {ρ : Nat → Int} {g : G} {σ : List (Nat × Nat)} {n : Nat} {tm : TM} {a : Act} {m : Mem} {o : Oper} {K : R → Prop}

theorem lenOf_run {t : TypeId} {x : V} {y : Value} {k : Int} (h : lenOfV P t x = some k) (hx : den ρ σ x = some y) (ty : TypeId) (w : World) : (Builtin.len_ #[t] ty #[y]).run P w = .ok (.int .i64 k) w := by
  unfold lenOfV at h
  split at h
  · rename_i hu; (try have hu := und_eq hu); cases h
    simp only [den, Option.some.injEq] at hx; subst hx
    simp [Builtin.len_, run_underlying hu, goInt]
  · rename_i hu; (try have hu := und_eq hu); cases h
    simp [Builtin.len_, run_underlying hu, goInt]
  · rename_i hu; (try have hu := und_eq hu); cases h
    simp only [den, Option.some.injEq] at hx; subst hx
    simp [Builtin.len_, run_underlying hu, goInt]
  · rename_i hu; (try have hu := und_eq hu); cases h
    obtain ⟨y', hy, rfl⟩ := den_slice hx
    simp [Builtin.len_, run_underlying hu, goInt]
  · rename_i hu; (try have hu := und_eq hu)
    split at h
    · rename_i hu2; (try have hu2 := und_eq hu2); cases h
      simp [Builtin.len_, run_underlying hu, run_underlying hu2, goInt]
    · cases h
  · cases h
theorem max_run {k : IntKind} {p q r : Int} (h : r = if q > p then q else p) (w : World) (ts : Array TypeId) (t : TypeId) : (Builtin.max_ ts t #[.int k p, .int k q]).run P w = .ok (.int k r) w := by
  subst h; simp [Builtin.max_, Builtin.max2]
theorem min_run {k : IntKind} {p q r : Int} (h : r = if q < p then q else p) (w : World) (ts : Array TypeId) (t : TypeId) : (Builtin.min_ ts t #[.int k p, .int k q]).run P w = .ok (.int k r) w := by
  subst h; simp [Builtin.min_, Builtin.min2]
theorem minmax_run (hg : Gok ρ g) {mx : Bool} {x y : V} {a b : Value} {Q : V → Prop} (h : (minmax g mx x y).all ρ Q) (ha : den ρ σ x = some a) (hb : den ρ σ y = some b) : ∃ v, Q v ∧ ∃ z, den ρ σ v = some z ∧ ∀ (w : World) (ts : Array TypeId) (t : TypeId), (match mx with | true => Builtin.max_ ts t #[a, b] | false => Builtin.min_ ts t #[a, b]).run P w = .ok z w := by
  unfold minmax at h
  split at h
  · rename_i j p k q
    split at h
    · rename_i hk
      have hk := kindNo_inj hk
      subst hk
      cases (den_int ha)
      cases (den_int hb)
      have gen : (match mx with
        | true => brG g (.lt p.e q.e) (fun _ => T.ret (V.int j q)) (fun _ => .ret (.int j p))
        | false => brG g (.lt q.e p.e) (fun _ => .ret (.int j q)) (fun _ => .ret (.int j p))).all ρ Q → ∃ v, Q v ∧ ∃ z, den ρ σ v = some z ∧ ∀ (w : World) (ts : Array TypeId) (t : TypeId), (match mx with | true => Builtin.max_ ts t #[.int j (p.val ρ), .int j (q.val ρ)] | false => Builtin.min_ ts t #[.int j (p.val ρ), .int j (q.val ρ)]).run P w = .ok z w := by
        intro h
        cases mx with
        | true =>
          obtain ⟨ht, he⟩ := brG_all hg h
          simp only [B.val, DN.e_val, decide_eq_true_eq, decide_eq_false_iff_not] at ht he
          by_cases hh : p.val ρ < q.val ρ
          · obtain ⟨_, _, _, hq⟩ := ht hh
            exact ⟨_, hq, _, rfl, fun w ts t => max_run (by simp [hh]) w ts t⟩
          · obtain ⟨_, _, _, hq⟩ := he hh
            exact ⟨_, hq, _, rfl, fun w ts t => max_run (by simp [hh]) w ts t⟩
        | false =>
          obtain ⟨ht, he⟩ := brG_all hg h
          simp only [B.val, DN.e_val, decide_eq_true_eq, decide_eq_false_iff_not] at ht he
          by_cases hh : q.val ρ < p.val ρ
          · obtain ⟨_, _, _, hq⟩ := ht hh
            exact ⟨_, hq, _, rfl, fun w ts t => min_run (by simp [hh]) w ts t⟩
          · obtain ⟨_, _, _, hq⟩ := he hh
            exact ⟨_, hq, _, rfl, fun w ts t => min_run (by simp [hh]) w ts t⟩
      cases p with
      | d p => cases q <;> exact gen h
      | s p => cases q with
        | d q => exact gen h
        | s q =>
          refine ⟨_, h, _, rfl, fun w ts t => ?_⟩
          cases mx with
          | true =>
            refine max_run ?_ w ts t
            simp only [ltI_eq, DN.val]
            by_cases hh : p < q
            · simp [hh]
            · simp [hh]
          | false =>
            refine min_run ?_ w ts t
            simp only [ltI_eq, DN.val]
            by_cases hh : q < p
            · simp [hh]
            · simp [hh]
    · cases h
  · cases h
theorem method_run {t : TypeId} {name : String} {f : FuncId} {y : Value} (h : methodOf P t name = some f) (k : Nat) (w : World) : (method (k + 1) t y name).run P w = .ok (f, y) w := by
  unfold methodOf at h
  split at h
  · cases h
  · rename_i i hi; (try have hi := ti_info hi)
    split at h
    · cases h
    · rename_i mt hmt
      split at h
      · rename_i g hp hf; (try have hf := fn_eq hf)
        split at h
        · rename_i e hu; (try have hu := und_eq hu)
          cases h
          unfold method
          simp only [Sem.run_bind, run_typeInfo w hi, Result.andThen_ok, hmt, hp, follow, Sem.run_pure, hf]
          simp [receiverAt, run_underlying hu, Place.get]
        · cases h
      · rename_i g hp hf; (try have hf := fn_eq hf)
        split at h
        · cases h
        · rename_i d hd hu; (try have hu := und_eq hu)
          cases h
          unfold method
          simp only [Sem.run_bind, run_typeInfo w hi, Result.andThen_ok, hmt, hp, follow, Sem.run_pure, hf]
          unfold receiverAt
          simp only [Sem.run_bind, run_underlying hu, Result.andThen_ok]
          cases d <;> first | (exfalso; exact hd _ rfl) | rfl
        · cases h
      · cases h
theorem lenDyn_run (hg : Gok ρ g) {t : TypeId} {x : V} {y : Value} {l : E} (h : lenDyn P g t x = some l) (hx : den ρ σ x = some y) (ty : TypeId) (w : World) : (Builtin.len_ #[t] ty #[y]).run P w = .ok (.int .i64 (l.val ρ)) w := by
  unfold lenDyn at h
  split at h
  · rename_i hu
    have hu := und_eq hu
    split at h
    · rename_i b o l'
      split at h
      · rename_i lo hi hr
        split at h
        · rename_i hlo
          have hl := Option.some.inj h
          subst hl
          rw [leI_eq, decide_eq_true_eq] at hlo
          have h1 : lo ≤ l'.val ρ := (rng_in hg _ _ hr).1
          simp only [den] at hx
          split at hx
          · cases hx
            simp [Builtin.len_, run_underlying hu, goInt]
            omega
          · cases hx
        · cases h
      · cases h
    · cases h
  · cases h
theorem callV_run {f : FuncId} {args : List V} (h : (callV P f args).all ρ K) : (K (.enter f args) ∧ ∀ (xs : Array Value) (w : World), (callFunc f xs).run P w = .ok (.enter f xs) w) ∨
    ∃ v, K (.v v) ∧ ∀ (xs : List Value), denL ρ σ args = some xs → ∃ x, den ρ σ v = some x ∧ ∀ (w : World), (callFunc f xs.toArray).run P w = .ok (.value x) w := by
  unfold callV at h
  split at h
  · cases h
  · rename_i fn hf; (try have hf := fn_eq hf)
    split at h
    · rename_i hb
      split at h
      · rename_i v hv
        exact .inr ⟨v, h, fun xs hx => extV_run hf hb hv hx⟩
      · cases h
    · rename_i c hb
      split at h
      · cases h
      · rename_i hn
        refine .inl ⟨h, fun xs w => ?_⟩
        unfold callFunc
        have hn' : ¬ fn.name = "runtime.NumGoroutine" := by simpa using hn
        simp [program, Sem.run, hf, hn', hb]

theorem ext1 (x : Value) (A : Array Value) : (#[x] ++ A).extract 1 (#[x] ++ A).size = A := by
  obtain ⟨l⟩ := A
  simp
theorem ext0 (x : Value) (A : Array Value) : (#[x] ++ A)[0]? = some x := by
  obtain ⟨l⟩ := A
  simp

theorem xpure_sound (hg : Gok ρ g) (hT : RT ρ σ g.ng n tm a) (h : (xpure P g tm m o.op).all ρ K) : Good P ρ σ a m o K := by
  obtain ⟨op, ho⟩ : ∃ op, o.op = op := ⟨_, rfl⟩
  rw [ho] at h
  cases op <;> simp only [xpure, opX, noX, xSliceO, xMove, xAssign, xPick, xBuild, xLoad, xNilCheck, xBinOp, xUnOp, xConvert, xMakeInterface, xMakeFunc, xFieldAddr, xField, xIndexAddr, xIndex, xExtract, xTypeAssert, xPanic, xCall, xDefer, xLookup, xEntry] at h
  case move x =>
    exact good_ovl h fun u hu => ⟨_, ev_den hT hu, fun w => by simp [execOp, ho]⟩
  case assign x =>
    exact good_ovl h fun u hu => ⟨_, ev_den hT hu, fun w => by simp [execOp, ho]⟩
  case pick c x y =>
    split at h
    · rename_i u v hc hx hy
      have e := ev_den hT hc
      have e := den_bool e
      exact good_val h (ev_den hT hx) fun w => by simp [execOp, ho, e, DB.val, asBool]
    · rename_i u v hc hx hy
      have e := ev_den hT hc
      have e := den_bool e
      exact good_val h (ev_den hT hy) fun w => by simp [execOp, ho, e, DB.val, asBool]
    · rename_i p u v hc hx hy
      have e := ev_den hT hc
      have e := den_bool e
      obtain ⟨ht, he⟩ := brG_all hg h
      cases hp : p.val ρ with
      | true => obtain ⟨_, _, _, hq⟩ := ht hp; exact good_val hq (ev_den hT hx) fun w => by simp [execOp, ho, e, DB.val, hp, asBool]
      | false => obtain ⟨_, _, _, hq⟩ := he hp; exact good_val hq (ev_den hT hy) fun w => by simp [execOp, ho, e, DB.val, hp, asBool]
    · cases h
  case build t ps =>
    split at h
    · rename_i l hl
      obtain ⟨h1, h2⟩ := evParts_den hT hl
      refine good_ovl h fun u hu => ?_
      obtain ⟨x, hx, hr⟩ := build_run hu h1 h2
      refine ⟨x, hx, fun w => ?_⟩
      have e : ps.map (fun (i, x) => (i, a.eval x)) = (ps.toList.map fun x => (x.1, a.eval x.2)).toArray := by
        apply Array.toList_inj.1; simp
      unfold execOp
      simp only [ho, e, Sem.run_bind, hr w, Result.andThen_ok, Sem.run_pure]
    · cases h
  case load t x =>
    split at h
    · rename_i b f hx
      cases hl : load P m t b f with
      | none => rw [hl] at h; cases h
      | some v =>
        rw [hl] at h
        refine ⟨_, h, fun S w0 w hM => ?_⟩
        obtain ⟨y, z, hy, hz, hr⟩ := load_run hM hl
        obtain ⟨y', hy', e⟩ := den_ptr (ev_den hT hx)
        rw [hy] at hy'; cases hy'
        refine ⟨z, hz, ?_⟩
        unfold execOp
        simp only [ho, e, Instr.loadAt, Instr.sureAddr, Sem.run_bind, Sem.run_pure, Result.andThen_ok, hr]
    · rename_i b o' z i j hx
      split at h
      · rename_i k n f hb
        obtain ⟨v, x, hK, hxd, hr⟩ := loadFn_run (σ := σ) hg (fnAt_get hb) h
        refine ⟨_, hK, fun S w0 w hM => ?_⟩
        obtain ⟨y, hy, hr⟩ := hr S w0 w hM
        obtain ⟨y', hy', e⟩ := den_pel (ev_den hT hx)
        rw [hy] at hy'; cases hy'
        refine ⟨x, hxd, ?_⟩
        unfold execOp
        simp only [ho, e, Instr.loadAt, Instr.sureAddr, Sem.run_bind, Sem.run_pure, Result.andThen_ok, hr]
      · cases hl : loadA P g m t b o' z i j with
        | none => rw [hl] at h; cases h
        | some v =>
          rw [hl] at h
          refine ⟨_, h, fun S w0 w hM => ?_⟩
          obtain ⟨y, z, hy, hz, hr⟩ := loadA_run hg hM hl
          obtain ⟨y', hy', e⟩ := den_pel (ev_den hT hx)
          rw [hy] at hy'; cases hy'
          refine ⟨z, hz, ?_⟩
          unfold execOp
          simp only [ho, e, Instr.loadAt, Instr.sureAddr, Sem.run_bind, Sem.run_pure, Result.andThen_ok, hr]
    · cases h
  case nilCheck x =>
    split at h
    · rename_i b f hx
      obtain ⟨y', hy', e⟩ := den_ptr (ev_den hT hx)
      exact good_val h (x := a.eval x) (ev_den hT hx) fun w => by simp [execOp, ho, e]
    · rename_i b o' z i j hx
      obtain ⟨y', hy', e⟩ := den_pel (ev_den hT hx)
      exact good_val h (x := a.eval x) (ev_den hT hx) fun w => by simp [execOp, ho, e]
    · rename_i t v hx
      obtain ⟨y', hy', e⟩ := den_iface (ev_den hT hx)
      exact good_val h (x := a.eval x) (ev_den hT hx) fun w => by simp [execOp, ho, e]
    · rename_i f u v hx
      obtain ⟨y', z', hy', hz', e⟩ := den_func (ev_den hT hx)
      exact good_val h (x := a.eval x) (ev_den hT hx) fun w => by simp [execOp, ho, e]
    · cases h
  case binOp op t x y yt =>
    split at h
    · rename_i u v hu hv; (try have hu := und_eq hu)
      split at h
      · refine good_ovl h fun r hr => ?_
        obtain ⟨z, hz, hrun⟩ := bin_run hg hr (ev_den hT hu) (ev_den hT hv)
        refine ⟨z, hz, fun w => ?_⟩
        unfold execOp
        simp only [ho]
        have := hrun w
        rw [Sem.run_bind, this]
        rfl
      · rename_i k e hd
        obtain ⟨j, hj, _, h⟩ := ixT_ex hg h
        have hv' : v = .int k (.d e) := by
          unfold divD at hd
          split at hd
          · split at hd
            · cases hd; rfl
            · cases hd
          · split at hd
            · cases hd; rfl
            · cases hd
          · cases hd
        have hb : den ρ σ (.int k (.s (Int.ofNat j))) = some (a.eval y) := by
          have := ev_den hT hv
          rw [hv'] at this
          rw [← this]
          simp only [den, DN.val]
          simp only [DN.val] at hj
          rw [hj]
          rfl
        refine good_ovl h fun r hr => ?_
        obtain ⟨z, hz, hrun⟩ := bin_run (gok0 ρ) hr (ev_den hT hu) hb
        refine ⟨z, hz, fun w => ?_⟩
        unfold execOp
        simp only [ho]
        have := hrun w
        rw [Sem.run_bind, this]
        rfl
    · cases h
  case unOp op t x =>
    split at h
    · rename_i u hu; (try have hu := und_eq hu)
      refine good_ovl h fun v hv => ?_
      obtain ⟨z, hz, hr⟩ := un_run (P := P) hg hv (ev_den hT hu)
      exact ⟨z, hz, fun w => by unfold execOp; simp only [ho, Sem.run_bind, hr w, Result.andThen_ok, Sem.run_pure]⟩
    · cases h
  case convert s d x =>
    split at h
    · rename_i u hu; (try have hu := und_eq hu)
      refine good_ovl h fun v hv => ?_
      obtain ⟨z, hz, hr⟩ := conv_run hg hv (ev_den hT hu)
      exact ⟨z, hz, fun w => by unfold execOp; simp only [ho, Sem.run_bind, hr w, Result.andThen_ok, Sem.run_pure]⟩
    · cases h
  case makeInterface t x =>
    split at h
    · cases h
    · cases h
    · rename_i d hd hu; (try have hu := und_eq hu)
      split at h
      · rename_i u hx
        refine good_val h (x := .iface t (a.eval x)) (by simp only [den, ev_den hT hx]) fun w => ?_
        unfold execOp
        simp only [ho, Instr.makeInterface, Sem.run_bind, run_underlying hu, Result.andThen_ok]
        cases d <;> first | (exfalso; exact hd _ rfl) | rfl
      · cases h
  case makeFunc f x c =>
    split at h
    · rename_i u v hu hv; (try have hu := und_eq hu)
      have e1 := evs_den hT hu
      have e2 := evs_den hT hv
      refine good_val h (x := .func f (x.map a.eval) (c.map a.eval)) ?_ fun w => by simp [execOp, ho, Instr.makeFunc]
      simp only [den, e1, e2]
      congr 2 <;> (apply Array.toList_inj.1; simp)
    · cases h
  case slice t x lo hi mx =>
    cases mx with
    | some _ => cases h
    | none =>
      simp only [xSlice] at h
      split at h
      · rename_i v hv
        have hx := ev_den hT hv
        have fin : ∀ {lo' hi' : Option V}, (sliceV P t v lo' hi').all ρ K → (lo' = none ∧ lo.map a.eval = none ∨ ∃ x y, lo' = some x ∧ lo.map a.eval = some y ∧ den ρ σ x = some y) → (hi' = none ∧ hi.map a.eval = none ∨ ∃ x y, hi' = some x ∧ hi.map a.eval = some y ∧ den ρ σ x = some y) → Good P ρ σ a m o K := by
          intro lo' hi' h h1 h2
          obtain ⟨r, hr, z, hz, hrun⟩ := sliceV_run h hx h1 h2
          exact good_val hr hz fun w => by unfold execOp; simp only [ho, Option.map_none, Sem.run_bind, hrun w, Result.andThen_ok, Sem.run_pure]
        split at h
        · exact fin h (.inl ⟨rfl, rfl⟩) (.inl ⟨rfl, rfl⟩)
        · split at h
          · rename_i l hl; exact fin h (.inr ⟨_, _, rfl, rfl, ev_den hT hl⟩) (.inl ⟨rfl, rfl⟩)
          · cases h
        · split at h
          · rename_i l hl; exact fin h (.inl ⟨rfl, rfl⟩) (.inr ⟨_, _, rfl, rfl, ev_den hT hl⟩)
          · cases h
        · split at h
          · rename_i l k hl hk; exact fin h (.inr ⟨_, _, rfl, rfl, ev_den hT hl⟩) (.inr ⟨_, _, rfl, rfl, ev_den hT hk⟩)
          · cases h
      · cases h
  case fieldAddr t x f =>
    split at h
    · rename_i b q fd hx hf; (try have hf := fn_eq hf)
      obtain ⟨fs, hu, hfs⟩ := field_run hf
      obtain ⟨y', hy', e⟩ := den_ptr (ev_den hT hx)
      split at h
      · rename_i z hz
        split at h
        · rename_i hz0
          have hz0 : ¬ z = 0 := by have : 0 < z := by simpa using hz0
                                   omega
          refine good_val h (x := .pointer (some ⟨y'.1, q + fd.offset, none⟩)) (by simp only [den, hy']) fun w => ?_
          unfold execOp
          simp [ho, e, Instr.fieldAt, run_underlying hu, hfs, Instr.sureAddr, fieldPlace, size_run hz w, hz0, addr_add]
        · cases h
      · cases h
    · rename_i b o' q i j fd hx hf
      obtain ⟨fs, hu, hfs⟩ := field_run hf
      obtain ⟨y', hy', e⟩ := den_pel (ev_den hT hx)
      split at h
      · rename_i z hz
        split at h
        · rename_i hz0
          have hz0 : ¬ z = 0 := by have : 0 < z := by simpa using hz0
                                   omega
          refine good_val h (x := .pointer (some ⟨y'.1, (o'.val ρ).toNat + (i.val ρ).toNat * q + (j + fd.offset), none⟩)) (by simp only [den, hy']) fun w => ?_
          unfold execOp
          simp [ho, e, Instr.fieldAt, run_underlying hu, hfs, Instr.sureAddr, fieldPlace, size_run hz w, hz0, addr_add]
        · cases h
      · cases h
    · cases h
  case field t x f =>
    split at h
    · rename_i cs fd hx hf; (try have hf := fn_eq hf)
      obtain ⟨fs, hu, hfs⟩ := field_run hf
      obtain ⟨ys, hy, e⟩ := den_agg (ev_den hT hx)
      refine good_ovl h fun v hv => ?_
      obtain ⟨z, hz, hr⟩ := sub_part hv hy
      exact ⟨z, hz, fun w => by unfold execOp; simp [ho, e, Instr.field, run_underlying hu, hfs, asAgg, hr w]⟩
    · cases h
  case indexAddr t x i =>
    split at h
    · rename_i u k j hx hi; (try have hi := ti_info hi)
      have e1 := ev_den hT hx
      have e2 := den_int (ev_den hT hi)
      split at h
      · rename_i len e hu; (try have hu := und_eq hu)
        split at h
        · rename_i b q z hz
          obtain ⟨p, hp, hlt, hk⟩ := ixT_ex hg h
          obtain ⟨y', hy', e1⟩ := den_ptr e1
          refine good_val hk (x := .pointer (some ⟨y'.1, q + p * z, none⟩)) (by simp only [den, hy']) fun w => ?_
          have hin : (0 : Int) ≤ (p : Int) ∧ (p : Int) < (len : Int) := by omega
          unfold execOp
          simp [ho, e1, e2, hp, Instr.indexAt, asIntOf, run_underlying hu, Instr.sureAddr, hin, hlt, size_run hz w, addr_add]
        · cases h
      · rename_i e hu; (try have hu := und_eq hu)
        split at h
        · rename_i b q l c z hz
          obtain ⟨p, hp, hlt, hk⟩ := ixT_ex hg h
          obtain ⟨y', hy', e1⟩ := den_slice e1
          refine good_val hk (x := .pointer (some ⟨y'.1, q + p * z, none⟩)) (by simp only [den, hy']) fun w => ?_
          have hin : (0 : Int) ≤ (p : Int) ∧ (p : Int) < (l : Int) := by omega
          unfold execOp
          simp [ho, e1, e2, hp, Instr.indexAt, asIntOf, run_underlying hu, Instr.sureAddr, hin, hlt, size_run hz w, addr_add]
        · rename_i b o' l z hz
          split at h
          · rename_i hb
            simp only [Bool.and_eq_true] at hb
            have b1 : ¬ j.e.val ρ < 0 := of_decide_eq_false (dec_ok hg _ _ (isF_ok hb.1))
            have b2 : j.e.val ρ < l.val ρ := of_decide_eq_true (dec_ok hg _ _ (isT_ok hb.2))
            have ej : j.e.val ρ = j.val ρ := by cases j <;> rfl
            rw [ej] at b1 b2
            obtain ⟨y', hy', e1⟩ := den_sl e1
            obtain ⟨p, hp⟩ := Int.eq_ofNat_of_zero_le (show 0 ≤ j.val ρ by omega)
            refine good_val h (x := .pointer (some ⟨y'.1, (o'.val ρ).toNat + p * z, none⟩)) (by simp only [den, hy', ej, hp]; simp) fun w => ?_
            have hin : (0 : Int) ≤ (p : Int) ∧ (p : Int) < ((l.val ρ).toNat : Int) := by omega
            have hin2 : p < (l.val ρ).toNat := by omega
            unfold execOp
            simp [ho, e1, e2, hp, Instr.indexAt, asIntOf, run_underlying hu, Instr.sureAddr, hin, hin2, size_run hz w, addr_add]
          · cases h
        · cases h
      · cases h
    · cases h
  case index t x i =>
    split at h
    · rename_i u k j hx hi; (try have hi := ti_info hi)
      have e1 := ev_den hT hx
      have e2 := den_int (ev_den hT hi)
      split at h
      · rename_i len e hu; (try have hu := und_eq hu)
        split at h
        · rename_i cs z hz
          obtain ⟨p, hp, hlt, hk⟩ := ixT_ex hg h
          obtain ⟨ys, hy, e1⟩ := den_agg e1
          refine good_ovl hk fun v hv => ?_
          obtain ⟨x', hz', hr⟩ := sub_part hv hy
          have hin : (0 : Int) ≤ (p : Int) ∧ (p : Int) < (len : Int) := by omega
          exact ⟨x', hz', fun w => by unfold execOp; simp [ho, e1, e2, hp, Instr.index, asIntOf, run_underlying hu, hin, hlt, size_run hz w, hr w]⟩
        · cases h
      · rename_i hu; (try have hu := und_eq hu)
        split at h
        · rename_i s
          obtain ⟨p, hp, hlt, hk⟩ := ixT_ex hg h
          split at hk
          · rename_i c hc
            rw [nth_eq] at hc
            simp only [den, Option.some.injEq] at e1
            refine good_val hk (x := .int .u8 c.toNat) rfl fun w => ?_
            have hin : (0 : Int) ≤ (p : Int) := by omega
            have hsp : s[p]? = some c := by
              have hlt' : p < s.size := hlt
              rw [getElem?_pos s p hlt']
              congr 1
              have h2 : s.data.toList[p]? = some c := hc
              rw [Array.getElem?_toList] at h2
              rw [Array.getElem?_eq_some_iff] at h2
              obtain ⟨_, h3⟩ := h2
              exact h3
            unfold execOp
            simp [ho, ← e1, e2, hp, Instr.index, asIntOf, run_underlying hu, hin, hsp]
          · cases hk
        · cases h
      · cases h
    · cases h
  case extract x i =>
    split at h
    · rename_i vs hx
      obtain ⟨ys, hy, e⟩ := den_tup (ev_den hT hx)
      refine good_ovl h fun v hv => ?_
      rw [nth_eq] at hv
      obtain ⟨z, hz, h1⟩ := denL_nth hy hv
      refine ⟨z, h1, fun w => ?_⟩
      have hz' : ys.toArray[i]? = some z := by simpa using hz
      unfold execOp
      simp [ho, e, Instr.extract, hz']
    · cases h
  case typeAssert x xt as ok =>
    split at h
    · rename_i v hx
      refine good_ovl h fun u hu => ?_
      unfold assertV at hu
      split at hu
      · cases hu
      · rename_i d hd hun; (try have hun := und_eq hun)
        split at hu
        · rename_i t y
          obtain ⟨z, hz, e⟩ := den_iface (ev_den hT hx)
          split at hu
          · rename_i ht
            have ht := Nat.eq_of_beq_eq_true ht
            subst ht
            split at hu
            · cases hu
              refine ⟨.tuple #[z, .bool true], ?_, fun w => ?_⟩
              · have := denL_cons hz (denL_cons (show den ρ σ (.bool (.s true)) = some (.bool true) from rfl) denL_nil)
                simp only [den, this]
              · unfold execOp
                simp only [ho, e, Instr.typeAssert, Sem.run_bind, run_underlying hun, Result.andThen_ok]
                cases d <;> first | (exfalso; exact hd _ rfl) | simp
            · cases hu
              refine ⟨z, hz, fun w => ?_⟩
              unfold execOp
              simp only [ho, e, Instr.typeAssert, Sem.run_bind, run_underlying hun, Result.andThen_ok]
              cases d <;> first | (exfalso; exact hd _ rfl) | simp
          · cases hu
        · cases hu
      · cases hu
    · cases h
  case panic x =>
    split at h
    · rename_i t v hx
      obtain ⟨z, hz, e⟩ := den_iface (ev_den hT hx)
      refine ⟨_, h, fun S w0 w hM => ⟨_, ev_den hT hx, ?_⟩⟩
      unfold execOp
      simp [ho, e, Instr.panic, goPanic, Sem.run]
    · cases h
  case call c =>
    split at h
    · cases h
    · rename_i args hargs
      have ea := evs_den hT hargs
      have hm : (c.args.toList.map a.eval).toArray = c.args.map a.eval := by apply Array.toList_inj.1; simp
      split at h
      · rename_i f hcal
        split at h
        · rename_i gf fst cap hf; (try have hf := fn_eq hf)
          obtain ⟨y, z, hy, hz, e⟩ := den_func (ev_den hT hf)
          have hd := denL_append (denL_append hy ea) hz
          have harr : y.toArray ++ c.args.map a.eval ++ z.toArray = (y ++ c.args.toList.map a.eval ++ z).toArray := by
            apply Array.toList_inj.1; simp
          rcases callV_run (σ := σ) h with ⟨hk, hr⟩ | ⟨v, hk, hr⟩
          · refine ⟨_, hk, fun S w0 w hM => ⟨y ++ c.args.toList.map a.eval ++ z, hd, ?_⟩⟩
            unfold execOp
            simp only [ho, resolve, hcal, e, Deferred.ofValue, Sem.run_bind, Sem.run_pure, Result.andThen_ok, invoke, harr, hr]
          · obtain ⟨x, hx, hrun⟩ := hr _ hd
            refine ⟨_, hk, fun S w0 w hM => ⟨x, hx, ?_⟩⟩
            unfold execOp
            simp only [ho, resolve, hcal, e, Deferred.ofValue, Sem.run_bind, Sem.run_pure, Result.andThen_ok, invoke, harr, hrun]
        · cases h
      · rename_i r name hcal
        split at h
        · rename_i t v hx
          obtain ⟨z, hz, e⟩ := den_iface (ev_den hT hx)
          split at h
          · rename_i gf hgf
            have hd := denL_cons hz ea
            have harr : #[z] ++ c.args.map a.eval = (z :: c.args.toList.map a.eval).toArray := by
              apply Array.toList_inj.1; simp
            have hdep : P.types.size + Made.depth - 1 + 1 = P.types.size + Made.depth := by
              have : 0 < Made.depth := by decide
              omega
            rcases callV_run (σ := σ) h with ⟨hk, hr⟩ | ⟨v', hk, hr⟩
            · refine ⟨_, hk, fun S w0 w hM => ⟨z :: c.args.toList.map a.eval, hd, ?_⟩⟩
              have hmr := method_run (y := z) hgf (P.types.size + Made.depth - 1) w
              rw [hdep] at hmr
              unfold execOp
              simp only [ho, resolve, hcal, e, Sem.run_bind, Sem.run_pure, Result.andThen_ok, invoke, ext0, ext1, callMethod]
              simp only [program, Sem.run, Result.andThen_ok, Sem.run_bind, hmr, harr, hr]
            · obtain ⟨x, hx', hrun⟩ := hr _ hd
              refine ⟨_, hk, fun S w0 w hM => ⟨x, hx', ?_⟩⟩
              have hmr := method_run (y := z) hgf (P.types.size + Made.depth - 1) w
              rw [hdep] at hmr
              unfold execOp
              simp only [ho, resolve, hcal, e, Sem.run_bind, Sem.run_pure, Result.andThen_ok, invoke, ext0, ext1, callMethod]
              simp only [program, Sem.run, Result.andThen_ok, Sem.run_bind, hmr, harr, hrun]
          · cases h
        · cases h
      · rename_i b hcal
        split at h
        · rename_i t x ht
          split at h
          · rename_i k hk
            obtain ⟨y, z, h1, h2, e⟩ := denL_cons_eq ea
            rw [denL_nil] at h2
            simp only [Option.some.injEq] at h2
            subst h2
            have e' : c.args.map a.eval = #[y] := by apply Array.toList_inj.1; simpa using e
            have et : c.argTypes = #[t] := by apply Array.toList_inj.1; simpa using ht
            refine good_val h (x := .int .i64 k) rfl fun w => ?_
            unfold execOp
            simp only [ho, resolve, hcal, Sem.run_bind, Sem.run_pure, Result.andThen_ok, invoke, builtin, e', et, lenOf_run hk h1]
          · obtain ⟨y, z, h1, h2, e⟩ := denL_cons_eq ea
            rw [denL_nil] at h2
            simp only [Option.some.injEq] at h2
            subst h2
            have e' : c.args.map a.eval = #[y] := by apply Array.toList_inj.1; simpa using e
            have et : c.argTypes = #[t] := by apply Array.toList_inj.1; simpa using ht
            split at h
            · rename_i l hl
              refine good_val h (x := .int .i64 (l.val ρ)) rfl fun w => ?_
              unfold execOp
              simp only [ho, resolve, hcal, Sem.run_bind, Sem.run_pure, Result.andThen_ok, invoke, builtin, e', et, lenDyn_run hg hl h1]
            · cases h
        · rename_i x y
          obtain ⟨u, z, h1, h2, e⟩ := denL_cons_eq ea
          obtain ⟨v, z', h3, h4, e2⟩ := denL_cons_eq h2
          rw [denL_nil] at h4
          simp only [Option.some.injEq] at h4
          subst h4
          subst e2
          have e' : c.args.map a.eval = #[u, v] := by apply Array.toList_inj.1; simpa using e
          obtain ⟨r, ⟨_, _, _, hr⟩, q, hq, hrun⟩ := minmax_run (P := P) hg (T.all_bind hg h) h1 h3
          refine good_val hr hq fun w => ?_
          unfold execOp
          simp only [ho, resolve, hcal, Sem.run_bind, Sem.run_pure, Result.andThen_ok, invoke, builtin, e', hrun]
        · rename_i x y
          obtain ⟨u, z, h1, h2, e⟩ := denL_cons_eq ea
          obtain ⟨v, z', h3, h4, e2⟩ := denL_cons_eq h2
          rw [denL_nil] at h4
          simp only [Option.some.injEq] at h4
          subst h4
          subst e2
          have e' : c.args.map a.eval = #[u, v] := by apply Array.toList_inj.1; simpa using e
          obtain ⟨r, ⟨_, _, _, hr⟩, q, hq, hrun⟩ := minmax_run (P := P) hg (T.all_bind hg h) h1 h3
          refine good_val hr hq fun w => ?_
          unfold execOp
          simp only [ho, resolve, hcal, Sem.run_bind, Sem.run_pure, Result.andThen_ok, invoke, builtin, e', hrun]
        · obtain ⟨u, z, h1, h2, e⟩ := denL_cons_eq ea
          rw [denL_nil] at h2
          simp only [Option.some.injEq] at h2
          subst h2
          have hu : u = .slice none 0 0 := by simpa [den] using h1.symm
          subst hu
          have e' : c.args.map a.eval = #[.slice none 0 0] := by apply Array.toList_inj.1; simpa using e
          refine good_val h (x := .pointer none) rfl fun w => ?_
          have hrun : ∀ ats ty, (Builtin.unsafeSliceData_ ats ty #[.slice none 0 0]).run P w = .ok (.pointer none) w := fun _ _ => rfl
          unfold execOp
          simp only [ho, resolve, hcal, Sem.run_bind, Sem.run_pure, Result.andThen_ok, invoke, builtin, e', hrun]
        · rename_i t t' ht
          obtain ⟨u, z, h1, h2, e⟩ := denL_cons_eq ea
          obtain ⟨v, z', h3, h4, e2⟩ := denL_cons_eq h2
          rw [denL_nil] at h4
          simp only [Option.some.injEq] at h4
          subst h4
          subst e2
          have hu : u = .pointer none := by simpa [den] using h1.symm
          have hv : v = .int .i64 0 := by
            simp only [den, DN.val, Option.some.injEq] at h3
            exact h3.symm
          subst hu
          subst hv
          have e' : c.args.map a.eval = #[.pointer none, .int .i64 0] := by apply Array.toList_inj.1; simpa using e
          have et : c.argTypes = #[t, t'] := by apply Array.toList_inj.1; simpa using ht
          refine good_val h (x := .string .empty) rfl fun w => ?_
          have hrun : ∀ ty, (Builtin.unsafeString_ #[t, t'] ty #[.pointer none, .int .i64 0]).run P w = .ok (.string .empty) w := fun _ => rfl
          unfold execOp
          simp only [ho, resolve, hcal, Sem.run_bind, Sem.run_pure, Result.andThen_ok, invoke, builtin, e', et, hrun]
        · cases h
  case lookup t x k ok =>
    split at h
    · rename_i xv kv hx hk
      cases hl : lookupV P m t xv kv ok with
      | none => rw [hl] at h; cases h
      | some v =>
        rw [hl] at h
        exact good_mem h (fun S w0 w hM => by
          obtain ⟨z, h1, h2⟩ := lookup_run hM hl (ev_den hT hx) (ev_den hT hk)
          exact ⟨z, h1, by unfold execOp; simp only [ho, Sem.run_bind, h2, Result.andThen_ok, Sem.run_pure]⟩)
    · cases h
  case entry x =>
    split at h
    · rename_i xv hx
      cases hl : entryV m xv with
      | none => rw [hl] at h; cases h
      | some v =>
        rw [hl] at h
        exact good_mem h (fun S w0 w hM => by
          obtain ⟨z, h1, h2⟩ := entry_run hM hl (ev_den hT hx)
          exact ⟨z, h1, by unfold execOp; simp only [ho, Sem.run_bind, Sem.run_pure]; rw [h2]; rfl⟩)
    · cases h
  case defer c =>
    split at h
    · cases h
    · rename_i args hargs
      have ea := evs_den hT hargs
      have hm : (c.args.toList.map a.eval).toArray = c.args.map a.eval := by apply Array.toList_inj.1; simp
      split at h
      · rename_i f hcal
        split at h
        · rename_i fn fst cap hf
          obtain ⟨y, z, hy, hz, e⟩ := den_func (ev_den hT hf)
          refine ⟨_, h, fun S w0 w hM => ⟨.func fn (y ++ c.args.toList.map a.eval).toArray z.toArray, ⟨.fn fn z.toArray, (y ++ c.args.toList.map a.eval).toArray⟩, ?_, rfl, ?_⟩⟩
          · simp only [den, denL_append hy ea, hz]
          · unfold execOp
            simp only [ho, resolve, hcal, e, Deferred.ofValue, Sem.run_bind, Sem.run_pure, Result.andThen_ok]
            congr 3
            apply Array.toList_inj.1
            simp
        · cases h
      · cases h
  all_goals first | (cases h; done) | skip
end
end Go.Proofs.Ythndnammnnallaa.Sy
