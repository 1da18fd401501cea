/- The evaluator over memory known by name: operations that leave memory alone, all of them. -/
import Derived.Test.YthndnammnnallaaSymE
namespace Go.Proofs.Ythndnammnnallaa.Sy
open Go.RowKit

/-- what comes of an operation that leaves memory alone -/
def PRes (P : Program) (ρ : Nat → Int) (σ : List (Nat × Nat)) (a : Act) (w : World) (o : Oper) : R → Prop
  | .v v => ∃ x, den ρ σ v = some x ∧ (execOp a.eval o).run P w = .ok (.value x) w
  | .enter f args => ∃ xs, denL ρ σ args = some xs ∧ (execOp a.eval o).run P w = .ok (.enter f xs.toArray) w
  | .pan v => ∃ x, den ρ σ v = some x ∧ (execOp a.eval o).run P w = .halt (.panic x) w
  | .defer d => ∃ x dd, den ρ σ d = some x ∧ defOf x = some dd ∧ (execOp a.eval o).run P w = .ok (.defer dd) w

section
variable {P : Program} {ρ : Nat → Int} {g : G} {σ : List (Nat × Nat)} {n : Nat} {tm : TM} {a : Act} {m : Mem} {o : Oper} {K : R → Prop}

def Good (P : Program) (ρ : Nat → Int) (σ : List (Nat × Nat)) (a : Act) (m : Mem) (o : Oper) (K : R → Prop) : Prop := ∃ r, K r ∧ ∀ S w0 w, RM ρ S w0 σ m w → PRes P ρ σ a w o r

theorem good_val {v : V} {x : Value} (hK : K (.v v)) (hv : den ρ σ v = some x) (hr : ∀ w, (execOp a.eval o).run P w = .ok (.value x) w) : Good P ρ σ a m o K :=
  ⟨_, hK, fun _ _ w _ => ⟨x, hv, hr w⟩⟩
theorem good_ovl {v : Option V} (h : (ovl v).all ρ K) (hx : ∀ u, v = some u → ∃ x, den ρ σ u = some x ∧ ∀ w, (execOp a.eval o).run P w = .ok (.value x) w) : Good P ρ σ a m o K := by
  cases v with
  | none => cases h
  | some u => obtain ⟨x, h1, h2⟩ := hx u rfl; exact good_val h h1 h2

theorem asBool_run {b : Bool} (w : World) : (asBool (.bool b)).run P w = .ok b w := rfl

theorem splice_eq {cs vs l : List V} {i : Nat} (h : splice cs i vs = some l) : l = cs.take i ++ vs ++ cs.drop (i + vs.length) ∧ i + vs.length ≤ cs.length := by
  unfold splice at h
  cases hb : Nat.ble (i + vs.length) cs.length with
  | true => simp only [hb, Option.some.injEq] at h; exact ⟨h.symm, Nat.le_of_ble_eq_true hb⟩
  | false => simp only [hb] at h; cases h

theorem foldl_set : ∀ (vs : List Value) (i k : Nat) (cs : Array Value), i + k + vs.length ≤ cs.size →
    (vs.zipIdx k).foldl (fun cs (x : Value × Nat) => cs.setIfInBounds (i + x.2) x.1) cs = (cs.toList.take (i + k) ++ vs ++ cs.toList.drop (i + k + vs.length)).toArray
  | [], i, k, cs, _ => by simp
  | v :: vs, i, k, cs, h => by
    simp only [List.length_cons] at h
    simp only [List.zipIdx_cons, List.foldl_cons]
    rw [foldl_set vs i (k + 1) _ (by simp; omega)]
    apply Array.toList_inj.1
    simp only [List.append_assoc, List.length_cons, Array.toList_setIfInBounds]
    have e1 : (cs.toList.set (i + k) v).take (i + (k + 1)) = cs.toList.take (i + k) ++ [v] := by
      rw [show i + (k + 1) = (i + k) + 1 by omega, List.take_add_one, List.take_set_of_le (Nat.le_refl _), List.getElem?_set_self (by simp; omega)]
      rfl
    have e2 : (cs.toList.set (i + k) v).drop (i + (k + 1) + vs.length) = cs.toList.drop (i + k + (vs.length + 1)) := by
      rw [List.drop_set_of_lt (by omega)]; congr 1; omega
    rw [e1, e2]; simp
theorem fill_den {pl : Nat → Option (Nat × Nat)} : ∀ {ps : List (Nat × V)} {qs : List (Nat × Value)} {cells l : List V} {cs : List Value}, fillV pl cells ps = some l → denL ρ σ cells = some cs →
    (ps.map (·.1) = qs.map (·.1)) → denL ρ σ (ps.map (·.2)) = some (qs.map (·.2)) → ∃ ys, denL ρ σ l = some ys ∧ Instr.fill pl cs.toArray qs = some ys.toArray
  | [], qs, cells, l, cs, h, hc, hq, _ => by
    have : qs = [] := by simpa using hq.symm
    subst this
    simp only [fillV, Option.some.injEq] at h
    subst h
    exact ⟨cs, hc, by simp [Instr.fill]⟩
  | (i, v) :: ps, [], _, _, _, _, _, hq, _ => by simp at hq
  | (i, v) :: ps, (j, x) :: qs, cells, l, cs, h, hc, hq, hd => by
    simp only [List.map_cons, List.cons.injEq] at hq
    obtain ⟨rfl, hq⟩ := hq
    simp only [List.map_cons] at hd
    obtain ⟨x', z', h1, h2, e⟩ := denL_cons_eq hd
    simp only [List.cons.injEq] at e
    obtain ⟨rfl, rfl⟩ := e
    simp only [fillV] at h
    split at h
    · cases h
    · rename_i off z hp
      split at h
      · cases h
      · rename_i hz
        have hz := Nat.eq_of_beq_eq_true hz
        split at h
        · cases h
        · rename_i l' hs
          obtain ⟨rfl, hle⟩ := splice_eq hs
          have hxc := cells_den h1
          have hlen := denL_length hxc
          have hcl := denL_length hc
          have hd' := denL_append (denL_append (denL_take off hc) hxc) (denL_drop (off + (cellsOf v).length) hc)
          obtain ⟨ys, hy1, hy2⟩ := fill_den h hd' hq h2
          refine ⟨ys, hy1, ?_⟩
          have hsz : x.cells.size = z := by rw [← hz, ← hlen]; simp
          have hsz2 : x.cells.size = (cellsOf v).length := by rw [hsz, hz]
          have hfit : off + x.cells.size ≤ cs.length := by rw [hcl]; omega
          have hfold := foldl_set x.cells.toList off 0 cs.toArray (by simpa using hfit)
          have e3 : x.cells.zipIdx.foldl (fun cs (c, j) => cs.setIfInBounds (off + j) c) cs.toArray = (cs.take off ++ x.cells.toList ++ cs.drop (off + (cellsOf v).length)).toArray := by
            rw [← Array.foldl_toList, Array.toList_zipIdx]
            rw [← hlen]
            simpa using hfold
          simp only [Instr.fill, hp]
          have hno : (x.cells.size ≠ z || off + x.cells.size > cs.toArray.size) = false := by
            have h1 : decide (x.cells.size ≠ z) = false := by simp [hsz]
            have h2 : decide (off + x.cells.size > cs.toArray.size) = false := by rw [decide_eq_false_iff_not]; simp; omega
            simp only [h1, h2, Bool.or_self]
          rw [if_neg (by rw [hno]; decide)]
          rw [e3]
          exact hy2
theorem evParts_den (hT : RT ρ σ g.ng n tm a) : ∀ {l : List (Nat × Operand)} {ps : List (Nat × V)}, evParts g.ng tm l = some ps → ps.map (·.1) = (l.map fun x => (x.1, a.eval x.2)).map (·.1) ∧ denL ρ σ (ps.map (·.2)) = some ((l.map fun x => (x.1, a.eval x.2)).map (·.2))
  | [], ps, h => by simp only [evParts, Option.some.injEq] at h; subst h; exact ⟨rfl, denL_nil⟩
  | (i, x) :: l, ps, h => by
    simp only [evParts] at h
    split at h
    · rename_i v hv
      split at h
      · rename_i y hy
        cases h
        obtain ⟨h1, h2⟩ := evParts_den hT hy
        refine ⟨by simpa using h1, ?_⟩
        simp only [List.map_cons]
        exact denL_cons (ev_den hT hv) h2
      · cases h
    · cases h
theorem zero_den {t : TypeId} {z : List V} (h : zero? P t = some z) : ∃ i zv, P.info? t = some i ∧ i.zero = some zv ∧ denL ρ σ z = some zv.cells.toList := by
  unfold zero? at h
  split at h
  · rename_i i hi; (try have hi := ti_info hi)
    split at h
    · rename_i zv hz; exact ⟨i, zv, hi, hz, zeroCells_den h⟩
    · cases h
  · cases h
theorem size_info {t : TypeId} {z : Nat} (h : size? P t = some z) : ∃ i, P.info? t = some i ∧ i.size = z := by
  unfold size? at h
  split at h
  · rename_i i hi; (try have hi := ti_info hi); cases h; exact ⟨i, hi, rfl⟩
  · cases h
theorem places_eq : ∀ {fs : List Field} {pl : List (Nat × Nat)}, placesOf P fs = some pl → fs.mapM (fun f => (P.info? f.type).map fun i => (f.offset, i.size)) = some pl
  | [], pl, h => by simp only [placesOf, Option.some.injEq] at h; subst h; rfl
  | f :: fs, pl, h => by
    simp only [placesOf] at h
    split at h
    · cases h
    · rename_i z hz
      split at h
      · cases h
      · rename_i l hl
        cases h
        obtain ⟨i, hi, rfl⟩ := size_info hz
        simp [List.mapM_cons, hi, places_eq hl]
theorem build_run {t : TypeId} {ps : List (Nat × V)} {qs : List (Nat × Value)} {v : V} (h : buildV P t ps = some v) (h1 : ps.map (·.1) = qs.map (·.1)) (h2 : denL ρ σ (ps.map (·.2)) = some (qs.map (·.2))) :
    ∃ x, den ρ σ v = some x ∧ ∀ w, (Instr.build t qs.toArray).run P w = .ok x w := by
  unfold buildV at h
  split at h
  · cases h
  · rename_i z hz
    obtain ⟨i, zv, hi, hzv, hzd⟩ := zero_den (σ := σ) hz
    split at h
    · rename_i fs hu; (try have hu := und_eq hu)
      split at h
      · rename_i pl hpl
        split at h
        · rename_i l hl
          cases h
          obtain ⟨ys, h3, h4⟩ := fill_den hl hzd h1 h2
          refine ⟨.agg ys.toArray, by simp only [den, h3], fun w => run_build w t _ _ ?_⟩
          unfold Program.built
          simp only [hi, hu, hzv, places_eq hpl]
          have e : (fun x => pl.toArray[x]?) = nth pl := by funext x; rw [nth_eq]; simp
          rw [e]
          simpa using h4
        · cases h
      · cases h
    · rename_i e hu; (try have hu := und_eq hu)
      split at h
      · rename_i s hs
        obtain ⟨ie, hie, rfl⟩ := size_info hs
        split at h
        · rename_i l hl
          cases h
          obtain ⟨ys, h3, h4⟩ := fill_den hl hzd h1 h2
          refine ⟨.agg ys.toArray, by simp only [den, h3], fun w => run_build w t _ _ ?_⟩
          unfold Program.built
          simp only [hi, hu, hzv, hie]
          simpa using h4
        · cases h
      · cases h
    · cases h
end
end Go.Proofs.Ythndnammnnallaa.Sy
