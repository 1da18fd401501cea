/- An argument that is a memory: a place, and words. -/
import Derived.Test.YtfgipnohomdcoaaOpen
import Derived.Test.YtfgipnohomdcoaaMemB
import Derived.Laws.AppendOwnNone
namespace Go.Proofs.Ytfgipnohomdcoaa
open Go.ChangeShapes Go.WideShapes Go.ChangeAt Go.RowKit

theorem trod_fld {H : Type} {enc : TypeId × Value → H} {P : Program} {W : World} {fuel : Nat} {t : TypeId} {cs : List Value} {x : DataW H × List MemPlace} {fs : Array Field} (hu : P.underlying t = some (.struct fs)) (h : DataW.trod enc P W 0 (fun _ => true) true fuel t cs = some x) (i : Nat) {f : Field} (hf : fs[i]? = some f) :
    ∃ n y, DataW.trod enc P W 0 (fun _ => true) true n f.type ((cs.drop f.offset).take (P.cellsOf f.type)) = some y := by
  obtain ⟨xs, n, _, _, _, hlen, hd⟩ := DataW.trod_struct hu h
  have hi : i < xs.length := by rw [hlen]; exact (Array.getElem?_eq_some_iff.1 hf).1
  exact ⟨n, xs[i], by rw [hd i f hf, List.getElem?_eq_getElem hi]⟩

theorem open_ram {H : Type} {enc : TypeId × Value → H} {P : Program} {W : World} {r : Reach} {base : Nat} {t tu tw te : TypeId} {v : Value} {d : DataW H} {p : List MemPlace} {fs : Array Field} (hu : P.underlying t = some (.struct fs)) (hts : P.cellTypes P.depth t = some [tu, tw]) (hn : P.cellsOf t = 2)
    (htu : P.underlying tu = some (.int .u32)) (htw : P.underlying tw = some (.slice te)) (hte : P.underlying te = some (.int .u32)) (hce : P.cellsOf te = 1) (hcw : P.cellsOf tw = 1) {f : Field} (hf : fs[1]? = some f) (hft : f.type = tw) (hfo : f.offset = 1)
    (ho : Value.okWide P W r base t v) (h : DataW.Trod enc P W 0 (fun _ => true) true t v d p) :
    ∃ b a cap, ∃ l : List Int, v = .agg #[.int .u32 b, .slice a l.length cap] ∧ (0 ≤ b ∧ b < 4294967296) ∧ cap ≤ 9223372036854775807 ∧ (l.length ≤ 140737488355328 → Sl W (.slice a l.length cap) l) := by
  have ho' : ∃ cs, v = .agg cs ∧ cs.size = P.cellsOf t ∧ Row.okWide P W r base t cs := by
    unfold Value.okWide at ho
    rw [hu] at ho
    exact ho
  obtain ⟨cs, rfl, hsz, ts', hts', _, hc⟩ := ho'
  rw [hts] at hts'
  cases hts'
  rw [hn] at hsz
  obtain ⟨c0, c1, rfl⟩ : ∃ c0 c1, cs = #[c0, c1] := by
    obtain ⟨l⟩ := cs
    match l, hsz with
    | [a, b], _ => exact ⟨a, b, rfl⟩
  obtain ⟨u0, e0, k0⟩ := hc 0 c0 (by simp)
  obtain ⟨u1, e1, k1⟩ := hc 1 c1 (by simp)
  simp at e0 e1
  subst e0; subst e1
  obtain ⟨b, rfl, hb⟩ := open_u32 (v := c0) (r := r) (base := base) (W := W) htu (by unfold Value.okWide; rw [htu]; exact k0)
  obtain ⟨fu, hfu⟩ := h
  obtain ⟨n1, y1, h1⟩ := trod_fld hu hfu 1 hf
  rw [hft, hfo, hcw] at h1
  have hv1 : Value.okWide P W r base tw c1 := by unfold Value.okWide; rw [htw]; exact k1
  obtain ⟨a0, len0, cap0, rfl⟩ := okWide_slice htw hv1
  obtain ⟨a, cap, l, he, hcap, hs⟩ := open_words (W := W) (r := r) (base := base) (d := y1.1) (p := y1.2) (enc := enc) htw hte hce hv1 ⟨n1, h1⟩
  rw [he] at hs ⊢
  exact ⟨b, a, cap, l, rfl, hb, hcap, hs⟩

/-- words that lie somewhere, put behind nothing -/
theorem wp_ap_sl {P : Program} {w : World} {o : Oper} {a : Act} {K : Act → World → Prop} {Q : Exit → Act → World → Prop} (s x : Operand) (t : TypeId) (ho : o.op = .call { callee := .builtin .append, args := #[s, x], argTypes := #[t, t] })
    {e : TypeId} {bytes : Nat} (ht : P.underlying t = some (.slice e)) (hi : (P.info? e).map (·.size) = some 1) (hby : (P.info? e).map (·.bytes) = some bytes) (hz : ((P.info? e).bind (·.zero)).map (·.cells.size) = some 1) (hb4 : bytes ≤ 1000)
    (hs : a.eval s = .slice none 0 0) {v : Value} {l : List Int} (hx : a.eval x = v) (hv : Sl w v l) (hl : l.length ≤ 1000000)
    (h : ∀ v' w', w'.ownsRow w.heap.size e 1 v' l.length (l.map uv) → Below w.heap.size w w' → K (a.put o.dst v') w') : o.wp P a w K Q := by
  cases hie : P.info? e with
  | none => rw [hie] at hi; cases hi
  | some ie =>
    rcases hv with ⟨rfl, rfl⟩ | ⟨b, off, cap, rfl, hcap, hc63, _, hlt, hcell, _⟩
    · have hrun := run_append_owned_none (P := P) (w := w) w.heap.size t o.type e ie 1 ht hie _ 0 [] (World.ownsRow_nil _ _ _ _)
      unfold Oper.wp
      simp [execOp, ho, resolve, invoke, builtin, hs, hx, hrun, Result.andThen]
      exact h _ _ (World.ownsRow_nil _ _ _ _) (Below.refl _ _)
    · simp only [hie, Option.map_some, Option.some.injEq, Option.bind_some] at hi hby hz
      cases hzz : ie.zero with
      | none => rw [hzz] at hz; cases hz
      | some z =>
        rw [hzz] at hz
        simp only [Option.map_some, Option.some.injEq] at hz
        refine wp_append_own w s x t ho w.heap.size e ie z 1 bytes ht hie hzz hi hby hz (by decide) _ 0 [] hs (World.ownsRow_nil _ _ _ _) ⟨b, off, none⟩ l.length cap (l.map uv) hx (by rw [List.length_map, Nat.mul_one]) (fun j u hu => ?_) (fun u hu => by obtain ⟨y, _, rfl⟩ := List.mem_map.1 hu; rfl) (by unfold maxLen; omega) ?_ (Nat.le_refl _) (fun v' w' h1 h2 _ => ?_)
        · have hj : j < l.length := by have := (List.getElem?_eq_some_iff.1 hu).1; simpa using this
          rw [addr_add, hcell j hj]
          rw [List.getElem?_map, List.getElem?_eq_getElem hj] at hu
          rw [List.getElem?_eq_getElem hj]
          exact hu
        · have : (0 + l.length) * bytes ≤ 1000000 * 1000 := Nat.mul_le_mul (by omega) hb4
          omega
        · rw [Nat.zero_add, List.nil_append] at h1
          exact h v' w' h1 ((Below.refl _ w).grown h2 (Nat.le_refl _) (fun j e => by cases e))
/-- a struct literal -/
theorem wp_bd {P : Program} {w : World} {op : Oper} {a : Act} {K : Act → World → Prop} {Q : Exit → Act → World → Prop} {ty : TypeId} {parts : Array (Nat × Operand)} (ho : op.op = .build ty parts) {vs : List (Nat × Value)} (hvs : parts.toList.map (fun x => (x.1, a.eval x.2)) = vs) {cells : Array Value} (hb : P.built ty vs = some cells)
    (h : K (a.put op.dst (.agg cells)) w) : op.wp P a w K Q := by
  unfold Oper.wp
  subst hvs
  have hr := run_build w ty (parts.map fun x => (x.1, a.eval x.2)) cells (by rw [Array.toList_map]; exact hb)
  simp only [execOp, ho, Sem.run_bind, hr, Result.andThen_ok, Sem.run_pure]
  exact h
end Go.Proofs.Ytfgipnohomdcoaa
