/- The statement BusNobody. -/
import Derived.Test.YtfgipnohomdcoaaBusJ
import Derived.Test.YtfgipnohomdcoaaLift
namespace Go.Proofs.Ytfgipnohomdcoaa
open Go.RowKit Go.ChangeShapes Go.WideShapes Go.ChangeAt
set_option maxHeartbeats 4000000

/-- a slice literal of two one-cell elements -/
theorem bs_two {P : Program} {ops : Array Oper} {rest : List Oper} {op : Oper} {a : Act} {w : World} {Q : Exit → Act → World → Prop} (hgd : op.guard = none) {t e : TypeId} {x y : Operand} (ho : op.op = .buildSlice t 2 #[(0, x), (1, y)]) {p q : Value} (hx : a.eval x = p) (hy : a.eval y = q) (hpc : p.cells = #[p]) (hqc : q.cells = #[q])
    (hu : P.underlying t = some (.slice e)) (hi : (P.info? e).map (·.size) = some 1) (hz : ((P.info? e).bind (·.zero)).isSome = true)
    (h : ∀ w2, New w w2 (.cells #[p, q] e) → wpList P ops Q rest (a.put op.dst (.slice (some ⟨w.heap.size, 0, none⟩) 2 2)) w2) : wpList P ops Q (op :: rest) a w := by
  refine wpList_on (by unfold Region.wanted; rw [hgd]) fun K hK' => ?_
  cases hie : P.info? e with
  | none => rw [hie] at hi; cases hi
  | some ie =>
    simp only [hie, Option.map_some, Option.some.injEq, Option.bind_some] at hi hz
    obtain ⟨z, hzz⟩ := Option.isSome_iff_exists.1 hz
    have hr : (Instr.buildSlice t 2 #[(0, p), (1, q)]).run P w = .ok (.slice (some ⟨w.heap.size, 0, none⟩) 2 2) (w.alloc (.cells #[p, q] e)) := by
      refine run_buildSlice w t e 2 _ _ ie z hu hie hzz (by rw [hi]; decide) (by rw [hi]; decide) ?_
      have hf := Great.fill_whole (s := ie.size) (by omega) [p, q] ((Array.range (2 * ie.size)).map (z.cells[· % z.cells.size]!)) (by intro v hv; simp only [List.mem_cons, List.not_mem_nil, or_false] at hv; rcases hv with rfl | rfl <;> simp [hpc, hqc, hi]) (by simp [hi])
      simpa [hpc, hqc] using hf
    unfold Oper.wp
    simp [execOp, ho, hx, hy, hr, Result.andThen]
    exact hK' _ _ (h _ (New.alloc w _))

set_option maxRecDepth 100000 in
theorem nobody_walk (t v sz : Int) (w : World) :
    Calls Try.prog 6 #[.int .u32 t, .int .u32 v, .int .i64 sz] w fun e w' => e = .returned (.bool true) ∧ Below w.heap.size w w' := by
  have Hip : Hid ((Try.prog.info? 30).map (·.size) = some 1) := by unfold Hid; kernel_rfl
  go_enter Try.func6, Try.ntmps6
  go_wp2_with fail
  refine (alive16_any _).mono ?_
  rintro e w1 ⟨rfl, hb1⟩
  have HB1 := Lib.hid hb1; clear hb1
  go_wp2_with (first
    | (refine bd_run rfl rfl rfl (cells := #[.pointer none, .slice none 0 0]) (by kernel_rfl) ?_)
    | (refine bx_new rfl (ty := 57) rfl rfl ?_; intro w2 hn2; have HA2 := Lib.hid (show At w2 w1.heap.size [.pointer none, .slice none 0 0] 57 from hn2.to); have HB2 := Lib.hid (HB1.out.trans (hn2.below HB1.out.size)); clear hn2)
    | (refine bs_two rfl rfl (p := .pointer none) (q := .pointer (some ⟨w1.heap.size, 0, none⟩)) rfl rfl rfl rfl Try.underlying58 Hip.out (by kernel_rfl) ?_; intro w3 hn3; have HA3 := Lib.hid (show At w3 w2.heap.size [.pointer none, .pointer (some ⟨w1.heap.size, 0, none⟩)] 30 from hn3.to); have HN3 := Lib.hid (hn3.at HA2.out); have HB3 := Lib.hid (HB2.out.trans (hn3.below HB2.out.size)); clear hn3)
    | fail)
  go_loopw [19] (fun i wr => ∃ k : Nat, k ≤ 2 ∧ i = .int .i64 k ∧ Below w3.heap.size w3 wr) (fun i _ => 2 - (intOf i).toNat)
  case atStart => exact ⟨0, by omega, rfl, Below.refl _ _⟩
  case round =>
    obtain ⟨k, hk, rfl, hB⟩ := hrel
    have HB := Lib.hid hB; clear hB
    obtain rfl | rfl | rfl : k = 0 ∨ k = 1 ∨ k = 2 := by omega
    · skip
      have c9 : wr.cell? ⟨w2.heap.size, 0, none⟩ = some (.pointer none) := (HB.out.cell (p := ⟨w2.heap.size, 0, none⟩) HA3.out.lt).trans (HA3.out.cell 0)
      have Hgd : Hid (∀ W, Below w3.heap.size w3 W → Calls Try.prog 28 #[.pointer none] W fun e w' => e = .returned (.bool false) ∧ W = w') := fun W _ => good_nil W
      go_wp2_with (first
        | (go_at_call 10; refine (busLoad_bad wr (Hgd.out _ HB.out)).mono ?_; rintro e w' ⟨rfl, rfl⟩)
        | (go_at_call 16; refine (busWord_bad wr (Hgd.out _ HB.out)).mono ?_; rintro e w' ⟨rfl, rfl⟩)
        | (go_at_call 12; refine (busStore_bad wr (Hgd.out _ HB.out)).mono ?_; rintro e w' ⟨rfl, rfl⟩)
        | (go_at_call 17; refine (busPut_bad wr (Hgd.out _ HB.out)).mono ?_; rintro e w' ⟨rfl, rfl⟩)
        | (go_at_call 15; refine (busAdd_bad (by omega) (by omega) _ (Hgd.out _ HB6.out)).mono ?_; rintro e w' ⟨rfl, rfl⟩)
        | (refine bd_run rfl rfl rfl (cells := #[.slice none 0 0, .int .u32 0]) (by kernel_rfl) ?_)
        | (refine bx_new rfl (ty := 50) rfl rfl ?_; intro w6 hn6; have HB6 := Lib.hid (HB.out.trans (hn6.below HB.out.size)); clear hn6)
        | fail)
      go_roundw
      case rel => exact ⟨1, by omega, rfl, HB6.out⟩
      case measure => simp only [intOf]; omega
    · skip
      have c9 : wr.cell? ⟨w2.heap.size, 1, none⟩ = some (.pointer (some ⟨w1.heap.size, 0, none⟩)) := (HB.out.cell (p := ⟨w2.heap.size, 1, none⟩) HA3.out.lt).trans (HA3.out.cell 1)
      have Hgd : Hid (∀ W, Below w3.heap.size w3 W → Calls Try.prog 28 #[.pointer (some ⟨w1.heap.size, 0, none⟩)] W fun e w' => e = .returned (.bool false) ∧ W = w') := fun W hW => good_none W (HN3.out.of_below hW)
      go_wp2_with (first
        | (go_at_call 10; refine (busLoad_bad wr (Hgd.out _ HB.out)).mono ?_; rintro e w' ⟨rfl, rfl⟩)
        | (go_at_call 16; refine (busWord_bad wr (Hgd.out _ HB.out)).mono ?_; rintro e w' ⟨rfl, rfl⟩)
        | (go_at_call 12; refine (busStore_bad wr (Hgd.out _ HB.out)).mono ?_; rintro e w' ⟨rfl, rfl⟩)
        | (go_at_call 17; refine (busPut_bad wr (Hgd.out _ HB.out)).mono ?_; rintro e w' ⟨rfl, rfl⟩)
        | (go_at_call 15; refine (busAdd_bad (by omega) (by omega) _ (Hgd.out _ HB6.out)).mono ?_; rintro e w' ⟨rfl, rfl⟩)
        | (refine bd_run rfl rfl rfl (cells := #[.slice none 0 0, .int .u32 0]) (by kernel_rfl) ?_)
        | (refine bx_new rfl (ty := 50) rfl rfl ?_; intro w6 hn6; have HB6 := Lib.hid (HB.out.trans (hn6.below HB.out.size)); clear hn6)
        | fail)
      go_roundw
      case rel => exact ⟨2, by omega, rfl, HB6.out⟩
      case measure => simp only [intOf]; omega
    · go_wp2_with fail
      go_ret
      exact ⟨rfl, HB3.out.trans (HB.out.mono HB3.out.size)⟩

namespace busNobody
set_option maxRecDepth 100000 in
theorem owed : Owed Try.prog 6 Try.f6 := by
  intro H enc W base args ds p hval hA
  rw [Try.params6] at hval hA
  obtain ⟨hl, _⟩ := trodAll_len _ _ _ _ hA
  obtain ⟨v0, v1, v2, rfl⟩ : ∃ v0 v1 v2, args = #[v0, v1, v2] := by
    obtain ⟨l⟩ := args
    match l, hl with
    | [v0, v1, v2], _ => exact ⟨v0, v1, v2, rfl⟩
  obtain ⟨_, _, _, _, h0, r0⟩ := trodAll_head (v := v0) (vs := [v1, v2]) hA
  obtain ⟨_, _, _, _, h1, r1⟩ := trodAll_head (v := v1) (vs := [v2]) r0
  obtain ⟨_, _, _, _, h2, r2⟩ := trodAll_head (v := v2) (vs := []) r1
  clear r2
  have hv0 := hval 0 22 v0 rfl rfl
  have hv1 := hval 1 22 v1 rfl rfl
  have hv2 := hval 2 3 v2 rfl rfl
  clear hval hA
  obtain ⟨t, rfl, ht⟩ := open_u32 Try.underlying22 hv0
  obtain ⟨v, rfl, hv⟩ := open_u32 Try.underlying22 hv1
  obtain ⟨sz, rfl, hsz⟩ := open_i64 Try.underlying3 hv2
  exact nobody_walk t v sz W

theorem own : ownKnob Try.prog.godebug = none := by kernel_rfl
theorem laidOut : laidOutB Try.prog = true := by kernel_rfl

set_option maxRecDepth 100000 in
theorem lifted (os : Os) (started : os.Started) (H : Type) (enc : TypeId × Value → H) :
    ReturnsInHanded {} Try.checked os 6 .any (Rows.busNobodySpec.pre6 enc Try.prog Try.f6 Rows.busNobodyRow.domain false) (Rows.busNobodySpec.post enc Try.prog Try.f6 false true false false) := by
  refine law_handed (C := Try.checked) (tb := 4) own started (by kernel_rfl) Try.func6
    (ChangeSpec.witness6 (enc := enc) (C := Try.checked) false ⟨#[], #[.int .u32 0, .int .u32 0, .int .i64 0], []⟩ 8 (by kernel_rfl) (by kernel_rfl) (by kernel_rfl) (by kernel_rfl))
    rfl Try.underlying4 rfl ?_ laidOut (of_decide_eq_true (by kernel_rfl)) owed
  intro ds hl
  match ds, hl with
  | [a, b, c], _ => exact ⟨rfl, rfl, rfl⟩

theorem over : Rows.busNobodyRow.holds Try.pinned (OpenSpec.ofChange Rows.busNobodySpec) :=
  OpenClaim.holds_of_wide 6 Try.f6 rfl rfl rfl rfl rfl rfl rfl ⟨rfl, rfl, rfl, rfl, rfl⟩ rfl rfl rfl rfl rfl (by kernel_rfl) Try.func6 (by kernel_rfl)
    (of_decide_eq_true (by kernel_rfl)) (by unfold Func.isWrapper; first | (rw [if_pos (by decide +kernel)]; kernel_rfl) | (rw [if_neg (by decide +kernel)]; exact ⟨rfl, rfl⟩))
    (fun os started H enc _ => lifted os started H enc)

theorem proved : Rows.BusNobodySaid := over
end busNobody
#print axioms busNobody.proved
end Go.Proofs.Ytfgipnohomdcoaa
