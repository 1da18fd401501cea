/- Walks of the reference's device: sectors with another one. -/
import Derived.Test.YthndnammnnallaaSecG
namespace Go.Proofs.Ythndnammnnallaa
open Go.RowKit
set_option maxHeartbeats 4000000

theorem bs_nil {P : Program} {ops : Array Oper} {rest : List Oper} {op : Oper} {a : Act} {w : World} {Q : Exit → Act → World → Prop} (hgd : op.guard = none) {t e : TypeId} (ho : op.op = .buildSlice t 0 #[]) (hu : P.underlying t = some (.slice e)) {m : Nat} (hi : (P.info? e).map (·.size) = some m)
    (h : ∀ w2, New w w2 (.cells #[] e) → wpList P ops Q rest (a.put op.dst (.slice (some ⟨w.heap.size, 0, none⟩) 0 0)) w2) : wpList P ops Q (op :: rest) a w := by
  refine wpList_on (by unfold Region.wanted; rw [hgd]) fun K hK' => ?_
  cases hie : P.info? e with
  | none => rw [hie] at hi; cases hi
  | some ie =>
    have hr : (Instr.buildSlice t 0 #[]).run P w = .ok (.slice (some ⟨w.heap.size, 0, none⟩) 0 0) (w.alloc (.cells #[] e)) := by
      simp [Instr.buildSlice, run_underlying hu, sizeOf, typeInfo, hie, Instr.fill, newRow]
      rw [show Array.range 0 = #[] from by decide, Array.map_empty]
    unfold Oper.wp
    simp [execOp, ho, hr, Result.andThen]
    exact hK' _ _ (h _ (New.alloc w _))
theorem own_empty4 {w : World} {base g : Nat} {e : TypeId} (hg : base ≤ g) (h : At w g [] e) : w.ownsRow base e 4 (.slice (some ⟨g, 0, none⟩) 0 0) 0 [] :=
  ⟨rfl, .inr ⟨g, 0, #[], rfl, hg, h.heap, Nat.le_refl _, by decide, rfl, rfl⟩⟩

/-- so many sectors, from a block on -/
def Dk (w : World) (Bb : Nat) (sv : Value) (n : Nat) (D : List Int) : Prop := ∃ b cap, sv = .slice (some ⟨b, 0, none⟩) n cap ∧ n ≤ cap ∧ cap ≤ 9223372036854775807 ∧ Bb ≤ b ∧ (∃ cs, At w b cs 44) ∧ w.rangeAt b 0 (D.map uv)
theorem Dk.below {w w' : World} {Bb n : Nat} {sv : Value} {D : List Int} (h : Dk w Bb sv n D) (hb : Below w.heap.size w w') : Dk w' Bb sv n D := by
  obtain ⟨b, cap, h1, h2, h3, h4, h5, h6⟩ := h
  obtain ⟨cs, h5⟩ := h5
  exact ⟨b, cap, h1, h2, h3, h4, ⟨cs, h5.of_below hb⟩, fun j u hu => (hb.cell (p := ⟨b, 0 + j, none⟩) h5.lt).trans (h6 j u hu)⟩
theorem Dk.same {w w' : World} {Bb n g : Nat} {sv : Value} {c : List Value} {t : TypeId} {D : List Int} (h : Dk w Bb sv n D) (hA : At w g c t) (ht : t ≠ 44) (hs : Same g w w') : Dk w' Bb sv n D := by
  obtain ⟨b, cap, h1, h2, h3, h4, ⟨cs, h5⟩, h6⟩ := h
  have hne : b ≠ g := at_ne h5 hA ht.symm
  refine ⟨b, cap, h1, h2, h3, h4, ⟨cs, hs.at h5 hne⟩, fun j u hu => ?_⟩
  rw [← h6 j u hu]
  have := hs.other b hne
  simp only [World.cell?, this]
theorem range_part {w : World} {b : Nat} {D : List Int} (h : w.rangeAt b 0 (D.map uv)) (o m : Nat) : w.rangeAt b o (((D.drop o).take m).map uv) := by
  intro j u hu
  rw [List.getElem?_map] at hu
  have h1 : j < m := by
    have := (List.getElem?_eq_some_iff.1 (show (((D.drop o).take m).map uv)[j]? = some u by rw [List.getElem?_map]; exact hu)).1
    simp only [List.length_map, List.length_take] at this
    omega
  rw [List.getElem?_take, if_pos h1, List.getElem?_drop] at hu
  have := h (o + j) u (by rw [List.getElem?_map]; exact hu)
  rwa [Nat.zero_add] at this

theorem range_below {w w' : World} {b B : Nat} {cs : List Value} (h : w.rangeAt b 0 cs) (hb : b < B) (hw : Below B w w') : w'.rangeAt b 0 cs := fun j u hu => (hw.cell (p := ⟨b, 0 + j, none⟩) hb).trans (h j u hu)
theorem dk_of_own {w : World} {B0 Bb n k : Nat} {v : Value} {D : List Int} {xs : List Value} (ho : w.ownsRow B0 44 4 v k xs) (hk : k = n) (hx : xs = D.map uv) (hB : Bb ≤ B0) (hn : 0 < n) (hD : D.length = 4 * n) : Dk w Bb v n D := by
  subst hk; subst hx
  obtain ⟨hl8, h8⟩ := ho
  rcases h8 with ⟨_, h0⟩ | ⟨g, cap', cur, rfl, hg, hh, k1, k2, k3, k4⟩
  · omega
  · refine ⟨g, cap', rfl, k1, by simp only [maxLen] at k2; omega, by omega, ⟨cur.toList, by unfold At; simpa using hh⟩, fun j u hu => ?_⟩
    have hj : j < k * 4 := by
      have := (List.getElem?_eq_some_iff.1 hu).1
      rw [List.length_map] at this
      omega
    rw [← k4, List.getElem?_take, if_pos hj] at hu
    simp only [World.cell?, hh, Nat.zero_add]
    simpa using hu
theorem put_xs {D v : List Int} {n i : Nat} (hi : i < n) (hD : D.length = 4 * n) : ([] ++ ((D.drop 0).take (i * 4)).map uv ++ v.map uv ++ ((D.drop ((i + 1) * 4)).take ((n - (i + 1)) * 4)).map uv : List Value) = (secPut D i v).map uv := by
  have ht : (D.drop ((i + 1) * 4)).take ((n - (i + 1)) * 4) = D.drop ((i + 1) * 4) := List.take_of_length_le (by rw [List.length_drop, hD]; omega)
  rw [ht]
  unfold secPut
  simp only [List.nil_append, List.drop_zero, List.map_append, show (i + 1) * 4 = i * 4 + 4 by omega]
theorem put_xs0 {D v : List Int} {n i : Nat} (hi : n = i + 1) (hD : D.length = 4 * n) : ([] ++ ((D.drop 0).take (i * 4)).map uv ++ v.map uv ++ ((D.drop 0).take ((n - (i + 1)) * 4)).map uv : List Value) = (secPut D i v).map uv := by
  have h1 : (n - (i + 1)) * 4 = 0 := by omega
  have h2 : D.drop (i * 4 + 4) = [] := List.drop_eq_nil_of_le (by omega)
  unfold secPut
  rw [h1, h2]
  simp only [List.nil_append, List.drop_zero, List.take_zero, List.map_nil, List.append_nil, List.map_append]
structure Held (p : Prop) : Prop where
  out : p
theorem hold_app {P : Program} {ops : Array Oper} {rest : List Oper} {op : Oper} {a : Act} {w : World} {Q : Exit → Act → World → Prop} (s x : Operand) (t : TypeId) (_ : op.op = .call { callee := .builtin .append, args := #[s, x], argTypes := #[t, t] }) (h : Held (wpList P ops Q (op :: rest) a w)) : wpList P ops Q (op :: rest) a w := h.out

set_option maxRecDepth 100000 in
theorem put_any {Bb n i : Nat} {sv : Value} {D v : List Int} (hi : i < n) (hn : n < 10) (hD : D.length = 4 * n) (hv : v.length = 4) (w : World) (h : Dk w Bb sv n D) :
    Calls Try.prog 20 #[sv, .int .i64 i, .agg (v.map uv).toArray] w fun e w' => (∃ sv', e = .returned sv' ∧ Dk w' Bb sv' n (secPut D i v)) ∧ Below w.heap.size w w' := by
  have Hi4 : Hid ((Try.prog.info? 44).map (·.size) = some 4) := by unfold Hid; kernel_rfl
  obtain ⟨b, cap, rfl, hc1, hc2, hb1, ⟨cs0, hcs0⟩, hr⟩ := h
  have hb2 := hcs0.lt
  clear hcs0
  have HA' : (((D.drop ((i + 1) * 4)).take ((n - (i + 1)) * 4)).map uv).length = (n - (i + 1)) * 4 ∧ 0 + i + 1 + (n - (i + 1)) ≤ maxLen ∧ (0 + i + 1 + (n - (i + 1))) * 16 ≤ 140737488355328 ∧ 0 + i + 1 + (n - (i + 1)) = n := by
    refine ⟨?_, ?_, ?_, ?_⟩
    · rw [List.length_map, List.length_take, List.length_drop, hD]; omega
    · unfold maxLen; omega
    · omega
    · omega
  have HA : (((D.drop 0).take ((n - (i + 1)) * 4)).map uv).length = (n - (i + 1)) * 4 ∧ 0 + i + 1 + (n - (i + 1)) ≤ maxLen ∧ (0 + i + 1 + (n - (i + 1))) * 16 ≤ 140737488355328 ∧ 0 + i + 1 + (n - (i + 1)) = n := by
    refine ⟨?_, HA'.2⟩
    rw [List.length_map, List.length_take, List.length_drop, hD]; omega
  have HA := Lib.hid HA; have HA' := Lib.hid HA'
  have HR := Lib.hid hr; have HDl := Lib.hid hD; have HVl := Lib.hid hv
  have hi1 : (i : Int) ≤ (cap : Int) := by omega
  have hi2 : (i : Int) + 1 ≤ (n : Int) := by omega
  have hi3 : IntKind.i64.wrap ((i : Int) + 1) = (i : Int) + 1 := IntWalk.i64_in _ (by omega)
  have hi4 : ((i : Int) + 1).toNat = i + 1 := by omega
  have hi5 : (n : Int) ≤ (cap : Int) := by omega
  clear hr hD hv
  go_enter Try.func20, Try.ntmps20
  go_wp2_with (first
    | (refine bx_new rfl (ty := 44) rfl rfl ?_; intro w2 hn2; have HA2 : Hid (At w2 w.heap.size (v.map uv) 44) := Lib.hid hn2.to; have HB2 := Lib.hid (hn2.below (Nat.le_refl _)); clear hn2)
    | (refine bs_nil rfl rfl Try.underlying25 Hi4.out ?_; intro w3 hn3; have HE3 : Hid (At w3 w2.heap.size [] 44) := Lib.hid hn3.to; have HA3 := Lib.hid (hn3.at HA2.out); have HB3 := Lib.hid (HB2.out.trans (hn3.below HB2.out.size)); clear hn3)
    | (refine hold_app _ _ _ rfl ?_)
    | fail)
  refine ⟨?_⟩
  have hO3 := own_empty4 HB2.out.size HE3.out
  have hr3 := range_part (range_below HR.out hb2 HB3.out) 0 (i * 4)
  refine ap_src rfl _ _ _ rfl (bytes := 16) (base := w.heap.size) Try.underlying25 Hi4.out (by kernel_rfl) (by kernel_rfl) (by decide) rfl hO3 rfl hr3 (by rw [List.length_map, List.length_take, List.drop_zero, HDl.out]; omega) (uv_ones _) (by unfold maxLen; omega) (by omega) HB3.out.size ?_
  intro v4 w4 ho4 hg4
  have HO4 := Lib.hid ho4
  have HA4 := Lib.hid (at_grown HA3.out hg4 (fun e => by have h1 : w2.heap.size = w.heap.size := Option.some.inj e; have := HA2.out.lt; omega))
  have HB4 : Hid (Below w.heap.size w w4) := Lib.hid (HB3.out.grown hg4 HB3.out.size (fun k e => own_base hO3 k e))
  clear ho4 hg4 hO3 hr3
  go_wp2_with (first
    | (refine ld_agg rfl rfl rfl HA4.out Try.underlying44 rfl 4 Hi4.out (by rw [List.length_map, HVl.out]; decide) ?_; rw [List.drop_zero, List.take_of_length_le (by rw [List.length_map, HVl.out]; decide)])
    | (refine bs_one rfl rfl rfl Try.underlying25 4 (by rw [List.length_map]; exact HVl.out) Hi4.out (by kernel_rfl) (by decide) (by decide) ?_; intro w5 hn5
       have HS5 : Hid (At w5 w4.heap.size (v.map uv) 44) := Lib.hid hn5.to
       have HO5 := Lib.hid (own_below HO4.out (hn5.below (Nat.le_refl _))); have HB5 := Lib.hid (HB4.out.trans (hn5.below HB4.out.size)); clear hn5)
    | (refine ap_one rfl _ _ _ rfl (bytes := 16) Try.underlying25 Hi4.out (by kernel_rfl) (by kernel_rfl) (by decide) rfl HO5.out rfl HS5.out (by rw [List.length_map]; exact HVl.out) (uv_ones _) (by unfold maxLen; omega) (by omega) HB5.out.size ?_; intro v6 w6 ho6 hg6
       have HO6 := Lib.hid ho6
       have HB6 : Hid (Below w.heap.size w w6) := Lib.hid (HB5.out.grown hg6 HB5.out.size (fun k e => own_base HO5.out k e))
       clear ho6 hg6)
    | (refine hold_app _ _ _ rfl ?_)
    | fail)
  · refine ⟨?_⟩
    have hO6 := HO6.out
    refine ap_src rfl _ _ _ rfl (bytes := 16) (base := w.heap.size) Try.underlying25 Hi4.out (by kernel_rfl) (by kernel_rfl) (by decide) rfl hO6 rfl (range_part (range_below HR.out hb2 HB6.out) 0 ((n - (i + 1)) * 4)) HA.out.1 (uv_ones _) HA.out.2.1 HA.out.2.2.1 HB6.out.size ?_
    intro v8 w8 ho8 hg8
    have hB8 : Below w.heap.size w w8 := HB6.out.grown hg8 HB6.out.size (fun k e => own_base hO6 k e)
    have hdk : Dk w8 Bb v8 n (secPut D i v) := dk_of_own ho8 HA.out.2.2.2 (put_xs0 (by omega) HDl.out) (by omega) (by omega) (secPut_len HDl.out hi HVl.out)
    have HDK := Lib.hid hdk; have HB8 := Lib.hid hB8
    clear hdk hB8 ho8 hg8 hO6
    go_wp2_with fail
    go_ret
    exact ⟨⟨_, rfl, HDK.out⟩, HB8.out⟩
  · refine ⟨?_⟩
    have hO6 := HO6.out
    refine ap_src rfl _ _ _ rfl (bytes := 16) (base := w.heap.size) Try.underlying25 Hi4.out (by kernel_rfl) (by kernel_rfl) (by decide) rfl hO6 rfl (range_part (range_below HR.out hb2 HB6.out) ((i + 1) * 4) ((n - (i + 1)) * 4)) HA'.out.1 (uv_ones _) HA'.out.2.1 HA'.out.2.2.1 HB6.out.size ?_
    intro v8 w8 ho8 hg8
    have hB8 : Below w.heap.size w w8 := HB6.out.grown hg8 HB6.out.size (fun k e => own_base hO6 k e)
    have hdk : Dk w8 Bb v8 n (secPut D i v) := dk_of_own ho8 HA'.out.2.2.2 (put_xs hi HDl.out) (by omega) (by omega) (secPut_len HDl.out hi HVl.out)
    have HDK := Lib.hid hdk; have HB8 := Lib.hid hB8
    clear hdk hB8 ho8 hg8 hO6
    go_wp2_with fail
    go_ret
    exact ⟨⟨_, rfl, HDK.out⟩, HB8.out⟩
end Go.Proofs.Ythndnammnnallaa
