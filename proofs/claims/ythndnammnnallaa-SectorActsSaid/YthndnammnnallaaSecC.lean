/- Walks of a sector device: good, Up, bit, window, in. -/
import Derived.Test.YthndnammnnallaaSecB
namespace Go.Proofs.Ythndnammnnallaa
open Go.RowKit
set_option maxHeartbeats 4000000

/-- a pointer's method -/
def mOf (P : Program) (t : TypeId) (name : String) : Option FuncId := match P.info? t with
  | none => none
  | some i => match i.methods.find? (·.name == name) with
    | none => none
    | some mt => match mt.path.toList, mt.func with
      | [], some (f, true) => some f
      | _, _ => none
theorem mOf_run {P : Program} {t e : TypeId} {name : String} {f : FuncId} (h : mOf P t name = some f) (hu : P.underlying t = some (.pointer e)) (y : Value) (k : Nat) (w : World) : (method (k + 1) t y name).run P w = .ok (f, y) w := by
  unfold mOf at h
  split at h
  · cases h
  · rename_i i hi
    split at h
    · cases h
    · rename_i mt hmt
      split at h
      · rename_i g hp hf
        cases h
        unfold method
        simp only [Sem.run_bind, run_typeInfo w hi, Result.andThen_ok, hmt, hp, follow, Sem.run_pure, hf]
        simp [receiverAt, run_underlying hu, Place.get]
      · cases h
/-- a device's cells -/
def dc (gm : Nat) (F M E : Int) (ln : Bool) (B : List Int) (p : Nat) : List Value := [.iface 24 (.pointer (some ⟨gm, 0, none⟩)), .int .u32 F, .int .u32 M, .int .u32 E, .bool ln] ++ (B.map uv ++ [.int .i64 p])
/-- a device, and what it has -/
structure Dv (w : World) (gd gm gl n : Nat) (F M E : Int) (ln : Bool) (B : List Int) (p : Nat) (D : List Int) : Prop where
  dev : At w gd (dc gm F M E ln B p) 47
  mm : Mm w gm gl n
  dsk : At w gl (D.map uv) 44
  bl : B.length = 16
  dl : D.length = 4 * n
  pl : p < 16
  nl : n < 10
  fr : 0 ≤ F ∧ F < 4294967296
  mr : 0 ≤ M ∧ M < 4294967296
theorem dc_len {gm : Nat} {F M E : Int} {ln : Bool} {B : List Int} {p : Nat} (h : B.length = 16) : (dc gm F M E ln B p).length = 22 := by simp [dc, h]
theorem dc_buf {gm : Nat} {F M E : Int} {ln : Bool} {B : List Int} {p : Nat} {i : Nat} (h : i < B.length) : (dc gm F M E ln B p)[5 + i]? = some (.int .u32 (B[i]?.getD 0)) := by
  unfold dc
  rw [List.getElem?_append_right (by simp)]
  simp only [List.length_cons, List.length_nil, Nat.reduceAdd, Nat.add_sub_cancel_left]
  rw [List.getElem?_append_left (by simpa using h), List.getElem?_map, List.getElem?_eq_getElem h]
  rfl
theorem dc_place {gm : Nat} {F M E : Int} {ln : Bool} {B : List Int} {p : Nat} (h : B.length = 16) : (dc gm F M E ln B p)[21]? = some (.int .i64 p) := by
  unfold dc
  rw [List.getElem?_append_right (by simp)]
  simp only [List.length_cons, List.length_nil, Nat.reduceAdd, Nat.reduceSub]
  rw [List.getElem?_append_right (by simp [h])]
  simp [h]

theorem dc_set21 {gm : Nat} {F M E : Int} {ln : Bool} {B : List Int} {p q : Nat} (h : B.length = 16) : (dc gm F M E ln B p).set 21 (.int .i64 q) = dc gm F M E ln B q := by
  unfold dc
  rw [List.set_append_right _ _ (by simp), List.set_append_right _ _ (by simp [h])]
  simp [h]

set_option maxRecDepth 100000 in
theorem good_any {gd gm : Nat} {F M E : Int} {ln : Bool} {B : List Int} {p : Nat} (w : World) (h : At w gd (dc gm F M E ln B p) 47) :
    Calls Try.prog 13 #[.pointer (some ⟨gd, 0, none⟩)] w fun e w' => e = .returned (.bool true) ∧ w = w' := by
  have c0 : w.cell? ⟨gd, 0, none⟩ = some (.iface 24 (.pointer (some ⟨gm, 0, none⟩))) := h.cell 0
  clear h
  go_enter Try.func13, Try.ntmps13
  go_wp2_with fail
  go_ret
  exact ⟨rfl, rfl⟩
set_option maxRecDepth 100000 in
theorem up_any {gd gm : Nat} {F M E : Int} {ln : Bool} {B : List Int} {p : Nat} (w : World) (h : At w gd (dc gm F M E ln B p) 47) :
    Calls Try.prog 9 #[.pointer (some ⟨gd, 0, none⟩)] w fun e w' => e = .returned (.bool ln) ∧ w = w' := by
  have c4 : w.cell? ⟨gd, 4, none⟩ = some (.bool ln) := h.cell 4
  have Hg := Lib.hid (good_any w h)
  clear h
  go_enter Try.func9, Try.ntmps9
  go_wp2_with (first
    | (go_at_call 13; refine Hg.out.mono ?_; rintro e w' ⟨rfl, rfl⟩)
    | fail)
  go_ret
  exact ⟨rfl, rfl⟩
set_option maxRecDepth 100000 in
theorem bit_any (b : Bool) (w : World) : Calls Try.prog 16 #[.bool b] w fun e w' => e = .returned (.int .u32 (if b then 1 else 0)) ∧ w = w' := by
  cases b <;>
  · go_enter Try.func16, Try.ntmps16
    go_wp2_with fail
    go_ret
    exact ⟨rfl, rfl⟩
set_option maxRecDepth 100000 in
theorem window_any {gd gm : Nat} {F M E : Int} {ln : Bool} {B : List Int} {p : Nat} (hb : B.length = 16) (hp : p < 16) (w : World) (h : At w gd (dc gm F M E ln B p) 47) :
    Calls Try.prog 15 #[.pointer (some ⟨gd, 0, none⟩)] w fun e w' => e = .returned (.pointer (some ⟨gd, 5 + p, none⟩)) ∧ At w' gd (dc gm F M E ln B ((p + 1) % 16)) 47 ∧ Same gd w w' := by
  have Hi1 : Hid ((Try.prog.info? 3).map (·.size) = some 1) := by unfold Hid; kernel_rfl
  have c21 : w.cell? ⟨gd, 21, none⟩ = some (.int .i64 p) := (h.cell 21).trans (dc_place hb)
  have HA := Lib.hid h; have HBl := Lib.hid hb
  have hq1 : Int.tdiv (p : Int) 4 = (p : Int) / 4 := Int.tdiv_eq_ediv_of_nonneg (by omega)
  have hq2 : Int.tmod (p : Int) 4 = (p : Int) % 4 := Int.tmod_eq_emod_of_nonneg (by omega)
  have hq3 : (p : Int) / 4 < 4 := by omega
  have hq4 : (0 : Int) ≤ (p : Int) / 4 := by omega
  have hq5 : IntKind.i64.wrap ((p : Int) / 4) = (p : Int) / 4 := IntWalk.i64_in _ (by omega)
  have hq6 : IntKind.i64.wrap ((p : Int) % 4) = (p : Int) % 4 := IntWalk.i64_in _ (by omega)
  have hq7 : ((p : Int) / 4).toNat = p / 4 := by omega
  have hq8 : ((p : Int) % 4).toNat = p % 4 := by omega
  have hq9 : (p : Int) % 4 < 4 := by omega
  have hq10 : (0 : Int) ≤ (p : Int) % 4 := by omega
  clear h hb
  go_enter Try.func15, Try.ntmps15
  go_wp2_with fail
  refine wp_region_quiet_lit (by kernel_rfl) (by kernel_rfl) ?_
  iterate 16 (first | ((with_reducible refine wpQuiet_step (fun K' hK' => ?_)); go_simp; (with_reducible refine hK' _ ?_); clear hK' K') | ((with_reducible refine wpQuiet_skip ?_ ?_); focus rfl))
  refine wpQuiet_nil ?_
  rintro w' ⟨nq, rfl⟩
  have HA2 := Lib.hid (HA.out.drewN nq)
  have c21 : (w.drewN nq).cell? ⟨gd, 21, none⟩ = some (.int .i64 p) := (HA2.out.cell 21).trans (dc_place HBl.out)
  have hw1 : IntKind.i64.wrap ((p : Int) + 1) = (p : Int) + 1 := IntWalk.i64_in _ (by omega)
  have hm1 : Int.tmod ((p : Int) + 1) 16 = (((p + 1) % 16 : Nat) : Int) := by rw [Int.tmod_eq_emod_of_nonneg (by omega)]; omega
  clear hq1 hq2 hq3 hq4 hq5 hq6 hq7 hq8 hq9 hq10
  go_wp2_with (first
    | (refine st_cell rfl rfl rfl rfl rfl HA2.out Hi1.out (by rw [dc_len HBl.out]; decide) rfl ?_; intro w2 hu2; have HU := Lib.hid hu2; clear hu2)
    | fail)
  go_ret
  have hp4 : 5 + p / 4 * 4 + p % 4 = 5 + p := by omega
  have h : At w2 gd ((dc gm F M E ln B p).set 21 (.int .i64 (((p + 1) % 16 : Nat) : Int))) 47 := HU.out.to
  rw [dc_set21 HBl.out] at h
  exact ⟨by rw [hp4]; rfl, h, ((Same.refl gd w).drewN nq).trans HU.out.same⟩

/-- are there the sectors that a command is of? -/
def inS (F M : Int) (n : Nat) : Bool := decide (1 ≤ M ∧ M ≤ 4 ∧ F + M ≤ n)
set_option maxRecDepth 100000 in
theorem in_any {gd gm gl n : Nat} {F M E : Int} {ln : Bool} {B D : List Int} {p : Nat} (w : World) (h : Dv w gd gm gl n F M E ln B p D) :
    Calls Try.prog 18 #[.pointer (some ⟨gd, 0, none⟩)] w fun e w' => e = .returned (.bool (inS F M n)) ∧ ∃ k, w' = w.drewN k := by
  have c0 : w.cell? ⟨gd, 0, none⟩ = some (.iface 24 (.pointer (some ⟨gm, 0, none⟩))) := h.dev.cell 0
  have c1 : w.cell? ⟨gd, 1, none⟩ = some (.int .u32 F) := h.dev.cell 1
  have c2 : w.cell? ⟨gd, 2, none⟩ = some (.int .u32 M) := h.dev.cell 2
  have hmm := h.mm; have hF := h.fr; have hM := h.mr; have hn := h.nl
  clear h
  by_cases h1 : 1 ≤ M
  · have d1 : decide ((1 : Int) ≤ M) = true := decide_eq_true h1
    by_cases h4 : M ≤ 4
    · have d4 : decide (M ≤ (4 : Int)) = true := decide_eq_true h4
      have hin : inS F M n = decide (F + M ≤ (n : Int)) := by unfold inS; simp [h1, h4]
      rw [hin]
      have hw1 : IntKind.u64.wrap F = F := by rw [IntKind.wrap_u64]; omega
      have hw2 : IntKind.u64.wrap M = M := by rw [IntKind.wrap_u64]; omega
      have hw3 : IntKind.u64.wrap (F + M) = F + M := by rw [IntKind.wrap_u64]; omega
      have hw4 : IntKind.u64.wrap (n : Int) = n := by rw [IntKind.wrap_u64]; omega
      have HS : Hid (∀ k, Calls Try.prog 37 #[.pointer (some ⟨gm, 0, none⟩)] (w.drewN k) fun e w' => e = .returned (.int .i64 n) ∧ ∃ m, w' = (w.drewN k).drewN m) := Lib.hid fun k => (sectors_any (gl := gl) (w.drewN k) (by obtain ⟨lf, hm⟩ := hmm; exact ⟨lf, hm.drewN k⟩)).mono (by rintro e w' ⟨rfl, rfl⟩; exact ⟨rfl, 0, rfl⟩)
      have hmS := mOf_run (P := Try.prog) (t := 24) (name := "Sectors") (f := 37) (by kernel_rfl) Try.underlying24 (.pointer (some ⟨gm, 0, none⟩))
      clear h1 h4 hin hmm
      go_enter Try.func18, Try.ntmps18
      go_wp2_with fail
      refine wp_region_quiet_lit (by kernel_rfl) (by kernel_rfl) ?_
      iterate 28 (first | ((with_reducible refine wpQuiet_step (fun K' hK' => ?_)); go_simp; (with_reducible refine hK' _ ?_); clear hK' K') | ((with_reducible refine wpQuiet_skip ?_ ?_); focus rfl))
      (with_reducible refine wpQuiet_step (fun K' hK' => ?_))
      go_simp
      apply Exists.intro
      (with_reducible refine ⟨fun nw => ?_, hK' _ ?_⟩)
      · (go_at_call 37; exact Calls.quiet_of (HS.out nw))
      clear hK' K'
      iterate 4 (first | ((with_reducible refine wpQuiet_step (fun K' hK' => ?_)); go_simp; (with_reducible refine hK' _ ?_); clear hK' K') | ((with_reducible refine wpQuiet_skip ?_ ?_); focus rfl))
      refine wpQuiet_nil ?_
      rintro w' ⟨nq, rfl⟩
      go_wp2_with fail
      go_ret
      exact ⟨rfl, _, rfl⟩
    · have d4 : decide (M ≤ (4 : Int)) = false := decide_eq_false h4
      have hin : inS F M n = false := by unfold inS; simp [h4]
      rw [hin]
      clear h1 h4 hin hmm
      go_enter Try.func18, Try.ntmps18
      go_wp2_with fail
      refine wp_region_quiet_lit (by kernel_rfl) (by kernel_rfl) ?_
      iterate 33 (first | ((with_reducible refine wpQuiet_step (fun K' hK' => ?_)); go_simp; (with_reducible refine hK' _ ?_); clear hK' K') | ((with_reducible refine wpQuiet_skip ?_ ?_); focus rfl))
      refine wpQuiet_nil ?_
      rintro w' ⟨nq, rfl⟩
      go_wp2_with fail
      go_ret
      exact ⟨rfl, _, rfl⟩
  · have d1 : decide ((1 : Int) ≤ M) = false := decide_eq_false h1
    have hin : inS F M n = false := by unfold inS; simp [h1]
    rw [hin]
    clear h1 hin hmm
    go_enter Try.func18, Try.ntmps18
    go_wp2_with fail
    refine wp_region_quiet_lit (by kernel_rfl) (by kernel_rfl) ?_
    iterate 33 (first | ((with_reducible refine wpQuiet_step (fun K' hK' => ?_)); go_simp; (with_reducible refine hK' _ ?_); clear hK' K') | ((with_reducible refine wpQuiet_skip ?_ ?_); focus rfl))
    refine wpQuiet_nil ?_
    rintro w' ⟨nq, rfl⟩
    go_wp2_with fail
    go_ret
    exact ⟨rfl, _, rfl⟩
end Go.Proofs.Ythndnammnnallaa
