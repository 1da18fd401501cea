/- Walks of the memory below a sector device: Read, Write, Trim. -/
import Derived.Test.YthndnammnnallaaSecA
import Derived.Test.YthndnammnnallaaQuiets
import Derived.Deep.RegionHeld3
namespace Go.Proofs.Ythndnammnnallaa
open Go.RowKit
set_option maxHeartbeats 4000000

theorem zero_four (w : World) : (zeroValue 44).run Try.prog w = .ok (.agg #[.int .u32 0, .int .u32 0, .int .u32 0, .int .u32 0]) w := by
  have h : (Try.prog.info? 44).bind (·.zero) = some (.agg #[.int .u32 0, .int .u32 0, .int .u32 0, .int .u32 0]) := by kernel_rfl
  unfold zeroValue typeInfo
  cases hq : Try.prog.info? 44 with
  | none => rw [hq] at h; cases h
  | some i =>
    rw [hq] at h
    simp only [Option.bind_some] at h
    simp [hq, h]
/-- a sector -/
def sec (D : List Int) (i : Nat) : List Int := (D.drop (i * 4)).take 4
theorem sec_len {D : List Int} {n i : Nat} (h : D.length = 4 * n) (hi : i < n) : (sec D i).length = 4 := by unfold sec; rw [List.length_take, List.length_drop]; omega
theorem uv_ones (l : List Int) : ∀ u ∈ l.map uv, u.oneCell' = true := by
  intro u hu
  obtain ⟨x, -, rfl⟩ := List.mem_map.1 hu
  rfl
theorem sec_map (D : List Int) (i : Nat) : (((D.map uv).drop (i * 4)).take 4) = (sec D i).map uv := by unfold sec; rw [List.map_take, List.map_drop]

set_option maxRecDepth 100000 in
theorem read_any {gm gl n i : Nat} {D : List Int} (hi : i < n) (hD : D.length = 4 * n) (w : World) (h : Mm w gm gl n) (hA : At w gl (D.map uv) 44) :
    Calls Try.prog 36 #[.pointer (some ⟨gm, 0, none⟩), .int .i64 i] w fun e w' => e = .returned (.tuple #[.agg ((sec D i).map uv).toArray, .int .i64 0]) ∧ Mm w' gm gl n ∧ Ch [gm] w w' := by
  have Hi4 : Hid ((Try.prog.info? 44).map (·.size) = some 4) := by unfold Hid; kernel_rfl
  have HM := Lib.hid h; have HD := Lib.hid hA; have HDl := Lib.hid hD
  have hi1 : (i : Int) < (n : Int) := by omega
  have hi2 : decide ((n : Int) ≤ (i : Int)) = false := by rw [decide_eq_false_iff_not]; omega
  have hls := sec_len hD hi
  have HLs := Lib.hid hls
  have hgm : gm ≠ gl := by obtain ⟨lf, hm⟩ := h; exact at_ne hm hA (by decide)
  have HGM := Lib.hid hgm
  clear h hA hD hls hgm
  go_enter Try.func36, Try.ntmps36
  go_wp2_with (first
    | (refine al_new rfl rfl (zero_four _) ?_; intro w2 hn2; have HN2 : Hid (New w w2 (.cells [.int .u32 0, .int .u32 0, .int .u32 0, .int .u32 0].toArray 44)) := Lib.hid hn2
       have HM2 : Hid (Mm w2 gm gl n) := Lib.hid (by obtain ⟨lf, hm⟩ := HM.out; exact ⟨lf, hn2.at hm⟩)
       have HD2 := Lib.hid (hn2.at HD.out); clear hn2)
    | (go_at_call 40; refine (fails_any _ HM2.out).mono ?_; rintro e w3 ⟨rfl, hm3, hs3⟩; have HM3 := Lib.hid hm3
       have HD3 := Lib.hid (hs3.at HD2.out HGM.out.symm)
       have HA3 : Hid (At w3 w.heap.size [.int .u32 0, .int .u32 0, .int .u32 0, .int .u32 0] 44) := Lib.hid (hs3.at HN2.out.to (by have := HN2.out.size; obtain ⟨lf, hm⟩ := HM.out; have := hm.lt; omega))
       have HC3 : Hid (Ch [gm] w w3) := Lib.hid ((Ch.of_below (HN2.out.below (Nat.le_refl _))).trans ⟨hs3.os, hs3.tape, hs3.output, Nat.le_of_eq hs3.size.symm, fun k _ hk => hs3.other k (by simpa using hk)⟩)
       have e0 : w3.cell? ⟨gm, 0, none⟩ = some (.slice (some ⟨gl, 0, none⟩) n n) := by obtain ⟨lf, hm⟩ := hm3; exact hm.cell 0
       clear hm3 hs3)
    | (refine ld_agg rfl rfl rfl HD3.out Try.underlying44 rfl 4 Hi4.out (by rw [List.length_map, HDl.out]; omega) ?_; rw [sec_map])
    | (refine st_agg rfl rfl rfl rfl HA3.out 4 Hi4.out (by rw [List.length_map]; exact HLs.out) (Nat.le_refl 4) (uv_ones _) ?_; intro w4 hu4; have HU4 := Lib.hid hu4; clear hu4)
    | fail)
  have hA4 : At w4 w.heap.size ((sec D i).map uv) 44 := by
    have h := HU4.out.to
    rw [List.take_zero, List.nil_append, show ([.int .u32 0, .int .u32 0, .int .u32 0, .int .u32 0] : List Value).drop (0 + 4) = [] from rfl, List.append_nil] at h
    exact h
  have hs := HN2.out.size
  refine bodyPost_ret (v := .tuple #[.agg ((sec D i).map uv).toArray, .int .i64 0]) ?_ rfl ⟨rfl, ?_, ?_⟩
  · exact res_cell_tmp (p := 4) (q := 5) (ty := 44) rfl _ rfl hA4 Try.underlying44 rfl 4 Hi4.out (by rw [List.length_map]; exact HLs.out)
  · obtain ⟨lf, hm⟩ := HM3.out
    exact ⟨lf, HU4.out.at hm (at_ne hm HA3.out (by decide))⟩
  · exact ⟨HU4.out.os.trans HC3.out.os, HU4.out.tape.trans HC3.out.tape, HU4.out.output.trans HC3.out.output, by rw [HU4.out.size]; exact HC3.out.size, fun k hk hs' => (HU4.out.other k (by omega)).trans (HC3.out.other k hk hs')⟩

/-- other sectors' words, one being something else -/
def secPut (D : List Int) (i : Nat) (v : List Int) : List Int := D.take (i * 4) ++ v ++ D.drop (i * 4 + 4)
theorem secPut_len {D v : List Int} {n i : Nat} (h : D.length = 4 * n) (hi : i < n) (hv : v.length = 4) : (secPut D i v).length = 4 * n := by unfold secPut; simp only [List.length_append, List.length_take, List.length_drop]; omega
theorem secPut_map (D v : List Int) (i : Nat) : (D.map uv).take (i * 4) ++ v.map uv ++ (D.map uv).drop (i * 4 + 4) = (secPut D i v).map uv := by unfold secPut; simp only [List.map_append, List.map_take, List.map_drop]
theorem at_load {P : Program} {w : World} {g o n : Nat} {c : List Value} {t ty : TypeId} {d : TypeDesc} (hA : At w g c t) (hu : P.underlying ty = some d) (hd : d.isRow = true) (hi : (P.info? ty).map (·.size) = some n) (hn : o + n ≤ c.length) (k : Nat) :
    (loadVar ty ⟨g, o, none⟩).run P (w.drewN k) = .ok (.agg ((c.drop o).take n).toArray) (w.drewN k) :=
  run_loadVar_mid (w.drewN k) g o ty ((c.drop o).take n) d (fun j v hv => by
    have hj : j < n := by have := (List.getElem?_eq_some_iff.1 hv).1; simp only [List.length_take, List.length_drop] at this; omega
    rw [List.getElem?_take, if_pos hj, List.getElem?_drop] at hv
    rw [(hA.drewN k).cell]; exact hv) hu hd (by rw [hi]; simp; omega)

set_option maxRecDepth 100000 in
theorem write_any {gm gl n i : Nat} {D v : List Int} (hi : i < n) (hD : D.length = 4 * n) (hv : v.length = 4) (w : World) (h : Mm w gm gl n) (hA : At w gl (D.map uv) 44) :
    Calls Try.prog 39 #[.pointer (some ⟨gm, 0, none⟩), .int .i64 i, .agg (v.map uv).toArray] w fun e w' => e = .returned (.int .i64 0) ∧ Mm w' gm gl n ∧ At w' gl ((secPut D i v).map uv) 44 ∧ Ch [gm, gl] w w' := by
  have Hi4 : Hid ((Try.prog.info? 44).map (·.size) = some 4) := by unfold Hid; kernel_rfl
  have HM := Lib.hid h; have HD := Lib.hid hA; have HDl := Lib.hid hD; have HVl := Lib.hid hv
  have hi1 : (i : Int) < (n : Int) := by omega
  have hi2 : decide ((n : Int) ≤ (i : Int)) = false := by rw [decide_eq_false_iff_not]; omega
  have hgm : gm ≠ gl := by obtain ⟨lf, hm⟩ := h; exact at_ne hm hA (by decide)
  have HGM := Lib.hid hgm
  clear h hA hD hgm hv
  go_enter Try.func39, Try.ntmps39
  go_wp2_with (first
    | (refine bx_new rfl (ty := 44) rfl rfl ?_; intro w2 hn2; have HN2 : Hid (New w w2 (.cells (v.map uv).toArray 44)) := Lib.hid hn2
       have HM2 : Hid (Mm w2 gm gl n) := Lib.hid (by obtain ⟨lf, hm⟩ := HM.out; exact ⟨lf, hn2.at hm⟩)
       have HD2 := Lib.hid (hn2.at HD.out); clear hn2)
    | (go_at_call 40; refine (fails_any _ HM2.out).mono ?_; rintro e w3 ⟨rfl, hm3, hs3⟩; have HM3 := Lib.hid hm3
       have HD3 := Lib.hid (hs3.at HD2.out HGM.out.symm)
       have HA3 : Hid (At w3 w.heap.size (v.map uv) 44) := Lib.hid (hs3.at HN2.out.to (by have := HN2.out.size; obtain ⟨lf, hm⟩ := HM.out; have := hm.lt; omega))
       have HC3 : Hid (Ch [gm] w w3) := Lib.hid ((Ch.of_below (HN2.out.below (Nat.le_refl _))).trans ⟨hs3.os, hs3.tape, hs3.output, Nat.le_of_eq hs3.size.symm, fun k _ hk => hs3.other k (by simpa using hk)⟩)
       have e0 : w3.cell? ⟨gm, 0, none⟩ = some (.slice (some ⟨gl, 0, none⟩) n n) := by obtain ⟨lf, hm⟩ := hm3; exact hm.cell 0
       clear hm3 hs3)
    | fail)
  have hld := at_load (P := Try.prog) HA3.out Try.underlying44 rfl (o := 0) Hi4.out (by rw [List.length_map, HVl.out]; decide)
  rw [List.drop_zero, List.take_of_length_le (by rw [List.length_map, HVl.out]; decide)] at hld
  have HLD := Lib.hid hld
  clear hld
  refine wp_region_tail_drew 7 (by kernel_rfl) (by kernel_rfl) ?_
  simp only [List.take_succ_cons, List.take_zero, List.drop_succ_cons, List.drop_zero]
  iterate 5 (first | ((with_reducible refine wpQuiet_step (fun K' hK' => ?_)); go_simp; (with_reducible refine hK' _ ?_); clear hK' K') | ((with_reducible refine wpQuiet_skip ?_ ?_); focus rfl))
  refine wpQuiet_ld rfl rfl rfl (by rintro w' ⟨m', rfl⟩; exact HLD.out _) ?_
  iterate 1 (first | ((with_reducible refine wpQuiet_step (fun K' hK' => ?_)); go_simp; (with_reducible refine hK' _ ?_); clear hK' K') | ((with_reducible refine wpQuiet_skip ?_ ?_); focus rfl))
  refine wpQuiet_nil ?_
  rintro w' ⟨nq, rfl⟩
  have HD4 := Lib.hid (HD3.out.drewN nq)
  have HM4 : Hid (Mm (w3.drewN nq) gm gl n) := Lib.hid (by obtain ⟨lf, hm⟩ := HM3.out; exact ⟨lf, hm.drewN nq⟩)
  have HC4 := Lib.hid (HC3.out.drewN nq)
  go_wp2_with (first
    | (refine st_agg rfl rfl rfl rfl HD4.out 4 Hi4.out (by rw [List.length_map]; exact HVl.out) (by rw [List.length_map, HDl.out]; omega) (uv_ones _) ?_; intro w4 hu4; have HU4 := Lib.hid hu4; clear hu4)
    | fail)
  go_ret
  have hA4 : At w4 gl ((secPut D i v).map uv) 44 := by
    have h := HU4.out.to
    rw [secPut_map] at h
    exact h
  refine ⟨rfl, ?_, hA4, ?_⟩
  · obtain ⟨lf, hm⟩ := HM4.out
    exact ⟨lf, HU4.out.at hm HGM.out⟩
  · exact (HC4.out.mono (by simp)).trans (Ch.of_upd HU4.out (by simp))
set_option maxRecDepth 100000 in
theorem trim_any {gm gl n i : Nat} {D : List Int} (hi : i < n) (hD : D.length = 4 * n) (w : World) (h : Mm w gm gl n) (hA : At w gl (D.map uv) 44) :
    Calls Try.prog 38 #[.pointer (some ⟨gm, 0, none⟩), .int .i64 i] w fun e w' => e = .returned (.int .i64 0) ∧ Mm w' gm gl n ∧ At w' gl ((secPut D i [0, 0, 0, 0]).map uv) 44 ∧ Ch [gm, gl] w w' := by
  have HW := Lib.hid (write_any (v := [0, 0, 0, 0]) hi hD rfl w h hA)
  clear h hA hD
  go_enter Try.func38, Try.ntmps38
  go_wp2_with (first
    | (refine bd_run rfl rfl rfl (cells := #[.int .u32 0, .int .u32 0, .int .u32 0, .int .u32 0]) (by kernel_rfl) ?_)
    | (go_at_call 39; refine HW.out.mono ?_; rintro e w3 ⟨rfl, hm3, ha3, hc3⟩; have HM3 := Lib.hid hm3; have HA3 := Lib.hid ha3; have HC3 := Lib.hid hc3; clear hm3 ha3 hc3)
    | fail)
  go_ret
  exact ⟨rfl, HM3.out, HA3.out, HC3.out⟩
end Go.Proofs.Ythndnammnnallaa
