/- Walks of the reference's Same: the very same sectors. -/
import Derived.Test.YthndnammnnallaaSecM
import Derived.Test.YthndnammnnallaaEqs
import Derived.ChangeKeysEq
namespace Go.Proofs.Ythndnammnnallaa
open Go.RowKit
set_option maxHeartbeats 4000000

theorem eq_u32 (d : Nat) (a : Int) (w : World) : (Op.equalIn (d + 1) 31 (.int .u32 a) (.int .u32 a)).run Try.prog w = .ok true w := by
  rw [run_equalIn_int (P := Try.prog) w d _ _ _ a a Try.underlying31, beq_self_eq_true]
theorem eq_sec {l : List Int} (h : l.length = 4) (w : World) : (Op.equalIn 10000 44 (.agg (l.map uv).toArray) (.agg (l.map uv).toArray)).run Try.prog w = .ok true w := by
  match l, h with
  | [a, b, c, d], _ =>
    obtain ⟨i, hi⟩ : ∃ i, Try.prog.info? 31 = some i := by
      have h : (Try.prog.info? 31).isSome = true := by kernel_rfl
      exact Option.isSome_iff_exists.1 h
    rw [run_equalIn_array (P := Try.prog) w 9999 _ _ Try.underlying44 hi, show Try.prog.cellsOf 31 = 1 from by kernel_rfl]
    have hp : Try.prog.plainKey 31 = true := by kernel_rfl
    have p0 := run_part_plain (P := Try.prog) w hp (xs := #[.int .u32 a, .int .u32 b, .int .u32 c, .int .u32 d]) (off := 0) rfl
    have p1 := run_part_plain (P := Try.prog) w hp (xs := #[.int .u32 a, .int .u32 b, .int .u32 c, .int .u32 d]) (off := 1) rfl
    have p2 := run_part_plain (P := Try.prog) w hp (xs := #[.int .u32 a, .int .u32 b, .int .u32 c, .int .u32 d]) (off := 2) rfl
    have p3 := run_part_plain (P := Try.prog) w hp (xs := #[.int .u32 a, .int .u32 b, .int .u32 c, .int .u32 d]) (off := 3) rfl
    simp [Op.eqItems, List.range, List.range.loop, uv, p0, p1, p2, p3, eq_u32 9998]
theorem neq_sec {l : List Int} (h : l.length = 4) (w : World) : (binOp .neq 44 (.agg (l.map uv).toArray) (.agg (l.map uv).toArray)).run Try.prog w = .ok (.bool false) w := by
  rw [run_neq_struct, eq_sec h]; rfl
theorem rng_load {P : Program} {w : World} {b o n : Nat} {cs : List Value} {ty : TypeId} {d : TypeDesc} (hr : w.rangeAt b o cs) (hu : P.underlying ty = some d) (hd : d.isRow = true) (hi : (P.info? ty).map (·.size) = some n) (hn : cs.length = n) (k : Nat) :
    (loadVar ty ⟨b, o, none⟩).run P (w.drewN k) = .ok (.agg cs.toArray) (w.drewN k) :=
  run_loadVar_mid (w.drewN k) b o ty cs d (fun j v hv => hr j v hv) hu hd (by rw [hi, hn])

set_option maxRecDepth 100000 in
theorem same_any {gl b n cap : Nat} {D : List Int} (w : World) (hA : w.rangeAt gl 0 (D.map uv)) (hB : w.rangeAt b 0 (D.map uv)) (hl : D.length = 4 * n) (hn : n < 10) (hcap : n ≤ cap) :
    Calls Try.prog 7 #[.slice (some ⟨gl, 0, none⟩) n n, .slice (some ⟨b, 0, none⟩) n cap] w fun e w' => e = .returned (.bool true) ∧ ∃ m, w' = w.drewN m := by
  have Hi4 : Hid ((Try.prog.info? 44).map (·.size) = some 4) := by unfold Hid; kernel_rfl
  have HA := Lib.hid hA; have HB := Lib.hid hB; have HL := Lib.hid hl
  clear hA hB hl
  go_enter Try.func7, Try.ntmps7
  go_wp2_with fail
  go_loopw [5] (fun i wr => ∃ k m : Nat, k ≤ n ∧ i = .int .i64 k ∧ wr = w.drewN m) (fun i _ => n - (intOf i).toNat)
  case atStart => exact ⟨0, 0, by omega, rfl, rfl⟩
  case round =>
    obtain ⟨k, m, hk, rfl, rfl⟩ := hrel
    by_cases hlt : k < n
    · have hlt' : (k : Int) < (n : Int) := by omega
      have hsl := sec_len HL.out hlt
      have h1 := rng_load (P := Try.prog) (range_part HA.out (k * 4) 4) Try.underlying44 rfl Hi4.out (by rw [List.length_map]; exact hsl)
      have h2 := rng_load (P := Try.prog) (range_part HB.out (k * 4) 4) Try.underlying44 rfl Hi4.out (by rw [List.length_map]; exact hsl)
      have h1 : ∀ j, (loadVar 44 ⟨gl, k * 4, none⟩).run Try.prog (w.drewN j) = .ok (.agg ((sec D k).map uv).toArray) (w.drewN j) := h1
      have h2 : ∀ j, (loadVar 44 ⟨b, k * 4, none⟩).run Try.prog (w.drewN j) = .ok (.agg ((sec D k).map uv).toArray) (w.drewN j) := h2
      have H1 := Lib.hid h1; have H2 := Lib.hid h2
      have H3 := Lib.hid (fun w => neq_sec hsl w)
      clear h1 h2 hsl
      go_wp2_with fail
      refine wp_region_quiet_lit (by kernel_rfl) (by kernel_rfl) ?_
      iterate 3 (first | ((with_reducible refine wpQuiet_step (fun K' hK' => ?_)); go_simp; (with_reducible refine hK' _ ?_); clear hK' K') | ((with_reducible refine wpQuiet_skip ?_ ?_); focus rfl))
      refine wpQuiet_ld rfl rfl rfl (by rintro w' ⟨m', rfl⟩; rw [World.drewN_drewN]; exact H1.out _) ?_
      iterate 3 (first | ((with_reducible refine wpQuiet_step (fun K' hK' => ?_)); go_simp; (with_reducible refine hK' _ ?_); clear hK' K') | ((with_reducible refine wpQuiet_skip ?_ ?_); focus rfl))
      refine wpQuiet_ld rfl rfl rfl (by rintro w' ⟨m', rfl⟩; rw [World.drewN_drewN]; exact H2.out _) ?_
      refine wpQuiet_eqs rfl rfl rfl rfl (by kernel_rfl) H3.out ?_
      refine wpQuiet_nil ?_
      rintro w' ⟨nq, rfl⟩
      go_wp2_with fail
      exact ⟨⟨k + 1, m + nq, by omega, by go_num, rfl⟩, by simp only [intOf]; omega⟩
    · have hd : decide ((k : Int) < (n : Int)) = false := decide_eq_false (by omega)
      go_wp2_with fail
      go_ret
      exact ⟨rfl, _, rfl⟩
end Go.Proofs.Ythndnammnnallaa
