/- Walks of a sector device: a command with one sector. -/
import Derived.Test.YthndnammnnallaaSecC
namespace Go.Proofs.Ythndnammnnallaa
open Go.RowKit
set_option maxHeartbeats 4000000

theorem dc_split (gm : Nat) (F M E : Int) (ln : Bool) (B : List Int) (p : Nat) : dc gm F M E ln B p = [.iface 24 (.pointer (some ⟨gm, 0, none⟩)), .int .u32 F, .int .u32 M, .int .u32 E, .bool ln] ++ (B.map uv ++ [.int .i64 p]) := rfl
theorem dc_sec {gm : Nat} {F M E : Int} {ln : Bool} {B : List Int} {p k : Nat} (h : B.length = 16) (hk : k < 4) : ((dc gm F M E ln B p).drop (5 + k * 4)).take 4 = (sec B k).map uv := by
  unfold sec
  rw [dc_split, List.drop_append, List.drop_eq_nil_of_le (by simp), List.nil_append]
  simp only [List.length_cons, List.length_nil, Nat.reduceAdd, Nat.add_sub_cancel_left]
  rw [List.drop_append, show k * 4 - (B.map uv).length = 0 by simp [h]; omega, List.drop_zero, List.take_append, show 4 - ((B.map uv).drop (k * 4)).length = 0 by simp [h]; omega, List.take_zero, List.append_nil, List.map_take, List.map_drop]
theorem dc_put {gm : Nat} {F M E : Int} {ln : Bool} {B v : List Int} {p k : Nat} (h : B.length = 16) (hk : k < 4) : (dc gm F M E ln B p).take (5 + k * 4) ++ v.map uv ++ (dc gm F M E ln B p).drop (5 + k * 4 + 4) = dc gm F M E ln (secPut B k v) p := by
  have h1 : (dc gm F M E ln B p).take (5 + k * 4) = [.iface 24 (.pointer (some ⟨gm, 0, none⟩)), .int .u32 F, .int .u32 M, .int .u32 E, .bool ln] ++ (B.take (k * 4)).map uv := by
    rw [dc_split, List.take_append, List.take_of_length_le (by simp)]
    simp only [List.length_cons, List.length_nil, Nat.reduceAdd, Nat.add_sub_cancel_left]
    rw [List.take_append, show k * 4 - (B.map uv).length = 0 by simp [h]; omega, List.take_zero, List.append_nil, List.map_take]
  have h2 : (dc gm F M E ln B p).drop (5 + k * 4 + 4) = (B.drop (k * 4 + 4)).map uv ++ [.int .i64 p] := by
    rw [dc_split, Nat.add_assoc, List.drop_append, List.drop_eq_nil_of_le (by simp), List.nil_append]
    simp only [List.length_cons, List.length_nil, Nat.reduceAdd, Nat.add_sub_cancel_left]
    rw [List.drop_append, show k * 4 + 4 - (B.map uv).length = 0 by simp [h]; omega, List.drop_zero, List.map_drop]
  rw [h1, h2, dc_split]
  unfold secPut
  simp only [List.map_append, List.append_assoc]
theorem dc_ones (gm : Nat) (F M E : Int) (ln : Bool) (B : List Int) (p : Nat) : ∀ v ∈ dc gm F M E ln B p, v.oneCell' = true := by
  intro v hv
  rw [dc_split] at hv
  rcases List.mem_append.1 hv with hv | hv
  · simp at hv
    rcases hv with rfl | rfl | rfl | rfl | rfl <;> rfl
  · rcases List.mem_append.1 hv with hv | hv
    · exact uv_ones _ v hv
    · simp at hv
      subst hv
      rfl
theorem Dv.ne {w : World} {gd gm gl n : Nat} {F M E : Int} {ln : Bool} {B D : List Int} {p : Nat} (h : Dv w gd gm gl n F M E ln B p D) : gd ≠ gm ∧ gd ≠ gl ∧ gm ≠ gl := by
  obtain ⟨lf, hm⟩ := h.mm
  exact ⟨at_ne h.dev hm (by decide), at_ne h.dev h.dsk (by decide), at_ne hm h.dsk (by decide)⟩
theorem Dv.drewN {w : World} {gd gm gl n : Nat} {F M E : Int} {ln : Bool} {B D : List Int} {p : Nat} (h : Dv w gd gm gl n F M E ln B p D) (k : Nat) : Dv (w.drewN k) gd gm gl n F M E ln B p D := by
  obtain ⟨lf, hm⟩ := h.mm
  exact ⟨h.dev.drewN k, ⟨lf, hm.drewN k⟩, h.dsk.drewN k, h.bl, h.dl, h.pl, h.nl, h.fr, h.mr⟩

/-- the buffer, and the disk, behind a command with one sector -/
def oneB (v : Int) (B D : List Int) (i k : Nat) : List Int := if v = 1 then secPut B k (sec D i) else B
def oneD (v : Int) (B D : List Int) (i k : Nat) : List Int := if v = 2 then secPut D i (sec B k) else if v = 3 then secPut D i [0, 0, 0, 0] else D

set_option maxRecDepth 100000 in
theorem one_any {gd gm gl n i k : Nat} {F M E v : Int} {ln : Bool} {B D : List Int} {p : Nat} (hv : v = 1 ∨ v = 2 ∨ v = 3) (hi : i < n) (hk : k < 4) (w : World) (h : Dv w gd gm gl n F M E ln B p D) :
    Calls Try.prog 19 #[.pointer (some ⟨gd, 0, none⟩), .int .u32 v, .int .i64 i, .pointer (some ⟨gd, 5 + k * 4, none⟩)] w fun e w' => e = .returned (.int .i64 0) ∧ Dv w' gd gm gl n F M E ln (oneB v B D i k) p (oneD v B D i k) ∧ Ch [gd, gm, gl] w w' := by
  have Hi4 : Hid ((Try.prog.info? 44).map (·.size) = some 4) := by unfold Hid; kernel_rfl
  have c0 : w.cell? ⟨gd, 0, none⟩ = some (.iface 24 (.pointer (some ⟨gm, 0, none⟩))) := h.dev.cell 0
  obtain ⟨n1, n2, n3⟩ := h.ne
  have N1 := Lib.hid n1; have N2 := Lib.hid n2; have N3 := Lib.hid n3
  have H := Lib.hid h
  clear h n1 n2 n3
  rcases hv with rfl | rfl | rfl
  · have HR := Lib.hid (mOf_run (P := Try.prog) (t := 24) (name := "Read") (f := 36) (by kernel_rfl) Try.underlying24 (.pointer (some ⟨gm, 0, none⟩)))
    have hmR := HR.out
    have HC := Lib.hid (read_any hi H.out.dl w H.out.mm H.out.dsk)
    have hls := sec_len H.out.dl hi
    have HLs := Lib.hid hls
    clear hls
    go_enter Try.func19, Try.ntmps19
    go_wp2_with (first
      | (go_at_call 36; refine HC.out.mono ?_; rintro e w2 ⟨rfl, hm2, hc2⟩; have HM2 := Lib.hid hm2; have HC2 := Lib.hid hc2; clear hm2 hc2)
      | (refine al_new rfl rfl (zero_four _) ?_; intro w3 hn3; have HN3 : Hid (New w2 w3 (.cells [.int .u32 0, .int .u32 0, .int .u32 0, .int .u32 0].toArray 44)) := Lib.hid hn3
         have HA3 : Hid (At w3 w2.heap.size [.int .u32 0, .int .u32 0, .int .u32 0, .int .u32 0] 44) := Lib.hid hn3.to; clear hn3)
      | (refine st_agg rfl rfl rfl rfl HA3.out 4 Hi4.out (by rw [List.length_map]; exact HLs.out) (Nat.le_refl 4) (uv_ones _) ?_; intro w4 hu4; have HU4 := Lib.hid hu4
         have HA4 : Hid (At w4 w2.heap.size ((sec D i).map uv) 44) := Lib.hid (by
           have h := hu4.to
           rw [List.take_zero, List.nil_append, show ([.int .u32 0, .int .u32 0, .int .u32 0, .int .u32 0] : List Value).drop (0 + 4) = [] from rfl, List.append_nil] at h
           exact h)
         have HD4 : Hid (At w4 gd (dc gm F M E ln B p) 47) := Lib.hid (by
           have h2 := HC2.out.at H.out.dev (by simp; exact N1.out)
           have h3 := HN3.out.at h2
           exact hu4.at h3 (Nat.ne_of_lt h2.lt))
         clear hu4)
      | (refine st_agg rfl rfl rfl rfl HD4.out 4 Hi4.out (by rw [List.length_map]; exact HLs.out) (by rw [dc_len H.out.bl]; omega) (uv_ones _) ?_; intro w5 hu5; have HU5 := Lib.hid hu5; clear hu5)
      | (refine ld_agg rfl rfl rfl HA4.out Try.underlying44 rfl 4 Hi4.out (by rw [List.length_map, HLs.out]; decide) ?_; rw [List.drop_zero, List.take_of_length_le (by rw [List.length_map, HLs.out]; decide)])
      | fail)
    go_ret
    have h5 := HU5.out.to
    rw [dc_put H.out.bl hk] at h5
    have hgl : At w2 gl (D.map uv) 44 := HC2.out.at H.out.dsk (by simp; exact N3.out.symm)
    have hmm : Mm w5 gm gl n := by
      obtain ⟨lf, hm⟩ := HM2.out
      exact ⟨lf, HU5.out.at (HU4.out.at (HN3.out.at hm) (Nat.ne_of_lt hm.lt)) N1.out.symm⟩
    refine ⟨rfl, ⟨by unfold oneB; rw [if_pos rfl]; exact h5, hmm, ?_, ?_, ?_, H.out.pl, H.out.nl, H.out.fr, H.out.mr⟩, ?_⟩
    · have hD : oneD 1 B D i k = D := by unfold oneD; rw [if_neg (by decide), if_neg (by decide)]
      rw [hD]
      exact HU5.out.at (HU4.out.at (HN3.out.at hgl) (Nat.ne_of_lt hgl.lt)) N2.out.symm
    · unfold oneB; rw [if_pos rfl]; exact (secPut_len (n := 4) H.out.bl hk HLs.out)
    · have hD : oneD 1 B D i k = D := by unfold oneD; rw [if_neg (by decide), if_neg (by decide)]
      rw [hD]; exact H.out.dl
    · have h4 : Ch [gd, gm, gl] w2 w4 := ⟨HU4.out.os.trans HN3.out.os, HU4.out.tape.trans HN3.out.tape, HU4.out.output.trans HN3.out.output, by rw [HU4.out.size]; have := HN3.out.size; omega, fun k hk _ => (HU4.out.other k (Nat.ne_of_lt hk)).trans (HN3.out.other k hk)⟩
      exact ((HC2.out.mono (by simp)).trans h4).trans (Ch.of_upd HU5.out (by simp))
  · have HR := Lib.hid (mOf_run (P := Try.prog) (t := 24) (name := "Write") (f := 39) (by kernel_rfl) Try.underlying24 (.pointer (some ⟨gm, 0, none⟩)))
    have hls : (sec B k).length = 4 := sec_len (n := 4) H.out.bl hk
    have HLs := Lib.hid hls
    have HC := Lib.hid fun j => write_any hi H.out.dl hls (w.drewN j) (H.out.drewN j).mm (H.out.drewN j).dsk
    have hld := at_load (P := Try.prog) H.out.dev Try.underlying44 rfl (o := 5 + k * 4) Hi4.out (by rw [dc_len H.out.bl]; omega)
    rw [dc_sec H.out.bl hk] at hld
    have HLD := Lib.hid hld
    clear hls hld
    go_enter Try.func19, Try.ntmps19
    go_wp2_with fail
    refine wp_region_tail_drew 10 (by kernel_rfl) (by kernel_rfl) ?_
    simp only [List.take_succ_cons, List.take_zero, List.drop_succ_cons, List.drop_zero]
    iterate 7 (first | ((with_reducible refine wpQuiet_step (fun K' hK' => ?_)); go_simp; (with_reducible refine hK' _ ?_); clear hK' K') | ((with_reducible refine wpQuiet_skip ?_ ?_); focus rfl))
    refine wpQuiet_ld rfl rfl rfl (by rintro w' ⟨m', rfl⟩; exact HLD.out _) ?_
    iterate 2 (first | ((with_reducible refine wpQuiet_step (fun K' hK' => ?_)); go_simp; (with_reducible refine hK' _ ?_); clear hK' K') | ((with_reducible refine wpQuiet_skip ?_ ?_); focus rfl))
    refine wpQuiet_nil ?_
    rintro w' ⟨nq, rfl⟩
    have hmW := HR.out
    go_wp2_with (first
      | (go_at_call 39; refine (HC.out nq).mono ?_; rintro e w2 ⟨rfl, hm2, ha2, hc2⟩; have HM2 := Lib.hid hm2; have HA2 := Lib.hid ha2; have HC2 := Lib.hid hc2; clear hm2 ha2 hc2)
      | fail)
    go_ret
    have hB : oneB 2 B D i k = B := by unfold oneB; rw [if_neg (by decide)]
    have hD : oneD 2 B D i k = secPut D i (sec B k) := by unfold oneD; rw [if_pos rfl]
    rw [hB, hD]
    refine ⟨rfl, ⟨HC2.out.at (H.out.dev.drewN nq) (by simp; exact ⟨N1.out, N2.out⟩), HM2.out, HA2.out, H.out.bl, secPut_len H.out.dl hi HLs.out, H.out.pl, H.out.nl, H.out.fr, H.out.mr⟩, ?_⟩
    exact ((Ch.refl _ w).drewN nq).trans (HC2.out.mono (by simp))
  · have HR := Lib.hid (mOf_run (P := Try.prog) (t := 24) (name := "Trim") (f := 38) (by kernel_rfl) Try.underlying24 (.pointer (some ⟨gm, 0, none⟩)))
    have HC := Lib.hid (trim_any hi H.out.dl w H.out.mm H.out.dsk)
    have hmT := HR.out
    go_enter Try.func19, Try.ntmps19
    go_wp2_with (first
      | (go_at_call 38; refine HC.out.mono ?_; rintro e w2 ⟨rfl, hm2, ha2, hc2⟩; have HM2 := Lib.hid hm2; have HA2 := Lib.hid ha2; have HC2 := Lib.hid hc2; clear hm2 ha2 hc2)
      | fail)
    go_ret
    have hB : oneB 3 B D i k = B := by unfold oneB; rw [if_neg (by decide)]
    have hD : oneD 3 B D i k = secPut D i [0, 0, 0, 0] := by unfold oneD; rw [if_neg (by decide), if_pos rfl]
    rw [hB, hD]
    exact ⟨rfl, ⟨HC2.out.at H.out.dev (by simp; exact ⟨N1.out, N2.out⟩), HM2.out, HA2.out, H.out.bl, secPut_len H.out.dl hi rfl, H.out.pl, H.out.nl, H.out.fr, H.out.mr⟩, HC2.out.mono (by simp)⟩
end Go.Proofs.Ythndnammnnallaa
