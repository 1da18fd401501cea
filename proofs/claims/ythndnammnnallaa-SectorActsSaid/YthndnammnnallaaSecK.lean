/- Walks of the reference's device: its registers. -/
import Derived.Test.YthndnammnnallaaSecJ
namespace Go.Proofs.Ythndnammnnallaa
open Go.RowKit
set_option maxHeartbeats 4000000

def lb (b : Bool) : Int := if b then 1 else 0
/-- the reference's device that has what a device has -/
def rcS (s : Sx) (sv : Value) : List Value := rc s.F s.M s.E (lb s.ln) s.B s.p sv
structure Fine (n : Nat) (s : Sx) : Prop where
  bl : s.B.length = 16
  dl : s.D.length = 4 * n
  pl : s.p < 16
  nl : n < 10
  fr : 0 ≤ s.F ∧ s.F < 4294967296
  mr : 0 ≤ s.M ∧ s.M < 4294967296
section
variable {P : Program} {w : World}
/-- the results of a function: a struct in a cell, and two slots -/
theorem res_cell_tmp2 {fn : Func} {p q q' : Tmp} {ty : TypeId} (h : fn.results = #[.cell p ty, .tmp q, .tmp q']) (tmps : Array Value) {g : Nat} {c : List Value} {t : TypeId} {d : TypeDesc}
    (hp : tmps.getD p undef = .pointer (some ⟨g, 0, none⟩)) (hg : At w g c t) (hu : P.underlying ty = some d) (hd : d.isRow = true) (n : Nat) (hi : (P.info? ty).map (·.size) = some n) (hn : c.length = n) :
    (results fn tmps).run P w = .ok (.tuple #[.agg c.toArray, tmps.getD q undef, tmps.getD q' undef]) w := by
  have hp' : tmps[p]?.getD undef = .pointer (some ⟨g, 0, none⟩) := by simpa using hp
  have := run_loadVar_row (P := P) w g t ty c.toArray (0, 0) d hg.heap hu (by cases d <;> simp_all) (by rw [hi, ← hn]; simp)
  simp [results, h, hp', asAddr, this]
end
theorem cmdS_len {F M v : Int} {n : Nat} {B D : List Int} (hB : B.length = 16) (hD : D.length = 4 * n) (hF : 0 ≤ F ∧ F < 4294967296) (hM : 0 ≤ M ∧ M < 4294967296) : (cmdS F M n v B D).1.length = 16 := by
  unfold cmdS
  split
  · exact hB
  · split
    · exact hB
    · split
      · rename_i h
        unfold inS at h
        rw [decide_eq_true_eq] at h
        exact (loopS_len (m := M.toNat) hB hD hF.1 (by omega) (by omega) _ (Nat.le_refl _)).1
      · exact hB

set_option maxRecDepth 100000 in
theorem rset_any {Bb n : Nat} {s : Sx} {reg v : Int} {sv : Value} (hv : 0 ≤ v ∧ v < 4294967296) (hf : Fine n s) (w : World) (h : Dk w Bb sv n s.D) :
    Calls Try.prog 12 #[.agg (rcS s sv).toArray, .int .i64 reg, .int .u32 v] w fun e w' => (∃ sv', e = .returned (.tuple #[.agg (rcS (setS n s reg v) sv').toArray, .int .i64 (setE reg)]) ∧ Dk w' Bb sv' n (setS n s reg v).D) ∧ Below w.heap.size w w' := by
  have Hi1 : Hid ((Try.prog.info? 3).map (·.size) = some 1) := by unfold Hid; kernel_rfl
  have Hu1 : Hid ((Try.prog.info? 31).map (·.size) = some 1) := by unfold Hid; kernel_rfl
  have Hi22 : Hid ((Try.prog.info? 34).map (·.size) = some 22) := by unfold Hid; kernel_rfl
  obtain ⟨F, M, E, ln, B, p, D⟩ := s
  obtain ⟨hB, hD, hp, hn, hF, hM⟩ := hf
  have hB : B.length = 16 := hB
  have hD : D.length = 4 * n := hD
  have hp : p < 16 := hp
  have hF : 0 ≤ F ∧ F < 4294967296 := hF
  have hM : 0 ≤ M ∧ M < 4294967296 := hM
  have h : Dk w Bb sv n D := h
  have HK := Lib.hid h; have HBl := Lib.hid hB; have HDl := Lib.hid hD
  have HF := Lib.hid hF; have HM := Lib.hid hM
  clear h hB hD hF hM
  go_enter Try.func12, Try.ntmps12
  go_wp2_with (first
    | (refine bx_new rfl (ty := 34) rfl rfl ?_; intro w1 hn1
       have HR1 : Hid (Rs w1 w.heap.size Bb n F M E (lb ln) B p sv D) := Lib.hid ⟨hn1.to, HK.out.below (hn1.below (Nat.le_refl _)), HBl.out⟩
       have HB1 := Lib.hid (hn1.below (Nat.le_refl _)); clear hn1)
    | (refine al_new rfl rfl (zero_dev _) ?_; intro w2 hn2
       have HR2 := Lib.hid (HR1.out.below (hn2.below (Nat.le_refl _)))
       have HZ2 : Hid (At w2 w1.heap.size r0 34) := Lib.hid hn2.to
       have HB2 := Lib.hid (HB1.out.trans (hn2.below HB1.out.size))
       have HN12 : Hid (w1.heap.size ≠ w.heap.size) := Lib.hid (Nat.ne_of_gt HR1.out.dev.lt)
       have HR : Hid (w.heap.size ≤ w1.heap.size) := Lib.hid HB1.out.size
       clear hn2
       refine Held.out ?_)
    | fail)
  clear HR1 HB1 HK
  obtain ⟨g, hg⟩ : ∃ g, w.heap.size = g := ⟨_, rfl⟩
  obtain ⟨r, hr⟩ : ∃ r, w1.heap.size = r := ⟨_, rfl⟩
  rw [hg] at HN12 HR2 HB2 HR
  rw [hr] at HN12 HZ2 HR
  rw [hg, hr]
  have HW := Lib.hid hg
  clear hg hr
  by_cases h0 : reg = 0
  · subst h0
    have HCL : Hid ((cmdS F M n v B D).1.length = 16) := Lib.hid (cmdS_len HBl.out HDl.out HF.out HM.out)
    refine ⟨?_⟩
    have HC := Lib.hid (rcommand_any (L := lb ln) (E := E) (p := p) hv HF.out HM.out hn HBl.out HDl.out w2 HR2.out.dk)
    go_wp2_with (first
      | ((with_reducible refine is_ld _ _ rfl ?_); refine ld_agg rfl rfl rfl HR2.out.dev Try.underlying34 rfl 22 Hi22.out (by rw [rc_len HR2.out.bl]; decide) ?_; rw [ld_all (rc_len HR2.out.bl)])
      | (go_at_call 17; refine HC.out.mono ?_; rintro e w3 ⟨⟨sv3, rfl, hk3⟩, hb3⟩
         have HZ3 := Lib.hid (HZ2.out.of_below hb3); have HB3 := Lib.hid (HB2.out.trans (hb3.mono (Nat.le_of_lt HR2.out.dev.lt)))
         have HK3 := Lib.hid hk3; clear hk3 hb3)
      | ((with_reducible refine is_st _ _ _ rfl ?_); refine st_agg rfl rfl rfl rfl HZ3.out 22 Hi22.out (rc_len HCL.out) (Nat.le_refl 22) (rc_ones HK3.out.one.2) ?_; intro w7 hu7; rw [st_all r0_len] at hu7; have HU7 := Lib.hid hu7; clear hu7)
      | fail)
    refine bodyPost_ret (res_cell_tmp (p := 6) (q := 7) (ty := 34) rfl _ rfl HU7.out.to Try.underlying34 rfl 22 Hi22.out (rc_len HCL.out)) rfl ⟨⟨sv3, ?_, ?_⟩, ?_⟩
    · rfl
    · exact HK3.out.same HZ3.out (by decide) HU7.out.same
    · have h := HB3.out.trans (HU7.out.below (HR.out))
      rwa [← HW.out] at h
  · by_cases h1 : reg = 1
    · subst h1
      refine ⟨?_⟩
      go_wp2_with (first
        | ((with_reducible refine is_st _ _ _ rfl ?_); refine st_cell (o := 0) (v := .int .u32 v) rfl rfl rfl rfl rfl HR2.out.dev Hu1.out (by rw [rc_len HBl.out]; omega) rfl ?_; intro w3 hu3
           have HR3 : Hid (Rs w3 g Bb n v M E (lb ln) B p sv D) := Lib.hid (HR2.out.upd hu3.same hu3.to HBl.out)
           have HZ3 := Lib.hid (hu3.same.at HZ2.out HN12.out)
           have HB3 := Lib.hid (HB2.out.trans (hu3.below (Nat.le_refl _))); clear hu3)
        | ((with_reducible refine is_ld _ _ rfl ?_); refine ld_agg rfl rfl rfl HR3.out.dev Try.underlying34 rfl 22 Hi22.out (by rw [rc_len HR3.out.bl]; decide) ?_; rw [ld_all (rc_len HR3.out.bl)])
        | ((with_reducible refine is_st _ _ _ rfl ?_); refine st_agg rfl rfl rfl rfl HZ3.out 22 Hi22.out (rc_len HR3.out.bl) (Nat.le_refl 22) (rc_ones HR3.out.dk.one.2) ?_; intro w7 hu7; rw [st_all r0_len] at hu7; have HU7 := Lib.hid hu7; clear hu7)
        | fail)
      refine bodyPost_ret (res_cell_tmp (p := 6) (q := 7) (ty := 34) rfl _ rfl HU7.out.to Try.underlying34 rfl 22 Hi22.out (rc_len HR3.out.bl)) rfl ⟨⟨sv, ?_, ?_⟩, ?_⟩
      · rfl
      · exact HR3.out.dk.same HZ3.out (by decide) HU7.out.same
      · have h := HB3.out.trans (HU7.out.below (HR.out))
        rwa [← HW.out] at h
    · by_cases h2 : reg = 2
      · subst h2
        refine ⟨?_⟩
        go_wp2_with (first
          | ((with_reducible refine is_st _ _ _ rfl ?_); refine st_cell (o := 1) (v := .int .u32 v) rfl rfl rfl rfl rfl HR2.out.dev Hu1.out (by rw [rc_len HBl.out]; omega) rfl ?_; intro w3 hu3
             have HR3 : Hid (Rs w3 g Bb n F v E (lb ln) B p sv D) := Lib.hid (HR2.out.upd hu3.same hu3.to HBl.out)
             have HZ3 := Lib.hid (hu3.same.at HZ2.out HN12.out)
             have HB3 := Lib.hid (HB2.out.trans (hu3.below (Nat.le_refl _))); clear hu3)
          | ((with_reducible refine is_ld _ _ rfl ?_); refine ld_agg rfl rfl rfl HR3.out.dev Try.underlying34 rfl 22 Hi22.out (by rw [rc_len HR3.out.bl]; decide) ?_; rw [ld_all (rc_len HR3.out.bl)])
          | ((with_reducible refine is_st _ _ _ rfl ?_); refine st_agg rfl rfl rfl rfl HZ3.out 22 Hi22.out (rc_len HR3.out.bl) (Nat.le_refl 22) (rc_ones HR3.out.dk.one.2) ?_; intro w7 hu7; rw [st_all r0_len] at hu7; have HU7 := Lib.hid hu7; clear hu7)
          | fail)
        refine bodyPost_ret (res_cell_tmp (p := 6) (q := 7) (ty := 34) rfl _ rfl HU7.out.to Try.underlying34 rfl 22 Hi22.out (rc_len HR3.out.bl)) rfl ⟨⟨sv, ?_, ?_⟩, ?_⟩
        · rfl
        · exact HR3.out.dk.same HZ3.out (by decide) HU7.out.same
        · have h := HB3.out.trans (HU7.out.below (HR.out))
          rwa [← HW.out] at h
      · by_cases h7 : reg = 7
        · subst h7
          refine ⟨?_⟩
          go_wp2_with (first
            | ((with_reducible refine is_st _ _ _ rfl ?_); refine st_cell (o := 3) (v := .int .u32 0) rfl rfl rfl rfl rfl HR2.out.dev Hu1.out (by rw [rc_len HBl.out]; omega) rfl ?_; intro w3 hu3
               have HR3 : Hid (Rs w3 g Bb n F M E 0 B p sv D) := Lib.hid (HR2.out.upd hu3.same hu3.to HBl.out)
               have HZ3 := Lib.hid (hu3.same.at HZ2.out HN12.out)
               have HB3 := Lib.hid (HB2.out.trans (hu3.below (Nat.le_refl _))); clear hu3)
            | ((with_reducible refine is_ld _ _ rfl ?_); refine ld_agg rfl rfl rfl HR3.out.dev Try.underlying34 rfl 22 Hi22.out (by rw [rc_len HR3.out.bl]; decide) ?_; rw [ld_all (rc_len HR3.out.bl)])
            | ((with_reducible refine is_st _ _ _ rfl ?_); refine st_agg rfl rfl rfl rfl HZ3.out 22 Hi22.out (rc_len HR3.out.bl) (Nat.le_refl 22) (rc_ones HR3.out.dk.one.2) ?_; intro w7 hu7; rw [st_all r0_len] at hu7; have HU7 := Lib.hid hu7; clear hu7)
            | fail)
          refine bodyPost_ret (res_cell_tmp (p := 6) (q := 7) (ty := 34) rfl _ rfl HU7.out.to Try.underlying34 rfl 22 Hi22.out (rc_len HR3.out.bl)) rfl ⟨⟨sv, ?_, ?_⟩, ?_⟩
          · rfl
          · exact HR3.out.dk.same HZ3.out (by decide) HU7.out.same
          · have h := HB3.out.trans (HU7.out.below (HR.out))
            rwa [← HW.out] at h
        · by_cases h5 : reg = 5
          · subst h5
            have c20 : w2.cell? ⟨g, 20, none⟩ = some (.int .i64 p) := (HR2.out.dev.cell 20).trans (rc_place HBl.out)
            have hp1 : (p : Int) < 16 := by omega
            have hp2 : IntKind.i64.wrap ((p : Int) + 1) = (p : Int) + 1 := IntWalk.i64_in _ (by omega)
            have hp3 : Int.tmod ((p : Int) + 1) 16 = (((p + 1) % 16 : Nat) : Int) := by rw [Int.tmod_eq_emod_of_nonneg (by omega)]; omega
            refine ⟨?_⟩
            go_wp2_with (first
              | ((with_reducible refine is_st _ _ _ rfl ?_); refine st_cell (o := 4 + p) (v := .int .u32 v) rfl rfl rfl rfl rfl HR2.out.dev Hu1.out (by rw [rc_len HBl.out]; omega) rfl ?_; intro w3 hu3
                 have HR3 : Hid (Rs w3 g Bb n F M E (lb ln) (B.set p v) p sv D) := Lib.hid (HR2.out.upd hu3.same (by have h := hu3.to; rw [rc_setB (by rw [HBl.out]; omega)] at h; exact h) (by rw [List.length_set]; exact HBl.out))
                 have HZ3 := Lib.hid (hu3.same.at HZ2.out HN12.out)
                 have HB3 := Lib.hid (HB2.out.trans (hu3.below (Nat.le_refl _))); clear hu3
                 have c20 : w3.cell? ⟨g, 20, none⟩ = some (.int .i64 p) := (HR3.out.dev.cell 20).trans (rc_place HR3.out.bl))
              | ((with_reducible refine is_st _ _ _ rfl ?_); refine st_cell (o := 20) (v := .int .i64 (((p + 1) % 16 : Nat) : Int)) rfl rfl rfl rfl rfl HR3.out.dev Hi1.out (by rw [rc_len HR3.out.bl]; omega) rfl ?_; intro w4 hu4
                 have HR4 : Hid (Rs w4 g Bb n F M E (lb ln) (B.set p v) ((p + 1) % 16) sv D) := Lib.hid (HR3.out.upd hu4.same (by have h := hu4.to; rw [rc_set20 HR3.out.bl] at h; exact h) HR3.out.bl)
                 have HZ4 := Lib.hid (hu4.same.at HZ3.out HN12.out)
                 have HB4 := Lib.hid (HB3.out.trans (hu4.below (Nat.le_refl _))); clear hu4)
              | ((with_reducible refine is_ld _ _ rfl ?_); refine ld_agg rfl rfl rfl HR4.out.dev Try.underlying34 rfl 22 Hi22.out (by rw [rc_len HR4.out.bl]; decide) ?_; rw [ld_all (rc_len HR4.out.bl)])
              | ((with_reducible refine is_st _ _ _ rfl ?_); refine st_agg rfl rfl rfl rfl HZ4.out 22 Hi22.out (rc_len HR4.out.bl) (Nat.le_refl 22) (rc_ones HR4.out.dk.one.2) ?_; intro w7 hu7; rw [st_all r0_len] at hu7; have HU7 := Lib.hid hu7; clear hu7)
              | fail)
            refine bodyPost_ret (res_cell_tmp (p := 6) (q := 7) (ty := 34) rfl _ rfl HU7.out.to Try.underlying34 rfl 22 Hi22.out (rc_len HR4.out.bl)) rfl ⟨⟨sv, ?_, ?_⟩, ?_⟩
            · rfl
            · exact HR4.out.dk.same HZ4.out (by decide) HU7.out.same
            · have h := HB4.out.trans (HU7.out.below (HR.out))
              rwa [← HW.out] at h
          · have hS : setS n ⟨F, M, E, ln, B, p, D⟩ reg v = ⟨F, M, E, ln, B, p, D⟩ := by unfold setS; rw [if_neg h0, if_neg h1, if_neg h2, if_neg h5, if_neg h7]
            have HS := Lib.hid hS
            have b0 : (reg == 0) = false := by rw [beq_eq_false_iff_ne]; exact h0
            have b1 : (reg == 1) = false := by rw [beq_eq_false_iff_ne]; exact h1
            have b2 : (reg == 2) = false := by rw [beq_eq_false_iff_ne]; exact h2
            have b5 : (reg == 5) = false := by rw [beq_eq_false_iff_ne]; exact h5
            have b7 : (reg == 7) = false := by rw [beq_eq_false_iff_ne]; exact h7
            have hcases : reg = 3 ∨ reg = 4 ∨ reg = 6 ∨ (reg ≠ 3 ∧ reg ≠ 4 ∧ reg ≠ 6) := by omega
            rcases hcases with rfl | rfl | rfl | ⟨h3, h4, h6⟩
            · refine ⟨?_⟩
              go_wp2_with (first
                | ((with_reducible refine is_ld _ _ rfl ?_); refine ld_agg rfl rfl rfl HR2.out.dev Try.underlying34 rfl 22 Hi22.out (by rw [rc_len HR2.out.bl]; decide) ?_; rw [ld_all (rc_len HR2.out.bl)])
                | ((with_reducible refine is_st _ _ _ rfl ?_); refine st_agg rfl rfl rfl rfl HZ2.out 22 Hi22.out (rc_len HR2.out.bl) (Nat.le_refl 22) (rc_ones HR2.out.dk.one.2) ?_; intro w7 hu7; rw [st_all r0_len] at hu7; have HU7 := Lib.hid hu7; clear hu7)
                | fail)
              refine bodyPost_ret (res_cell_tmp (p := 6) (q := 7) (ty := 34) rfl _ rfl HU7.out.to Try.underlying34 rfl 22 Hi22.out (rc_len HR2.out.bl)) rfl ⟨⟨sv, ?_, ?_⟩, ?_⟩
              · rfl
              · exact HR2.out.dk.same HZ2.out (by decide) HU7.out.same
              · have h := HB2.out.trans (HU7.out.below (HR.out))
                rwa [← HW.out] at h
            · refine ⟨?_⟩
              go_wp2_with (first
                | ((with_reducible refine is_ld _ _ rfl ?_); refine ld_agg rfl rfl rfl HR2.out.dev Try.underlying34 rfl 22 Hi22.out (by rw [rc_len HR2.out.bl]; decide) ?_; rw [ld_all (rc_len HR2.out.bl)])
                | ((with_reducible refine is_st _ _ _ rfl ?_); refine st_agg rfl rfl rfl rfl HZ2.out 22 Hi22.out (rc_len HR2.out.bl) (Nat.le_refl 22) (rc_ones HR2.out.dk.one.2) ?_; intro w7 hu7; rw [st_all r0_len] at hu7; have HU7 := Lib.hid hu7; clear hu7)
                | fail)
              refine bodyPost_ret (res_cell_tmp (p := 6) (q := 7) (ty := 34) rfl _ rfl HU7.out.to Try.underlying34 rfl 22 Hi22.out (rc_len HR2.out.bl)) rfl ⟨⟨sv, ?_, ?_⟩, ?_⟩
              · rfl
              · exact HR2.out.dk.same HZ2.out (by decide) HU7.out.same
              · have h := HB2.out.trans (HU7.out.below (HR.out))
                rwa [← HW.out] at h
            · refine ⟨?_⟩
              go_wp2_with (first
                | ((with_reducible refine is_ld _ _ rfl ?_); refine ld_agg rfl rfl rfl HR2.out.dev Try.underlying34 rfl 22 Hi22.out (by rw [rc_len HR2.out.bl]; decide) ?_; rw [ld_all (rc_len HR2.out.bl)])
                | ((with_reducible refine is_st _ _ _ rfl ?_); refine st_agg rfl rfl rfl rfl HZ2.out 22 Hi22.out (rc_len HR2.out.bl) (Nat.le_refl 22) (rc_ones HR2.out.dk.one.2) ?_; intro w7 hu7; rw [st_all r0_len] at hu7; have HU7 := Lib.hid hu7; clear hu7)
                | fail)
              refine bodyPost_ret (res_cell_tmp (p := 6) (q := 7) (ty := 34) rfl _ rfl HU7.out.to Try.underlying34 rfl 22 Hi22.out (rc_len HR2.out.bl)) rfl ⟨⟨sv, ?_, ?_⟩, ?_⟩
              · rfl
              · exact HR2.out.dk.same HZ2.out (by decide) HU7.out.same
              · have h := HB2.out.trans (HU7.out.below (HR.out))
                rwa [← HW.out] at h
            · have b3 : (reg == 3) = false := by rw [beq_eq_false_iff_ne]; exact h3
              have b4 : (reg == 4) = false := by rw [beq_eq_false_iff_ne]; exact h4
              have b6 : (reg == 6) = false := by rw [beq_eq_false_iff_ne]; exact h6
              have hE : setE reg = 3 := by unfold setE; rw [if_neg (by omega)]
              have HE := Lib.hid hE
              clear h0 h1 h2 h3 h4 h5 h6 h7 hS hE
              refine ⟨?_⟩
              go_wp2_with (first
                | ((with_reducible refine is_ld _ _ rfl ?_); refine ld_agg rfl rfl rfl HR2.out.dev Try.underlying34 rfl 22 Hi22.out (by rw [rc_len HR2.out.bl]; decide) ?_; rw [ld_all (rc_len HR2.out.bl)])
                | ((with_reducible refine is_st _ _ _ rfl ?_); refine st_agg rfl rfl rfl rfl HZ2.out 22 Hi22.out (rc_len HR2.out.bl) (Nat.le_refl 22) (rc_ones HR2.out.dk.one.2) ?_; intro w7 hu7; rw [st_all r0_len] at hu7; have HU7 := Lib.hid hu7; clear hu7)
                | fail)
              refine bodyPost_ret (res_cell_tmp (p := 6) (q := 7) (ty := 34) rfl _ rfl HU7.out.to Try.underlying34 rfl 22 Hi22.out (rc_len HR2.out.bl)) rfl ⟨⟨sv, ?_, ?_⟩, ?_⟩
              · rw [HS.out, HE.out]; rfl
              · rw [HS.out]; exact HR2.out.dk.same HZ2.out (by decide) HU7.out.same
              · have h := HB2.out.trans (HU7.out.below (HR.out))
                rwa [← HW.out] at h
end Go.Proofs.Ythndnammnnallaa
