/- Walks of the reference's device: what its registers tell. -/
import Derived.Test.YthndnammnnallaaSecK
namespace Go.Proofs.Ythndnammnnallaa
open Go.RowKit
set_option maxHeartbeats 4000000

theorem st_run {P : Program} {w : World} {g n : Nat} {c cs : List Value} {t ty : TypeId} (hA : At w g c t) (hi : (P.info? ty).map (·.size) = some n) (hcs : cs.length = n) (hc : c.length = n) (h1 : ∀ v ∈ cs, v.oneCell' = true) : ∃ W, (storeVar ty ⟨g, 0, none⟩ (.agg cs.toArray)).run P w = .ok () W ∧ Upd w W g (.cells cs.toArray t) := by
  subst hcs
  refine ⟨_, run_storeVar_mid w g 0 ty cs.toArray ?_ (by rw [hi]; simp) (all_oneCell_toArray h1), ?_⟩
  · intro j hj
    rw [hA.cell, hA.frozen]
    have : j < cs.length := by simpa using hj
    exact ⟨by rw [List.getElem?_eq_getElem (by omega)]; rfl, rfl⟩
  · have h := setCells_at g t cs 0 w c hA (by omega)
    rw [Nat.zero_add, List.take_zero, List.nil_append, List.drop_eq_nil_of_le (by omega), List.append_nil] at h
    exact h
theorem wp_ld_run {P : Program} {op : Oper} {a : Act} {w : World} {K : Act → World → Prop} {Q : Exit → Act → World → Prop} {ty : TypeId} {x : Operand} (ho : op.op = .load ty x) {p : Addr} (hx : a.eval x = .pointer (some p)) {v : Value} (hr : (loadVar ty p).run P w = .ok v w) (h : K (a.put op.dst v) w) : op.wp P a w K Q := by
  unfold Oper.wp execOp
  simp only [ho, hx, Instr.loadAt, Instr.sureAddr, Sem.run_bind, Sem.run_pure, Result.andThen_ok, hr]
  exact h
theorem wp_st_run {P : Program} {op : Oper} {a : Act} {w W : World} {K : Act → World → Prop} {Q : Exit → Act → World → Prop} {ty : TypeId} {x y : Operand} (ho : op.op = .store ty x y) {p : Addr} (hx : a.eval x = .pointer (some p)) {v : Value} (hy : a.eval y = v) (hr : (storeVar ty p v).run P w = .ok () W) (h : K (a.put op.dst undef) W) : op.wp P a w K Q := by
  unfold Oper.wp execOp
  simp only [ho, hx, hy, Instr.storeAt, Instr.sureAddr, Sem.run_bind, Sem.run_pure, Result.andThen_ok, hr]
  exact h
theorem ld_run {P : Program} {w : World} {g n : Nat} {c : List Value} {t ty : TypeId} {d : TypeDesc} (hA : At w g c t) (hu : P.underlying ty = some d) (hd : d.isRow = true) (hi : (P.info? ty).map (·.size) = some n) (hc : c.length = n) : (loadVar ty ⟨g, 0, none⟩).run P w = .ok (.agg c.toArray) w := by
  have h := at_load (P := P) hA hu hd (o := 0) hi (by omega) 0
  rw [ld_all hc] at h
  exact h

set_option maxRecDepth 100000 in
theorem rget_any {Bb n : Nat} {s : Sx} {reg : Int} {sv : Value} (hf : Fine n s) (w : World) (h : Dk w Bb sv n s.D) :
    Calls Try.prog 11 #[.agg (rcS s sv).toArray, .int .i64 reg] w fun e w' => (∃ sv', e = .returned (.tuple #[.agg (rcS (getS s reg) sv').toArray, .int .u32 (getV n s reg), .int .i64 (setE reg)]) ∧ Dk w' Bb sv' n (getS s reg).D) ∧ Below w.heap.size w w' := by
  have Hi1 : Hid ((Try.prog.info? 3).map (·.size) = some 1) := by unfold Hid; kernel_rfl
  have Hu1 : Hid ((Try.prog.info? 31).map (·.size) = some 1) := by unfold Hid; kernel_rfl
  have Hi22 : Hid ((Try.prog.info? 34).map (·.size) = some 22) := by unfold Hid; kernel_rfl
  obtain ⟨F, M, E, ln, B, p, D⟩ := s
  obtain ⟨hB, hD, hp, hn, hF, hM⟩ := hf
  have hB : B.length = 16 := hB
  have hD : D.length = 4 * n := hD
  have hp : p < 16 := hp
  have hF : 0 ≤ F ∧ F < 4294967296 := hF
  have hM : 0 ≤ M ∧ M < 4294967296 := hM
  have h : Dk w Bb sv n D := h
  have HK := Lib.hid h; have HBl := Lib.hid hB; have HDl := Lib.hid hD
  have HF := Lib.hid hF; have HM := Lib.hid hM
  clear h hB hD hF hM
  go_enter Try.func11, Try.ntmps11
  go_wp2_with (first
    | (refine bx_new rfl (ty := 34) rfl rfl ?_; intro w1 hn1
       have HR1 : Hid (Rs w1 w.heap.size Bb n F M E (lb ln) B p sv D) := Lib.hid ⟨hn1.to, HK.out.below (hn1.below (Nat.le_refl _)), HBl.out⟩
       have HB1 := Lib.hid (hn1.below (Nat.le_refl _)); clear hn1)
    | (refine al_new rfl rfl (zero_dev _) ?_; intro w2 hn2
       have HR2 := Lib.hid (HR1.out.below (hn2.below (Nat.le_refl _)))
       have HZ2 : Hid (At w2 w1.heap.size r0 34) := Lib.hid hn2.to
       have HB2 := Lib.hid (HB1.out.trans (hn2.below HB1.out.size))
       have HN12 : Hid (w1.heap.size ≠ w.heap.size) := Lib.hid (Nat.ne_of_gt HR1.out.dev.lt)
       have HR : Hid (w.heap.size ≤ w1.heap.size) := Lib.hid HB1.out.size
       clear hn2
       refine Held.out ?_)
    | fail)
  clear HR1 HB1 HK
  obtain ⟨g, hg⟩ : ∃ g, w.heap.size = g := ⟨_, rfl⟩
  obtain ⟨r, hr⟩ : ∃ r, w1.heap.size = r := ⟨_, rfl⟩
  rw [hg] at HN12 HR2 HB2 HR
  rw [hr] at HN12 HZ2 HR
  rw [hg, hr]
  have HW := Lib.hid hg
  clear hg hr
  by_cases h5 : reg = 5
  · subst h5
    have c20 : w2.cell? ⟨g, 20, none⟩ = some (.int .i64 p) := (HR2.out.dev.cell 20).trans (rc_place HBl.out)
    have hp1 : (p : Int) < 16 := by omega
    have hp2 : IntKind.i64.wrap ((p : Int) + 1) = (p : Int) + 1 := IntWalk.i64_in _ (by omega)
    have hp3 : Int.tmod ((p : Int) + 1) 16 = (((p + 1) % 16 : Nat) : Int) := by rw [Int.tmod_eq_emod_of_nonneg (by omega)]; omega
    obtain ⟨bp, hbp⟩ : ∃ x, B[p]?.getD 0 = x := ⟨_, rfl⟩
    have e5 : w2.cell? ⟨g, 4 + p, none⟩ = some (.int .u32 bp) := (HR2.out.dev.cell _).trans (by rw [← hbp]; exact rc_buf (by rw [HBl.out]; exact hp))
    have HBP : Hid (getV n ⟨F, M, E, ln, B, p, D⟩ 5 = bp) := Lib.hid hbp
    clear hbp
    refine ⟨?_⟩
    go_wp2_with (first
      | ((with_reducible refine is_st _ _ _ rfl ?_); refine st_cell (o := 20) (v := .int .i64 (((p + 1) % 16 : Nat) : Int)) rfl rfl rfl rfl rfl HR2.out.dev Hi1.out (by rw [rc_len HBl.out]; omega) rfl ?_; intro w3 hu3
         have HR3 : Hid (Rs w3 g Bb n F M E (lb ln) B ((p + 1) % 16) sv D) := Lib.hid (HR2.out.upd hu3.same (by have h := hu3.to; rw [rc_set20 HBl.out] at h; exact h) HBl.out)
         have HZ3 := Lib.hid (hu3.same.at HZ2.out HN12.out)
         have HB3 := Lib.hid (HB2.out.trans (hu3.below (Nat.le_refl _))); clear hu3)
      | ((with_reducible refine is_ld _ _ rfl ?_); refine ld_agg rfl rfl rfl HR3.out.dev Try.underlying34 rfl 22 Hi22.out (by rw [rc_len HR3.out.bl]; decide) ?_; rw [ld_all (rc_len HR3.out.bl)])
      | ((with_reducible refine is_st _ _ _ rfl ?_); refine st_agg rfl rfl rfl rfl HZ3.out 22 Hi22.out (rc_len HR3.out.bl) (Nat.le_refl 22) (rc_ones HR3.out.dk.one.2) ?_; intro w7 hu7; rw [st_all r0_len] at hu7; have HU7 := Lib.hid hu7; clear hu7)
      | fail)
    refine bodyPost_ret (res_cell_tmp2 (p := 4) (q := 5) (q' := 6) (ty := 34) rfl _ rfl HU7.out.to Try.underlying34 rfl 22 Hi22.out (rc_len HR3.out.bl)) rfl ⟨⟨sv, ?_, ?_⟩, ?_⟩
    · rw [HBP.out]; rfl
    · exact HR3.out.dk.same HZ3.out (by decide) HU7.out.same
    · have h := HB3.out.trans (HU7.out.below (HR.out))
      rwa [← HW.out] at h
  · have hG : getS ⟨F, M, E, ln, B, p, D⟩ reg = ⟨F, M, E, ln, B, p, D⟩ := by unfold getS; rw [if_neg h5]
    have HG := Lib.hid hG
    clear hG
    have b5 : (reg == 5) = false := by rw [beq_eq_false_iff_ne]; exact h5
    have hcases : reg = 0 ∨ reg = 1 ∨ reg = 2 ∨ reg = 3 ∨ reg = 4 ∨ reg = 6 ∨ reg = 7 ∨ (reg ≠ 0 ∧ reg ≠ 1 ∧ reg ≠ 2 ∧ reg ≠ 3 ∧ reg ≠ 4 ∧ reg ≠ 6 ∧ reg ≠ 7) := by omega
    rcases hcases with rfl | rfl | rfl | rfl | rfl | rfl | rfl | ⟨h0, h1, h2, h3, h4, h6, h7⟩
    · refine ⟨?_⟩
      go_wp2_with (first
        | ((with_reducible refine is_ld _ _ rfl ?_); refine ld_agg rfl rfl rfl HR2.out.dev Try.underlying34 rfl 22 Hi22.out (by rw [rc_len HR2.out.bl]; decide) ?_; rw [ld_all (rc_len HR2.out.bl)])
        | ((with_reducible refine is_st _ _ _ rfl ?_); refine st_agg rfl rfl rfl rfl HZ2.out 22 Hi22.out (rc_len HR2.out.bl) (Nat.le_refl 22) (rc_ones HR2.out.dk.one.2) ?_; intro w7 hu7; rw [st_all r0_len] at hu7; have HU7 := Lib.hid hu7; clear hu7)
        | fail)
      refine bodyPost_ret (res_cell_tmp2 (p := 4) (q := 5) (q' := 6) (ty := 34) rfl _ rfl HU7.out.to Try.underlying34 rfl 22 Hi22.out (rc_len HR2.out.bl)) rfl ⟨⟨sv, ?_, ?_⟩, ?_⟩
      · rfl
      · exact HR2.out.dk.same HZ2.out (by decide) HU7.out.same
      · have h := HB2.out.trans (HU7.out.below (HR.out))
        rwa [← HW.out] at h
    · refine ⟨?_⟩
      have e0 : w2.cell? ⟨g, 0, none⟩ = some (.int .u32 F) := HR2.out.dev.cell 0
      obtain ⟨W1, hW1, hU1⟩ := st_run (P := Try.prog) (ty := 34) (cs := rc F M E (lb ln) B p (sv)) HZ2.out.drew Hi22.out (rc_len HBl.out) r0_len (rc_ones HR2.out.dk.one.2)
      have hL1 := ld_run (P := Try.prog) (ty := 34) HR2.out.dev.drew Try.underlying34 rfl Hi22.out (rc_len HBl.out)
      have hg1 := hU1.at HR2.out.dev.drew HN12.out.symm
      have f0 : W1.cell? ⟨g, 0, none⟩ = some (.int .u32 F) := hg1.cell 0
      clear hg1
      have hdk : Dk w2.drew Bb (sv) n D := HR2.out.dk.below ⟨rfl, rfl, rfl, Nat.le_refl _, fun _ _ => rfl⟩
      have HDW := Lib.hid (hdk.same HZ2.out.drew (by decide) hU1.same)
      clear hdk
      have HU1 := Lib.hid hU1; have HL1 := Lib.hid hL1; have HW1 := Lib.hid hW1
      clear hU1 hL1 hW1
      go_wp2_with fail
      refine wp_region_any (by kernel_rfl) ?_
      (try (change wpAny _ _ _ _ _ _ _ (World.drew _)))
      refine wpAny_take (i := 1) (v := .pointer (some ⟨g, 0, none⟩)) rfl (by kernel_rfl) (by kernel_rfl) (by kernel_rfl) (fun _ _ _ h => h) (Or.inl ⟨by rfl, ?_⟩) ?_
      · (intro w; go_simp)
      simp only [Act.put, List.setIfInBounds_toArray, List.set_cons_zero, List.set_cons_succ]
      refine wpAny_ready (rs := [0, 2]) (by kernel_rfl) (by simp) ?_
      refine AllReady.cons rfl (fun K hK => ?_) ?_
      · rw [if_pos (by rfl)]
        refine wp_ld_run rfl rfl (HL1.out) ?_
        simp only [Act.put, List.setIfInBounds_toArray, List.set_cons_zero, List.set_cons_succ]
        refine hK _ _ ?_
        clear hK K
        refine wpAny_ready (rs := [2, 3]) (by kernel_rfl) (by simp) ?_
        refine AllReady.cons rfl (fun K hK => ?_) ?_
        · go_simp
          refine hK _ _ ?_
          clear hK K
          refine wpAny_ready (rs := [3]) (by kernel_rfl) (by simp) ?_
          refine AllReady.cons rfl (fun K hK => ?_) ?_
          · rw [if_pos (by rfl)]
            refine wp_st_run rfl rfl rfl (HW1.out) ?_
            simp only [Act.put, List.setIfInBounds_toArray, List.set_cons_zero, List.set_cons_succ]
            refine hK _ _ ?_
            clear hK K
            refine wpAny_ready (rs := [4]) (by kernel_rfl) (by simp) ?_
            refine AllReady.cons rfl (fun K hK => ?_) ?_
            · go_simp
              refine hK _ _ ?_
              clear hK K
              refine wpAny_ready (rs := [5]) (by kernel_rfl) (by simp) ?_
              refine AllReady.cons rfl (fun K hK => ?_) ?_
              · go_simp
                refine hK _ _ ?_
                clear hK K
                refine wpAny_done (by kernel_rfl) ?_ _
                go_wp2_with fail
                refine bodyPost_ret (res_cell_tmp2 (p := 4) (q := 5) (q' := 6) (ty := 34) rfl _ rfl HU1.out.to Try.underlying34 rfl 22 Hi22.out (rc_len HBl.out)) rfl ⟨⟨sv, ?_, ?_⟩, ?_⟩
                · rfl
                · exact HDW.out
                · have h := HB2.out.trans ((Below.refl g w2).drew.trans (HU1.out.below (HR.out)))
                  rwa [← HW.out] at h
              exact AllReady.nil
            exact AllReady.nil
          exact AllReady.nil
        refine AllReady.cons rfl (fun K hK => ?_) ?_
        · rw [if_pos (by rfl)]
          refine wp_st_run rfl rfl rfl (HW1.out) ?_
          simp only [Act.put, List.setIfInBounds_toArray, List.set_cons_zero, List.set_cons_succ]
          refine hK _ _ ?_
          clear hK K
          refine wpAny_ready (rs := [2]) (by kernel_rfl) (by simp) ?_
          refine AllReady.cons rfl (fun K hK => ?_) ?_
          · go_simp
            refine hK _ _ ?_
            clear hK K
            refine wpAny_ready (rs := [4]) (by kernel_rfl) (by simp) ?_
            refine AllReady.cons rfl (fun K hK => ?_) ?_
            · go_simp
              refine hK _ _ ?_
              clear hK K
              refine wpAny_ready (rs := [5]) (by kernel_rfl) (by simp) ?_
              refine AllReady.cons rfl (fun K hK => ?_) ?_
              · go_simp
                refine hK _ _ ?_
                clear hK K
                refine wpAny_done (by kernel_rfl) ?_ _
                go_wp2_with fail
                refine bodyPost_ret (res_cell_tmp2 (p := 4) (q := 5) (q' := 6) (ty := 34) rfl _ rfl HU1.out.to Try.underlying34 rfl 22 Hi22.out (rc_len HBl.out)) rfl ⟨⟨sv, ?_, ?_⟩, ?_⟩
                · rfl
                · exact HDW.out
                · have h := HB2.out.trans ((Below.refl g w2).drew.trans (HU1.out.below (HR.out)))
                  rwa [← HW.out] at h
              exact AllReady.nil
            exact AllReady.nil
          exact AllReady.nil
        exact AllReady.nil
      refine AllReady.cons rfl (fun K hK => ?_) ?_
      · go_simp
        refine hK _ _ ?_
        clear hK K
        refine wpAny_ready (rs := [0]) (by kernel_rfl) (by simp) ?_
        refine AllReady.cons rfl (fun K hK => ?_) ?_
        · rw [if_pos (by rfl)]
          refine wp_ld_run rfl rfl (HL1.out) ?_
          simp only [Act.put, List.setIfInBounds_toArray, List.set_cons_zero, List.set_cons_succ]
          refine hK _ _ ?_
          clear hK K
          refine wpAny_ready (rs := [3]) (by kernel_rfl) (by simp) ?_
          refine AllReady.cons rfl (fun K hK => ?_) ?_
          · rw [if_pos (by rfl)]
            refine wp_st_run rfl rfl rfl (HW1.out) ?_
            simp only [Act.put, List.setIfInBounds_toArray, List.set_cons_zero, List.set_cons_succ]
            refine hK _ _ ?_
            clear hK K
            refine wpAny_ready (rs := [4]) (by kernel_rfl) (by simp) ?_
            refine AllReady.cons rfl (fun K hK => ?_) ?_
            · go_simp
              refine hK _ _ ?_
              clear hK K
              refine wpAny_ready (rs := [5]) (by kernel_rfl) (by simp) ?_
              refine AllReady.cons rfl (fun K hK => ?_) ?_
              · go_simp
                refine hK _ _ ?_
                clear hK K
                refine wpAny_done (by kernel_rfl) ?_ _
                go_wp2_with fail
                refine bodyPost_ret (res_cell_tmp2 (p := 4) (q := 5) (q' := 6) (ty := 34) rfl _ rfl HU1.out.to Try.underlying34 rfl 22 Hi22.out (rc_len HBl.out)) rfl ⟨⟨sv, ?_, ?_⟩, ?_⟩
                · rfl
                · exact HDW.out
                · have h := HB2.out.trans ((Below.refl g w2).drew.trans (HU1.out.below (HR.out)))
                  rwa [← HW.out] at h
              exact AllReady.nil
            exact AllReady.nil
          exact AllReady.nil
        exact AllReady.nil
      exact AllReady.nil
    · refine ⟨?_⟩
      have e1 : w2.cell? ⟨g, 1, none⟩ = some (.int .u32 M) := HR2.out.dev.cell 1
      obtain ⟨W1, hW1, hU1⟩ := st_run (P := Try.prog) (ty := 34) (cs := rc F M E (lb ln) B p (sv)) HZ2.out.drew Hi22.out (rc_len HBl.out) r0_len (rc_ones HR2.out.dk.one.2)
      have hL1 := ld_run (P := Try.prog) (ty := 34) HR2.out.dev.drew Try.underlying34 rfl Hi22.out (rc_len HBl.out)
      have hg1 := hU1.at HR2.out.dev.drew HN12.out.symm
      have f1 : W1.cell? ⟨g, 1, none⟩ = some (.int .u32 M) := hg1.cell 1
      clear hg1
      have hdk : Dk w2.drew Bb (sv) n D := HR2.out.dk.below ⟨rfl, rfl, rfl, Nat.le_refl _, fun _ _ => rfl⟩
      have HDW := Lib.hid (hdk.same HZ2.out.drew (by decide) hU1.same)
      clear hdk
      have HU1 := Lib.hid hU1; have HL1 := Lib.hid hL1; have HW1 := Lib.hid hW1
      clear hU1 hL1 hW1
      go_wp2_with fail
      refine wp_region_any (by kernel_rfl) ?_
      (try (change wpAny _ _ _ _ _ _ _ (World.drew _)))
      refine wpAny_take (i := 1) (v := .pointer (some ⟨g, 1, none⟩)) rfl (by kernel_rfl) (by kernel_rfl) (by kernel_rfl) (fun _ _ _ h => h) (Or.inl ⟨by rfl, ?_⟩) ?_
      · (intro w; go_simp)
      simp only [Act.put, List.setIfInBounds_toArray, List.set_cons_zero, List.set_cons_succ]
      refine wpAny_ready (rs := [0, 2]) (by kernel_rfl) (by simp) ?_
      refine AllReady.cons rfl (fun K hK => ?_) ?_
      · rw [if_pos (by rfl)]
        refine wp_ld_run rfl rfl (HL1.out) ?_
        simp only [Act.put, List.setIfInBounds_toArray, List.set_cons_zero, List.set_cons_succ]
        refine hK _ _ ?_
        clear hK K
        refine wpAny_ready (rs := [2, 3]) (by kernel_rfl) (by simp) ?_
        refine AllReady.cons rfl (fun K hK => ?_) ?_
        · go_simp
          refine hK _ _ ?_
          clear hK K
          refine wpAny_ready (rs := [3]) (by kernel_rfl) (by simp) ?_
          refine AllReady.cons rfl (fun K hK => ?_) ?_
          · rw [if_pos (by rfl)]
            refine wp_st_run rfl rfl rfl (HW1.out) ?_
            simp only [Act.put, List.setIfInBounds_toArray, List.set_cons_zero, List.set_cons_succ]
            refine hK _ _ ?_
            clear hK K
            refine wpAny_ready (rs := [4]) (by kernel_rfl) (by simp) ?_
            refine AllReady.cons rfl (fun K hK => ?_) ?_
            · go_simp
              refine hK _ _ ?_
              clear hK K
              refine wpAny_ready (rs := [5]) (by kernel_rfl) (by simp) ?_
              refine AllReady.cons rfl (fun K hK => ?_) ?_
              · go_simp
                refine hK _ _ ?_
                clear hK K
                refine wpAny_done (by kernel_rfl) ?_ _
                go_wp2_with fail
                refine bodyPost_ret (res_cell_tmp2 (p := 4) (q := 5) (q' := 6) (ty := 34) rfl _ rfl HU1.out.to Try.underlying34 rfl 22 Hi22.out (rc_len HBl.out)) rfl ⟨⟨sv, ?_, ?_⟩, ?_⟩
                · rfl
                · exact HDW.out
                · have h := HB2.out.trans ((Below.refl g w2).drew.trans (HU1.out.below (HR.out)))
                  rwa [← HW.out] at h
              exact AllReady.nil
            exact AllReady.nil
          exact AllReady.nil
        refine AllReady.cons rfl (fun K hK => ?_) ?_
        · rw [if_pos (by rfl)]
          refine wp_st_run rfl rfl rfl (HW1.out) ?_
          simp only [Act.put, List.setIfInBounds_toArray, List.set_cons_zero, List.set_cons_succ]
          refine hK _ _ ?_
          clear hK K
          refine wpAny_ready (rs := [2]) (by kernel_rfl) (by simp) ?_
          refine AllReady.cons rfl (fun K hK => ?_) ?_
          · go_simp
            refine hK _ _ ?_
            clear hK K
            refine wpAny_ready (rs := [4]) (by kernel_rfl) (by simp) ?_
            refine AllReady.cons rfl (fun K hK => ?_) ?_
            · go_simp
              refine hK _ _ ?_
              clear hK K
              refine wpAny_ready (rs := [5]) (by kernel_rfl) (by simp) ?_
              refine AllReady.cons rfl (fun K hK => ?_) ?_
              · go_simp
                refine hK _ _ ?_
                clear hK K
                refine wpAny_done (by kernel_rfl) ?_ _
                go_wp2_with fail
                refine bodyPost_ret (res_cell_tmp2 (p := 4) (q := 5) (q' := 6) (ty := 34) rfl _ rfl HU1.out.to Try.underlying34 rfl 22 Hi22.out (rc_len HBl.out)) rfl ⟨⟨sv, ?_, ?_⟩, ?_⟩
                · rfl
                · exact HDW.out
                · have h := HB2.out.trans ((Below.refl g w2).drew.trans (HU1.out.below (HR.out)))
                  rwa [← HW.out] at h
              exact AllReady.nil
            exact AllReady.nil
          exact AllReady.nil
        exact AllReady.nil
      refine AllReady.cons rfl (fun K hK => ?_) ?_
      · go_simp
        refine hK _ _ ?_
        clear hK K
        refine wpAny_ready (rs := [0]) (by kernel_rfl) (by simp) ?_
        refine AllReady.cons rfl (fun K hK => ?_) ?_
        · rw [if_pos (by rfl)]
          refine wp_ld_run rfl rfl (HL1.out) ?_
          simp only [Act.put, List.setIfInBounds_toArray, List.set_cons_zero, List.set_cons_succ]
          refine hK _ _ ?_
          clear hK K
          refine wpAny_ready (rs := [3]) (by kernel_rfl) (by simp) ?_
          refine AllReady.cons rfl (fun K hK => ?_) ?_
          · rw [if_pos (by rfl)]
            refine wp_st_run rfl rfl rfl (HW1.out) ?_
            simp only [Act.put, List.setIfInBounds_toArray, List.set_cons_zero, List.set_cons_succ]
            refine hK _ _ ?_
            clear hK K
            refine wpAny_ready (rs := [4]) (by kernel_rfl) (by simp) ?_
            refine AllReady.cons rfl (fun K hK => ?_) ?_
            · go_simp
              refine hK _ _ ?_
              clear hK K
              refine wpAny_ready (rs := [5]) (by kernel_rfl) (by simp) ?_
              refine AllReady.cons rfl (fun K hK => ?_) ?_
              · go_simp
                refine hK _ _ ?_
                clear hK K
                refine wpAny_done (by kernel_rfl) ?_ _
                go_wp2_with fail
                refine bodyPost_ret (res_cell_tmp2 (p := 4) (q := 5) (q' := 6) (ty := 34) rfl _ rfl HU1.out.to Try.underlying34 rfl 22 Hi22.out (rc_len HBl.out)) rfl ⟨⟨sv, ?_, ?_⟩, ?_⟩
                · rfl
                · exact HDW.out
                · have h := HB2.out.trans ((Below.refl g w2).drew.trans (HU1.out.below (HR.out)))
                  rwa [← HW.out] at h
              exact AllReady.nil
            exact AllReady.nil
          exact AllReady.nil
        exact AllReady.nil
      exact AllReady.nil
    · by_cases hE : E = 0
      · have hbE : (E != 0) = false := by rw [bne_eq_false_iff_eq]; exact hE
        have hV : getV n ⟨F, M, E, ln, B, p, D⟩ 3 = 1 := by show (if E = 0 then (1 : Int) else 3) = 1; rw [if_pos hE]
        have HV := Lib.hid hV
        clear hE hV
        have e2 : w2.cell? ⟨g, 2, none⟩ = some (.int .u32 E) := HR2.out.dev.cell 2
        refine ⟨?_⟩
        go_wp2_with (first
          | ((with_reducible refine is_ld _ _ rfl ?_); refine ld_agg rfl rfl rfl HR2.out.dev Try.underlying34 rfl 22 Hi22.out (by rw [rc_len HR2.out.bl]; decide) ?_; rw [ld_all (rc_len HR2.out.bl)])
          | ((with_reducible refine is_st _ _ _ rfl ?_); refine st_agg rfl rfl rfl rfl HZ2.out 22 Hi22.out (rc_len HR2.out.bl) (Nat.le_refl 22) (rc_ones HR2.out.dk.one.2) ?_; intro w7 hu7; rw [st_all r0_len] at hu7; have HU7 := Lib.hid hu7; clear hu7)
          | fail)
        refine bodyPost_ret (res_cell_tmp2 (p := 4) (q := 5) (q' := 6) (ty := 34) rfl _ rfl HU7.out.to Try.underlying34 rfl 22 Hi22.out (rc_len HR2.out.bl)) rfl ⟨⟨sv, ?_, ?_⟩, ?_⟩
        · rw [HV.out]; rfl
        · exact HR2.out.dk.same HZ2.out (by decide) HU7.out.same
        · have h := HB2.out.trans (HU7.out.below (HR.out))
          rwa [← HW.out] at h
      · have hbE : (E != 0) = true := by rw [bne_iff_ne]; exact hE
        have hV : getV n ⟨F, M, E, ln, B, p, D⟩ 3 = 3 := by show (if E = 0 then (1 : Int) else 3) = 3; rw [if_neg hE]
        have HV := Lib.hid hV
        clear hE hV
        have e2 : w2.cell? ⟨g, 2, none⟩ = some (.int .u32 E) := HR2.out.dev.cell 2
        refine ⟨?_⟩
        go_wp2_with (first
          | ((with_reducible refine is_ld _ _ rfl ?_); refine ld_agg rfl rfl rfl HR2.out.dev Try.underlying34 rfl 22 Hi22.out (by rw [rc_len HR2.out.bl]; decide) ?_; rw [ld_all (rc_len HR2.out.bl)])
          | ((with_reducible refine is_st _ _ _ rfl ?_); refine st_agg rfl rfl rfl rfl HZ2.out 22 Hi22.out (rc_len HR2.out.bl) (Nat.le_refl 22) (rc_ones HR2.out.dk.one.2) ?_; intro w7 hu7; rw [st_all r0_len] at hu7; have HU7 := Lib.hid hu7; clear hu7)
          | fail)
        refine bodyPost_ret (res_cell_tmp2 (p := 4) (q := 5) (q' := 6) (ty := 34) rfl _ rfl HU7.out.to Try.underlying34 rfl 22 Hi22.out (rc_len HR2.out.bl)) rfl ⟨⟨sv, ?_, ?_⟩, ?_⟩
        · rw [HV.out]; rfl
        · exact HR2.out.dk.same HZ2.out (by decide) HU7.out.same
        · have h := HB2.out.trans (HU7.out.below (HR.out))
          rwa [← HW.out] at h
    · refine ⟨?_⟩
      have e2 : w2.cell? ⟨g, 2, none⟩ = some (.int .u32 E) := HR2.out.dev.cell 2
      obtain ⟨W1, hW1, hU1⟩ := st_run (P := Try.prog) (ty := 34) (cs := rc F M E (lb ln) B p (sv)) HZ2.out.drew Hi22.out (rc_len HBl.out) r0_len (rc_ones HR2.out.dk.one.2)
      have hL1 := ld_run (P := Try.prog) (ty := 34) HR2.out.dev.drew Try.underlying34 rfl Hi22.out (rc_len HBl.out)
      have hg1 := hU1.at HR2.out.dev.drew HN12.out.symm
      have f2 : W1.cell? ⟨g, 2, none⟩ = some (.int .u32 E) := hg1.cell 2
      clear hg1
      have hdk : Dk w2.drew Bb (sv) n D := HR2.out.dk.below ⟨rfl, rfl, rfl, Nat.le_refl _, fun _ _ => rfl⟩
      have HDW := Lib.hid (hdk.same HZ2.out.drew (by decide) hU1.same)
      clear hdk
      have HU1 := Lib.hid hU1; have HL1 := Lib.hid hL1; have HW1 := Lib.hid hW1
      clear hU1 hL1 hW1
      go_wp2_with fail
      refine wp_region_any (by kernel_rfl) ?_
      (try (change wpAny _ _ _ _ _ _ _ (World.drew _)))
      refine wpAny_take (i := 1) (v := .pointer (some ⟨g, 2, none⟩)) rfl (by kernel_rfl) (by kernel_rfl) (by kernel_rfl) (fun _ _ _ h => h) (Or.inl ⟨by rfl, ?_⟩) ?_
      · (intro w; go_simp)
      simp only [Act.put, List.setIfInBounds_toArray, List.set_cons_zero, List.set_cons_succ]
      refine wpAny_ready (rs := [0, 2]) (by kernel_rfl) (by simp) ?_
      refine AllReady.cons rfl (fun K hK => ?_) ?_
      · rw [if_pos (by rfl)]
        refine wp_ld_run rfl rfl (HL1.out) ?_
        simp only [Act.put, List.setIfInBounds_toArray, List.set_cons_zero, List.set_cons_succ]
        refine hK _ _ ?_
        clear hK K
        refine wpAny_ready (rs := [2, 3]) (by kernel_rfl) (by simp) ?_
        refine AllReady.cons rfl (fun K hK => ?_) ?_
        · go_simp
          refine hK _ _ ?_
          clear hK K
          refine wpAny_ready (rs := [3]) (by kernel_rfl) (by simp) ?_
          refine AllReady.cons rfl (fun K hK => ?_) ?_
          · rw [if_pos (by rfl)]
            refine wp_st_run rfl rfl rfl (HW1.out) ?_
            simp only [Act.put, List.setIfInBounds_toArray, List.set_cons_zero, List.set_cons_succ]
            refine hK _ _ ?_
            clear hK K
            refine wpAny_ready (rs := [4]) (by kernel_rfl) (by simp) ?_
            refine AllReady.cons rfl (fun K hK => ?_) ?_
            · go_simp
              refine hK _ _ ?_
              clear hK K
              refine wpAny_ready (rs := [5]) (by kernel_rfl) (by simp) ?_
              refine AllReady.cons rfl (fun K hK => ?_) ?_
              · go_simp
                refine hK _ _ ?_
                clear hK K
                refine wpAny_done (by kernel_rfl) ?_ _
                go_wp2_with fail
                refine bodyPost_ret (res_cell_tmp2 (p := 4) (q := 5) (q' := 6) (ty := 34) rfl _ rfl HU1.out.to Try.underlying34 rfl 22 Hi22.out (rc_len HBl.out)) rfl ⟨⟨sv, ?_, ?_⟩, ?_⟩
                · rfl
                · exact HDW.out
                · have h := HB2.out.trans ((Below.refl g w2).drew.trans (HU1.out.below (HR.out)))
                  rwa [← HW.out] at h
              exact AllReady.nil
            exact AllReady.nil
          exact AllReady.nil
        refine AllReady.cons rfl (fun K hK => ?_) ?_
        · rw [if_pos (by rfl)]
          refine wp_st_run rfl rfl rfl (HW1.out) ?_
          simp only [Act.put, List.setIfInBounds_toArray, List.set_cons_zero, List.set_cons_succ]
          refine hK _ _ ?_
          clear hK K
          refine wpAny_ready (rs := [2]) (by kernel_rfl) (by simp) ?_
          refine AllReady.cons rfl (fun K hK => ?_) ?_
          · go_simp
            refine hK _ _ ?_
            clear hK K
            refine wpAny_ready (rs := [4]) (by kernel_rfl) (by simp) ?_
            refine AllReady.cons rfl (fun K hK => ?_) ?_
            · go_simp
              refine hK _ _ ?_
              clear hK K
              refine wpAny_ready (rs := [5]) (by kernel_rfl) (by simp) ?_
              refine AllReady.cons rfl (fun K hK => ?_) ?_
              · go_simp
                refine hK _ _ ?_
                clear hK K
                refine wpAny_done (by kernel_rfl) ?_ _
                go_wp2_with fail
                refine bodyPost_ret (res_cell_tmp2 (p := 4) (q := 5) (q' := 6) (ty := 34) rfl _ rfl HU1.out.to Try.underlying34 rfl 22 Hi22.out (rc_len HBl.out)) rfl ⟨⟨sv, ?_, ?_⟩, ?_⟩
                · rfl
                · exact HDW.out
                · have h := HB2.out.trans ((Below.refl g w2).drew.trans (HU1.out.below (HR.out)))
                  rwa [← HW.out] at h
              exact AllReady.nil
            exact AllReady.nil
          exact AllReady.nil
        exact AllReady.nil
      refine AllReady.cons rfl (fun K hK => ?_) ?_
      · go_simp
        refine hK _ _ ?_
        clear hK K
        refine wpAny_ready (rs := [0]) (by kernel_rfl) (by simp) ?_
        refine AllReady.cons rfl (fun K hK => ?_) ?_
        · rw [if_pos (by rfl)]
          refine wp_ld_run rfl rfl (HL1.out) ?_
          simp only [Act.put, List.setIfInBounds_toArray, List.set_cons_zero, List.set_cons_succ]
          refine hK _ _ ?_
          clear hK K
          refine wpAny_ready (rs := [3]) (by kernel_rfl) (by simp) ?_
          refine AllReady.cons rfl (fun K hK => ?_) ?_
          · rw [if_pos (by rfl)]
            refine wp_st_run rfl rfl rfl (HW1.out) ?_
            simp only [Act.put, List.setIfInBounds_toArray, List.set_cons_zero, List.set_cons_succ]
            refine hK _ _ ?_
            clear hK K
            refine wpAny_ready (rs := [4]) (by kernel_rfl) (by simp) ?_
            refine AllReady.cons rfl (fun K hK => ?_) ?_
            · go_simp
              refine hK _ _ ?_
              clear hK K
              refine wpAny_ready (rs := [5]) (by kernel_rfl) (by simp) ?_
              refine AllReady.cons rfl (fun K hK => ?_) ?_
              · go_simp
                refine hK _ _ ?_
                clear hK K
                refine wpAny_done (by kernel_rfl) ?_ _
                go_wp2_with fail
                refine bodyPost_ret (res_cell_tmp2 (p := 4) (q := 5) (q' := 6) (ty := 34) rfl _ rfl HU1.out.to Try.underlying34 rfl 22 Hi22.out (rc_len HBl.out)) rfl ⟨⟨sv, ?_, ?_⟩, ?_⟩
                · rfl
                · exact HDW.out
                · have h := HB2.out.trans ((Below.refl g w2).drew.trans (HU1.out.below (HR.out)))
                  rwa [← HW.out] at h
              exact AllReady.nil
            exact AllReady.nil
          exact AllReady.nil
        exact AllReady.nil
      exact AllReady.nil
    · refine ⟨?_⟩
      obtain ⟨b, cap, hsv, hcap1, hcap2, hbB, hbA, hbR⟩ := HR2.out.dk
      subst hsv
      have c21 : w2.cell? ⟨g, 21, none⟩ = some (.slice (some ⟨b, 0, none⟩) n cap) := (HR2.out.dev.cell 21).trans (rc_disk HBl.out)
      clear hcap1 hcap2 hbB hbA hbR
      have hw1 : (n : Int) % 4294967296 = n := by omega
      have hw2 : IntKind.u32.wrap (n : Int) = n := by rw [IntKind.wrap_u32]; omega
      obtain ⟨W1, hW1, hU1⟩ := st_run (P := Try.prog) (ty := 34) (cs := rc F M E (lb ln) B p (.slice (some ⟨b, 0, none⟩) n cap)) HZ2.out.drew Hi22.out (rc_len HBl.out) r0_len (rc_ones HR2.out.dk.one.2)
      have hL1 := ld_run (P := Try.prog) (ty := 34) HR2.out.dev.drew Try.underlying34 rfl Hi22.out (rc_len HBl.out)
      have hg1 := hU1.at HR2.out.dev.drew HN12.out.symm
      have f21 : W1.cell? ⟨g, 21, none⟩ = some (.slice (some ⟨b, 0, none⟩) n cap) := (hg1.cell 21).trans (rc_disk HBl.out)
      clear hg1
      have hdk : Dk w2.drew Bb (.slice (some ⟨b, 0, none⟩) n cap) n D := HR2.out.dk.below ⟨rfl, rfl, rfl, Nat.le_refl _, fun _ _ => rfl⟩
      have HDW := Lib.hid (hdk.same HZ2.out.drew (by decide) hU1.same)
      clear hdk
      have HU1 := Lib.hid hU1; have HL1 := Lib.hid hL1; have HW1 := Lib.hid hW1
      clear hU1 hL1 hW1
      go_wp2_with fail
      refine wp_region_any (by kernel_rfl) ?_
      (try (change wpAny _ _ _ _ _ _ _ (World.drew _)))
      refine wpAny_take (i := 1) (v := .pointer (some ⟨g, 21, none⟩)) rfl (by kernel_rfl) (by kernel_rfl) (by kernel_rfl) (fun _ _ _ h => h) (Or.inl ⟨by rfl, ?_⟩) ?_
      · (intro w; go_simp)
      simp only [Act.put, List.setIfInBounds_toArray, List.set_cons_zero, List.set_cons_succ]
      refine wpAny_ready (rs := [0, 2]) (by kernel_rfl) (by simp) ?_
      refine AllReady.cons rfl (fun K hK => ?_) ?_
      · rw [if_pos (by rfl)]
        refine wp_ld_run rfl rfl (HL1.out) ?_
        simp only [Act.put, List.setIfInBounds_toArray, List.set_cons_zero, List.set_cons_succ]
        refine hK _ _ ?_
        clear hK K
        refine wpAny_ready (rs := [2, 5]) (by kernel_rfl) (by simp) ?_
        refine AllReady.cons rfl (fun K hK => ?_) ?_
        · go_simp
          refine hK _ _ ?_
          clear hK K
          refine wpAny_ready (rs := [3, 5]) (by kernel_rfl) (by simp) ?_
          refine AllReady.cons rfl (fun K hK => ?_) ?_
          · go_simp
            refine hK _ _ ?_
            clear hK K
            refine wpAny_take (i := 4) (v := .int .u32 n) rfl (by kernel_rfl) (by kernel_rfl) (by kernel_rfl) (fun _ _ _ h => h) (Or.inl ⟨by rfl, ?_⟩) ?_
            · (intro w; go_simp)
            simp only [Act.put, List.setIfInBounds_toArray, List.set_cons_zero, List.set_cons_succ]
            refine wpAny_ready (rs := [5]) (by kernel_rfl) (by simp) ?_
            refine AllReady.cons rfl (fun K hK => ?_) ?_
            · rw [if_pos (by rfl)]
              refine wp_st_run rfl rfl rfl (HW1.out) ?_
              simp only [Act.put, List.setIfInBounds_toArray, List.set_cons_zero, List.set_cons_succ]
              refine hK _ _ ?_
              clear hK K
              refine wpAny_ready (rs := [6]) (by kernel_rfl) (by simp) ?_
              refine AllReady.cons rfl (fun K hK => ?_) ?_
              · go_simp
                refine hK _ _ ?_
                clear hK K
                refine wpAny_ready (rs := [7]) (by kernel_rfl) (by simp) ?_
                refine AllReady.cons rfl (fun K hK => ?_) ?_
                · go_simp
                  refine hK _ _ ?_
                  clear hK K
                  refine wpAny_done (by kernel_rfl) ?_ _
                  go_wp2_with fail
                  refine bodyPost_ret (res_cell_tmp2 (p := 4) (q := 5) (q' := 6) (ty := 34) rfl _ rfl HU1.out.to Try.underlying34 rfl 22 Hi22.out (rc_len HBl.out)) rfl ⟨⟨.slice (some ⟨b, 0, none⟩) n cap, ?_, ?_⟩, ?_⟩
                  · rfl
                  · exact HDW.out
                  · have h := HB2.out.trans ((Below.refl g w2).drew.trans (HU1.out.below (HR.out)))
                    rwa [← HW.out] at h
                exact AllReady.nil
              exact AllReady.nil
            exact AllReady.nil
          refine AllReady.cons rfl (fun K hK => ?_) ?_
          · rw [if_pos (by rfl)]
            refine wp_st_run rfl rfl rfl (HW1.out) ?_
            simp only [Act.put, List.setIfInBounds_toArray, List.set_cons_zero, List.set_cons_succ]
            refine hK _ _ ?_
            clear hK K
            refine wpAny_ready (rs := [3]) (by kernel_rfl) (by simp) ?_
            refine AllReady.cons rfl (fun K hK => ?_) ?_
            · go_simp
              refine hK _ _ ?_
              clear hK K
              refine wpAny_take (i := 4) (v := .int .u32 n) rfl (by kernel_rfl) (by kernel_rfl) (by kernel_rfl) (fun _ _ _ h => h) (Or.inl ⟨by rfl, ?_⟩) ?_
              · (intro w; go_simp)
              simp only [Act.put, List.setIfInBounds_toArray, List.set_cons_zero, List.set_cons_succ]
              refine wpAny_ready (rs := [6]) (by kernel_rfl) (by simp) ?_
              refine AllReady.cons rfl (fun K hK => ?_) ?_
              · go_simp
                refine hK _ _ ?_
                clear hK K
                refine wpAny_ready (rs := [7]) (by kernel_rfl) (by simp) ?_
                refine AllReady.cons rfl (fun K hK => ?_) ?_
                · go_simp
                  refine hK _ _ ?_
                  clear hK K
                  refine wpAny_done (by kernel_rfl) ?_ _
                  go_wp2_with fail
                  refine bodyPost_ret (res_cell_tmp2 (p := 4) (q := 5) (q' := 6) (ty := 34) rfl _ rfl HU1.out.to Try.underlying34 rfl 22 Hi22.out (rc_len HBl.out)) rfl ⟨⟨.slice (some ⟨b, 0, none⟩) n cap, ?_, ?_⟩, ?_⟩
                  · rfl
                  · exact HDW.out
                  · have h := HB2.out.trans ((Below.refl g w2).drew.trans (HU1.out.below (HR.out)))
                    rwa [← HW.out] at h
                exact AllReady.nil
              exact AllReady.nil
            exact AllReady.nil
          exact AllReady.nil
        refine AllReady.cons rfl (fun K hK => ?_) ?_
        · rw [if_pos (by rfl)]
          refine wp_st_run rfl rfl rfl (HW1.out) ?_
          simp only [Act.put, List.setIfInBounds_toArray, List.set_cons_zero, List.set_cons_succ]
          refine hK _ _ ?_
          clear hK K
          refine wpAny_ready (rs := [2]) (by kernel_rfl) (by simp) ?_
          refine AllReady.cons rfl (fun K hK => ?_) ?_
          · go_simp
            refine hK _ _ ?_
            clear hK K
            refine wpAny_ready (rs := [3]) (by kernel_rfl) (by simp) ?_
            refine AllReady.cons rfl (fun K hK => ?_) ?_
            · go_simp
              refine hK _ _ ?_
              clear hK K
              refine wpAny_take (i := 4) (v := .int .u32 n) rfl (by kernel_rfl) (by kernel_rfl) (by kernel_rfl) (fun _ _ _ h => h) (Or.inl ⟨by rfl, ?_⟩) ?_
              · (intro w; go_simp)
              simp only [Act.put, List.setIfInBounds_toArray, List.set_cons_zero, List.set_cons_succ]
              refine wpAny_ready (rs := [6]) (by kernel_rfl) (by simp) ?_
              refine AllReady.cons rfl (fun K hK => ?_) ?_
              · go_simp
                refine hK _ _ ?_
                clear hK K
                refine wpAny_ready (rs := [7]) (by kernel_rfl) (by simp) ?_
                refine AllReady.cons rfl (fun K hK => ?_) ?_
                · go_simp
                  refine hK _ _ ?_
                  clear hK K
                  refine wpAny_done (by kernel_rfl) ?_ _
                  go_wp2_with fail
                  refine bodyPost_ret (res_cell_tmp2 (p := 4) (q := 5) (q' := 6) (ty := 34) rfl _ rfl HU1.out.to Try.underlying34 rfl 22 Hi22.out (rc_len HBl.out)) rfl ⟨⟨.slice (some ⟨b, 0, none⟩) n cap, ?_, ?_⟩, ?_⟩
                  · rfl
                  · exact HDW.out
                  · have h := HB2.out.trans ((Below.refl g w2).drew.trans (HU1.out.below (HR.out)))
                    rwa [← HW.out] at h
                exact AllReady.nil
              exact AllReady.nil
            exact AllReady.nil
          exact AllReady.nil
        exact AllReady.nil
      refine AllReady.cons rfl (fun K hK => ?_) ?_
      · go_simp
        refine hK _ _ ?_
        clear hK K
        refine wpAny_ready (rs := [0, 3]) (by kernel_rfl) (by simp) ?_
        refine AllReady.cons rfl (fun K hK => ?_) ?_
        · rw [if_pos (by rfl)]
          refine wp_ld_run rfl rfl (HL1.out) ?_
          simp only [Act.put, List.setIfInBounds_toArray, List.set_cons_zero, List.set_cons_succ]
          refine hK _ _ ?_
          clear hK K
          refine wpAny_ready (rs := [3, 5]) (by kernel_rfl) (by simp) ?_
          refine AllReady.cons rfl (fun K hK => ?_) ?_
          · go_simp
            refine hK _ _ ?_
            clear hK K
            refine wpAny_take (i := 4) (v := .int .u32 n) rfl (by kernel_rfl) (by kernel_rfl) (by kernel_rfl) (fun _ _ _ h => h) (Or.inl ⟨by rfl, ?_⟩) ?_
            · (intro w; go_simp)
            simp only [Act.put, List.setIfInBounds_toArray, List.set_cons_zero, List.set_cons_succ]
            refine wpAny_ready (rs := [5]) (by kernel_rfl) (by simp) ?_
            refine AllReady.cons rfl (fun K hK => ?_) ?_
            · rw [if_pos (by rfl)]
              refine wp_st_run rfl rfl rfl (HW1.out) ?_
              simp only [Act.put, List.setIfInBounds_toArray, List.set_cons_zero, List.set_cons_succ]
              refine hK _ _ ?_
              clear hK K
              refine wpAny_ready (rs := [6]) (by kernel_rfl) (by simp) ?_
              refine AllReady.cons rfl (fun K hK => ?_) ?_
              · go_simp
                refine hK _ _ ?_
                clear hK K
                refine wpAny_ready (rs := [7]) (by kernel_rfl) (by simp) ?_
                refine AllReady.cons rfl (fun K hK => ?_) ?_
                · go_simp
                  refine hK _ _ ?_
                  clear hK K
                  refine wpAny_done (by kernel_rfl) ?_ _
                  go_wp2_with fail
                  refine bodyPost_ret (res_cell_tmp2 (p := 4) (q := 5) (q' := 6) (ty := 34) rfl _ rfl HU1.out.to Try.underlying34 rfl 22 Hi22.out (rc_len HBl.out)) rfl ⟨⟨.slice (some ⟨b, 0, none⟩) n cap, ?_, ?_⟩, ?_⟩
                  · rfl
                  · exact HDW.out
                  · have h := HB2.out.trans ((Below.refl g w2).drew.trans (HU1.out.below (HR.out)))
                    rwa [← HW.out] at h
                exact AllReady.nil
              exact AllReady.nil
            exact AllReady.nil
          refine AllReady.cons rfl (fun K hK => ?_) ?_
          · rw [if_pos (by rfl)]
            refine wp_st_run rfl rfl rfl (HW1.out) ?_
            simp only [Act.put, List.setIfInBounds_toArray, List.set_cons_zero, List.set_cons_succ]
            refine hK _ _ ?_
            clear hK K
            refine wpAny_ready (rs := [3]) (by kernel_rfl) (by simp) ?_
            refine AllReady.cons rfl (fun K hK => ?_) ?_
            · go_simp
              refine hK _ _ ?_
              clear hK K
              refine wpAny_take (i := 4) (v := .int .u32 n) rfl (by kernel_rfl) (by kernel_rfl) (by kernel_rfl) (fun _ _ _ h => h) (Or.inl ⟨by rfl, ?_⟩) ?_
              · (intro w; go_simp)
              simp only [Act.put, List.setIfInBounds_toArray, List.set_cons_zero, List.set_cons_succ]
              refine wpAny_ready (rs := [6]) (by kernel_rfl) (by simp) ?_
              refine AllReady.cons rfl (fun K hK => ?_) ?_
              · go_simp
                refine hK _ _ ?_
                clear hK K
                refine wpAny_ready (rs := [7]) (by kernel_rfl) (by simp) ?_
                refine AllReady.cons rfl (fun K hK => ?_) ?_
                · go_simp
                  refine hK _ _ ?_
                  clear hK K
                  refine wpAny_done (by kernel_rfl) ?_ _
                  go_wp2_with fail
                  refine bodyPost_ret (res_cell_tmp2 (p := 4) (q := 5) (q' := 6) (ty := 34) rfl _ rfl HU1.out.to Try.underlying34 rfl 22 Hi22.out (rc_len HBl.out)) rfl ⟨⟨.slice (some ⟨b, 0, none⟩) n cap, ?_, ?_⟩, ?_⟩
                  · rfl
                  · exact HDW.out
                  · have h := HB2.out.trans ((Below.refl g w2).drew.trans (HU1.out.below (HR.out)))
                    rwa [← HW.out] at h
                exact AllReady.nil
              exact AllReady.nil
            exact AllReady.nil
          exact AllReady.nil
        refine AllReady.cons rfl (fun K hK => ?_) ?_
        · go_simp
          refine hK _ _ ?_
          clear hK K
          refine wpAny_take (i := 4) (v := .int .u32 n) rfl (by kernel_rfl) (by kernel_rfl) (by kernel_rfl) (fun _ _ _ h => h) (Or.inl ⟨by rfl, ?_⟩) ?_
          · (intro w; go_simp)
          simp only [Act.put, List.setIfInBounds_toArray, List.set_cons_zero, List.set_cons_succ]
          refine wpAny_ready (rs := [0]) (by kernel_rfl) (by simp) ?_
          refine AllReady.cons rfl (fun K hK => ?_) ?_
          · rw [if_pos (by rfl)]
            refine wp_ld_run rfl rfl (HL1.out) ?_
            simp only [Act.put, List.setIfInBounds_toArray, List.set_cons_zero, List.set_cons_succ]
            refine hK _ _ ?_
            clear hK K
            refine wpAny_ready (rs := [5]) (by kernel_rfl) (by simp) ?_
            refine AllReady.cons rfl (fun K hK => ?_) ?_
            · rw [if_pos (by rfl)]
              refine wp_st_run rfl rfl rfl (HW1.out) ?_
              simp only [Act.put, List.setIfInBounds_toArray, List.set_cons_zero, List.set_cons_succ]
              refine hK _ _ ?_
              clear hK K
              refine wpAny_ready (rs := [6]) (by kernel_rfl) (by simp) ?_
              refine AllReady.cons rfl (fun K hK => ?_) ?_
              · go_simp
                refine hK _ _ ?_
                clear hK K
                refine wpAny_ready (rs := [7]) (by kernel_rfl) (by simp) ?_
                refine AllReady.cons rfl (fun K hK => ?_) ?_
                · go_simp
                  refine hK _ _ ?_
                  clear hK K
                  refine wpAny_done (by kernel_rfl) ?_ _
                  go_wp2_with fail
                  refine bodyPost_ret (res_cell_tmp2 (p := 4) (q := 5) (q' := 6) (ty := 34) rfl _ rfl HU1.out.to Try.underlying34 rfl 22 Hi22.out (rc_len HBl.out)) rfl ⟨⟨.slice (some ⟨b, 0, none⟩) n cap, ?_, ?_⟩, ?_⟩
                  · rfl
                  · exact HDW.out
                  · have h := HB2.out.trans ((Below.refl g w2).drew.trans (HU1.out.below (HR.out)))
                    rwa [← HW.out] at h
                exact AllReady.nil
              exact AllReady.nil
            exact AllReady.nil
          exact AllReady.nil
        exact AllReady.nil
      exact AllReady.nil
    · refine ⟨?_⟩
      have e3 : w2.cell? ⟨g, 3, none⟩ = some (.int .u32 (lb ln)) := HR2.out.dev.cell 3
      obtain ⟨W1, hW1, hU1⟩ := st_run (P := Try.prog) (ty := 34) (cs := rc F M E (lb ln) B p (sv)) HZ2.out.drew Hi22.out (rc_len HBl.out) r0_len (rc_ones HR2.out.dk.one.2)
      have hL1 := ld_run (P := Try.prog) (ty := 34) HR2.out.dev.drew Try.underlying34 rfl Hi22.out (rc_len HBl.out)
      have hg1 := hU1.at HR2.out.dev.drew HN12.out.symm
      have f3 : W1.cell? ⟨g, 3, none⟩ = some (.int .u32 (lb ln)) := hg1.cell 3
      clear hg1
      have hdk : Dk w2.drew Bb (sv) n D := HR2.out.dk.below ⟨rfl, rfl, rfl, Nat.le_refl _, fun _ _ => rfl⟩
      have HDW := Lib.hid (hdk.same HZ2.out.drew (by decide) hU1.same)
      clear hdk
      have HU1 := Lib.hid hU1; have HL1 := Lib.hid hL1; have HW1 := Lib.hid hW1
      clear hU1 hL1 hW1
      go_wp2_with fail
      refine wp_region_any (by kernel_rfl) ?_
      (try (change wpAny _ _ _ _ _ _ _ (World.drew _)))
      refine wpAny_take (i := 1) (v := .pointer (some ⟨g, 3, none⟩)) rfl (by kernel_rfl) (by kernel_rfl) (by kernel_rfl) (fun _ _ _ h => h) (Or.inl ⟨by rfl, ?_⟩) ?_
      · (intro w; go_simp)
      simp only [Act.put, List.setIfInBounds_toArray, List.set_cons_zero, List.set_cons_succ]
      refine wpAny_ready (rs := [0, 2]) (by kernel_rfl) (by simp) ?_
      refine AllReady.cons rfl (fun K hK => ?_) ?_
      · rw [if_pos (by rfl)]
        refine wp_ld_run rfl rfl (HL1.out) ?_
        simp only [Act.put, List.setIfInBounds_toArray, List.set_cons_zero, List.set_cons_succ]
        refine hK _ _ ?_
        clear hK K
        refine wpAny_ready (rs := [2, 3]) (by kernel_rfl) (by simp) ?_
        refine AllReady.cons rfl (fun K hK => ?_) ?_
        · go_simp
          refine hK _ _ ?_
          clear hK K
          refine wpAny_ready (rs := [3]) (by kernel_rfl) (by simp) ?_
          refine AllReady.cons rfl (fun K hK => ?_) ?_
          · rw [if_pos (by rfl)]
            refine wp_st_run rfl rfl rfl (HW1.out) ?_
            simp only [Act.put, List.setIfInBounds_toArray, List.set_cons_zero, List.set_cons_succ]
            refine hK _ _ ?_
            clear hK K
            refine wpAny_ready (rs := [4]) (by kernel_rfl) (by simp) ?_
            refine AllReady.cons rfl (fun K hK => ?_) ?_
            · go_simp
              refine hK _ _ ?_
              clear hK K
              refine wpAny_ready (rs := [5]) (by kernel_rfl) (by simp) ?_
              refine AllReady.cons rfl (fun K hK => ?_) ?_
              · go_simp
                refine hK _ _ ?_
                clear hK K
                refine wpAny_done (by kernel_rfl) ?_ _
                go_wp2_with fail
                refine bodyPost_ret (res_cell_tmp2 (p := 4) (q := 5) (q' := 6) (ty := 34) rfl _ rfl HU1.out.to Try.underlying34 rfl 22 Hi22.out (rc_len HBl.out)) rfl ⟨⟨sv, ?_, ?_⟩, ?_⟩
                · rfl
                · exact HDW.out
                · have h := HB2.out.trans ((Below.refl g w2).drew.trans (HU1.out.below (HR.out)))
                  rwa [← HW.out] at h
              exact AllReady.nil
            exact AllReady.nil
          exact AllReady.nil
        refine AllReady.cons rfl (fun K hK => ?_) ?_
        · rw [if_pos (by rfl)]
          refine wp_st_run rfl rfl rfl (HW1.out) ?_
          simp only [Act.put, List.setIfInBounds_toArray, List.set_cons_zero, List.set_cons_succ]
          refine hK _ _ ?_
          clear hK K
          refine wpAny_ready (rs := [2]) (by kernel_rfl) (by simp) ?_
          refine AllReady.cons rfl (fun K hK => ?_) ?_
          · go_simp
            refine hK _ _ ?_
            clear hK K
            refine wpAny_ready (rs := [4]) (by kernel_rfl) (by simp) ?_
            refine AllReady.cons rfl (fun K hK => ?_) ?_
            · go_simp
              refine hK _ _ ?_
              clear hK K
              refine wpAny_ready (rs := [5]) (by kernel_rfl) (by simp) ?_
              refine AllReady.cons rfl (fun K hK => ?_) ?_
              · go_simp
                refine hK _ _ ?_
                clear hK K
                refine wpAny_done (by kernel_rfl) ?_ _
                go_wp2_with fail
                refine bodyPost_ret (res_cell_tmp2 (p := 4) (q := 5) (q' := 6) (ty := 34) rfl _ rfl HU1.out.to Try.underlying34 rfl 22 Hi22.out (rc_len HBl.out)) rfl ⟨⟨sv, ?_, ?_⟩, ?_⟩
                · rfl
                · exact HDW.out
                · have h := HB2.out.trans ((Below.refl g w2).drew.trans (HU1.out.below (HR.out)))
                  rwa [← HW.out] at h
              exact AllReady.nil
            exact AllReady.nil
          exact AllReady.nil
        exact AllReady.nil
      refine AllReady.cons rfl (fun K hK => ?_) ?_
      · go_simp
        refine hK _ _ ?_
        clear hK K
        refine wpAny_ready (rs := [0]) (by kernel_rfl) (by simp) ?_
        refine AllReady.cons rfl (fun K hK => ?_) ?_
        · rw [if_pos (by rfl)]
          refine wp_ld_run rfl rfl (HL1.out) ?_
          simp only [Act.put, List.setIfInBounds_toArray, List.set_cons_zero, List.set_cons_succ]
          refine hK _ _ ?_
          clear hK K
          refine wpAny_ready (rs := [3]) (by kernel_rfl) (by simp) ?_
          refine AllReady.cons rfl (fun K hK => ?_) ?_
          · rw [if_pos (by rfl)]
            refine wp_st_run rfl rfl rfl (HW1.out) ?_
            simp only [Act.put, List.setIfInBounds_toArray, List.set_cons_zero, List.set_cons_succ]
            refine hK _ _ ?_
            clear hK K
            refine wpAny_ready (rs := [4]) (by kernel_rfl) (by simp) ?_
            refine AllReady.cons rfl (fun K hK => ?_) ?_
            · go_simp
              refine hK _ _ ?_
              clear hK K
              refine wpAny_ready (rs := [5]) (by kernel_rfl) (by simp) ?_
              refine AllReady.cons rfl (fun K hK => ?_) ?_
              · go_simp
                refine hK _ _ ?_
                clear hK K
                refine wpAny_done (by kernel_rfl) ?_ _
                go_wp2_with fail
                refine bodyPost_ret (res_cell_tmp2 (p := 4) (q := 5) (q' := 6) (ty := 34) rfl _ rfl HU1.out.to Try.underlying34 rfl 22 Hi22.out (rc_len HBl.out)) rfl ⟨⟨sv, ?_, ?_⟩, ?_⟩
                · rfl
                · exact HDW.out
                · have h := HB2.out.trans ((Below.refl g w2).drew.trans (HU1.out.below (HR.out)))
                  rwa [← HW.out] at h
              exact AllReady.nil
            exact AllReady.nil
          exact AllReady.nil
        exact AllReady.nil
      exact AllReady.nil
    · have b0 : (reg == 0) = false := by rw [beq_eq_false_iff_ne]; exact h0
      have b1 : (reg == 1) = false := by rw [beq_eq_false_iff_ne]; exact h1
      have b2 : (reg == 2) = false := by rw [beq_eq_false_iff_ne]; exact h2
      have b3 : (reg == 3) = false := by rw [beq_eq_false_iff_ne]; exact h3
      have b4 : (reg == 4) = false := by rw [beq_eq_false_iff_ne]; exact h4
      have b6 : (reg == 6) = false := by rw [beq_eq_false_iff_ne]; exact h6
      have b7 : (reg == 7) = false := by rw [beq_eq_false_iff_ne]; exact h7
      have hE : setE reg = 3 := by unfold setE; rw [if_neg (by omega)]
      have hV : getV n ⟨F, M, E, ln, B, p, D⟩ reg = 0 := by unfold getV; rw [if_neg h1, if_neg h2, if_neg h3, if_neg h4, if_neg h5, if_neg h6, if_neg h7]
      have HE := Lib.hid hE; have HV := Lib.hid hV
      clear h0 h1 h2 h3 h4 h5 h6 h7 hE hV
      refine ⟨?_⟩
      go_wp2_with (first
        | ((with_reducible refine is_ld _ _ rfl ?_); refine ld_agg rfl rfl rfl HR2.out.dev Try.underlying34 rfl 22 Hi22.out (by rw [rc_len HR2.out.bl]; decide) ?_; rw [ld_all (rc_len HR2.out.bl)])
        | ((with_reducible refine is_st _ _ _ rfl ?_); refine st_agg rfl rfl rfl rfl HZ2.out 22 Hi22.out (rc_len HR2.out.bl) (Nat.le_refl 22) (rc_ones HR2.out.dk.one.2) ?_; intro w7 hu7; rw [st_all r0_len] at hu7; have HU7 := Lib.hid hu7; clear hu7)
        | fail)
      refine bodyPost_ret (res_cell_tmp2 (p := 4) (q := 5) (q' := 6) (ty := 34) rfl _ rfl HU7.out.to Try.underlying34 rfl 22 Hi22.out (rc_len HR2.out.bl)) rfl ⟨⟨sv, ?_, ?_⟩, ?_⟩
      · rw [HG.out, HE.out, HV.out]; rfl
      · rw [HG.out]; exact HR2.out.dk.same HZ2.out (by decide) HU7.out.same
      · have h := HB2.out.trans (HU7.out.below (HR.out))
        rwa [← HW.out] at h
end Go.Proofs.Ythndnammnnallaa
