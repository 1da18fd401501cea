/- Walks of the reference's device: a command. -/
import Derived.Test.YthndnammnnallaaSecI
namespace Go.Proofs.Ythndnammnnallaa
open Go.RowKit
set_option maxHeartbeats 4000000

theorem loopS_len {v F : Int} {n m : Nat} {B D : List Int} (hb : B.length = 16) (hD : D.length = 4 * n) (hF : 0 ≤ F) (hi : F.toNat + m ≤ n) (hm : m ≤ 4) : ∀ k, k ≤ m → (loopS v F (B, D) k).1.length = 16 ∧ (loopS v F (B, D) k).2.length = 4 * n
  | 0, _ => ⟨hb, hD⟩
  | k + 1, hk => by
    obtain ⟨h1, h2⟩ := loopS_len hb hD hF hi hm k (by omega)
    exact ⟨oneB_len h1 h2 (by omega) (by omega), oneD_len h1 h2 (by omega) (by omega)⟩
theorem Rs.put {w w' : World} {g Bb n : Nat} {F M E L : Int} {B : List Int} {p : Nat} {sv sv' : Value} {D D' : List Int} (h : Rs w g Bb n F M E L B p sv D) (hk : Dk w Bb sv' n D') (hs : Same g w w') (hd : At w' g (rc F M E L B p sv') 34) : Rs w' g Bb n F M E L B p sv' D' :=
  ⟨hd, hk.same h.dev (by decide) hs, h.bl⟩
theorem Rs.below {w w' : World} {g Bb n : Nat} {F M E L : Int} {B : List Int} {p : Nat} {sv : Value} {D : List Int} (h : Rs w g Bb n F M E L B p sv D) (hb : Below w.heap.size w w') : Rs w' g Bb n F M E L B p sv D :=
  ⟨h.dev.of_below hb, h.dk.below hb, h.bl⟩
theorem hold_st {P : Program} {ops : Array Oper} {rest : List Oper} {op : Oper} {a : Act} {w : World} {Q : Exit → Act → World → Prop} (t : TypeId) (x y : Operand) (_ : op.op = .store t x y) (h : Held (wpList P ops Q (op :: rest) a w)) : wpList P ops Q (op :: rest) a w := h.out
theorem is_st {P : Program} {ops : Array Oper} {rest : List Oper} {op : Oper} {a : Act} {w : World} {Q : Exit → Act → World → Prop} (t : TypeId) (x y : Operand) (_ : op.op = .store t x y) (h : wpList P ops Q (op :: rest) a w) : wpList P ops Q (op :: rest) a w := h
theorem is_ld {P : Program} {ops : Array Oper} {rest : List Oper} {op : Oper} {a : Act} {w : World} {Q : Exit → Act → World → Prop} (t : TypeId) (x : Operand) (_ : op.op = .load t x) (h : wpList P ops Q (op :: rest) a w) : wpList P ops Q (op :: rest) a w := h
theorem is_bd {P : Program} {ops : Array Oper} {rest : List Oper} {op : Oper} {a : Act} {w : World} {Q : Exit → Act → World → Prop} (t : TypeId) (l : Array (Nat × Operand)) (_ : op.op = .build t l) (h : wpList P ops Q (op :: rest) a w) : wpList P ops Q (op :: rest) a w := h

set_option maxRecDepth 100000 in
theorem rcommand_any {Bb n : Nat} {F M E L v : Int} {B D : List Int} {p : Nat} {sv : Value} (hv : 0 ≤ v ∧ v < 4294967296) (hF : 0 ≤ F ∧ F < 4294967296) (hM : 0 ≤ M ∧ M < 4294967296) (hn : n < 10) (hB : B.length = 16) (hD : D.length = 4 * n) (w : World) (h : Dk w Bb sv n D) :
    Calls Try.prog 17 #[.agg (rc F M E L B p sv).toArray, .int .u32 v] w fun e w' => (∃ sv', e = .returned (.agg (rc F M (cmdE F M n v) 1 (cmdS F M n v B D).1 0 sv').toArray) ∧ Dk w' Bb sv' n (cmdS F M n v B D).2) ∧ Below w.heap.size w w' := by
  have Hi1 : Hid ((Try.prog.info? 3).map (·.size) = some 1) := by unfold Hid; kernel_rfl
  have Hu1 : Hid ((Try.prog.info? 31).map (·.size) = some 1) := by unfold Hid; kernel_rfl
  have Hs1 : Hid ((Try.prog.info? 25).map (·.size) = some 1) := by unfold Hid; kernel_rfl
  have Hi22 : Hid ((Try.prog.info? 34).map (·.size) = some 22) := by unfold Hid; kernel_rfl
  have HK := Lib.hid h; have HBl := Lib.hid hB; have HDl := Lib.hid hD
  have HO := Lib.hid h.one.2
  clear h hB hD
  go_enter Try.func17, Try.ntmps17
  go_wp2_with (first
    | (refine bx_new rfl (ty := 34) rfl rfl ?_; intro w1 hn1
       have HR1 : Hid (Rs w1 w.heap.size Bb n F M E L B p sv D) := Lib.hid ⟨hn1.to, HK.out.below (hn1.below (Nat.le_refl _)), HBl.out⟩
       have HB1 := Lib.hid (hn1.below (Nat.le_refl _)); clear hn1)
    | (refine al_new rfl rfl (zero_dev _) ?_; intro w2 hn2
       have HR2 := Lib.hid (HR1.out.below (hn2.below (Nat.le_refl _)))
       have HZ2 : Hid (At w2 w1.heap.size r0 34) := Lib.hid hn2.to
       have HB2 := Lib.hid (HB1.out.trans (hn2.below HB1.out.size)); clear hn2)
    | (refine st_cell (v := .int .i64 ((0 : Nat) : Int)) rfl rfl rfl rfl rfl HR2.out.dev Hi1.out (by rw [rc_len HBl.out]; decide) rfl ?_; intro w3 hu3
       have hn12 : w1.heap.size ≠ w.heap.size := Nat.ne_of_gt HR1.out.dev.lt
       have HR3 : Hid (Rs w3 w.heap.size Bb n F M E L B 0 sv D) := Lib.hid (HR2.out.upd hu3.same (by have h := hu3.to; rw [rc_set20 HBl.out] at h; exact h) HBl.out)
       have HZ3 := Lib.hid (hu3.same.at HZ2.out hn12)
       have HN12 := Lib.hid hn12; have HR1l : Hid (w.heap.size ≤ w1.heap.size) := Lib.hid HB1.out.size
       have HB3 := Lib.hid (HB2.out.trans (hu3.below (Nat.le_refl _))); clear hu3 hn12)
    | (refine st_cell (o := 3) (v := .int .u32 1) rfl rfl rfl rfl rfl HR3.out.dev Hu1.out (by rw [rc_len HBl.out]; decide) rfl ?_; intro w4 hu4
       have HR4 : Hid (Rs w4 w.heap.size Bb n F M E 1 B 0 sv D) := Lib.hid (HR3.out.upd hu4.same hu4.to HBl.out)
       have HZ4 := Lib.hid (hu4.same.at HZ3.out HN12.out)
       have HB4 := Lib.hid (HB3.out.trans (hu4.below (Nat.le_refl _))); clear hu4)
    | (refine st_cell (o := 2) (v := .int .u32 0) rfl rfl rfl rfl rfl HR4.out.dev Hu1.out (by rw [rc_len HBl.out]; decide) rfl ?_; intro w5 hu5
       have HR5 : Hid (Rs w5 w.heap.size Bb n F M 0 1 B 0 sv D) := Lib.hid (HR4.out.upd hu5.same hu5.to HBl.out)
       have HZ5 := Lib.hid (hu5.same.at HZ4.out HN12.out)
       have HB5 := Lib.hid (HB4.out.trans (hu5.below (Nat.le_refl _))); clear hu5
       refine Held.out ?_)
    | fail)
  clear HR1 HR2 HR3 HR4 HZ2 HZ3 HZ4 HB1 HB2 HB3 HB4 HK
  obtain ⟨g, hg⟩ : ∃ g, w.heap.size = g := ⟨_, rfl⟩
  obtain ⟨r, hr⟩ : ∃ r, w1.heap.size = r := ⟨_, rfl⟩
  rw [hg] at HN12 HR5 HB5
  rw [hr] at HN12 HZ5
  rw [hg, hr]
  have HW := Lib.hid hg
  have HR : Hid (g ≤ r) := Lib.hid (by have := HR1l.out; omega)
  clear hg hr HR1l
  by_cases h1 : v < 1 ∨ 4 < v
  · have hE : cmdE F M n v = 1 ∧ cmdS F M n v B D = (B, D) := by unfold cmdE cmdS; rw [if_pos h1, if_pos h1]; exact ⟨rfl, rfl⟩
    have HE := Lib.hid hE
    clear hE
    by_cases h2 : v < 1
    · have d1 : decide (v < (1 : Int)) = true := decide_eq_true h2
      clear h1 h2
      refine ⟨?_⟩
      go_wp2_with (first | ((with_reducible refine hold_st _ _ _ rfl ?_)) | fail)
      refine ⟨?_⟩
      go_wp2_with (first
        | (refine st_cell (o := 2) (v := .int .u32 1) rfl rfl rfl rfl rfl HR5.out.dev Hu1.out (by rw [rc_len HBl.out]; decide) rfl ?_; intro w6 hu6
           have HR6 : Hid (Rs w6 g Bb n F M 1 1 B 0 sv D) := Lib.hid (HR5.out.upd hu6.same hu6.to HBl.out)
           have HZ6 := Lib.hid (hu6.same.at HZ5.out HN12.out)
           have HB6 := Lib.hid (HB5.out.trans (hu6.below (Nat.le_refl _))); clear hu6)
        | (refine ld_agg rfl rfl rfl HR6.out.dev Try.underlying34 rfl 22 Hi22.out (by rw [rc_len HBl.out]; decide) ?_; rw [ld_all (rc_len HBl.out)])
        | (refine st_agg rfl rfl rfl rfl HZ6.out 22 Hi22.out (rc_len HBl.out) (Nat.le_refl 22) (rc_ones HO.out) ?_; intro w7 hu7; rw [st_all r0_len] at hu7; have HU7 := Lib.hid hu7; clear hu7)
        | fail)
      refine bodyPost_ret (res_cell (p := 4) (ty := 34) rfl _ rfl HU7.out.to Try.underlying34 rfl 22 Hi22.out (rc_len HBl.out)) rfl ⟨⟨sv, ?_, ?_⟩, ?_⟩
      · rw [HE.out.1, HE.out.2]
      · rw [HE.out.2]; exact HR6.out.dk.same HZ6.out (by decide) HU7.out.same
      · have h := HB6.out.trans (HU7.out.below (HR.out))
        rwa [← HW.out] at h
    · have d1 : decide (v < (1 : Int)) = false := decide_eq_false h2
      have d2 : decide ((4 : Int) < v) = true := decide_eq_true (by omega)
      clear h1 h2
      refine ⟨?_⟩
      go_wp2_with (first | ((with_reducible refine hold_st _ _ _ rfl ?_)) | fail)
      refine ⟨?_⟩
      go_wp2_with (first
        | (refine st_cell (o := 2) (v := .int .u32 1) rfl rfl rfl rfl rfl HR5.out.dev Hu1.out (by rw [rc_len HBl.out]; decide) rfl ?_; intro w6 hu6
           have HR6 : Hid (Rs w6 g Bb n F M 1 1 B 0 sv D) := Lib.hid (HR5.out.upd hu6.same hu6.to HBl.out)
           have HZ6 := Lib.hid (hu6.same.at HZ5.out HN12.out)
           have HB6 := Lib.hid (HB5.out.trans (hu6.below (Nat.le_refl _))); clear hu6)
        | (refine ld_agg rfl rfl rfl HR6.out.dev Try.underlying34 rfl 22 Hi22.out (by rw [rc_len HBl.out]; decide) ?_; rw [ld_all (rc_len HBl.out)])
        | (refine st_agg rfl rfl rfl rfl HZ6.out 22 Hi22.out (rc_len HBl.out) (Nat.le_refl 22) (rc_ones HO.out) ?_; intro w7 hu7; rw [st_all r0_len] at hu7; have HU7 := Lib.hid hu7; clear hu7)
        | fail)
      refine bodyPost_ret (res_cell (p := 4) (ty := 34) rfl _ rfl HU7.out.to Try.underlying34 rfl 22 Hi22.out (rc_len HBl.out)) rfl ⟨⟨sv, ?_, ?_⟩, ?_⟩
      · rw [HE.out.1, HE.out.2]
      · rw [HE.out.2]; exact HR6.out.dk.same HZ6.out (by decide) HU7.out.same
      · have h := HB6.out.trans (HU7.out.below (HR.out))
        rwa [← HW.out] at h
  · have d1 : decide (v < (1 : Int)) = false := decide_eq_false (by omega)
    have d2 : decide ((4 : Int) < v) = false := decide_eq_false (by omega)
    obtain ⟨b, cap, hsv, hcap1, hcap2, hbB, hbA, hbR⟩ := HR5.out.dk
    have c0 : w5.cell? ⟨g, 0, none⟩ = some (.int .u32 F) := HR5.out.dev.cell 0
    have c1 : w5.cell? ⟨g, 1, none⟩ = some (.int .u32 M) := HR5.out.dev.cell 1
    have c21 : w5.cell? ⟨g, 21, none⟩ = some (.slice (some ⟨b, 0, none⟩) n cap) := by rw [← hsv]; exact (HR5.out.dev.cell 21).trans (rc_disk HBl.out)
    clear hsv hcap1 hcap2 hbB hbA hbR
    have hw1 : IntKind.u64.wrap F = F := by rw [IntKind.wrap_u64]; omega
    have hw2 : IntKind.u64.wrap M = M := by rw [IntKind.wrap_u64]; omega
    have hw4 : IntKind.u64.wrap (n : Int) = n := by rw [IntKind.wrap_u64]; omega
    by_cases h4 : v = 4
    · have hE : cmdE F M n v = 0 ∧ cmdS F M n v B D = (B, D) := by unfold cmdE cmdS; rw [if_neg h1, if_pos h4, if_neg h1, if_pos h4]; exact ⟨rfl, rfl⟩
      have HE := Lib.hid hE
      have d3 : (v != 4) = false := by rw [bne_eq_false_iff_eq]; exact h4
      clear hE h1 h4
      refine ⟨?_⟩
      go_wp2_with fail
      go_loopw [5] (fun v5 wr => v5 = .int .i64 0 ∧ wr = w5) (fun _ _ => 0)
      case atStart => exact ⟨rfl, rfl⟩
      case round =>
        obtain ⟨rfl, rfl⟩ := hrel
        have hw5 : IntKind.i64.wrap M = M := IntWalk.i64_in _ (by omega)
        by_cases hm : (0 : Int) < M
        · have d5 : decide ((0 : Int) < M) = true := decide_eq_true hm
          clear hm
          go_wp2_with (first
            | ((with_reducible refine is_ld _ _ rfl ?_); refine ld_agg rfl rfl rfl HR5.out.dev Try.underlying34 rfl 22 Hi22.out (by rw [rc_len HR5.out.bl]; decide) ?_; rw [ld_all (rc_len HR5.out.bl)])
            | ((with_reducible refine is_st _ _ _ rfl ?_); refine st_agg rfl rfl rfl rfl HZ5.out 22 Hi22.out (rc_len HR5.out.bl) (Nat.le_refl 22) (rc_ones HR5.out.dk.one.2) ?_; intro w7 hu7; rw [st_all r0_len] at hu7; have HU7 := Lib.hid hu7; clear hu7)
            | fail)
          refine bodyPost_ret (res_cell (p := 4) (ty := 34) rfl _ rfl HU7.out.to Try.underlying34 rfl 22 Hi22.out (rc_len HR5.out.bl)) rfl ⟨⟨sv, ?_, ?_⟩, ?_⟩
          · rw [HE.out.1, HE.out.2]
          · rw [HE.out.2]; exact HR5.out.dk.same HZ5.out (by decide) HU7.out.same
          · have h := HB5.out.trans (HU7.out.below (HR.out))
            rwa [← HW.out] at h
        · have d5 : decide ((0 : Int) < M) = false := decide_eq_false hm
          clear hm
          go_wp2_with (first
            | ((with_reducible refine is_ld _ _ rfl ?_); refine ld_agg rfl rfl rfl HR5.out.dev Try.underlying34 rfl 22 Hi22.out (by rw [rc_len HR5.out.bl]; decide) ?_; rw [ld_all (rc_len HR5.out.bl)])
            | ((with_reducible refine is_st _ _ _ rfl ?_); refine st_agg rfl rfl rfl rfl HZ5.out 22 Hi22.out (rc_len HR5.out.bl) (Nat.le_refl 22) (rc_ones HR5.out.dk.one.2) ?_; intro w7 hu7; rw [st_all r0_len] at hu7; have HU7 := Lib.hid hu7; clear hu7)
            | fail)
          refine bodyPost_ret (res_cell (p := 4) (ty := 34) rfl _ rfl HU7.out.to Try.underlying34 rfl 22 Hi22.out (rc_len HR5.out.bl)) rfl ⟨⟨sv, ?_, ?_⟩, ?_⟩
          · rw [HE.out.1, HE.out.2]
          · rw [HE.out.2]; exact HR5.out.dk.same HZ5.out (by decide) HU7.out.same
          · have h := HB5.out.trans (HU7.out.below (HR.out))
            rwa [← HW.out] at h
    · have d3 : (v != 4) = true := by rw [bne_iff_ne]; exact h4
      by_cases hin : inS F M n = true
      · have hE : cmdE F M n v = 0 ∧ cmdS F M n v B D = loopS v F (B, D) M.toNat := by unfold cmdE cmdS; rw [if_neg h1, if_neg h4, if_pos hin, if_neg h1, if_neg h4, if_pos hin]; exact ⟨rfl, rfl⟩
        have HE := Lib.hid hE
        have hv3 : v = 1 ∨ v = 2 ∨ v = 3 := by omega
        unfold inS at hin
        rw [decide_eq_true_eq] at hin
        obtain ⟨i1, i2, i3⟩ := hin
        have d4 : decide (M < (1 : Int)) = false := decide_eq_false (by omega)
        have d5 : decide ((4 : Int) < M) = false := decide_eq_false (by omega)
        have hw3 : IntKind.u64.wrap (F + M) = F + M := by rw [IntKind.wrap_u64]; omega
        have d6 : decide ((n : Int) < F + M) = false := decide_eq_false (by omega)
        clear hE h1 h4
        refine ⟨?_⟩
        go_wp2_with fail
        clear c0 c1 c21 hw1 hw2 hw3 hw4 d4 d5 d6 d1 d2
        obtain ⟨m, rfl⟩ : ∃ m : Nat, M = m := ⟨M.toNat, by omega⟩
        obtain ⟨f0, rfl⟩ : ∃ m : Nat, F = m := ⟨F.toNat, by omega⟩
        rw [Int.toNat_natCast] at HE
        have HL := Lib.hid (loopS_len (v := v) (F := f0) (n := n) (m := m) (B := B) (D := D) HBl.out HDl.out hF.1 (by omega) (by omega))
        go_loopw [5] (fun v5 wr => ∃ (k : Nat) (svk : Value), k ≤ m ∧ v5 = .int .i64 k ∧ Rs wr g Bb n f0 m 0 1 (loopS v f0 (B, D) k).1 0 svk (loopS v f0 (B, D) k).2 ∧ At wr r r0 34 ∧ Below g w wr) (fun i _ => m - (intOf i).toNat)
        case atStart => exact ⟨0, sv, by omega, rfl, HR5.out, HZ5.out, HB5.out⟩
        case round =>
          obtain ⟨k, svk, hk, rfl, hRk, hZk, hBk⟩ := hrel
          have HRk := Lib.hid hRk; have HZk := Lib.hid hZk; have HBk := Lib.hid hBk
          have hw5 : IntKind.i64.wrap (m : Int) = m := IntWalk.i64_in _ (by omega)
          have c0 : wr.cell? ⟨g, 0, none⟩ = some (.int .u32 f0) := hRk.dev.cell 0
          have c1 : wr.cell? ⟨g, 1, none⟩ = some (.int .u32 m) := hRk.dev.cell 1
          clear hRk hZk hBk
          by_cases hlt : k < m
          · have hlt' : (k : Int) < (m : Int) := by omega
            have hw6 : IntKind.i64.wrap (f0 : Int) = f0 := IntWalk.i64_in _ (by omega)
            have hw7 : IntKind.i64.wrap ((f0 : Int) + k) = (f0 : Int) + k := IntWalk.i64_in _ (by omega)
            have hLk := HL.out k hk
            have hLn := HL.out (k + 1) (by omega)
            obtain ⟨Bk, hBq⟩ : ∃ x, (loopS v f0 (B, D) k).1 = x := ⟨_, rfl⟩
            obtain ⟨Dq, hDq⟩ : ∃ x, (loopS v f0 (B, D) k).2 = x := ⟨_, rfl⟩
            have hNx : (loopS v f0 (B, D) (k + 1)) = (oneB v Bk Dq (f0 + k) k, oneD v Bk Dq (f0 + k) k) := by rw [← hBq, ← hDq]; simp only [loopS, Int.toNat_natCast]
            rw [hBq, hDq] at hLk HRk
            have HNx := Lib.hid hNx; have HLk := Lib.hid hLk
            obtain ⟨b, cap, hsv, hcap1, hcap2, hbB, hbA, hbR⟩ := HRk.out.dk
            subst hsv
            have HbR := Lib.hid hbR
            have HNbg : Hid (b ≠ g) := Lib.hid (by obtain ⟨cs, hcs⟩ := hbA; exact at_ne hcs HRk.out.dev (by decide))
            have Hcap := Lib.hid hcap1
            clear hBq hDq hNx hLk hLn hcap1 hcap2 hbB hbA hbR
            have c21 : wr.cell? ⟨g, 21, none⟩ = some (.slice (some ⟨b, 0, none⟩) n cap) := (HRk.out.dev.cell 21).trans (rc_disk HLk.out.1)
            rcases hv3 with rfl | rfl | rfl
            · go_wp2_with fail
              obtain ⟨wo, rfl⟩ : ∃ wo : World, wo = wr := ⟨_, rfl⟩
              clear c0 c1 c21
              go_loopw [7] (fun v7 wr => ∃ j : Nat, j ≤ 4 ∧ v7 = .int .i64 j ∧ Rs wr g Bb n f0 m 0 1 (cpS Bk k (sec Dq (f0 + k)) j) 0 (.slice (some ⟨b, 0, none⟩) n cap) Dq ∧ wr.rangeAt b 0 (Dq.map uv) ∧ At wr r r0 34 ∧ Below g w wr) (fun i _ => 4 - (intOf i).toNat)
              case atStart => exact ⟨0, by omega, rfl, HRk.out, HbR.out, HZk.out, HBk.out⟩
              case round =>
                obtain ⟨j, hj, rfl, hRj, hbj, hZj, hBj⟩ := hrel
                have HRj := Lib.hid hRj; have HZj := Lib.hid hZj; have HBj := Lib.hid hBj; have Hbj := Lib.hid hbj
                have c1 : wr.cell? ⟨g, 1, none⟩ = some (.int .u32 m) := hRj.dev.cell 1
                have c21 : wr.cell? ⟨g, 21, none⟩ = some (.slice (some ⟨b, 0, none⟩) n cap) := (hRj.dev.cell 21).trans (rc_disk hRj.bl)
                clear hRj hZj hBj hbj
                by_cases hj4 : j < 4
                · have hj4' : (j : Int) < 4 := by omega
                  have hy0 : IntKind.i64.wrap (4 * (k : Int)) = 4 * k := IntWalk.i64_in _ (by omega)
                  have hy1 : IntKind.i64.wrap (4 * (k : Int) + j) = 4 * k + j := IntWalk.i64_in _ (by omega)
                  have hz1 : 4 * (k : Int) + j < 16 := by omega
                  have ha1 : (0 : Int) ≤ 4 * (k : Int) + j := by omega
                  have ht1 : (4 * (k : Int) + j).toNat = 4 * k + j := by omega
                  have hz2 : (f0 : Int) + k < n := by omega
                  have ha2 : (0 : Int) ≤ (f0 : Int) + k := by omega
                  have ht2 : ((f0 : Int) + k).toNat = f0 + k := by omega
                  have hlen := HLk.out.2
                  have hd : wr.cell? ⟨b, (f0 + k) * 4 + j, none⟩ = some (.int .u32 ((sec Dq (f0 + k))[j]?.getD 0)) := by
                    have h := Hbj.out ((f0 + k) * 4 + j) (uv (Dq[(f0 + k) * 4 + j]?.getD 0)) (by rw [List.getElem?_map, List.getElem?_eq_getElem (by omega)]; rfl)
                    rw [Nat.zero_add] at h
                    rw [h, sec_get hj4]
                    rfl
                  clear hlen
                  go_wp2_with (first
                    | ((with_reducible refine hold_st _ _ _ rfl ?_))
                    | fail)
                  refine ⟨?_⟩
                  refine st_cell (o := 4 + (4 * k + j)) (v := .int .u32 ((sec Dq (f0 + k))[j]?.getD 0)) rfl rfl rfl rfl rfl HRj.out.dev Hu1.out (by rw [rc_len HRj.out.bl]; omega) rfl ?_
                  intro w3 hu3
                  have HR3 : Hid (Rs w3 g Bb n f0 m 0 1 (cpS Bk k (sec Dq (f0 + k)) (j + 1)) 0 (.slice (some ⟨b, 0, none⟩) n cap) Dq) := Lib.hid (HRj.out.upd hu3.same (by have h : At w3 g ((rc f0 m 0 1 (cpS Bk k (sec Dq (f0 + k)) j) 0 (.slice (some ⟨b, 0, none⟩) n cap)).set (4 + (4 * k + j)) (.int .u32 ((sec Dq (f0 + k))[j]?.getD 0))) 34 := hu3.to; rw [rc_setB (by rw [HRj.out.bl]; omega)] at h; exact h) (by rw [cpS, List.length_set]; exact HRj.out.bl))
                  have HZ3 := Lib.hid (hu3.same.at HZj.out HN12.out)
                  have HB3 := Lib.hid (HBj.out.trans (hu3.below (Nat.le_refl _)))
                  have Hb3 : Hid (w3.rangeAt b 0 (Dq.map uv)) := Lib.hid (fun x u hu => by rw [← Hbj.out x u hu]; have := hu3.other b HNbg.out; simp only [World.cell?, this])
                  clear hu3
                  go_wp2_with fail
                  exact ⟨⟨j + 1, by omega, by go_num, HR3.out, Hb3.out, HZ3.out, HB3.out⟩, by simp only [intOf]; omega⟩
                · obtain rfl : j = 4 := by omega
                  have hR4 := HRj.out
                  rw [cpS_four HLk.out.1 (by omega) (sec_len HLk.out.2 (by omega))] at hR4
                  have HR4 := Lib.hid hR4
                  clear hR4
                  go_wp2_with fail
                  exact ⟨⟨k + 1, .slice (some ⟨b, 0, none⟩) n cap, by omega, by go_num, by rw [HNx.out]; exact HR4.out, HZj.out, HBj.out⟩, by simp only [intOf]; omega⟩
            · have hP := fun j => put_any (Bb := Bb) (sv := .slice (some ⟨b, 0, none⟩) n cap) (D := Dq) (v := sec Bk k) (i := f0 + k) (by omega) hn HLk.out.2 (sec_len (n := 4) HLk.out.1 (by omega)) (wr.drewN j) (HRk.out.drewN j).dk
              rw [show (((f0 + k : Nat)) : Int) = (f0 : Int) + k from by omega, sec_four HLk.out.1 (by omega)] at hP
              have HP := Lib.hid hP
              have hS4 := sec_four HLk.out.1 (show k < 4 by omega)
              have HS4 := Lib.hid hS4
              clear hP hS4
              have hy0 : IntKind.i64.wrap (4 * (k : Int)) = 4 * k := IntWalk.i64_in _ (by omega)
              have hy1 : IntKind.i64.wrap (4 * (k : Int) + 1) = 4 * k + 1 := IntWalk.i64_in _ (by omega)
              have hy2 : IntKind.i64.wrap (4 * (k : Int) + 2) = 4 * k + 2 := IntWalk.i64_in _ (by omega)
              have hy3 : IntKind.i64.wrap (4 * (k : Int) + 3) = 4 * k + 3 := IntWalk.i64_in _ (by omega)
              have hz0 : 4 * (k : Int) < 16 := by omega
              have hz1 : 4 * (k : Int) + 1 < 16 := by omega
              have hz2 : 4 * (k : Int) + 2 < 16 := by omega
              have hz3 : 4 * (k : Int) + 3 < 16 := by omega
              have ha0 : (0 : Int) ≤ 4 * (k : Int) := by omega
              have ha1 : (0 : Int) ≤ 4 * (k : Int) + 1 := by omega
              have ha2 : (0 : Int) ≤ 4 * (k : Int) + 2 := by omega
              have ha3 : (0 : Int) ≤ 4 * (k : Int) + 3 := by omega
              have ht0 : (4 * (k : Int)).toNat = 4 * k := by omega
              have ht1 : (4 * (k : Int) + 1).toNat = 4 * k + 1 := by omega
              have ht2 : (4 * (k : Int) + 2).toNat = 4 * k + 2 := by omega
              have ht3 : (4 * (k : Int) + 3).toNat = 4 * k + 3 := by omega
              have e0 : wr.cell? ⟨g, 4 + 4 * k, none⟩ = some (.int .u32 (Bk[4 * k]?.getD 0)) := (HRk.out.dev.cell _).trans (rc_buf (by rw [HLk.out.1]; omega))
              have e1 : wr.cell? ⟨g, 4 + (4 * k + 1), none⟩ = some (.int .u32 (Bk[4 * k + 1]?.getD 0)) := (HRk.out.dev.cell _).trans (rc_buf (by rw [HLk.out.1]; omega))
              have e2 : wr.cell? ⟨g, 4 + (4 * k + 2), none⟩ = some (.int .u32 (Bk[4 * k + 2]?.getD 0)) := (HRk.out.dev.cell _).trans (rc_buf (by rw [HLk.out.1]; omega))
              have e3 : wr.cell? ⟨g, 4 + (4 * k + 3), none⟩ = some (.int .u32 (Bk[4 * k + 3]?.getD 0)) := (HRk.out.dev.cell _).trans (rc_buf (by rw [HLk.out.1]; omega))
              go_wp2_with fail
              refine wp_region_tail_drew 27 (by kernel_rfl) (by kernel_rfl) ?_
              simp only [List.take_succ_cons, List.take_zero, List.drop_succ_cons, List.drop_zero]
              iterate 27 (first | ((with_reducible refine wpQuiet_step (fun K' hK' => ?_)); go_simp; (with_reducible refine hK' _ ?_); clear hK' K') | ((with_reducible refine wpQuiet_skip ?_ ?_); focus rfl))
              refine wpQuiet_nil ?_
              rintro w' ⟨nq, rfl⟩
              clear hy0 hy1 hy2 hy3 hz0 hz1 hz2 hz3 ha0 ha1 ha2 ha3 ht0 ht1 ht2 ht3 e0 e1 e2 e3
              have HRq := Lib.hid (HRk.out.drewN nq)
              have HZq := Lib.hid (HZk.out.drewN nq)
              have HBq : Hid (Below g w (wr.drewN nq)) := Lib.hid ⟨HBk.out.os, HBk.out.tape, HBk.out.output, HBk.out.size, HBk.out.block⟩
              go_wp2_with (first
                | (go_at_call 20; refine (HP.out nq).mono ?_; rintro e w2 ⟨⟨sv2, rfl, hk2⟩, hb2⟩
                   have HR2 := Lib.hid (HRq.out.below hb2); have HZ2 := Lib.hid (HZq.out.of_below hb2); have HB2 := Lib.hid (HBq.out.trans (hb2.mono (Nat.le_of_lt HRq.out.dev.lt)))
                   rw [← HS4.out] at hk2
                   have HK2 := Lib.hid hk2; clear hk2 hb2)
                | ((with_reducible refine is_st _ _ _ rfl ?_); refine st_cell rfl rfl rfl rfl HK2.out.one.1 HR2.out.dev Hs1.out (by rw [rc_len HR2.out.bl]; decide) HK2.out.one.2 ?_; intro w3 hu3
                   have HR3 : Hid (Rs w3 g Bb n f0 m 0 1 Bk 0 sv2 (secPut Dq (f0 + k) (sec Bk k))) := Lib.hid (HR2.out.put HK2.out hu3.same (by have h := hu3.to; rw [rc_set21 HR2.out.bl] at h; exact h))
                   have HZ3 := Lib.hid (hu3.same.at HZ2.out HN12.out); have HB3 := Lib.hid (HB2.out.trans (hu3.below (Nat.le_refl _))); clear hu3)
                | fail)
              exact ⟨⟨k + 1, sv2, by omega, by go_num, by rw [HNx.out]; exact HR3.out, HZ3.out, HB3.out⟩, by simp only [intOf]; omega⟩
            · have hP := put_any (Bb := Bb) (sv := .slice (some ⟨b, 0, none⟩) n cap) (D := Dq) (v := [0, 0, 0, 0]) (i := f0 + k) (by omega) hn HLk.out.2 rfl wr HRk.out.dk
              rw [show (((f0 + k : Nat)) : Int) = (f0 : Int) + k from by omega] at hP
              have HP := Lib.hid hP
              clear hP
              go_wp2_with (first
                | ((with_reducible refine is_bd _ _ rfl ?_); refine bd_run rfl rfl rfl (cells := #[.int .u32 0, .int .u32 0, .int .u32 0, .int .u32 0]) (by kernel_rfl) ?_)
                | (go_at_call 20; refine HP.out.mono ?_; rintro e w2 ⟨⟨sv2, rfl, hk2⟩, hb2⟩
                   have HR2 := Lib.hid (HRk.out.below hb2); have HZ2 := Lib.hid (HZk.out.of_below hb2); have HB2 := Lib.hid (HBk.out.trans (hb2.mono (Nat.le_of_lt HRk.out.dev.lt)))
                   have HK2 := Lib.hid hk2; clear hk2 hb2)
                | ((with_reducible refine is_st _ _ _ rfl ?_); refine st_cell rfl rfl rfl rfl HK2.out.one.1 HR2.out.dev Hs1.out (by rw [rc_len HR2.out.bl]; decide) HK2.out.one.2 ?_; intro w3 hu3
                   have HR3 : Hid (Rs w3 g Bb n f0 m 0 1 Bk 0 sv2 (secPut Dq (f0 + k) [0, 0, 0, 0])) := Lib.hid (HR2.out.put HK2.out hu3.same (by have h := hu3.to; rw [rc_set21 HR2.out.bl] at h; exact h))
                   have HZ3 := Lib.hid (hu3.same.at HZ2.out HN12.out); have HB3 := Lib.hid (HB2.out.trans (hu3.below (Nat.le_refl _))); clear hu3)
                | fail)
              exact ⟨⟨k + 1, sv2, by omega, by go_num, by rw [HNx.out]; exact HR3.out, HZ3.out, HB3.out⟩, by simp only [intOf]; omega⟩
          · obtain rfl : k = m := by omega
            have hd : decide ((k : Int) < (k : Int)) = false := by rw [decide_eq_false_iff_not]; omega
            clear hlt
            go_wp2_with (first
              | ((with_reducible refine is_ld _ _ rfl ?_); refine ld_agg rfl rfl rfl HRk.out.dev Try.underlying34 rfl 22 Hi22.out (by rw [rc_len HRk.out.bl]; decide) ?_; rw [ld_all (rc_len HRk.out.bl)])
              | ((with_reducible refine is_st _ _ _ rfl ?_); refine st_agg rfl rfl rfl rfl HZk.out 22 Hi22.out (rc_len HRk.out.bl) (Nat.le_refl 22) (rc_ones HRk.out.dk.one.2) ?_; intro w7 hu7; rw [st_all r0_len] at hu7; have HU7 := Lib.hid hu7; clear hu7)
              | fail)
            refine bodyPost_ret (res_cell (p := 4) (ty := 34) rfl _ rfl HU7.out.to Try.underlying34 rfl 22 Hi22.out (rc_len HRk.out.bl)) rfl ⟨⟨svk, ?_, ?_⟩, ?_⟩
            · rw [HE.out.1, HE.out.2]
            · rw [HE.out.2]; exact HRk.out.dk.same HZk.out (by decide) HU7.out.same
            · have h := HBk.out.trans (HU7.out.below (HR.out))
              rwa [← HW.out] at h
      · have hE : cmdE F M n v = 2 ∧ cmdS F M n v B D = (B, D) := by unfold cmdE cmdS; rw [if_neg h1, if_neg h4, if_neg hin, if_neg h1, if_neg h4, if_neg hin]; exact ⟨rfl, rfl⟩
        have HE := Lib.hid hE
        by_cases hm1 : M < 1
        · have d4 : decide (M < (1 : Int)) = true := decide_eq_true hm1
          clear hE h1 h4 hin hm1
          refine ⟨?_⟩
          go_wp2_with (first | ((with_reducible refine hold_st _ _ _ rfl ?_)) | fail)
          refine ⟨?_⟩
          go_wp2_with (first
            | (refine st_cell (o := 2) (v := .int .u32 2) rfl rfl rfl rfl rfl HR5.out.dev Hu1.out (by rw [rc_len HBl.out]; decide) rfl ?_; intro w6 hu6
               have HR6 : Hid (Rs w6 g Bb n F M 2 1 B 0 sv D) := Lib.hid (HR5.out.upd hu6.same hu6.to HBl.out)
               have HZ6 := Lib.hid (hu6.same.at HZ5.out HN12.out)
               have HB6 := Lib.hid (HB5.out.trans (hu6.below (Nat.le_refl _))); clear hu6)
            | (refine ld_agg rfl rfl rfl HR6.out.dev Try.underlying34 rfl 22 Hi22.out (by rw [rc_len HBl.out]; decide) ?_; rw [ld_all (rc_len HBl.out)])
            | (refine st_agg rfl rfl rfl rfl HZ6.out 22 Hi22.out (rc_len HBl.out) (Nat.le_refl 22) (rc_ones HO.out) ?_; intro w7 hu7; rw [st_all r0_len] at hu7; have HU7 := Lib.hid hu7; clear hu7)
            | fail)
          refine bodyPost_ret (res_cell (p := 4) (ty := 34) rfl _ rfl HU7.out.to Try.underlying34 rfl 22 Hi22.out (rc_len HBl.out)) rfl ⟨⟨sv, ?_, ?_⟩, ?_⟩
          · rw [HE.out.1, HE.out.2]
          · rw [HE.out.2]; exact HR6.out.dk.same HZ6.out (by decide) HU7.out.same
          · have h := HB6.out.trans (HU7.out.below (HR.out))
            rwa [← HW.out] at h
        · have d4 : decide (M < (1 : Int)) = false := decide_eq_false hm1
          by_cases hm4 : 4 < M
          · have d5 : decide ((4 : Int) < M) = true := decide_eq_true hm4
            clear hE h1 h4 hin hm1 hm4
            refine ⟨?_⟩
            go_wp2_with (first | ((with_reducible refine hold_st _ _ _ rfl ?_)) | fail)
            refine ⟨?_⟩
            go_wp2_with (first
              | (refine st_cell (o := 2) (v := .int .u32 2) rfl rfl rfl rfl rfl HR5.out.dev Hu1.out (by rw [rc_len HBl.out]; decide) rfl ?_; intro w6 hu6
                 have HR6 : Hid (Rs w6 g Bb n F M 2 1 B 0 sv D) := Lib.hid (HR5.out.upd hu6.same hu6.to HBl.out)
                 have HZ6 := Lib.hid (hu6.same.at HZ5.out HN12.out)
                 have HB6 := Lib.hid (HB5.out.trans (hu6.below (Nat.le_refl _))); clear hu6)
              | (refine ld_agg rfl rfl rfl HR6.out.dev Try.underlying34 rfl 22 Hi22.out (by rw [rc_len HBl.out]; decide) ?_; rw [ld_all (rc_len HBl.out)])
              | (refine st_agg rfl rfl rfl rfl HZ6.out 22 Hi22.out (rc_len HBl.out) (Nat.le_refl 22) (rc_ones HO.out) ?_; intro w7 hu7; rw [st_all r0_len] at hu7; have HU7 := Lib.hid hu7; clear hu7)
              | fail)
            refine bodyPost_ret (res_cell (p := 4) (ty := 34) rfl _ rfl HU7.out.to Try.underlying34 rfl 22 Hi22.out (rc_len HBl.out)) rfl ⟨⟨sv, ?_, ?_⟩, ?_⟩
            · rw [HE.out.1, HE.out.2]
            · rw [HE.out.2]; exact HR6.out.dk.same HZ6.out (by decide) HU7.out.same
            · have h := HB6.out.trans (HU7.out.below (HR.out))
              rwa [← HW.out] at h
          · have d5 : decide ((4 : Int) < M) = false := decide_eq_false hm4
            have hw3 : IntKind.u64.wrap (F + M) = F + M := by rw [IntKind.wrap_u64]; omega
            have d6 : decide ((n : Int) < F + M) = true := by
              rw [decide_eq_true_eq]
              unfold inS at hin
              rw [decide_eq_true_eq] at hin
              omega
            clear hE h1 h4 hin hm1 hm4
            refine ⟨?_⟩
            go_wp2_with (first | ((with_reducible refine hold_st _ _ _ rfl ?_)) | fail)
            refine ⟨?_⟩
            go_wp2_with (first
              | (refine st_cell (o := 2) (v := .int .u32 2) rfl rfl rfl rfl rfl HR5.out.dev Hu1.out (by rw [rc_len HBl.out]; decide) rfl ?_; intro w6 hu6
                 have HR6 : Hid (Rs w6 g Bb n F M 2 1 B 0 sv D) := Lib.hid (HR5.out.upd hu6.same hu6.to HBl.out)
                 have HZ6 := Lib.hid (hu6.same.at HZ5.out HN12.out)
                 have HB6 := Lib.hid (HB5.out.trans (hu6.below (Nat.le_refl _))); clear hu6)
              | (refine ld_agg rfl rfl rfl HR6.out.dev Try.underlying34 rfl 22 Hi22.out (by rw [rc_len HBl.out]; decide) ?_; rw [ld_all (rc_len HBl.out)])
              | (refine st_agg rfl rfl rfl rfl HZ6.out 22 Hi22.out (rc_len HBl.out) (Nat.le_refl 22) (rc_ones HO.out) ?_; intro w7 hu7; rw [st_all r0_len] at hu7; have HU7 := Lib.hid hu7; clear hu7)
              | fail)
            refine bodyPost_ret (res_cell (p := 4) (ty := 34) rfl _ rfl HU7.out.to Try.underlying34 rfl 22 Hi22.out (rc_len HBl.out)) rfl ⟨⟨sv, ?_, ?_⟩, ?_⟩
            · rw [HE.out.1, HE.out.2]
            · rw [HE.out.2]; exact HR6.out.dk.same HZ6.out (by decide) HU7.out.same
            · have h := HB6.out.trans (HU7.out.below (HR.out))
              rwa [← HW.out] at h
end Go.Proofs.Ythndnammnnallaa
