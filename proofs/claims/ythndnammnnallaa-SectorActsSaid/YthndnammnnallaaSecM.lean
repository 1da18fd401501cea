/- Walks of a row of acts on a device, and on the reference's: the loop. -/
import Derived.Test.YthndnammnnallaaSecL
import Derived.Test.YthndnammnnallaaOpen
namespace Go.Proofs.Ythndnammnnallaa
open Go.RowKit
set_option maxHeartbeats 4000000

theorem At.of_same {w w' : World} {g k : Nat} {c : List Value} {t : TypeId} (h : At w k c t) (hs : Same g w w') (hne : k ≠ g) : At w' k c t := hs.at h hne
theorem Dk.ch {w w' : World} {Bb n : Nat} {sv : Value} {D : List Int} {S : List Nat} (h : Dk w Bb sv n D) (hs : Ch S w w') (hS : ∀ k ∈ S, k < Bb) : Dk w' Bb sv n D := by
  obtain ⟨b, cap, h1, h2, h3, h4, ⟨cs, h5⟩, h6⟩ := h
  have hne : b ∉ S := fun hb => by have := hS b hb; omega
  refine ⟨b, cap, h1, h2, h3, h4, ⟨cs, hs.at h5 hne⟩, fun j u hu => ?_⟩
  rw [← h6 j u hu]
  have := hs.other b h5.lt hne
  simp only [World.cell?, this]
theorem Ds.fine {w : World} {gd gm gl n : Nat} {s : Sx} (h : Ds w gd gm gl n s) : Fine n s := ⟨h.bl, h.dl, h.pl, h.nl, h.fr, h.mr⟩
theorem Ds.below {w w' : World} {gd gm gl n : Nat} {s : Sx} (h : Ds w gd gm gl n s) (hb : Below w.heap.size w w') : Ds w' gd gm gl n s := by
  obtain ⟨lf, hm⟩ := h.mm
  exact ⟨h.dev.of_below hb, ⟨lf, hm.of_below hb⟩, h.dsk.of_below hb, h.bl, h.dl, h.pl, h.nl, h.fr, h.mr⟩
theorem Ds.same {w w' : World} {gd gm gl n g : Nat} {s : Sx} (h : Ds w gd gm gl n s) (hs : Same g w w') (h1 : gd ≠ g) (h2 : gm ≠ g) (h3 : gl ≠ g) : Ds w' gd gm gl n s := by
  obtain ⟨lf, hm⟩ := h.mm
  exact ⟨hs.at h.dev h1, ⟨lf, hs.at hm h2⟩, hs.at h.dsk h3, h.bl, h.dl, h.pl, h.nl, h.fr, h.mr⟩

/-- the device, and the reference's, in a round -/
structure Rd (W0 : World) (gd gm gl g4 Bb n : Nat) (s s2 : Sx) (sv : Value) (w : World) : Prop where
  ds : Ds w gd gm gl n s
  dev : At w g4 (rcS s2 sv) 34
  dk : Dk w Bb sv n s2.D
  below : Below W0.heap.size W0 w
  gs : W0.heap.size ≤ gd ∧ W0.heap.size ≤ gm ∧ W0.heap.size ≤ gl ∧ W0.heap.size ≤ g4
  gb : gd < Bb ∧ gm < Bb ∧ gl < Bb
section
variable {W0 w W : World} {gd gm gl g4 Bb n : Nat} {s s' s2 s3 : Sx} {sv sv' : Value}
theorem Rd.bel (h : Rd W0 gd gm gl g4 Bb n s s2 sv w) (hb : Below w.heap.size w W) : Rd W0 gd gm gl g4 Bb n s s2 sv W :=
  ⟨h.ds.below hb, h.dev.of_below hb, h.dk.below hb, h.below.trans (hb.mono h.below.size), h.gs, h.gb⟩
theorem Rd.same {g : Nat} {c : List Value} {t : TypeId} (h : Rd W0 gd gm gl g4 Bb n s s2 sv w) (hs : Same g w W) (hA : At w g c t) (ht : t ≠ 44) (hg : W0.heap.size ≤ g) (h1 : gd ≠ g) (h2 : gm ≠ g) (h4 : g4 ≠ g) : Rd W0 gd gm gl g4 Bb n s s2 sv W :=
  ⟨h.ds.same hs h1 h2 (at_ne h.ds.dsk hA ht.symm), hs.at h.dev h4, h.dk.same hA ht hs, h.below.trans (hs.below hg), h.gs, h.gb⟩
theorem Rd.act (h : Rd W0 gd gm gl g4 Bb n s s2 sv w) (hd : Ds W gd gm gl n s') (hc : Ch [gd, gm, gl] w W) : Rd W0 gd gm gl g4 Bb n s' s2 sv W := by
  obtain ⟨lf, hm⟩ := h.ds.mm
  have n1 : g4 ≠ gd := at_ne h.dev h.ds.dev (by decide)
  have n2 : g4 ≠ gm := at_ne h.dev hm (by decide)
  have n3 : g4 ≠ gl := at_ne h.dev h.ds.dsk (by decide)
  exact ⟨hd, hc.at h.dev (by simp [n1, n2, n3]), h.dk.ch hc (by simp [h.gb]), h.below.trans (hc.below h.below.size (by simp [h.gs])), h.gs, h.gb⟩
theorem Rd.ref (h : Rd W0 gd gm gl g4 Bb n s s2 sv w) (hk : Dk w Bb sv' n s3.D) (hs : Same g4 w W) (hA : At W g4 (rcS s3 sv') 34) : Rd W0 gd gm gl g4 Bb n s s3 sv' W := by
  obtain ⟨lf, hm⟩ := h.ds.mm
  exact ⟨h.ds.same hs (at_ne h.ds.dev h.dev (by decide)) (at_ne hm h.dev (by decide)) (at_ne h.ds.dsk h.dev (by decide)), hA, hk.same h.dev (by decide) hs, h.below.trans (hs.below h.gs.2.2.2), h.gs, h.gb⟩
theorem Rd.drewN (h : Rd W0 gd gm gl g4 Bb n s s2 sv w) (k : Nat) : Rd W0 gd gm gl g4 Bb n s s2 sv (w.drewN k) :=
  h.bel ⟨rfl, rfl, rfl, Nat.le_refl _, fun _ _ => rfl⟩
end
theorem zero_act10 (w : World) : (zeroValue 49).run Try.prog w = .ok (.agg #[.int .u8 0, .int .i64 0, .int .u32 0]) w := by
  have h : (Try.prog.info? 49).bind (·.zero) = some (.agg #[.int .u8 0, .int .i64 0, .int .u32 0]) := by kernel_rfl
  unfold zeroValue typeInfo
  cases hq : Try.prog.info? 49 with
  | none => rw [hq] at h; cases h
  | some i =>
    rw [hq] at h
    simp only [Option.bind_some] at h
    simp [hq, h]
theorem fit_act10 {cs : List Value} (h : Fit [some .u8, some .i64, some .u32] cs) : ∃ kd reg v : Int, cs = [.int .u8 kd, .int .i64 reg, .int .u32 v] ∧ (0 ≤ kd ∧ kd < 256) ∧ (0 ≤ v ∧ v < 4294967296) := by
  match cs, h with
  | [.int k0 a, .int k1 b, .int k2 c], h =>
    obtain ⟨⟨rfl, a1, a2⟩, ⟨rfl, _, _⟩, ⟨rfl, d1, d2⟩, _⟩ := h
    simp [IntKind.min, IntKind.max, IntKind.signed, IntKind.bits] at a1 a2 d1 d2
    exact ⟨a, b, c, rfl, ⟨a1, by omega⟩, ⟨d1, by omega⟩⟩
theorem lb_one (b : Bool) : (lb b == 1) = b := by cases b <;> rfl
theorem rcS_len {n : Nat} {s : Sx} {sv : Value} (h : Fine n s) : (rcS s sv).length = 22 := rc_len h.bl
theorem rcS_line (s : Sx) (sv : Value) : (rcS s sv)[3]? = some (.int .u32 (lb s.ln)) := rfl

set_option maxRecDepth 100000 in
theorem run_any {gd gm gl Bb n : Nat} {s : Sx} {sv av : Value} {acts : List (List Value)} (W0 w : World) (hD : Ds w gd gm gl n s) (hK : Dk w Bb sv n s.D) (hb : Below W0.heap.size W0 w) (hg : W0.heap.size ≤ gd ∧ W0.heap.size ≤ gm ∧ W0.heap.size ≤ gl) (hg2 : gd < Bb ∧ gm < Bb ∧ gl < Bb) (he : Es 3 W0 av acts) (hf : ∀ x ∈ acts, Fit [some .u8, some .i64, some .u32] x) (hl2 : acts.length ≤ 100) :
    Calls Try.prog 6 #[.pointer (some ⟨gd, 0, none⟩), .agg (rcS s sv).toArray, av] w fun e w' => (∃ s' sv', e = .returned (.tuple #[.agg (rcS s' sv').toArray, .bool true]) ∧ Ds w' gd gm gl n s' ∧ Dk w' Bb sv' n s'.D) ∧ Below W0.heap.size W0 w' := by
  have Hi22 : Hid ((Try.prog.info? 34).map (·.size) = some 22) := by unfold Hid; kernel_rfl
  have Hi3 : Hid ((Try.prog.info? 49).map (·.size) = some 3) := by unfold Hid; kernel_rfl
  have HDS := Lib.hid hD; have HK := Lib.hid hK; have HB := Lib.hid hb; have HG := Lib.hid hg; have HG2 := Lib.hid hg2; have HE := Lib.hid he; have HF := Lib.hid hf
  obtain ⟨a2, cap2, rfl⟩ := he.shape
  clear hD hK hb hg hg2 he hf
  go_enter Try.func6, Try.ntmps6
  go_wp2_with (first
    | (refine bx_new rfl (ty := 34) rfl rfl ?_; intro w1 hn1
       have HR1 : Hid (Rd W0 gd gm gl w.heap.size Bb n s s sv w1) := Lib.hid ⟨HDS.out.below (hn1.below (Nat.le_refl _)), hn1.to, HK.out.below (hn1.below (Nat.le_refl _)), HB.out.trans (hn1.below HB.out.size), ⟨HG.out.1, HG.out.2.1, HG.out.2.2, HB.out.size⟩, HG2.out⟩
       clear hn1)
    | (refine al_new rfl rfl (zero_dev _) ?_; intro w2 hn2
       have HR2 := Lib.hid (HR1.out.bel (hn2.below (Nat.le_refl _)))
       have HZ2 : Hid (At w2 w1.heap.size r0 34) := Lib.hid hn2.to
       have HN : Hid (w1.heap.size ≠ w.heap.size ∧ W0.heap.size ≤ w1.heap.size) := Lib.hid ⟨Nat.ne_of_gt HR1.out.dev.lt, HR1.out.below.size⟩
       clear hn2)
    | fail)
  obtain ⟨g4, hg4⟩ : ∃ g, w.heap.size = g := ⟨_, rfl⟩
  obtain ⟨g6, hg6⟩ : ∃ g, w1.heap.size = g := ⟨_, rfl⟩
  have hh : Rd W0 gd gm gl g4 Bb n s s sv w2 ∧ At w2 g6 r0 34 ∧ g6 ≠ g4 ∧ W0.heap.size ≤ g6 := by
    rw [← hg4, ← hg6]; exact ⟨HR2.out, HZ2.out, HN.out⟩
  rw [hg4, hg6]
  clear hg4 hg6 HR2 HZ2 HN HR1 HDS HK HB HG HG2
  have HN : Hid (g6 ≠ g4 ∧ W0.heap.size ≤ g6) := Lib.hid hh.2.2
  have HH := Lib.hid (And.intro hh.1 hh.2.1)
  clear hh
  go_loopw [20] (fun i wr => ∃ (k : Nat) (s' : Sx) (sv' : Value), k ≤ acts.length ∧ i = .int .i64 k ∧ Rd W0 gd gm gl g4 Bb n s' s' sv' wr ∧ At wr g6 r0 34) (fun i _ => acts.length - (intOf i).toNat)
  case atStart => exact ⟨0, s, sv, by omega, rfl, HH.out⟩
  case round =>
    obtain ⟨k, s', sv', hk, rfl, hR, hZ⟩ := hrel
    by_cases hlt : k < acts.length
    · have hx : acts[k]? = some acts[k] := List.getElem?_eq_getElem hlt
      obtain ⟨kd, reg, v, hact, hkd, hv⟩ := fit_act10 (HF.out _ (List.getElem_mem hlt))
      rw [hact] at hx
      obtain ⟨b, off, cap', hv1, _, hrg⟩ := HE.out.elem hx
      simp only [Value.slice.injEq] at hv1
      obtain ⟨rfl, -, rfl⟩ := hv1
      have Hrg := Lib.hid (hrg wr hR.below)
      have hlt' : (k : Int) < (acts.length : Int) := by omega
      have Hv := Lib.hid hv
      have HR := Lib.hid hR; have HZ := Lib.hid hZ
      clear hx hact hrg hR hZ hv
      by_cases hm : kd % 2 = 1
      · have hmb : (kd % 2 == 1) = true := by rw [beq_iff_eq]; exact hm
        clear hm
        have hl1 : (lb (getS s' reg).ln == 1) = (getS s' reg).ln := lb_one _
        have hl3 : ((getS s' reg).ln != (getS s' reg).ln) = false := bne_self_eq_false _
        have hl4 : (getV n s' reg != getV n s' reg) = false := bne_self_eq_false _
        have hl5 : (setE reg != setE reg) = false := bne_self_eq_false _
        go_wp2_with (first
          | (refine ld_rng rfl rfl rfl Hrg.out Try.underlying49 rfl Hi3.out ?_)
          | (refine al_new rfl rfl (zero_act10 _) ?_; intro w3 hn3
             have HR3 := Lib.hid (HR.out.bel (hn3.below (Nat.le_refl _)))
             have HZ3 := Lib.hid (hn3.at HZ.out)
             have HA3 : Hid (At w3 wr.heap.size [.int .u8 0, .int .i64 0, .int .u32 0] 49) := Lib.hid hn3.to; clear hn3)
          | (refine st_agg rfl rfl rfl rfl HA3.out 3 Hi3.out rfl (Nat.le_refl 3) (by intro v hv; simp at hv; rcases hv with rfl | rfl | rfl <;> rfl) ?_; intro w4 hu4
             have hat : At w4 wr.heap.size [.int .u8 kd, .int .i64 reg, .int .u32 v] 49 := hu4.to
             have c0 : w4.cell? ⟨wr.heap.size, 0, none⟩ = some (.int .u8 kd) := hat.cell 0
             have c1 : w4.cell? ⟨wr.heap.size, 1, none⟩ = some (.int .i64 reg) := hat.cell 1
             have HR4 : Hid (Rd W0 gd gm gl g4 Bb n s' s' sv' w4) := Lib.hid (by
               obtain ⟨lf, hmm⟩ := HR3.out.ds.mm
               exact HR3.out.same hu4.same HA3.out (by decide) HR.out.below.size (at_ne HR3.out.ds.dev HA3.out (by decide)) (at_ne hmm HA3.out (by decide)) (at_ne HR3.out.dev HA3.out (by decide)))
             have HZ4 : Hid (At w4 g6 r0 34) := Lib.hid (hu4.at HZ3.out (at_ne HZ3.out HA3.out (by decide)))
             have HA4 := Lib.hid hat
             clear hu4 hat)
          | (go_at_call 10; refine (get_any (reg := reg) _ HR4.out.ds).mono ?_; rintro e w5 ⟨rfl, hd5, hc5⟩
             have HR5 : Hid (Rd W0 gd gm gl g4 Bb n (getS s' reg) s' sv' w5) := Lib.hid (HR4.out.act hd5 hc5)
             have HA5 : Hid (At w5 wr.heap.size [.int .u8 kd, .int .i64 reg, .int .u32 v] 49) := Lib.hid (by
               obtain ⟨lf, hmm⟩ := HR4.out.ds.mm
               have h1 := at_ne HA4.out HR4.out.ds.dev (by decide)
               have h2 := at_ne HA4.out hmm (by decide)
               have h3 := at_ne HA4.out HR4.out.ds.dsk (by decide)
               exact hc5.at HA4.out (by simp [h1, h2, h3]))
             have HZ5 : Hid (At w5 g6 r0 34) := Lib.hid (by
               obtain ⟨lf, hmm⟩ := HR4.out.ds.mm
               have h1 := at_ne HZ4.out HR4.out.ds.dev (by decide)
               have h2 := at_ne HZ4.out hmm (by decide)
               have h3 := at_ne HZ4.out HR4.out.ds.dsk (by decide)
               exact hc5.at HZ4.out (by simp [h1, h2, h3]))
             have c1 : w5.cell? ⟨wr.heap.size, 1, none⟩ = some (.int .i64 reg) := HA5.out.cell 1
             have c2 : w5.cell? ⟨wr.heap.size, 2, none⟩ = some (.int .u32 v) := HA5.out.cell 2
             clear hd5 hc5)
          | (refine ld_agg rfl rfl rfl HR5.out.dev Try.underlying34 rfl 22 Hi22.out (by rw [rcS_len HR4.out.ds.fine]; decide) ?_; rw [ld_all (rcS_len HR4.out.ds.fine)])
          | (go_at_call 11; refine (rget_any (reg := reg) HR4.out.ds.fine _ HR5.out.dk).mono ?_; rintro e w6 ⟨⟨sv6, rfl, hk6⟩, hb6⟩
             have HR6 := Lib.hid (HR5.out.bel hb6)
             have HZ6 := Lib.hid (HZ5.out.of_below hb6)
             have HK6 : Hid (Dk w6 Bb sv6 n (getS s' reg).D) := Lib.hid hk6
             clear hk6 hb6)
          | (refine al_new rfl rfl (zero_dev _) ?_; intro w7 hn7
             have HR7 := Lib.hid (HR6.out.bel (hn7.below (Nat.le_refl _)))
             have HZ7 := Lib.hid (hn7.at HZ6.out)
             have HK7 := Lib.hid (HK6.out.below (hn7.below (Nat.le_refl _)))
             have HY7 : Hid (At w7 w6.heap.size r0 34) := Lib.hid hn7.to
             have HN7 : Hid (g4 ≠ w6.heap.size ∧ g6 ≠ w6.heap.size ∧ W0.heap.size ≤ w6.heap.size) := Lib.hid ⟨Nat.ne_of_lt HR6.out.dev.lt, Nat.ne_of_lt HZ6.out.lt, HR6.out.below.size⟩
             clear hn7)
          | (refine st_agg rfl rfl rfl rfl HY7.out 22 Hi22.out (rcS_len HR5.out.ds.fine) (Nat.le_refl 22) (rc_ones HK7.out.one.2) ?_; intro w8 hu8; rw [st_all r0_len] at hu8
             have HY8 : Hid (At w8 w6.heap.size (rcS (getS s' reg) sv6) 34) := Lib.hid hu8.to
             have HR8 : Hid (Rd W0 gd gm gl g4 Bb n (getS s' reg) s' sv' w8) := Lib.hid (by
               obtain ⟨lf, hmm⟩ := HR7.out.ds.mm
               exact HR7.out.same hu8.same HY7.out (by decide) HN7.out.2.2 (at_ne HR7.out.ds.dev HY7.out (by decide)) (at_ne hmm HY7.out (by decide)) HN7.out.1)
             have HZ8 : Hid (At w8 g6 r0 34) := Lib.hid (hu8.at HZ7.out HN7.out.2.1)
             have HK8 : Hid (Dk w8 Bb sv6 n (getS s' reg).D) := Lib.hid (HK7.out.same HY7.out (by decide) hu8.same)
             clear hu8)
          | (refine ld_agg rfl rfl rfl HY8.out Try.underlying34 rfl 22 Hi22.out (by rw [rcS_len HR5.out.ds.fine]; decide) ?_; rw [ld_all (rcS_len HR5.out.ds.fine)])
          | (refine st_agg rfl rfl rfl rfl HR8.out.dev 22 Hi22.out (rcS_len HR5.out.ds.fine) (by rw [rcS_len HR4.out.ds.fine]; decide) (rc_ones HK8.out.one.2) ?_; intro w9 hu9; rw [st_all (rcS_len HR4.out.ds.fine)] at hu9
             have HR9 : Hid (Rd W0 gd gm gl g4 Bb n (getS s' reg) (getS s' reg) sv6 w9) := Lib.hid (HR8.out.ref HK8.out hu9.same hu9.to)
             have HZ9 : Hid (At w9 g6 r0 34) := Lib.hid (hu9.at HZ8.out HN.out.1)
             have e3 : w9.cell? ⟨g4, 3, none⟩ = some (.int .u32 (lb (getS s' reg).ln)) := (HR9.out.dev.cell 3).trans (rcS_line _ _)
             have HUP : Hid (∀ m, Calls Try.prog 9 #[.pointer (some ⟨gd, 0, none⟩)] (w9.drewN m) fun e w' => e = .returned (.bool (getS s' reg).ln) ∧ ∃ q, w' = (w9.drewN m).drewN q) := Lib.hid fun m => (up_any (w9.drewN m) (HR9.out.drewN m).ds.dev).mono (by rintro e w' ⟨rfl, rfl⟩; exact ⟨rfl, 0, rfl⟩)
             clear hu9 c1 c2)
          | fail)
        refine wp_region_quiet_lit (by kernel_rfl) (by kernel_rfl) ?_
        iterate 1 (first | ((with_reducible refine wpQuiet_step (fun K' hK' => ?_)); go_simp; (with_reducible refine hK' _ ?_); clear hK' K') | ((with_reducible refine wpQuiet_skip ?_ ?_); focus rfl))
        (with_reducible refine wpQuiet_step (fun K' hK' => ?_))
        go_simp
        apply Exists.intro
        (with_reducible refine ⟨fun nw => ?_, hK' _ ?_⟩)
        · (go_at_call 9; exact Calls.quiet_of (HUP.out nw))
        clear hK' K'
        iterate 4 (first | ((with_reducible refine wpQuiet_step (fun K' hK' => ?_)); go_simp; (with_reducible refine hK' _ ?_); clear hK' K') | ((with_reducible refine wpQuiet_skip ?_ ?_); focus rfl))
        refine wpQuiet_nil ?_
        rintro w' ⟨nq, rfl⟩
        have HR10 := Lib.hid (HR9.out.drewN nq)
        have HZ10 := Lib.hid (HZ9.out.drewN nq)
        clear e3
        go_wp2_with fail
        exact ⟨⟨k + 1, (getS s' reg), sv6, by omega, by go_num, HR10.out, HZ10.out⟩, by simp only [intOf]; omega⟩
      · have hmb : (kd % 2 == 1) = false := by rw [beq_eq_false_iff_ne]; exact hm
        clear hm
        have hl1 : (lb (setS n s' reg v).ln == 1) = (setS n s' reg v).ln := lb_one _
        have hl3 : ((setS n s' reg v).ln != (setS n s' reg v).ln) = false := bne_self_eq_false _
        have hl5 : (setE reg != setE reg) = false := bne_self_eq_false _
        go_wp2_with (first
          | (refine ld_rng rfl rfl rfl Hrg.out Try.underlying49 rfl Hi3.out ?_)
          | (refine al_new rfl rfl (zero_act10 _) ?_; intro w3 hn3
             have HR3 := Lib.hid (HR.out.bel (hn3.below (Nat.le_refl _)))
             have HZ3 := Lib.hid (hn3.at HZ.out)
             have HA3 : Hid (At w3 wr.heap.size [.int .u8 0, .int .i64 0, .int .u32 0] 49) := Lib.hid hn3.to; clear hn3)
          | (refine st_agg rfl rfl rfl rfl HA3.out 3 Hi3.out rfl (Nat.le_refl 3) (by intro v hv; simp at hv; rcases hv with rfl | rfl | rfl <;> rfl) ?_; intro w4 hu4
             have hat : At w4 wr.heap.size [.int .u8 kd, .int .i64 reg, .int .u32 v] 49 := hu4.to
             have c0 : w4.cell? ⟨wr.heap.size, 0, none⟩ = some (.int .u8 kd) := hat.cell 0
             have c1 : w4.cell? ⟨wr.heap.size, 1, none⟩ = some (.int .i64 reg) := hat.cell 1
             have c2 : w4.cell? ⟨wr.heap.size, 2, none⟩ = some (.int .u32 v) := hat.cell 2
             have HR4 : Hid (Rd W0 gd gm gl g4 Bb n s' s' sv' w4) := Lib.hid (by
               obtain ⟨lf, hmm⟩ := HR3.out.ds.mm
               exact HR3.out.same hu4.same HA3.out (by decide) HR.out.below.size (at_ne HR3.out.ds.dev HA3.out (by decide)) (at_ne hmm HA3.out (by decide)) (at_ne HR3.out.dev HA3.out (by decide)))
             have HZ4 : Hid (At w4 g6 r0 34) := Lib.hid (hu4.at HZ3.out (at_ne HZ3.out HA3.out (by decide)))
             have HA4 := Lib.hid hat
             clear hu4 hat)
          | (go_at_call 8; refine (set_any (reg := reg) Hv.out _ HR4.out.ds).mono ?_; rintro e w5 ⟨rfl, hd5, hc5⟩
             have HR5 : Hid (Rd W0 gd gm gl g4 Bb n (setS n s' reg v) s' sv' w5) := Lib.hid (HR4.out.act hd5 hc5)
             have HA5 : Hid (At w5 wr.heap.size [.int .u8 kd, .int .i64 reg, .int .u32 v] 49) := Lib.hid (by
               obtain ⟨lf, hmm⟩ := HR4.out.ds.mm
               have h1 := at_ne HA4.out HR4.out.ds.dev (by decide)
               have h2 := at_ne HA4.out hmm (by decide)
               have h3 := at_ne HA4.out HR4.out.ds.dsk (by decide)
               exact hc5.at HA4.out (by simp [h1, h2, h3]))
             have HZ5 : Hid (At w5 g6 r0 34) := Lib.hid (by
               obtain ⟨lf, hmm⟩ := HR4.out.ds.mm
               have h1 := at_ne HZ4.out HR4.out.ds.dev (by decide)
               have h2 := at_ne HZ4.out hmm (by decide)
               have h3 := at_ne HZ4.out HR4.out.ds.dsk (by decide)
               exact hc5.at HZ4.out (by simp [h1, h2, h3]))
             have c1 : w5.cell? ⟨wr.heap.size, 1, none⟩ = some (.int .i64 reg) := HA5.out.cell 1
             have c2 : w5.cell? ⟨wr.heap.size, 2, none⟩ = some (.int .u32 v) := HA5.out.cell 2
             clear hd5 hc5)
          | (refine ld_agg rfl rfl rfl HR5.out.dev Try.underlying34 rfl 22 Hi22.out (by rw [rcS_len HR4.out.ds.fine]; decide) ?_; rw [ld_all (rcS_len HR4.out.ds.fine)])
          | (go_at_call 12; refine (rset_any (reg := reg) Hv.out HR4.out.ds.fine _ HR5.out.dk).mono ?_; rintro e w6 ⟨⟨sv6, rfl, hk6⟩, hb6⟩
             have HR6 := Lib.hid (HR5.out.bel hb6)
             have HZ6 := Lib.hid (HZ5.out.of_below hb6)
             have HK6 : Hid (Dk w6 Bb sv6 n (setS n s' reg v).D) := Lib.hid hk6
             clear hk6 hb6)
          | (refine al_new rfl rfl (zero_dev _) ?_; intro w7 hn7
             have HR7 := Lib.hid (HR6.out.bel (hn7.below (Nat.le_refl _)))
             have HZ7 := Lib.hid (hn7.at HZ6.out)
             have HK7 := Lib.hid (HK6.out.below (hn7.below (Nat.le_refl _)))
             have HY7 : Hid (At w7 w6.heap.size r0 34) := Lib.hid hn7.to
             have HN7 : Hid (g4 ≠ w6.heap.size ∧ g6 ≠ w6.heap.size ∧ W0.heap.size ≤ w6.heap.size) := Lib.hid ⟨Nat.ne_of_lt HR6.out.dev.lt, Nat.ne_of_lt HZ6.out.lt, HR6.out.below.size⟩
             clear hn7)
          | (refine st_agg rfl rfl rfl rfl HY7.out 22 Hi22.out (rcS_len HR5.out.ds.fine) (Nat.le_refl 22) (rc_ones HK7.out.one.2) ?_; intro w8 hu8; rw [st_all r0_len] at hu8
             have HY8 : Hid (At w8 w6.heap.size (rcS (setS n s' reg v) sv6) 34) := Lib.hid hu8.to
             have HR8 : Hid (Rd W0 gd gm gl g4 Bb n (setS n s' reg v) s' sv' w8) := Lib.hid (by
               obtain ⟨lf, hmm⟩ := HR7.out.ds.mm
               exact HR7.out.same hu8.same HY7.out (by decide) HN7.out.2.2 (at_ne HR7.out.ds.dev HY7.out (by decide)) (at_ne hmm HY7.out (by decide)) HN7.out.1)
             have HZ8 : Hid (At w8 g6 r0 34) := Lib.hid (hu8.at HZ7.out HN7.out.2.1)
             have HK8 : Hid (Dk w8 Bb sv6 n (setS n s' reg v).D) := Lib.hid (HK7.out.same HY7.out (by decide) hu8.same)
             clear hu8)
          | (refine ld_agg rfl rfl rfl HY8.out Try.underlying34 rfl 22 Hi22.out (by rw [rcS_len HR5.out.ds.fine]; decide) ?_; rw [ld_all (rcS_len HR5.out.ds.fine)])
          | (refine st_agg rfl rfl rfl rfl HR8.out.dev 22 Hi22.out (rcS_len HR5.out.ds.fine) (by rw [rcS_len HR4.out.ds.fine]; decide) (rc_ones HK8.out.one.2) ?_; intro w9 hu9; rw [st_all (rcS_len HR4.out.ds.fine)] at hu9
             have HR9 : Hid (Rd W0 gd gm gl g4 Bb n (setS n s' reg v) (setS n s' reg v) sv6 w9) := Lib.hid (HR8.out.ref HK8.out hu9.same hu9.to)
             have HZ9 : Hid (At w9 g6 r0 34) := Lib.hid (hu9.at HZ8.out HN.out.1)
             have e3 : w9.cell? ⟨g4, 3, none⟩ = some (.int .u32 (lb (setS n s' reg v).ln)) := (HR9.out.dev.cell 3).trans (rcS_line _ _)
             have HUP : Hid (∀ m, Calls Try.prog 9 #[.pointer (some ⟨gd, 0, none⟩)] (w9.drewN m) fun e w' => e = .returned (.bool (setS n s' reg v).ln) ∧ ∃ q, w' = (w9.drewN m).drewN q) := Lib.hid fun m => (up_any (w9.drewN m) (HR9.out.drewN m).ds.dev).mono (by rintro e w' ⟨rfl, rfl⟩; exact ⟨rfl, 0, rfl⟩)
             clear hu9 c1 c2)
          | fail)
        refine wp_region_quiet_lit (by kernel_rfl) (by kernel_rfl) ?_
        iterate 1 (first | ((with_reducible refine wpQuiet_step (fun K' hK' => ?_)); go_simp; (with_reducible refine hK' _ ?_); clear hK' K') | ((with_reducible refine wpQuiet_skip ?_ ?_); focus rfl))
        (with_reducible refine wpQuiet_step (fun K' hK' => ?_))
        go_simp
        apply Exists.intro
        (with_reducible refine ⟨fun nw => ?_, hK' _ ?_⟩)
        · (go_at_call 9; exact Calls.quiet_of (HUP.out nw))
        clear hK' K'
        iterate 4 (first | ((with_reducible refine wpQuiet_step (fun K' hK' => ?_)); go_simp; (with_reducible refine hK' _ ?_); clear hK' K') | ((with_reducible refine wpQuiet_skip ?_ ?_); focus rfl))
        refine wpQuiet_nil ?_
        rintro w' ⟨nq, rfl⟩
        have HR10 := Lib.hid (HR9.out.drewN nq)
        have HZ10 := Lib.hid (HZ9.out.drewN nq)
        clear e3
        go_wp2_with fail
        exact ⟨⟨k + 1, (setS n s' reg v), sv6, by omega, by go_num, HR10.out, HZ10.out⟩, by simp only [intOf]; omega⟩
    · have hd : decide ((k : Int) < (acts.length : Int)) = false := decide_eq_false (by omega)
      have HB := Lib.hid hR.below
      have HR := Lib.hid hR; have HZ := Lib.hid hZ
      clear hR hZ
      go_wp2_with (first
        | (refine ld_agg rfl rfl rfl HR.out.dev Try.underlying34 rfl 22 Hi22.out (by rw [rcS_len HR.out.ds.fine]; decide) ?_; rw [ld_all (rcS_len HR.out.ds.fine)])
        | (refine st_agg rfl rfl rfl rfl HZ.out 22 Hi22.out (rcS_len HR.out.ds.fine) (Nat.le_refl 22) (rc_ones HR.out.dk.one.2) ?_; intro w3 hu3; rw [st_all r0_len] at hu3
           have HY3 : Hid (At w3 g6 (rcS s' sv') 34) := Lib.hid hu3.to
           have HR3 : Hid (Rd W0 gd gm gl g4 Bb n s' s' sv' w3) := Lib.hid (by
             obtain ⟨lf, hmm⟩ := HR.out.ds.mm
             exact HR.out.same hu3.same HZ.out (by decide) HN.out.2 (at_ne HR.out.ds.dev HZ.out (by decide)) (at_ne hmm HZ.out (by decide)) HN.out.1.symm)
           clear hu3)
        | fail)
      refine bodyPost_ret (res_cell_tmp (p := 6) (q := 7) (ty := 34) rfl _ rfl HY3.out Try.underlying34 rfl 22 Hi22.out (rcS_len HR.out.ds.fine)) rfl ⟨⟨s', sv', rfl, HR3.out.ds, HR3.out.dk⟩, HR3.out.below⟩
end Go.Proofs.Ythndnammnnallaa
