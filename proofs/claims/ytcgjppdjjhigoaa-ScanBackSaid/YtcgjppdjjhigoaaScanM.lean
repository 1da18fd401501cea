/- Walks of the reference of scan: block. -/
import Derived.Test.YtcgjppdjjhigoaaMemB
import Derived.Test.YtcgjppdjjhigoaaScanL
namespace Go.Proofs.Ytcgjppdjjhigoaa
open Go.RowKit Go.Shelf
set_option maxHeartbeats 4000000

theorem zero_rblock (w : World) : (zeroValue 72).run Try.prog w = .ok (.agg bk0.toArray) w := by
  unfold bk0
  have h : (Try.prog.info? 72).bind (·.zero) = some (.agg (bkCells 0 0 (List.replicate 8 0) (List.replicate 8 Pg.zero)).toArray) := by kernel_rfl
  unfold zeroValue typeInfo
  cases hq : Try.prog.info? 72 with
  | none => rw [hq] at h; cases h
  | some i =>
    rw [hq] at h
    simp only [Option.bind_some] at h
    simp [hq, h]

theorem zero_rpage (w : World) : (zeroValue 25).run Try.prog w = .ok Pg.zero.val w := by
  have h : (Try.prog.info? 25).bind (·.zero) = some Pg.zero.val := by kernel_rfl
  unfold zeroValue typeInfo
  cases hq : Try.prog.info? 25 with
  | none => rw [hq] at h; cases h
  | some i =>
    rw [hq] at h
    simp only [Option.bind_some] at h
    simp [hq, h]

theorem up8_0 : up8 0 = [] := rfl
theorem bk0_eq (k n : Int) (f : Fin 8 → Int) (g : Fin 8 → Pg) : bkCells k n (ksf f (up8 0)) (psf g (up8 0)) = bkCells k n (List.replicate 8 0) (List.replicate 8 Pg.zero) := rfl

/-- what the walk of block carries along: the block that is filled, the block of the result -/
structure Fill (w wr : World) (g : Nat) (k n : Int) (ks : List Int) (ps : List Pg) : Prop where
  at_ : At wr g (bkCells k n ks ps) 72
  res : At wr w.heap.size bk0 72
  below : Below w.heap.size w wr
theorem Fill.upd {w wr w2 : World} {g : Nat} {k n : Int} {ks ks' : List Int} {ps ps' : List Pg} (h : Fill w wr g k n ks ps) (hg : w.heap.size < g) {c : List Value} (hu : Upd wr w2 g (.cells c.toArray 72)) (hc : c = bkCells k n ks' ps') : Fill w w2 g k n ks' ps' :=
  ⟨hc ▸ hu.to, hu.at h.res (by omega), h.below.trans (hu.below (by omega))⟩
theorem Fill.call {w wr w2 : World} {g : Nat} {k n : Int} {ks : List Int} {ps : List Pg} (h : Fill w wr g k n ks ps) (hb : Below wr.heap.size wr w2) : Fill w w2 g k n ks ps :=
  ⟨h.at_.of_below hb, h.res.of_below hb, h.below.trans (hb.mono h.below.size)⟩

set_option maxRecDepth 100000 in
theorem refBlock_any (b off cap : Nat) (l : List Int) (w : World) (hl : l.length = 64) (hcap : 64 ≤ cap) (hc63 : cap ≤ 9223372036854775807) (hb : b < w.heap.size) (hs : Sl w (.slice (some ⟨b, off, none⟩) 64 cap) l) :
    Calls Try.prog 50 #[.slice (some ⟨b, off, none⟩) 64 cap] w fun e w' => e = .returned (.agg (fBlock l).toArray) ∧ Below w.heap.size w w' := by
  go_enter Try.func50, Try.ntmps50
  have hs4 := sl_sub (hl ▸ hs) 0 4 (by omega) (by omega) hc63 (by omega) hb
  simp only [Nat.add_zero, Nat.sub_zero, List.drop_zero] at hs4
  have hz := zero_rblock w
  have Hs4 := Lib.hid hs4; clear hs4
  have Hi66 : Hid ((Try.prog.info? 72).map (·.size) = some 66) := by unfold Hid; kernel_rfl
  have Hi8 : Hid ((Try.prog.info? 3).map (·.size) = some 1) := by unfold Hid; kernel_rfl
  have Hi7 : Hid ((Try.prog.info? 25).map (·.size) = some 7) := by unfold Hid; kernel_rfl
  have Hs := Lib.hid hs; clear hs
  have Hl := Lib.hid hl; clear hl
  obtain ⟨n, hn⟩ : ∃ n, (count (l.take 4)).1 = n := ⟨_, rfl⟩
  obtain ⟨k, hk⟩ : ∃ k, (count (l.take 4)).2 = k := ⟨_, rfl⟩
  have Hn := Lib.hid hn; have Hk := Lib.hid hk; clear hn hk
  go_wp2_with (first
    | (refine al_new rfl rfl hz ?_; intro w1 hn1; clear hz
       have HB1 := Lib.hid (hn1.below (Nat.le_refl _)); have HA1 : Hid (At w1 w.heap.size bk0 72) := Lib.hid hn1.to; clear hn1)
    | (go_at_call 24; refine (ref_count_any _ _ _ (Hs4.out.below HB1.out)).mono ?_; rintro e w2 ⟨rfl, hb2⟩; rw [Hn.out, Hk.out]
       have HA2 := Lib.hid (HA1.out.of_below hb2); have HB2 := Lib.hid (HB1.out.trans (hb2.mono HB1.out.size)); clear hb2 HA1 HB1 Hs4)
    | (refine bd_run rfl rfl rfl (cells := (bkCells k n (List.replicate 8 0) (List.replicate 8 Pg.zero)).toArray) (by kernel_rfl) ?_)
    | (refine al_new rfl rfl (zero_rblock _) ?_; intro w3 hn3
       have HA3 := Lib.hid (hn3.at HA2.out); have HB3 := Lib.hid (HB2.out.trans (hn3.below HB2.out.size)); have HG3 : Hid (At w3 w2.heap.size bk0 72) := Lib.hid hn3.to; clear hn3)
    | (refine st_agg rfl rfl rfl rfl HG3.out 66 Hi66.out rfl (by decide) bk_one ?_; intro w4 hu4
       have hlt0 := HA2.out.lt
       have HF4 : Hid (Fill w w4 w2.heap.size k n (List.replicate 8 0) (List.replicate 8 Pg.zero)) := Lib.hid ⟨hu4.to, hu4.at HA3.out (by omega), HB3.out.trans (hu4.below (by omega))⟩
       clear hu4 HA3 HB3 HG3 HB2 HA2)
    | fail)
  generalize w2.heap.size = g at *
  go_loopw [6, 7, 8] (fun i _ _ wr => ∃ j : Nat, j ≤ 8 ∧ i = .int .i64 j ∧ Fill w wr g k n (ksf (fKind l) (up8 j)) (psf (fPage l) (up8 j))) (fun i _ _ _ => 8 - (intOf i).toNat)
  case atStart => exact ⟨0, by omega, rfl, HF4.out⟩
  case round =>
    clear HF4
    obtain ⟨j, hj, rfl, hF⟩ := hrel
    have HF := Lib.hid hF; clear hF
    by_cases hlt : j < 8
    · have Hj := Lib.hid hlt
      have hlk := ksf_len (fKind l) (up8 j)
      have hlp := psf_len (fPage l) (up8 j)
      have Hlk := Lib.hid hlk; have Hlp := Lib.hid hlp; clear hlk hlp
      have Hup := Lib.hid (up8_succ hlt)
      obtain ⟨ks, hks⟩ : ∃ ks, ksf (fKind l) (up8 j) = ks := ⟨_, rfl⟩
      obtain ⟨ps, hps⟩ : ∃ ps, psf (fPage l) (up8 j) = ps := ⟨_, rfl⟩
      have Hks := Lib.hid hks; have Hps := Lib.hid hps
      rw [hks, hps] at HF
      rw [hks] at Hlk
      rw [hps] at Hlp
      clear hks hps
      by_cases hk1 : k = 1
      · subst hk1
        obtain ⟨⟨p, kd⟩, hr⟩ : ∃ r, rd (pgWords l j) = r := ⟨_, rfl⟩
        have Hr := Lib.hid hr; clear hr
        have e1 : fKind l ⟨j, hlt⟩ = kd := by unfold fKind; rw [Hk.out, if_pos rfl, Hr.out]
        have e2 : fPage l ⟨j, hlt⟩ = p := by unfold fPage; rw [Hk.out, if_pos rfl, Hr.out]
        have E1 := Lib.hid e1; have E2 := Lib.hid e2; clear e1 e2
        have n1 : (4 + 7 * (j : Int)).toNat = 4 + 7 * j := by omega
        have n2 : (11 + 7 * (j : Int)).toNat = 11 + 7 * j := by omega
        have n3 : 11 + 7 * j - (4 + 7 * j) = 7 := by omega
        go_wp2_with (first
          | (refine st_cell (v := .int .i64 2) rfl rfl rfl rfl rfl HF.out.at_ Hi8.out (by rw [bk_length Hlk.out Hlp.out]; have := Hj.out; omega) rfl ?_; intro w5 hu5
             have HF5 : Hid (Fill w w5 g 1 n (ks.set j 2) ps) := Lib.hid (HF.out.upd hlt0 hu5 (by rw [bk_set_kind Hlk.out Hj.out])); clear hu5)
          | (go_at_call 17; refine (ref_read_any _ _ _ (sl_page Hs.out Hl.out hcap hc63 hb HF5.out.below ⟨j, hlt⟩)).mono ?_; rintro e w6 ⟨rfl, hb6⟩; rw [Hr.out]
             have HF6 := Lib.hid (HF5.out.call hb6); clear hb6)
          | (refine al_new rfl rfl (zero_rpage _) ?_; intro w7 hn7
             have HF7 := Lib.hid (HF6.out.call (hn7.below (Nat.le_refl _))); have HP7 : Hid (At w7 w6.heap.size Pg.zero.cells 25) := Lib.hid hn7.to
             have hgl : g < w6.heap.size := HF6.out.at_.lt
             clear hn7)
          | (refine st_agg (cs := p.cells) rfl rfl rfl rfl HP7.out 7 Hi7.out rfl (by decide) (by simp [Pg.cells, Value.oneCell']) ?_; intro w8 hu8
             have HF8 : Hid (Fill w w8 g 1 n (ks.set j 2) ps) := Lib.hid ⟨hu8.at HF7.out.at_ (by omega), hu8.at HF7.out.res (by omega), HF7.out.below.trans (hu8.below (by omega))⟩
             have HP8 : Hid (At w8 w6.heap.size p.cells 25) := Lib.hid hu8.to; clear hu8)
          | (refine st_cell (v := .int .i64 kd) rfl rfl rfl rfl rfl HF8.out.at_ Hi8.out (by rw [bk_length (by rw [List.length_set]; exact Hlk.out) Hlp.out]; have := Hj.out; omega) rfl ?_; intro w9 hu9
             have HP9 := Lib.hid (hu9.at HP8.out (by omega))
             have HF9 : Hid (Fill w w9 g 1 n (ks.set j kd) ps) := Lib.hid (HF8.out.upd hlt0 hu9 (by rw [bk_set_kind (by rw [List.length_set]; exact Hlk.out) Hj.out, List.set_set])); clear hu9)
          | (refine ld_agg rfl rfl rfl HP9.out Try.underlying25 rfl 7 Hi7.out (Nat.le_refl 7) ?_)
          | (refine st_agg (cs := p.cells) rfl rfl rfl rfl HF9.out.at_ 7 Hi7.out rfl (by rw [bk_length (by rw [List.length_set]; exact Hlk.out) Hlp.out]; have := Hj.out; omega) (by simp [Pg.cells, Value.oneCell']) ?_; intro w10 hu10
             have HF10 : Hid (Fill w w10 g 1 n (ks.set j kd) (ps.set j p)) := Lib.hid (HF9.out.upd hlt0 hu10 (by rw [bk_set_page' (by rw [List.length_set]; exact Hlk.out) Hlp.out Hj.out])); clear hu10)
          | fail)
        exact ⟨⟨j + 1, by have := Hj.out; omega, by go_num, by rw [Hup.out, ksf_snoc, psf_snoc, Hks.out, Hps.out, E1.out, E2.out]; exact HF10.out⟩, by have := Hj.out; simp only [intOf]; omega⟩
      · have hkb : (k == 1) = false := by simpa using hk1
        have e1 : fKind l ⟨j, hlt⟩ = 2 := by unfold fKind; rw [Hk.out, if_neg hk1]
        have e2 : ps.set j (fPage l ⟨j, hlt⟩) = ps := by
          have hz : ∀ y, fPage l y = Pg.zero := by intro y; unfold fPage; rw [Hk.out, if_neg hk1]
          rw [hz, ← Hps.out, psf_zero hz, psf_zero_set]
        have E1 := Lib.hid e1; have E2 := Lib.hid e2; clear e1 e2
        have Hk1 := Lib.hid hk1; clear hk1
        go_wp2_with (first
          | (refine st_cell (v := .int .i64 2) rfl rfl rfl rfl rfl HF.out.at_ Hi8.out (by rw [bk_length Hlk.out Hlp.out]; have := Hj.out; omega) rfl ?_; intro w5 hu5
             have HF5 : Hid (Fill w w5 g k n (ks.set j 2) ps) := Lib.hid (HF.out.upd hlt0 hu5 (by rw [bk_set_kind Hlk.out Hj.out])); clear hu5)
          | fail)
        exact ⟨⟨j + 1, by have := Hj.out; omega, by go_num, by rw [Hup.out, ksf_snoc, psf_snoc, Hks.out, Hps.out, E1.out, E2.out]; exact HF5.out⟩, by have := Hj.out; simp only [intOf]; omega⟩
    · obtain rfl : j = 8 := by omega
      have hal := bk_length (h := k) (c := n) (ksf_len (fKind l) (up8 8)) (psf_len (fPage l) (up8 8))
      have hone := bk_one (h := k) (c := n) (ks := ksf (fKind l) (up8 8)) (ps := psf (fPage l) (up8 8))
      have hf : fBlock l = bkCells k n (ksf (fKind l) (up8 8)) (psf (fPage l) (up8 8)) := by unfold fBlock; rw [Hn.out, Hk.out]
      have hFa := HF.out.at_; have hFr := HF.out.res; have hFb := HF.out.below
      clear HF
      generalize (bkCells k n (ksf (fKind l) (up8 8)) (psf (fPage l) (up8 8))) = cs at *
      have HA := Lib.hid hFa; have HR := Lib.hid hFr; have HB := Lib.hid hFb; have Hal := Lib.hid hal; have Hone := Lib.hid hone; have Hf := Lib.hid hf; clear hFa hFr hFb hal hone hf
      go_wp2_with (first
        | (refine ld_agg rfl rfl rfl HA.out Try.underlying72 rfl 66 Hi66.out (by rw [Hal.out]; decide) ?_; rw [show ((cs.drop 0).take 66) = cs by rw [List.drop_zero]; exact List.take_of_length_le (Nat.le_of_eq Hal.out)])
        | (refine st_agg (cs := cs) rfl rfl rfl rfl HR.out 66 Hi66.out Hal.out (by decide) Hone.out ?_; intro w5 hu5
           have HR5 : Hid (At w5 w.heap.size cs 72) := Lib.hid (by have h := hu5.to; rw [List.take_zero, List.nil_append, show bk0.drop (0 + 66) = [] from rfl, List.append_nil] at h; exact h)
           have HB5 := Lib.hid (HB.out.trans (hu5.below (Nat.le_refl _))); clear hu5)
        | fail)
      exact bodyPost_ret (res_cell rfl _ rfl HR5.out Try.underlying72 rfl 66 Hi66.out Hal.out) rfl ⟨by rw [Hf.out], HB5.out⟩
end Go.Proofs.Ytcgjppdjjhigoaa
