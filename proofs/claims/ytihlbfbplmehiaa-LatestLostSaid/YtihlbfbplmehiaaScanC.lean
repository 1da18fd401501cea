/- Walks of package scan: found. -/
import Derived.Test.YtihlbfbplmehiaaScanB
namespace Go.Proofs.Ytihlbfbplmehiaa
open Go.RowKit Go.Shelf
set_option maxHeartbeats 4000000
attribute [local go_sem] Oper.semAt_some

theorem pages_in (a : Option Addr) (len cap : Nat) (n : Nat) (w : World) :
    CallsIn Fence.wide n Try.prog 40 #[.slice a len cap] w fun e w' => e = .returned (.func (.func 49) #[] #[.pointer (some ⟨w.heap.size, 0, none⟩)]) ∧ w' = w.alloc (.cells #[.slice a len cap] 62) := by
  refine callsIn_of_wp Try.func40 rfl trivial ?_ rfl
  simp only [Try.ntmps40, List.size_toArray, List.length_cons, List.length_nil, Nat.reduceAdd, Nat.reduceSub, Array.replicate_succ, Array.replicate_zero, List.push_toArray, List.append_toArray, List.nil_append, List.cons_append]
  gi_wp2
  go_ret
  exact ⟨rfl, rfl⟩

def fKind (l : List Int) (x : Fin 8) : Int := if (count (l.take 4)).2 = 1 then (rd (pgWords l x.1)).2 else 2
def fPage (l : List Int) (x : Fin 8) : Pg := if (count (l.take 4)).2 = 1 then (rd (pgWords l x.1)).1 else Pg.zero
/-- what is found in the words of a block -/
def fBlock (l : List Int) : List Value := bkCells (count (l.take 4)).2 (count (l.take 4)).1 (ksf (fKind l) (up8 8)) (psf (fPage l) (up8 8))

def bk0 : List Value := bkCells 0 0 (List.replicate 8 0) (List.replicate 8 Pg.zero)
theorem zero_block (w : World) : (zeroValue 55).run Try.prog w = .ok (.agg bk0.toArray) w := by
  unfold bk0
  have h : (Try.prog.info? 55).bind (·.zero) = some (.agg (bkCells 0 0 (List.replicate 8 0) (List.replicate 8 Pg.zero)).toArray) := by kernel_rfl
  unfold zeroValue typeInfo
  cases hq : Try.prog.info? 55 with
  | none => rw [hq] at h; cases h
  | some i =>
    rw [hq] at h
    simp only [Option.bind_some] at h
    simp [hq, h]

theorem bk_set_page' {h c : Int} {ks : List Int} {ps : List Pg} (hk : ks.length = 8) (hp : ps.length = 8) {x : Nat} (hx : x < 8) (p : Pg) :
    (bkCells h c ks ps).take (10 + x * 7) ++ p.cells ++ (bkCells h c ks ps).drop (10 + x * 7 + 7) = bkCells h c ks (ps.set x p) := by
  rw [Nat.mul_comm]; exact bk_set_page hk hp hx p

theorem psf_zero_set (x : Nat) : (List.replicate 8 Pg.zero).set x Pg.zero = List.replicate 8 Pg.zero := by
  match x with
  | 0 | 1 | 2 | 3 | 4 | 5 | 6 | 7 => rfl
  | _ + 8 => rfl
theorem psf_zero {f : Fin 8 → Pg} (hf : ∀ y, f y = Pg.zero) (pre : List (Fin 8)) : psf f pre = List.replicate 8 Pg.zero := by
  unfold psf
  have : ∀ (pre : List (Fin 8)) (a : List Pg), a = List.replicate 8 Pg.zero → pre.foldl (fun ps x => ps.set x.1 (f x)) a = List.replicate 8 Pg.zero := by
    intro pre
    induction pre with
    | nil => intro a h; exact h
    | cons y pre ih => intro a h; exact ih _ (by show a.set y.1 (f y) = _; rw [h, hf]; exact psf_zero_set _)
  exact this pre _ rfl

theorem bk_one {h c : Int} {ks : List Int} {ps : List Pg} : ∀ v ∈ bkCells h c ks ps, v.oneCell' = true := by
  intro v hv
  unfold bkCells at hv
  simp only [List.mem_append, List.mem_map, List.mem_flatMap, List.mem_cons, List.not_mem_nil, or_false] at hv
  rcases hv with ((rfl | rfl) | ⟨k, _, rfl⟩) | ⟨p, _, hv⟩
  · rfl
  · rfl
  · rfl
  · simp only [Pg.cells, List.mem_cons, List.not_mem_nil, or_false] at hv
    rcases hv with rfl | rfl | rfl | rfl | rfl | rfl | rfl <;> rfl

/-- what a round's walk carries along -/
structure Rnd (B Bs g : Nat) (w W V : World) : Prop where
  others : KeepsOthers W V
  blk : KeepBlk Bs W V
  below : Below B w V
  lt : Bs < V.heap.size
theorem Rnd.start {B Bs g : Nat} {w W : World} (hB : Below B w W) (hl : Bs < W.heap.size) : Rnd B Bs g w W W := ⟨KeepsOthers.refl _, rfl, hB, hl⟩
theorem Rnd.upd {B Bs g : Nat} {w W V V2 : World} {c : List Value} {t : TypeId} {o : Obj} (h : Rnd B Bs g w W V) (ha : At V g c t) (hu : Upd V V2 g o) (hne : Bs ≠ g) (hg : B ≤ g) : Rnd B Bs g w W V2 :=
  ⟨h.others.trans (keepsOthers_upd ha hu), keepBlk_t h.blk (keepBlk_upd hu hne), h.below.trans (hu.below hg), by rw [hu.size]; exact h.lt⟩
theorem Rnd.call {B Bs g : Nat} {w W V V2 : World} (h : Rnd B Bs g w W V) (hb : Below V.heap.size V V2) (hB : B ≤ w.heap.size) : Rnd B Bs g w W V2 :=
  ⟨h.others.trans (keepsOthers_below hb), keepBlk_t h.blk (keepBlk_below hb h.lt), h.below.trans (hb.mono (Nat.le_trans hB h.below.size)), Nat.lt_of_lt_of_le h.lt hb.size⟩

theorem sl_page {w W : World} {b off cap : Nat} {l : List Int} (hs : Sl w (.slice (some ⟨b, off, none⟩) 64 cap) l) (hl : l.length = 64) (hcap : 64 ≤ cap) (hc63 : cap ≤ 9223372036854775807) (hb : b < w.heap.size) (hB : Below w.heap.size w W) (x : Fin 8) :
    Sl W (pageSl b off cap x.1) (pgWords l x.1) :=
  (sl_sub (hl ▸ hs) (4 + 7 * x.1) 7 (by have := x.2; omega) (by omega) hc63 (by omega) hb).below hB

set_option maxRecDepth 100000 in
theorem found_in (b off cap : Nat) (l : List Int) (w : World) (hl : l.length = 64) (hcap : 64 ≤ cap) (hc63 : cap ≤ 9223372036854775807) (hb : b < w.heap.size) (hs : Sl w (.slice (some ⟨b, off, none⟩) 64 cap) l) :
    CallsIn Fence.wide 10 Try.prog 28 #[.slice (some ⟨b, off, none⟩) 64 cap] w fun e w' => e = .returned (.agg (fBlock l).toArray) ∧ Below w.heap.size w w' := by
  refine callsIn_of_wp_marks Try.func28 rfl trivial ?_ rfl
  simp only [Try.ntmps28, List.size_toArray, List.length_cons, List.length_nil, Nat.reduceAdd, Nat.reduceSub, Array.replicate_succ, Array.replicate_zero, List.push_toArray, List.append_toArray, List.nil_append, List.cons_append]
  have hz := zero_block w
  have hs4 := sl_sub (hl ▸ hs) 0 4 (by omega) (by omega) hc63 (by omega) hb
  simp only [Nat.add_zero, Nat.sub_zero, List.drop_zero] at hs4
  gi_wp2_with fail
  clear hz
  have hBa : Below w.heap.size w (w.alloc (.cells bk0.toArray 55)) := (Below.refl _ w).alloc (Nat.le_refl _) _
  have hA0 : At (w.alloc (.cells bk0.toArray 55)) w.heap.size bk0 55 := (New.alloc w _).to
  have hs4a := hs4.below hBa
  refine ⟨trivial, (callsIn_wide.2 (count_any _ _ _ hs4a)).mono ?_⟩
  rintro e w1 ⟨rfl, hb1⟩
  have hA1 := hA0.of_below hb1
  have hB1 := hBa.trans (hb1.mono hBa.size)
  clear hs4 hs4a hb1 hA0 hBa
  have hi4 : (Try.prog.info? 23).map (·.size) = some 1 := by kernel_rfl
  have hi8 : (Try.prog.info? 3).map (·.size) = some 1 := by kernel_rfl
  have Hi4 := Lib.hid hi4; have Hi8 := Lib.hid hi8; clear hi4 hi8
  have HB1 := Lib.hid hB1; clear hB1
  have Hs := Lib.hid hs; clear hs
  have HA1 := Lib.hid hA1; clear hA1
  obtain ⟨n, hn⟩ : ∃ n, (count (l.take 4)).1 = n := ⟨_, rfl⟩
  obtain ⟨k, hk⟩ : ∃ k, (count (l.take 4)).2 = k := ⟨_, rfl⟩
  rw [hn, hk]
  have Hn := Lib.hid hn; have Hk := Lib.hid hk; clear hn hk
  gi_wp2_with (first
    | (refine st_cell_in rfl rfl rfl rfl rfl HA1.out Hi4.out (by decide) rfl ?_; intro w2 hu2; have HA2 : Hid (At w2 w.heap.size (bkCells 0 n (List.replicate 8 0) (List.replicate 8 Pg.zero)) 55) := Lib.hid hu2.to; have HB2 := Lib.hid (HB1.out.trans (hu2.below (Nat.le_refl _))); clear hu2)
    | (refine st_cell_in rfl rfl rfl rfl rfl HA2.out Hi8.out (by rw [bk_length rfl rfl]; decide) rfl ?_; intro w3 hu3; have HA3 : Hid (At w3 w.heap.size (bkCells k n (List.replicate 8 0) (List.replicate 8 Pg.zero)) 55) := Lib.hid hu3.to; have HB3 := Lib.hid (HB2.out.trans (hu3.below (Nat.le_refl _))); clear hu3 HA2 HB2 HA1 HB1)
    | fail)
  refine ⟨trivial, (pages_in _ _ _ _ _).mono ?_⟩
  rintro e w4 ⟨rfl, rfl⟩
  have hBs : At (w3.alloc (.cells #[.slice (some ⟨b, off, none⟩) 64 cap] 62)) w3.heap.size [.slice (some ⟨b, off, none⟩) 64 cap] 62 := (New.alloc w3 _).to
  have hA4 := (New.alloc w3 (.cells #[.slice (some ⟨b, off, none⟩) 64 cap] 62)).at HA3.out
  have hB4 := HB3.out.trans ((New.alloc w3 (.cells #[.slice (some ⟨b, off, none⟩) 64 cap] 62)).below HB3.out.size)
  have hne : w3.heap.size ≠ w.heap.size := by have := HA3.out.lt; omega
  obtain ⟨Bs, hBse⟩ : ∃ Bs, w3.heap.size = Bs := ⟨_, rfl⟩
  have hw4 : w3.heap.size < (w3.alloc (.cells #[.slice (some ⟨b, off, none⟩) 64 cap] 62)).heap.size := hBs.lt
  rw [hBse] at hBs hne hw4 ⊢
  clear HA3 HB3 hBse
  generalize (w3.alloc (.cells #[.slice (some ⟨b, off, none⟩) 64 cap] 62)) = w4 at *
  clear w3
  gi_wp2_with fail
  refine wpIn_rangeFunc_ownF rfl (by omega) (gf := 49) (lb := #[.pointer (some ⟨Bs, 0, none⟩)]) rfl trivial (enters_of Try.func49 (by kernel_rfl) rfl)
    (pages_stops Bs b off cap _ hcap hc63 w4 hBs) keepBlk_t (keepBlk_b hw4) (Below.refl _ _) (fun _ => rfl)
    (fun pre W => (At W w.heap.size (bkCells k n (ksf (fKind l) pre) (psf (fPage l) pre)) 55 ∧ At W Bs [.slice (some ⟨b, off, none⟩) 64 cap] 62) ∧ Below w.heap.size w W) (fun _ _ _ => False)
    (OwnFrom.and (OwnFrom.and (ownFrom_at _ _ _ _) (ownFrom_at _ _ _ (fun _ => [.slice (some ⟨b, off, none⟩) 64 cap]))) (ownFrom_below (Nat.le_refl _) hB4.size)) (fun _ _ _ _ _ hs _ _ => hs)
    ⟨⟨hA4, hBs⟩, hB4⟩
    (fun x => { tmps := #[.slice (some ⟨b, off, none⟩) 64 cap, undef, .pointer (some ⟨w.heap.size, 0, none⟩), .int .i64 (x.1 : Int), pageSl b off cap x.1, .tuple #[.int .u32 n, .int .i64 k], .slice (some ⟨b, off, none⟩) 64 cap, .slice (some ⟨b, off, none⟩) 4 cap, .tuple #[.int .u32 n, .int .i64 k], .int .u32 n, .int .i64 k, .pointer (some ⟨w.heap.size, 1, none⟩), .pointer (some ⟨w.heap.size, 0, none⟩), .slice (some ⟨b, off, none⟩) 64 cap, .func (.func 49) #[] #[.pointer (some ⟨Bs, 0, none⟩)], .int .i64 (x.1 : Int), pageSl b off cap x.1, undef, undef, undef, undef, undef, undef, undef, undef, undef, undef, undef, undef, undef, undef, undef, undef, undef, undef], defers := [] }) ?assign ?body ?done ?stop
  case assign =>
    intro l x W K hK
    unfold pageEnc
    gi_wp2
    exact hK
  case body =>
    rintro lp pre x W ⟨⟨hA, hAs⟩, hB⟩ _
    clear hA4 hBs hB4 hw4
    have hR := Rnd.start (g := w.heap.size) hB hAs.lt
    have HA := Lib.hid hA; have HAs := Lib.hid hAs; have HR := Lib.hid hR; clear hA hB hAs hR
    have Hx := Lib.hid x.2
    have hsz : (Try.prog.info? 27).map (·.size) = some 7 := by kernel_rfl
    have Hsz := Lib.hid hsz; clear hsz
    obtain ⟨⟨p, kd⟩, hr⟩ : ∃ r, rd (pgWords l x.1) = r := ⟨_, rfl⟩
    have Hr := Lib.hid hr; clear hr
    have Hne := Lib.hid hne; clear hne
    have hlk := ksf_len (fKind l) pre
    have hlp := psf_len (fPage l) pre
    have Hlk := Lib.hid hlk; have Hlp := Lib.hid hlp; clear hlk hlp
    by_cases hk1 : k = 1
    · gi_wp2_with (first
        | (refine st_cell_in (v := .int .i64 2) rfl rfl rfl rfl rfl HA.out Hi8.out (by rw [bk_length Hlk.out Hlp.out]; have := Hx.out; omega) rfl ?_; intro W2 hu2
           have HA2 : Hid (At W2 w.heap.size (bkCells k n ((ksf (fKind l) pre).set x.1 2) (psf (fPage l) pre)) 55) := Lib.hid (by have h := hu2.to; rwa [bk_set_kind Hlk.out Hx.out] at h)
           have hc0 : W2.cell? ⟨w.heap.size, 0, none⟩ = some (.int .i64 k) := HA2.out.cell 0
           have HR2 := Lib.hid (HR.out.upd HA.out hu2 Hne.out (Nat.le_refl _))
           clear hu2)
        | (refine ⟨trivial, ?_⟩; gi_at_call 41; refine (CallsIn.inRound lp (callsIn_wide.2 (read_any _ _ _ (sl_page Hs.out hl hcap hc63 hb HR2.out.below x)))).mono ?_; rintro e W3 ⟨rfl, hb3⟩; rw [Hr.out]
           have HA3 := Lib.hid (HA2.out.of_below hb3)
           have HR3 := Lib.hid (HR2.out.call hb3 (Nat.le_refl _))
           clear hb3)
        | (refine st_agg_in (cs := p.cells) rfl rfl rfl rfl HA3.out 7 Hsz.out rfl (by rw [bk_length (by rw [List.length_set]; exact Hlk.out) Hlp.out]; have := Hx.out; omega) (by simp [Pg.cells, Value.oneCell']) ?_; intro W4 hu4
           have HA4 : Hid (At W4 w.heap.size (bkCells k n ((ksf (fKind l) pre).set x.1 2) ((psf (fPage l) pre).set x.1 p)) 55) := Lib.hid (by have h := hu4.to; rwa [bk_set_page' (by rw [List.length_set]; exact Hlk.out) Hlp.out Hx.out] at h)
           have HR4 := Lib.hid (HR3.out.upd HA3.out hu4 Hne.out (Nat.le_refl _))
           clear hu4)
        | (refine st_cell_in (v := .int .i64 kd) rfl rfl rfl rfl rfl HA4.out Hi8.out (by rw [bk_length (by rw [List.length_set]; exact Hlk.out) (by rw [List.length_set]; exact Hlp.out)]; have := Hx.out; omega) rfl ?_; intro W5 hu5
           have HA5 : Hid (At W5 w.heap.size (bkCells k n ((ksf (fKind l) pre).set x.1 kd) ((psf (fPage l) pre).set x.1 p)) 55) := Lib.hid (by have h := hu5.to; rwa [bk_set_kind (by rw [List.length_set]; exact Hlk.out) Hx.out, List.set_set] at h)
           have HR5 := Lib.hid (HR4.out.upd HA4.out hu5 Hne.out (Nat.le_refl _))
           clear hu5)
        | fail)
      have hR := HR5.out
      refine ⟨hR.others, hR.blk, ⟨?_, keepBlk_at hR.blk HAs.out⟩, hR.below⟩
      have h := HA5.out
      rw [ksf_snoc, psf_snoc]
      have e1 : fKind l x = kd := by unfold fKind; rw [Hk.out, if_pos hk1, Hr.out]
      have e2 : fPage l x = p := by unfold fPage; rw [Hk.out, if_pos hk1, Hr.out]
      rw [e1, e2]; exact h
    · gi_wp2_with (first
        | (refine st_cell_in (v := .int .i64 2) rfl rfl rfl rfl rfl HA.out Hi8.out (by rw [bk_length Hlk.out Hlp.out]; have := Hx.out; omega) rfl ?_; intro W2 hu2
           have HA2 : Hid (At W2 w.heap.size (bkCells k n ((ksf (fKind l) pre).set x.1 2) (psf (fPage l) pre)) 55) := Lib.hid (by have h := hu2.to; rwa [bk_set_kind Hlk.out Hx.out] at h)
           have hc0 : W2.cell? ⟨w.heap.size, 0, none⟩ = some (.int .i64 k) := HA2.out.cell 0
           have HR2 := Lib.hid (HR.out.upd HA.out hu2 Hne.out (Nat.le_refl _))
           clear hu2)
        | fail)
      have hR := HR2.out
      refine ⟨hR.others, hR.blk, ⟨?_, keepBlk_at hR.blk HAs.out⟩, hR.below⟩
      have h := HA2.out
      rw [ksf_snoc, psf_snoc]
      have e1 : fKind l x = 2 := by unfold fKind; rw [Hk.out, if_neg hk1]
      have e2 : fPage l x = Pg.zero := by unfold fPage; rw [Hk.out, if_neg hk1]
      rw [e1, e2, psf_zero (by intro y; unfold fPage; rw [Hk.out, if_neg hk1]), psf_zero_set]; 
      rw [psf_zero (by intro y; unfold fPage; rw [Hk.out, if_neg hk1])] at h
      exact h
  case done =>
    rintro D ys W hD rfl ⟨⟨hA, _⟩, hB⟩ hK
    have hwD : w.heap.size ≤ D := Nat.le_trans hB4.size hD
    clear hA4 hB4 hBs hw4 hne hD
    have hal := bk_length (h := k) (c := n) (ksf_len (fKind l) (up8 8)) (psf_len (fPage l) (up8 8))
    have hone := bk_one (h := k) (c := n) (ks := ksf (fKind l) (up8 8)) (ps := psf (fPage l) (up8 8))
    have hi66 : (Try.prog.info? 55).map (·.size) = some 66 := by kernel_rfl
    have hf : fBlock l = bkCells k n (ksf (fKind l) (up8 8)) (psf (fPage l) (up8 8)) := by unfold fBlock; rw [Hn.out, Hk.out]
    generalize (bkCells k n (ksf (fKind l) (up8 8)) (psf (fPage l) (up8 8))) = cs at *
    have HA := Lib.hid hA; have HB := Lib.hid hB; have HK := Lib.hid hK; have Hal := Lib.hid hal; have Hi66 := Lib.hid hi66; have HD := Lib.hid hwD; have Hf := Lib.hid hf; have Hone := Lib.hid hone; clear hA hB hK hal hi66 hwD hf hone
    gi_wp2_with (first
      | (refine ld_agg_in rfl rfl rfl HA.out Try.underlying55 rfl 66 Hi66.out (by rw [Hal.out]; decide) ?_; rw [show ((cs.drop 0).take 66) = cs by rw [List.drop_zero]; exact List.take_of_length_le (Nat.le_of_eq Hal.out)])
      | (refine st_agg_in (cs := cs) rfl rfl rfl rfl HA.out 66 Hi66.out Hal.out (by rw [Hal.out]; decide) Hone.out ?_; intro W2 hu2
         have HA2 : Hid (At W2 w.heap.size cs 55) := Lib.hid (by have h := hu2.to; rw [List.take_zero, List.nil_append, show cs.drop (0 + 66) = [] from List.drop_eq_nil_of_le (by rw [Hal.out]; decide), List.append_nil] at h; exact h)
         have HB2 := Lib.hid (HB.out.trans (hu2.below (Nat.le_refl _)))
         have HK2 := Lib.hid ((keepsOthers_upd HA.out hu2).same D _ HK.out rfl)
         clear hu2)
      | fail)
    refine ⟨by simp, .inl ⟨_, _, rfl, run_takeDeferred HK2.out, ?_⟩⟩
    exact ⟨_, res_cell rfl _ rfl (at_putObj HA2.out HK2.out rfl) Try.underlying55 rfl 66 Hi66.out Hal.out, by rw [Hf.out], below_putObj HB2.out HD.out (Nat.le_refl _)⟩
  case stop =>
    rintro D c pre W _ _ h _
    exact h.elim
theorem found_any (b off cap : Nat) (l : List Int) (w : World) (hl : l.length = 64) (hcap : 64 ≤ cap) (hc63 : cap ≤ 9223372036854775807) (hb : b < w.heap.size) (hs : Sl w (.slice (some ⟨b, off, none⟩) 64 cap) l) :
    Calls Try.prog 28 #[.slice (some ⟨b, off, none⟩) 64 cap] w fun e w' => e = .returned (.agg (fBlock l).toArray) ∧ Below w.heap.size w w' :=
  (callsIn_wide (n := 10)).1 (found_in b off cap l w hl hcap hc63 hb hs)
end Go.Proofs.Ytihlbfbplmehiaa
