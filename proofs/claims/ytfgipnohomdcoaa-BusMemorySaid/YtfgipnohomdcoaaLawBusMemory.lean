/- The statement BusMemory: what is loaded and stored of a memory, whatever places and sizes there are, is the document's. No condition. -/
import Derived.Test.YtfgipnohomdcoaaBusJ
import Derived.Test.YtfgipnohomdcoaaLift
import Derived.Test.YtfgipnohomdcoaaRamOpen
import Derived.Test.YtfgipnohomdcoaaWords
import Derived.Test.YtfgipnohomdcoaaBusMade
import Derived.IntWalk
import Derived.Deep.RegionHeld3
namespace Go.Proofs.Ytfgipnohomdcoaa
open Go.ChangeShapes Go.WideShapes Go.ChangeAt Go.RowKit
set_option maxHeartbeats 4000000

theorem BW.pick {w W : World} {gb gr gw : Nat} {base : Int} {ws : List Int} {sv : Value} (h : BW w gb gr gw base ws sv) (hb : Below w.heap.size w W) (B : Nat) (hB : B ≤ gw) (hBw : B ≤ w.heap.size) : ∃ gw', BW W gb gr gw' base ws sv ∧ B ≤ gw' ∧ (gw' < w.heap.size ∨ W.heap.size ≤ gw') ∧ (gw' = gw ∧ ws ≠ [] ∨ W.heap.size ≤ gw') := by
  have hs := hb.size
  obtain ⟨a, cap, hA, hor⟩ := h.ram.ex
  have l1 := hA.lt; have l2 := h.bus.lt
  by_cases h0 : ws = []
  · subst h0
    exact ⟨W.heap.size, (h.below hb).any (by omega) (by omega), by omega, .inr (Nat.le_refl _), .inr (Nat.le_refl _)⟩
  · rcases hor with h1 | ⟨c, _, hg, _⟩
    · exact absurd h1 h0
    · exact ⟨gw, h.below hb, hB, .inl hg.lt, .inl ⟨rfl, h0⟩⟩
theorem RV.same {w w' : World} {g : Nat} {s : Value} {base : Int} {ws : List Int} (h : RV w (.agg #[.int .u32 base, s]) base ws) (hs : Same g w w') (hne : ∀ b o m c, s = .slice (some ⟨b, o, none⟩) m c → b ≠ g) : RV w' (.agg #[.int .u32 base, s]) base ws := by
  obtain ⟨s', he, hsl, hb, hl⟩ := h
  simp only [Value.agg.injEq, Array.mk.injEq, List.cons.injEq, and_true, true_and] at he
  subst he
  refine ⟨s, rfl, ?_, hb, hl⟩
  rcases hsl with h | ⟨b, off, cap, hv, k1, k2, k3, k4, k5, k6⟩
  · exact .inl h
  · refine .inr ⟨b, off, cap, hv, k1, k2, k3, by rw [hs.size]; exact k4, fun i hi => ?_, k6⟩
    rw [← k5 i hi]
    have := hs.other b (hne _ _ _ _ hv)
    simp only [World.cell?, this]
theorem RV.lt {w : World} {s : Value} {base : Int} {ws : List Int} (h : RV w (.agg #[.int .u32 base, s]) base ws) : ∀ b o m c, s = .slice (some ⟨b, o, none⟩) m c → b < w.heap.size := by
  intro b o m c hv
  obtain ⟨s', he, hsl, hb, hl⟩ := h
  simp only [Value.agg.injEq, Array.mk.injEq, List.cons.injEq, and_true, true_and] at he
  subst he
  rcases hsl with ⟨h, _⟩ | ⟨b', off, cap, hv', k1, k2, k3, k4, k5, k6⟩
  · rw [hv] at h; cases h
  · rw [hv] at hv'
    simp only [Value.slice.injEq, Option.some.injEq, Addr.mk.injEq] at hv'
    obtain ⟨⟨rfl, _⟩, _⟩ := hv'
    exact k4
theorem RV.slice {w : World} {s : Value} {base : Int} {ws : List Int} (h : RV w (.agg #[.int .u32 base, s]) base ws) : ∃ a c, s = .slice a ws.length c := by
  obtain ⟨s', he, hsl, hb, hl⟩ := h
  simp only [Value.agg.injEq, Array.mk.injEq, List.cons.injEq, and_true, true_and] at he
  subst he
  exact hsl.shape
theorem RV.sl {w : World} {s : Value} {base : Int} {ws : List Int} (h : RV w (.agg #[.int .u32 base, s]) base ws) : Sl w s ws := by
  obtain ⟨s', he, hsl, hb, hl⟩ := h
  simp only [Value.agg.injEq, Array.mk.injEq, List.cons.injEq, and_true, true_and] at he
  subst he
  exact hsl
theorem at_same {w : World} {g : Nat} {c c' : List Value} {t t' : TypeId} (h : At w g c t) (h' : At w g c' t') : c = c' := by
  have := h.heap
  rw [h'.heap] at this
  simp only [Option.some.injEq, Obj.cells.injEq, Array.mk.injEq] at this
  exact this.1.symm
theorem sl_stored {w w' : World} {gb gr gw n : Nat} {base : Int} {ws ws' : List Int} {sv : Value} {a : Option Addr} {cap : Nat} (hs : Sl w (.slice a n cap) ws) (h1 : ws.length = n) (h2 : ws'.length = n) (hA : At w' gr [.int .u32 base, .slice a n cap] 29) (hB : BW w' gb gr gw base ws' sv) (hsz : w.heap.size ≤ w'.heap.size) : Sl w' (.slice a n cap) ws' := by
  subst h1
  rcases hs with ⟨hv, hws⟩ | ⟨b, off, cap', hv, k1, k2, k3, k4, k5, k6⟩
  · left
    subst hws
    exact ⟨hv, List.length_eq_zero_iff.1 h2⟩
  · simp only [Value.slice.injEq] at hv
    obtain ⟨rfl, -, rfl⟩ := hv
    have hl := hB.ram.l
    obtain ⟨a', c', hA', hor⟩ := hB.ram.ex
    have he := at_same hA hA'
    simp only [List.cons.injEq, Value.slice.injEq, and_true, true_and] at he
    obtain ⟨he1, he2, rfl⟩ := he
    rcases hor with rfl | ⟨c, ha, hAc, hct, hcl⟩
    · refine .inr ⟨b, off, cap, by rw [h2], by omega, k2, by simp, by omega, fun i hi => by simp at hi, by simp⟩
    · rw [← he1] at ha
      simp only [Option.some.injEq, Addr.mk.injEq, and_true] at ha
      obtain ⟨rfl, rfl⟩ := ha
      rw [← h2]
      exact sl_at hAc rfl (by omega) k2 (by omega) hct hB.ram.r
theorem sl_own {w : World} {B n : Nat} {e : TypeId} {v : Value} {ws : List Int} (h : w.ownsRow B e 1 v n (ws.map uv)) (hn : ws.length = n) (hr : ∀ x ∈ ws, 0 ≤ x ∧ x < 4294967296) (hl : n ≤ 1000000) : Sl w v ws := by
  rcases h.2 with ⟨rfl, h0⟩ | ⟨g, cap, cur, rfl, hg, hh, h1, h2, h3, h4⟩
  · exact .inl ⟨rfl, List.length_eq_zero_iff.1 (by omega)⟩
  · have hat : At w g cur.toList e := by unfold At; simpa using hh
    rw [Nat.mul_one] at h4
    exact sl_at hat hn h1 (by simp only [maxLen] at h2; omega) hl h4 hr
theorem zero_act (w : World) : (zeroValue 33).run Try.prog w = .ok (.agg #[.int .u8 0, .int .u32 0, .int .i64 0, .int .u32 0]) w := by
  have h : (Try.prog.info? 33).bind (·.zero) = some (.agg #[.int .u8 0, .int .u32 0, .int .i64 0, .int .u32 0]) := by kernel_rfl
  unfold zeroValue typeInfo
  cases hq : Try.prog.info? 33 with
  | none => rw [hq] at h; cases h
  | some i =>
    rw [hq] at h
    simp only [Option.bind_some] at h
    simp [hq, h]
theorem fit_act {cs : List Value} (h : Fit [some .u8, some .u32, some .i64, some .u32] cs) : ∃ kd t sz v : Int, cs = [.int .u8 kd, .int .u32 t, .int .i64 sz, .int .u32 v] ∧ (0 ≤ kd ∧ kd < 256) ∧ (0 ≤ t ∧ t < 4294967296) ∧ (0 ≤ v ∧ v < 4294967296) := by
  match cs, h with
  | [.int k0 a, .int k1 b, .int k2 c, .int k3 d], h =>
    obtain ⟨⟨rfl, a1, a2⟩, ⟨rfl, b1, b2⟩, ⟨rfl, _, _⟩, ⟨rfl, d1, d2⟩, _⟩ := h
    simp [IntKind.min, IntKind.max, IntKind.signed, IntKind.bits] at a1 a2 b1 b2 d1 d2
    exact ⟨a, b, c, d, rfl, ⟨a1, by omega⟩, ⟨b1, by omega⟩, ⟨d1, by omega⟩⟩

/-- at a round's head: the bus, its memory's words, and the reference's -/
structure Hd (w wr : World) (gb gr B g2 : Nat) (base : Int) (a5 : Option Addr) (n cap5 : Nat) (ws' : List Int) : Prop where
  bus : ∃ gw s, BW wr gb gr gw base ws' (.slice none 0 0) ∧ B ≤ gw ∧ At wr g2 [.int .u32 base, s] 25 ∧ RV wr (.agg #[.int .u32 base, s]) base ws' ∧ (ws' ≠ [] → ∀ b o m c, s = .slice (some ⟨b, o, none⟩) m c → b ≠ gw) ∧ (∀ b o m c, s = .slice (some ⟨b, o, none⟩) m c → b ≠ g2)
  ram : At wr gr [.int .u32 base, .slice a5 n cap5] 29
  sl : Sl wr (.slice a5 n cap5) ws'
  len : ws'.length = n
  below : Below w.heap.size w wr
  g2B : g2 < B
  hB : B ≤ wr.heap.size
  hw : w.heap.size ≤ g2

theorem Hd.next {w wr W : World} {gb gr B g2 : Nat} {base : Int} {a5 : Option Addr} {n cap5 : Nat} {ws' : List Int} (h : Hd w wr gb gr B g2 base a5 n cap5 ws') (hb : Below wr.heap.size wr W) : Hd w W gb gr B g2 base a5 n cap5 ws' := by
  obtain ⟨⟨gw, s, h1, h2, h3, h4, h5, h5'⟩, h6, h7, h8, h9, h10, h11, h12⟩ := h
  exact ⟨⟨gw, s, h1.below hb, h2, h3.of_below hb, h4.below hb, h5, h5'⟩, h6.of_below hb, h7.below hb, h8, h9.trans (hb.mono h9.size), h10, Nat.le_trans h11 hb.size, h12⟩

theorem BW.same {w w' : World} {gb gr gw g : Nat} {base : Int} {ws : List Int} {sv : Value} (h : BW w gb gr gw base ws sv) (hs : Same g w w') (h1 : gb ≠ g) (h2 : gr ≠ g) (h3 : gw ≠ g) : BW w' gb gr gw base ws sv := ⟨hs.at h.bus h1, h.ram.same hs h2 h3, h.ne⟩

set_option maxRecDepth 100000 in
theorem busMemory_walk (base : Int) (sv av : Value) (ws : List Int) (acts : List (List Value)) (w : World) (hb : 0 ≤ base ∧ base < 4294967296) (hl : ws.length ≤ 100) (hs : Sl w sv ws) (hl2 : acts.length ≤ 100) (he : Es 4 w av acts) (hf : ∀ x ∈ acts, Fit [some .u8, some .u32, some .i64, some .u32] x) :
    Calls Try.prog 3 #[.agg #[.int .u32 base, sv], av] w fun e w' => e = .returned (.bool true) ∧ Below w.heap.size w w' := by
  have Hi1 : Hid ((Try.prog.info? 22).map (·.size) = some 1) := by unfold Hid; kernel_rfl
  have Hi2 : Hid ((Try.prog.info? 25).map (·.size) = some 2) := by unfold Hid; kernel_rfl
  have Hi4 : Hid ((Try.prog.info? 33).map (·.size) = some 4) := by unfold Hid; kernel_rfl
  have HS := Lib.hid hs; have HE := Lib.hid he; have HF := Lib.hid hf
  obtain ⟨a, cap, rfl⟩ := hs.shape
  obtain ⟨a2, cap2, rfl⟩ := he.shape
  have hr := hs.range
  have Hb := Lib.hid hb; have Hr := Lib.hid hr
  clear hs hb hr he hf
  go_enter Try.func3, Try.ntmps3
  go_wp2_with (first
    | (refine bx_new rfl (ty := 25) rfl rfl ?_; intro w1 hn1; have HA1 : Hid (At w1 w.heap.size [.int .u32 base, .slice a ws.length cap] 25) := Lib.hid hn1.to; have HB1 := Lib.hid (hn1.below (Nat.le_refl _)); clear hn1)
    | fail)
  refine (alive16_any _).mono ?_
  rintro e w3 ⟨rfl, hb3⟩
  have HA3 := Lib.hid (HA1.out.of_below hb3); have HB3 := Lib.hid (HB1.out.trans (hb3.mono HB1.out.size)); have HS3 := Lib.hid (HS.out.below HB3.out)
  clear hb3 HA1 HB1
  have c1 : w3.cell? ⟨w.heap.size, 1, none⟩ = some (.slice a ws.length cap) := HA3.out.cell 1
  have hd1 : decide ((100 : Int) < (ws.length : Int)) = false := by rw [decide_eq_false_iff_not]; omega
  have hd2 : decide ((100 : Int) < (acts.length : Int)) = false := by rw [decide_eq_false_iff_not]; omega
  go_wp2_with fail
  have hn4 : ws.length ≤ 1000000 := by omega
  have keepS : ∀ w' : World, Below w3.heap.size w3 w' → (∀ i : Nat, w'.cell? ⟨w.heap.size, i, none⟩ = ([.int .u32 base, .slice a ws.length cap] : List Value)[i]?) ∧ Below w3.heap.size w3 w' := fun w' hb => ⟨(HA3.out.of_below hb).cell, hb⟩
  have KS := Lib.hid keepS
  have hS0 := keepS w3 (Below.refl _ _)
  clear keepS c1 hd1 hd2
  go_region_held3 (fun w' => (∀ i : Nat, w'.cell? ⟨w.heap.size, i, none⟩ = ([.int .u32 base, .slice a ws.length cap] : List Value)[i]?) ∧ Below w3.heap.size w3 w')
    (first
      | exact KS.out _ ((Below.refl _ _).drew)
      | (go_split_ands; exact KS.out _ (Below.trans (by assumption) (hb5.mono (Below.size (by assumption)))))
      | (go_split_ands; exact KS.out _ (below_drewN (by assumption) _))
      | (go_split_ands; exact KS.out _ (Below.alloc (by assumption) (Below.size (by assumption)) _))
      | go_keep)
    (first
      | (go_split_ands; refine wp_ap_sl _ _ _ rfl (bytes := 4) Try.underlying23 Hi1.out (by kernel_rfl) (by kernel_rfl) (by decide) rfl rfl (HS3.out.below (by assumption)) hn4 ?_; intro v5 w5 ho5 hb5; obtain ⟨a5, cap5, rfl⟩ := own_slice ho5))
  go_split_ands
  have hn6 : New w5 (w5.alloc (.cells #[.int .u32 base, .slice a5 ws.length cap5] 29)) (.cells [.int .u32 base, .slice a5 ws.length cap5].toArray 29) := New.alloc _ _
  have hb5' : Below w3.heap.size w3 w5 := (Below.refl _ w3).drew.trans hb5
  obtain ⟨w6, hw6⟩ : ∃ w6, w5.alloc (.cells #[.int .u32 base, .slice a5 ws.length cap5] 29) = w6 := ⟨_, rfl⟩
  rw [hw6] at hn6 ⊢
  have HN6 := Lib.hid hn6; have HO5 := Lib.hid ho5
  have HB5 := Lib.hid hb5'; have HB6 := Lib.hid (hb5'.trans (hn6.below hb5'.size))
  have HA6 := Lib.hid (HA3.out.of_below HB6.out)
  have Hw6 := Lib.hid hw6
  clear hn6 hb5' hw6 ho5 KS
  go_wp2_with (first
    | (go_at_call 9; refine (busNew_any _).mono ?_; rintro e w7 ⟨rfl, hn7⟩; have HN7 := Lib.hid hn7; clear hn7)
    | fail)
  have hB5 := HB5.out.size
  have h37 : Below w3.heap.size w3 w7 := HB6.out.trans (HN7.out.below HB6.out.size)
  have hHd : Hd w w7 w6.heap.size w5.heap.size w3.heap.size w.heap.size base a5 ws.length cap5 ws := by
    obtain ⟨gw, hbw, hgw⟩ := bw_made HO5.out HN6.out HN7.out Hb.out Hr.out (by omega) hB5
    have hgw : w3.heap.size ≤ gw := hgw
    have hlt := HA3.out.lt
    have hlt0 : ∀ b o m c, Value.slice a ws.length cap = .slice (some ⟨b, o, none⟩) m c → b < w.heap.size := RV.lt (w := w) (base := base) ⟨_, rfl, HS.out, Hb.out, by omega⟩
    refine ⟨⟨gw, .slice a ws.length cap, hbw, hgw, HN7.out.at HA6.out, ⟨_, rfl, HS3.out.below h37, Hb.out, by omega⟩, fun _ b o m c hv => ?_, fun b o m c hv => Nat.ne_of_lt (hlt0 b o m c hv)⟩, HN7.out.at HN6.out.to, ?_, rfl, HB3.out.trans (h37.mono HB3.out.size), hlt, h37.size, Nat.le_refl _⟩
    · have hb3 := hlt0 b o m c hv
      omega
    · have h67 : Below w5.heap.size w5 w7 := (HN6.out.below (Nat.le_refl _)).trans (HN7.out.below (HN6.out.below (Nat.le_refl _)).size)
      exact Sl.below (sl_own HO5.out rfl Hr.out (by omega)) h67
  obtain ⟨gb, hgb⟩ : ∃ g, w6.heap.size = g := ⟨_, rfl⟩
  obtain ⟨gr, hgr⟩ : ∃ g, w5.heap.size = g := ⟨_, rfl⟩
  obtain ⟨B, hBB⟩ : ∃ g, w3.heap.size = g := ⟨_, rfl⟩
  rw [hgb, hgr, hBB] at hHd
  rw [hgb, hgr]
  have HH := Lib.hid hHd
  clear hHd hgb hgr hBB h37 hB5 HN7 HA6 HB6 HB5 HN6 HO5 Hw6 HA3 HB3 HS3
  go_loopw [40] (fun i wr => ∃ (k : Nat) (ws' : List Int), k ≤ acts.length ∧ i = .int .i64 k ∧ Hd w wr gb gr B w.heap.size base a5 ws.length cap5 ws') (fun i _ => acts.length - (intOf i).toNat)
  case atStart => exact ⟨0, ws, by omega, rfl, HH.out⟩
  case round =>
    obtain ⟨k, ws', hk, rfl, hH⟩ := hrel
    by_cases hlt : k < acts.length
    · have hx : acts[k]? = some acts[k] := List.getElem?_eq_getElem hlt
      obtain ⟨kd, t, sz, v, hact, hkd, ht, hv⟩ := fit_act (HF.out _ (List.getElem_mem hlt))
      rw [hact] at hx
      obtain ⟨b, off, cap', hv1, _, hrg⟩ := HE.out.elem hx
      simp only [Value.slice.injEq] at hv1
      obtain ⟨rfl, -, rfl⟩ := hv1
      have Hrg := Lib.hid (hrg wr hH.below)
      have hH' := Lib.hid hH
      have Hkd := Lib.hid hkd; have Ht := Lib.hid ht; have Hv := Lib.hid hv
      have hlt' : (k : Int) < (acts.length : Int) := by omega
      obtain ⟨gw, s, hbw, hgw, hAr, hrv, hal, hal2⟩ := hH.bus
      have HA2L := Lib.hid hal2
      have HBW := Lib.hid hbw; have Hgw := Lib.hid hgw; have HAR := Lib.hid hAr; have HRV := Lib.hid hrv; have HAL := Lib.hid hal
      have HR1 := Lib.hid hH.ram; have HS1 := Lib.hid hH.sl; have HL1 := Lib.hid hH.len; have HW1 := Lib.hid hH.hw; have HG1 := Lib.hid hH.g2B; have HX1 := Lib.hid hH.hB; have HO1 := Lib.hid hH.below
      clear hx hact hrg hH hkd ht hv hbw hgw hAr hrv hal hal2
      by_cases hm : kd.tmod 3 = 0
      · have hmb : (kd.tmod 3 == 0) = true := by rw [beq_iff_eq]; exact hm
        clear hm
        go_wp2_with (first
          | (refine ld_rng rfl rfl rfl Hrg.out Try.underlying33 rfl Hi4.out ?_)
          | (refine al_new rfl rfl (zero_act _) ?_; intro w2 hn2; have HN2 : Hid (New wr w2 (.cells [.int .u8 0, .int .u32 0, .int .i64 0, .int .u32 0].toArray 33)) := Lib.hid hn2; have HA2 : Hid (At w2 wr.heap.size [.int .u8 0, .int .u32 0, .int .i64 0, .int .u32 0] 33) := Lib.hid hn2.to; clear hn2)
          | (refine st_agg rfl rfl rfl rfl HA2.out 4 Hi4.out rfl (Nat.le_refl 4) (by intro v hv; simp at hv; rcases hv with rfl | rfl | rfl | rfl <;> rfl) ?_; intro w3' hu3
             have hat : At w3' wr.heap.size [.int .u8 kd, .int .u32 t, .int .i64 sz, .int .u32 v] 33 := hu3.to
             have c0 : w3'.cell? ⟨wr.heap.size, 0, none⟩ = some (.int .u8 kd) := hat.cell 0
             have c1 : w3'.cell? ⟨wr.heap.size, 1, none⟩ = some (.int .u32 t) := hat.cell 1
             have c2 : w3'.cell? ⟨wr.heap.size, 2, none⟩ = some (.int .i64 sz) := hat.cell 2
             have HB3 : Hid (Below wr.heap.size wr w3') := Lib.hid ((HN2.out.below (Nat.le_refl _)).trans (hu3.below (Nat.le_refl _)))
             have HAR3 := Lib.hid (HAR.out.of_below HB3.out)
             clear hu3 hat)
          | (go_at_call 10; refine (busLoad_any Ht.out _ (HBW.out.below HB3.out)).mono ?_; rintro e w' ⟨rfl, rfl⟩)
          | (refine ld_agg rfl rfl rfl HAR3.out Try.underlying25 rfl 2 Hi2.out (Nat.le_refl 2) ?_; rw [take2])
          | (go_at_call 11; refine (rLoad_any Ht.out _ (HRV.out.below HB3.out)).mono ?_; rintro e w4 ⟨rfl, hb4⟩; have HB4 := Lib.hid (HB3.out.trans (hb4.mono HB3.out.size)); clear hb4)
          | fail)
        exact ⟨⟨k + 1, ws', by omega, by go_num, hH'.out.next HB4.out⟩, by simp only [intOf]; omega⟩
      · have hmb : (kd.tmod 3 == 0) = false := by rw [beq_eq_false_iff_ne]; exact hm
        clear hm
        go_wp2_with (first
          | (refine ld_rng rfl rfl rfl Hrg.out Try.underlying33 rfl Hi4.out ?_)
          | (refine al_new rfl rfl (zero_act _) ?_; intro w2 hn2; have HN2 : Hid (New wr w2 (.cells [.int .u8 0, .int .u32 0, .int .i64 0, .int .u32 0].toArray 33)) := Lib.hid hn2; have HA2 : Hid (At w2 wr.heap.size [.int .u8 0, .int .u32 0, .int .i64 0, .int .u32 0] 33) := Lib.hid hn2.to; clear hn2)
          | (refine st_agg rfl rfl rfl rfl HA2.out 4 Hi4.out rfl (Nat.le_refl 4) (by intro v hv; simp at hv; rcases hv with rfl | rfl | rfl | rfl <;> rfl) ?_; intro w3' hu3
             have hat : At w3' wr.heap.size [.int .u8 kd, .int .u32 t, .int .i64 sz, .int .u32 v] 33 := hu3.to
             have c0 : w3'.cell? ⟨wr.heap.size, 0, none⟩ = some (.int .u8 kd) := hat.cell 0
             have c1 : w3'.cell? ⟨wr.heap.size, 1, none⟩ = some (.int .u32 t) := hat.cell 1
             have c2 : w3'.cell? ⟨wr.heap.size, 2, none⟩ = some (.int .i64 sz) := hat.cell 2
             have c3 : w3'.cell? ⟨wr.heap.size, 3, none⟩ = some (.int .u32 v) := hat.cell 3
             have HB3 : Hid (Below wr.heap.size wr w3') := Lib.hid ((HN2.out.below (Nat.le_refl _)).trans (hu3.below (Nat.le_refl _)))
             have HA3 := Lib.hid hat
             clear hu3 hat)
          | fail)
        obtain ⟨gw', hbw', hB', hlt2, hor⟩ := HBW.out.pick HB3.out B Hgw.out HX1.out
        refine (busStore_any Ht.out Hv.out w3' hbw').mono ?_
        rintro e w8 ⟨rfl, hw8, hs8⟩
        have l3 := HA3.out.lt
        have l4 := HB3.out.size
        have l5 := HG1.out
        have l6 := HW1.out
        have hA8 := hs8.at HA3.out (by omega)
        have hAr8 := hs8.at (HAR.out.of_below HB3.out) (by omega)
        have hne : ∀ b o m c, s = .slice (some ⟨b, o, none⟩) m c → b ≠ gw' := by
          intro b o m c hv
          have h1 := HRV.out.lt b o m c hv
          rcases hor with ⟨rfl, h0⟩ | h2
          · exact HAL.out h0 b o m c hv
          · omega
        have hrv8 := (HRV.out.below HB3.out).same hs8 hne
        have hram8 := hs8.at (HR1.out.of_below HB3.out) hbw'.ram.ne
        have hlen8 : (stW base ws' t sz v).length = ws.length := by rw [stW_len]; exact HL1.out
        have hsl8 := sl_stored (HS1.out.below HB3.out) HL1.out hlen8 hram8 hw8 (by rw [hs8.size]; exact Nat.le_refl _)
        have hbl8 : Below w.heap.size w w8 := (HO1.out.trans (HB3.out.mono HO1.out.size)).trans (hs8.below (by omega))
        have c1 : w8.cell? ⟨wr.heap.size, 1, none⟩ = some (.int .u32 t) := hA8.cell 1
        have c2 : w8.cell? ⟨wr.heap.size, 2, none⟩ = some (.int .i64 sz) := hA8.cell 2
        have c3 : w8.cell? ⟨wr.heap.size, 3, none⟩ = some (.int .u32 v) := hA8.cell 3
        have HB' := Lib.hid hB'; have HNE := Lib.hid hne
        have HW8 := Lib.hid hw8; have HAR8 := Lib.hid hAr8; have HRV8 := Lib.hid hrv8; have HRM8 := Lib.hid hram8; have HLN8 := Lib.hid hlen8; have HSL8 := Lib.hid hsl8; have HBL8 := Lib.hid hbl8; have HSZ8 := Lib.hid hs8.size
        clear hbw' hB' hlt2 hor hw8 hs8 hA8 hAr8 hne hrv8 hram8 hlen8 hsl8 hbl8
        go_wp2_with (first
          | (refine ld_agg rfl rfl rfl HAR8.out Try.underlying25 rfl 2 Hi2.out (Nat.le_refl 2) ?_; rw [take2])
          | (go_at_call 13; refine (rStore_any Ht.out Hv.out _ HRV8.out).mono ?_; rintro e w9 ⟨⟨v', rfl, hrv9, hal9⟩, hb9⟩; obtain ⟨s9, rfl, hsl9, hbb, hll⟩ := hrv9; obtain ⟨a9, c9, rfl⟩ := hsl9.shape
             have HSL9 := Lib.hid hsl9; have HLL := Lib.hid hll; have HAL9 := Lib.hid hal9; have HB9 := Lib.hid hb9; clear hsl9 hll hal9 hb9)
          | (refine al_new rfl rfl (zero_ram _) ?_; intro w10 hn10; have HN10 : Hid (New w9 w10 (.cells [.int .u32 0, .slice none 0 0].toArray 25)) := Lib.hid hn10; have HA10 : Hid (At w10 w9.heap.size [.int .u32 0, .slice none 0 0] 25) := Lib.hid hn10.to; clear hn10)
          | (refine st_agg rfl rfl rfl rfl HA10.out 2 Hi2.out rfl (Nat.le_refl 2) (by intro v hv; simp at hv; rcases hv with rfl | rfl <;> rfl) ?_; intro w11 hu11
             have HA11 : Hid (At w11 w9.heap.size [.int .u32 base, .slice a9 (stW base ws' t sz v).length c9] 25) := Lib.hid hu11.to
             have HB11 : Hid (Below w8.heap.size w8 w11) := Lib.hid (HB9.out.trans (((HN10.out.below (Nat.le_refl _)).trans (hu11.below (Nat.le_refl _))).mono HB9.out.size))
             have HB911 : Hid (Below w9.heap.size w9 w11) := Lib.hid ((HN10.out.below (Nat.le_refl _)).trans (hu11.below (Nat.le_refl _)))
             have HAR11 := Lib.hid (HAR8.out.of_below HB11.out)
             clear hu11)
          | (refine ld_agg rfl rfl rfl HA11.out Try.underlying25 rfl 2 Hi2.out (Nat.le_refl 2) ?_; rw [take2])
          | (refine st_agg rfl rfl rfl rfl HAR11.out 2 Hi2.out rfl (Nat.le_refl 2) (by intro v hv; simp at hv; rcases hv with rfl | rfl <;> rfl) ?_; intro w12 hu12
             have HA12 : Hid (At w12 w.heap.size [.int .u32 base, .slice a9 (stW base ws' t sz v).length c9] 25) := Lib.hid hu12.to
             have HS12 := Lib.hid hu12.same
             have HBL12 : Hid (Below w.heap.size w11 w12) := Lib.hid (hu12.below (Nat.le_refl _))
             clear hu12)
          | fail)
        have h1 : gb ≠ w.heap.size := at_ne HW8.out.bus HAR8.out (by decide)
        have h2 : gr ≠ w.heap.size := at_ne HRM8.out HAR8.out (by decide)
        have hB1 := HB'.out
        have hBW12 := (HW8.out.below HB11.out).same HS12.out h1 h2 (by omega)
        have hRM12 := HS12.out.at (HRM8.out.of_below HB11.out) h2
        have hSL12 := sl_stored (HSL8.out.below HB11.out) HLN8.out HLN8.out hRM12 hBW12 (by rw [HS12.out.size]; exact Nat.le_refl _)
        have hal12 : ∀ b o m c, Value.slice a9 (stW base ws' t sz v).length c9 = .slice (some ⟨b, o, none⟩) m c → (stW base ws' t sz v ≠ [] → b ≠ gw') ∧ b ≠ w.heap.size := by
          intro b o m c hv
          rcases HAL9.out with he | ⟨g, n, c', he, hg⟩
          · simp only [Value.agg.injEq, Array.mk.injEq, List.cons.injEq, and_true, true_and] at he
            rw [he] at hv
            exact ⟨fun _ => HNE.out b o m c hv, HA2L.out b o m c hv⟩
          · simp only [Value.agg.injEq, Array.mk.injEq, List.cons.injEq, and_true, true_and] at he
            rw [he] at hv
            simp only [Value.slice.injEq, Option.some.injEq, Addr.mk.injEq] at hv
            obtain ⟨⟨rfl, _⟩, _⟩ := hv
            have l9 := HAR8.out.lt
            refine ⟨fun h0 => ?_, by omega⟩
            obtain ⟨a8, cap8, _, hor⟩ := HW8.out.ram.ex
            rcases hor with h | ⟨c8, _, hA, _⟩
            · exact absurd h h0
            · have := hA.lt; omega
        have hrv11 : RV w11 (.agg #[.int .u32 base, .slice a9 (stW base ws' t sz v).length c9]) base (stW base ws' t sz v) := RV.below ⟨_, rfl, HSL9.out, hbb, HLL.out⟩ HB911.out
        have hrv12 := hrv11.same HS12.out (fun b o m c hv => (hal12 b o m c hv).2)
        have hHd : Hd w w12 gb gr B w.heap.size base a5 ws.length cap5 (stW base ws' t sz v) :=
          ⟨⟨gw', _, hBW12, hB1, HA12.out, hrv12, fun h0 b o m c hv => (hal12 b o m c hv).1 h0, fun b o m c hv => (hal12 b o m c hv).2⟩, hRM12, hSL12, HLN8.out, (HBL8.out.trans (HB11.out.mono HBL8.out.size)).trans HBL12.out, HG1.out, by have := HB11.out.size; have := HS12.out.size; have := HSZ8.out; have := HX1.out; omega, HW1.out⟩
        have HD := Lib.hid hHd
        have HSA := Lib.hid hSL12; have HSB := Lib.hid hrv12.sl
        have e1 : w12.cell? ⟨gr, 1, none⟩ = some (.slice a5 ws.length cap5) := hRM12.cell 1
        have e2 : w12.cell? ⟨w.heap.size, 1, none⟩ = some (.slice a9 (stW base ws' t sz v).length c9) := HA12.out.cell 1
        clear h1 h2 hB1 hBW12 hRM12 hSL12 hal12 hrv11 hrv12 hHd c1 c2 c3 l3 l4 l5 l6
        generalize stW base ws' t sz v = ws2 at *
        generalize stS base ws' t sz = E at *
        have HWW : Hid (∀ n, Calls Try.prog 14 #[.slice a5 ws.length cap5, .slice a9 ws2.length c9] (w12.drewN n) (Quiet (.bool true) (w12.drewN n))) := Lib.hid fun n => by
          have h := ref_words_any _ _ ws2 ws2 (w12.drewN n) (HSA.out.drewN n) (HSB.out.drewN n)
          rwa [decide_eq_true rfl] at h
        refine wp_region_quiet_lit (by kernel_rfl) (by kernel_rfl) ?_
        iterate 10 (first | ((with_reducible refine wpQuiet_step (fun K' hK' => ?_)); go_simp; (with_reducible refine hK' _ ?_); clear hK' K') | ((with_reducible refine wpQuiet_skip ?_ ?_); focus rfl))
        (with_reducible refine wpQuiet_step (fun K' hK' => ?_))
        go_simp
        apply Exists.intro
        (with_reducible refine ⟨fun nw => ?_, hK' _ ?_⟩)
        · (go_at_call 14; exact Calls.quiet_of (HWW.out _))
        clear hK' K'
        iterate 2 (first | ((with_reducible refine wpQuiet_step (fun K' hK' => ?_)); go_simp; (with_reducible refine hK' _ ?_); clear hK' K') | ((with_reducible refine wpQuiet_skip ?_ ?_); focus rfl))
        refine wpQuiet_nil ?_
        rintro w' ⟨nq, rfl⟩
        clear e1 e2
        go_wp2_with fail
        exact ⟨⟨k + 1, ws2, by omega, by go_num, HD.out.next ⟨rfl, rfl, rfl, Nat.le_refl _, fun _ _ => rfl⟩⟩, by simp only [intOf]; omega⟩
    · have hd : decide ((k : Int) < (acts.length : Int)) = false := decide_eq_false (by omega)
      have HB := Lib.hid hH.below
      clear hH
      go_wp2_with fail
      go_ret
      exact ⟨rfl, HB.out⟩

set_option maxRecDepth 100000 in
theorem busMemory_far (base : Int) (a a2 : Option Addr) (n m cap cap2 : Nat) (w : World) (h1 : 100 < n ∨ 100 < m) :
    Calls Try.prog 3 #[.agg #[.int .u32 base, .slice a n cap], .slice a2 m cap2] w fun e w' => e = .returned (.bool true) ∧ Below w.heap.size w w' := by
  go_enter Try.func3, Try.ntmps3
  go_wp2_with (first
    | (refine bx_new rfl (ty := 25) rfl rfl ?_; intro w1 hn1; have HA1 : Hid (At w1 w.heap.size [.int .u32 base, .slice a n cap] 25) := Lib.hid hn1.to; have HB1 := Lib.hid (hn1.below (Nat.le_refl _)); clear hn1)
    | fail)
  refine (alive16_any _).mono ?_
  rintro e w3 ⟨rfl, hb3⟩
  have HB3 := Lib.hid (HB1.out.trans (hb3.mono HB1.out.size))
  have c1 : w3.cell? ⟨w.heap.size, 1, none⟩ = some (.slice a n cap) := (HA1.out.of_below hb3).cell 1
  clear hb3 HA1 HB1
  by_cases hn : 100 < n
  · have hd : decide ((100 : Int) < (n : Int)) = true := by rw [decide_eq_true_eq]; omega
    clear h1 hn
    go_wp2_with fail
    go_ret
    exact ⟨rfl, HB3.out⟩
  · have hd : decide ((100 : Int) < (n : Int)) = false := by rw [decide_eq_false_iff_not]; omega
    have hd2 : decide ((100 : Int) < (m : Int)) = true := by rw [decide_eq_true_eq]; omega
    clear h1 hn
    go_wp2_with fail
    go_ret
    exact ⟨rfl, HB3.out⟩

namespace busMemory
set_option maxRecDepth 100000 in
theorem owed : Owed Try.prog 3 Try.f3 := by
  intro H enc W base args ds p hval hA
  rw [Try.params3] at hval hA
  obtain ⟨hl, _⟩ := trodAll_len _ _ _ _ hA
  obtain ⟨v0, v1, rfl⟩ : ∃ v0 v1, args = #[v0, v1] := by
    obtain ⟨l⟩ := args
    match l, hl with
    | [v0, v1], _ => exact ⟨v0, v1, rfl⟩
  obtain ⟨_, _, _, _, h0, r0⟩ := trodAll_head (v := v0) (vs := [v1]) hA
  obtain ⟨_, _, _, _, h1, r1⟩ := trodAll_head (v := v1) (vs := []) r0
  clear r1
  have hv0 := hval 0 25 v0 rfl rfl
  have hv1 := hval 1 26 v1 rfl rfl
  clear hval hA
  obtain ⟨b, a, cap, l, rfl, hb, hcap, hs⟩ := open_ram Try.underlying25 (by kernel_rfl) (by kernel_rfl) Try.underlying22 Try.underlying23 Try.underlying22 (by kernel_rfl) (by kernel_rfl) rfl rfl rfl hv0 h0
  obtain ⟨a2, cap2, acts, rfl, _, he, hf⟩ := open_flats (D := 3) (ks := [some .u8, some .u32, some .i64, some .u32]) Try.underlying26 (by kernel_rfl) (by kernel_rfl) hv1 h1
  by_cases hl : l.length ≤ 100 ∧ acts.length ≤ 100
  · exact busMemory_walk b _ _ l acts W hb hl.1 (hs (by omega)) hl.2 he hf
  · exact busMemory_far b a a2 l.length acts.length cap cap2 W (by omega)

theorem own : ownKnob Try.prog.godebug = none := by kernel_rfl
theorem laidOut : laidOutB Try.prog = true := by kernel_rfl

set_option maxRecDepth 100000 in
theorem lifted (os : Os) (started : os.Started) (H : Type) (enc : TypeId × Value → H) :
    ReturnsInHanded {} Try.checked os 3 .any (Rows.busMemorySpec.pre6 enc Try.prog Try.f3 Rows.busMemoryRow.domain false) (Rows.busMemorySpec.post enc Try.prog Try.f3 false true false false) := by
  refine law_handed (C := Try.checked) (tb := 4) own started (by kernel_rfl) Try.func3
    (ChangeSpec.witness6 (enc := enc) (C := Try.checked) false ⟨#[], #[.agg #[.int .u32 0, .slice none 0 0], .slice none 0 0], []⟩ 8 (by kernel_rfl) (by kernel_rfl) (by kernel_rfl) (by kernel_rfl))
    rfl Try.underlying4 rfl ?_ laidOut (of_decide_eq_true (by kernel_rfl)) owed
  intro ds hl
  match ds, hl with
  | [a, b], _ => exact ⟨rfl, rfl, rfl⟩

theorem over : Rows.busMemoryRow.holds Try.pinned (OpenSpec.ofChange Rows.busMemorySpec) :=
  OpenClaim.holds_of_wide 3 Try.f3 rfl rfl rfl rfl rfl rfl rfl ⟨rfl, rfl, rfl, rfl, rfl⟩ rfl rfl rfl rfl rfl (by kernel_rfl) Try.func3 (by kernel_rfl)
    (of_decide_eq_true (by kernel_rfl)) (by unfold Func.isWrapper; first | (rw [if_pos (by decide +kernel)]; kernel_rfl) | (rw [if_neg (by decide +kernel)]; exact ⟨rfl, rfl⟩))
    (fun os started H enc _ => lifted os started H enc)

theorem proved : Rows.BusMemorySaid := over
end busMemory
#print axioms busMemory.proved
end Go.Proofs.Ytfgipnohomdcoaa
