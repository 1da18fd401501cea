/- Walk of package bus: Add, to the end. -/
import Derived.Test.YtfgipnohomdcoaaBusH
namespace Go.Proofs.Ytfgipnohomdcoaa
open Go.RowKit
set_option maxHeartbeats 4000000

theorem zero_region (w : World) : (zeroValue 75).run Try.prog w = .ok (.agg #[.nilIface, .int .u64 0, .int .u64 0]) w := by
  have h : (Try.prog.info? 75).bind (·.zero) = some (.agg #[.nilIface, .int .u64 0, .int .u64 0]) := by kernel_rfl
  unfold zeroValue typeInfo
  cases hq : Try.prog.info? 75 with
  | none => rw [hq] at h; cases h
  | some i =>
    rw [hq] at h
    simp only [Option.bind_some] at h
    simp [hq, h]

theorem BR.below {w w' : World} {B gb gr gw : Nat} {base : Int} {ws : List Int} {sv : Value} {rs : List Rg} (h : BR w B gb gr gw base ws sv rs) (hb : Below w.heap.size w w') : BR w' B gb gr gw base ws sv rs :=
  ⟨h.bw.below hb, own_below h.own hb, h.few, h.le.1, Nat.le_trans h.le.2 hb.size⟩
theorem RW.grown {w w' : World} {B gr gw m n : Nat} {e : TypeId} {v : Value} {xs : List Value} {base : Int} {ws : List Int} (h : RW w gr gw base ws) (ho : w.ownsRow B e m v n xs) (hg : w.grownBy w' v.ownBlock) (h1 : 29 ≠ e) (h2 : 22 ≠ e) : RW w' gr gw base ws := by
  obtain ⟨a, cap, e1, e2⟩ := h.ex
  refine ⟨⟨a, cap, at_grown e1 hg (own_ne ho e1 h1), ?_⟩, h.b, h.r, h.l, h.ne⟩
  rcases e2 with e2 | ⟨c, f1, f2, f3, f4⟩
  · exact .inl e2
  · exact .inr ⟨c, f1, at_grown f2 hg (own_ne ho f2 h2), f3, f4⟩

/-- what comes of it -/
def addQ (b n base : Int) (m : Nat) (rs : List Rg) : Bool := decide (plc b n ∧ clearRam b n base m ∧ ∀ r ∈ rs, clear1 b n r)

set_option maxRecDepth 100000 in
theorem busAdd_free {B gb gr gw : Nat} {base b n : Int} {ws : List Int} {sv : Value} {rs : List Rg} {ty : TypeId} {d : Value} (hb : 0 ≤ b ∧ b < 4294967296) (hn : 0 ≤ n ∧ n < 4294967296) (hp : plc b n) (hc : clearRam b n base ws.length) (hok : ∀ r ∈ rs, r.d.oneCell' = true) (hlt : rs.length < 100) (w : World) (h : BR w B gb gr gw base ws sv rs) :
    Calls Try.prog 15 #[.pointer (some ⟨gb, 0, none⟩), .int .u32 b, .int .u32 n, .iface ty d] w fun e w' => e = .returned (.bool (decide (∀ r ∈ rs, clear1 b n r))) ∧ (∃ sv' rs', BR w' B gb gr gw base ws sv' rs' ∧ ((∀ r ∈ rs, clear1 b n r) → rs' = rs ++ [⟨.iface ty d, b, b + n⟩])) ∧ Below B w w' := by
  have Hg := Lib.hid (good_any w h.bw.bus)
  have Hi3 : Hid ((Try.prog.info? 75).map (·.size) = some 3) := by unfold Hid; kernel_rfl
  have Hj1 : Hid ((Try.prog.info? 55).map (·.size) = some 1) := by unfold Hid; kernel_rfl
  have c0 : w.cell? ⟨gb, 0, none⟩ = some (.pointer (some ⟨gr, 0, none⟩)) := h.bw.bus.cell 0
  have c1 : w.cell? ⟨gb, 1, none⟩ = some sv := h.bw.bus.cell 1
  obtain ⟨ra, rcap, hra, -⟩ := h.bw.ram.ex
  have c2 : w.cell? ⟨gr, 0, none⟩ = some (.int .u32 base) := hra.cell 0
  have c3 : w.cell? ⟨gr, 1, none⟩ = some (.slice ra ws.length rcap) := hra.cell 1
  obtain ⟨hB1, hB2⟩ := h.bw.ram.b
  have hl := h.bw.ram.l
  have hfew := h.few
  have Hap := Lib.hid (apart_any b (b + n) base (base + 4 * ws.length) w)
  have hf : decide (b + n ≤ base ∨ base + 4 * (ws.length : Int) ≤ b) = true := decide_eq_true hc
  rw [hf] at Hap
  obtain ⟨hb1, hb2⟩ := hb
  obtain ⟨hn1, hn2⟩ := hn
  obtain ⟨p1, p2, p3, p4⟩ := hp
  have b1 : (b % 4 != 0) = false := by rw [bne_eq_false_iff_eq]; exact p1
  have b2 : (n % 4 != 0) = false := by rw [bne_eq_false_iff_eq]; exact p2
  have b3 : (n == 0) = false := by rw [beq_eq_false_iff_ne]; exact p3
  have b4 : decide (4294967296 < b + n) = false := by rw [decide_eq_false_iff_not]; omega
  obtain ⟨a, cap, rfl⟩ := h.shape
  have H := Lib.hid h
  have Hok := Lib.hid hok
  clear p1 p2 p3 hf hc h hra hok
  go_enter Try.func15, Try.ntmps15
  go_wp2_with (first
    | (go_at_call 28; refine Hg.out.mono ?_; rintro e w' ⟨rfl, rfl⟩)
    | (go_at_call 29; refine Hap.out.mono ?_; rintro e w' ⟨rfl, rfl⟩)
    | fail)
  clear Hap Hg
  go_loopw [76] (fun i wr => ∃ k : Nat, k ≤ rs.length ∧ i = .int .i64 k ∧ (∀ r ∈ rs.take k, clear1 b n r) ∧ Below w.heap.size w wr) (fun i _ => rs.length - (intOf i).toNat)
  case atStart => exact ⟨0, by omega, rfl, by simp, Below.refl _ _⟩
  case round =>
    obtain ⟨k, hk, rfl, hf, hB⟩ := hrel
    have Hf := Lib.hid hf; have HB := Lib.hid hB; clear hf hB
    by_cases hlt : k < rs.length
    · obtain ⟨r, hr⟩ : ∃ r, rs[k]? = some r := ⟨_, List.getElem?_eq_getElem hlt⟩
      obtain ⟨g, cap', hv, hrg⟩ := H.out.elem hr
      simp only [Value.slice.injEq] at hv
      obtain ⟨rfl, -, rfl⟩ := hv
      have Hrg := Lib.hid hrg
      have hmem : r ∈ rs := List.mem_of_getElem? hr
      have H1 : Hid (∀ v ∈ r.cells, v.oneCell' = true) := by
        intro v hv
        simp only [Rg.cells, List.mem_cons, List.not_mem_nil, or_false] at hv
        rcases hv with rfl | rfl | rfl
        · exact Hok.out r hmem
        · rfl
        · rfl
      have Hmem := Lib.hid hmem
      have Hr := Lib.hid hr
      clear hr hrg hmem
      by_cases hq : clear1 b n r
      · have Hq : Hid (decide (b + n ≤ r.f ∨ r.t ≤ b) = true) := decide_eq_true hq
        have Hf2 : Hid (∀ x ∈ rs.take (k + 1), clear1 b n x) := by
          intro x hx
          rw [List.take_add_one, Hr.out] at hx
          rcases List.mem_append.1 hx with hx | hx
          · exact Hf.out x hx
          · simp at hx; subst hx; exact hq
        clear hq
        go_wp2_with (first
          | (refine ld_rng rfl rfl rfl (Hrg.out _ HB.out) Try.underlying75 rfl Hi3.out ?_)
          | (refine al_new rfl rfl (zero_region _) ?_; intro w3 hn3; have HA3 := Lib.hid (show At w3 wr.heap.size [.nilIface, .int .u64 0, .int .u64 0] 75 from hn3.to); have HB3 := Lib.hid (HB.out.trans (hn3.below HB.out.size)); clear hn3)
          | (refine st_agg rfl rfl rfl rfl HA3.out 3 Hi3.out rfl (Nat.le_refl 3) H1.out ?_; intro w4 hu4; have c5 : w4.cell? ⟨wr.heap.size, 1, none⟩ = some (.int .u64 r.f) := hu4.to.cell 1; have c6 : w4.cell? ⟨wr.heap.size, 2, none⟩ = some (.int .u64 r.t) := hu4.to.cell 2; have HB4 := Lib.hid (HB3.out.trans (hu4.below HB.out.size)); clear hu4)
          | (go_at_call 29; refine (apart_any _ _ _ _ _).mono ?_; rintro e w5 ⟨rfl, rfl⟩; rw [Hq.out])
          | fail)
        go_roundw
        case rel => exact ⟨k + 1, by omega, by go_num, Hf2.out, HB4.out⟩
        case measure => simp only [intOf]; omega
      · have Hq : Hid (decide (b + n ≤ r.f ∨ r.t ≤ b) = false) := decide_eq_false hq
        have Hno : Hid (¬ ∀ r ∈ rs, clear1 b n r) := fun hh => hq (hh r Hmem.out)
        clear hq
        go_wp2_with (first
          | (refine ld_rng rfl rfl rfl (Hrg.out _ HB.out) Try.underlying75 rfl Hi3.out ?_)
          | (refine al_new rfl rfl (zero_region _) ?_; intro w3 hn3; have HA3 := Lib.hid (show At w3 wr.heap.size [.nilIface, .int .u64 0, .int .u64 0] 75 from hn3.to); have HB3 := Lib.hid (HB.out.trans (hn3.below HB.out.size)); clear hn3)
          | (refine st_agg rfl rfl rfl rfl HA3.out 3 Hi3.out rfl (Nat.le_refl 3) H1.out ?_; intro w4 hu4; have c5 : w4.cell? ⟨wr.heap.size, 1, none⟩ = some (.int .u64 r.f) := hu4.to.cell 1; have c6 : w4.cell? ⟨wr.heap.size, 2, none⟩ = some (.int .u64 r.t) := hu4.to.cell 2; have HB4 := Lib.hid (HB3.out.trans (hu4.below HB.out.size)); clear hu4)
          | (go_at_call 29; refine (apart_any _ _ _ _ _).mono ?_; rintro e w5 ⟨rfl, rfl⟩; rw [Hq.out])
          | fail)
        go_ret
        exact ⟨ret_bool (decide_eq_false Hno.out).symm, ⟨_, rs, H.out.below HB4.out, fun hh => absurd hh Hno.out⟩, HB4.out.mono H.out.le.2⟩
    · have hke : k = rs.length := by omega
      have Hall : Hid (∀ r ∈ rs, clear1 b n r) := by have h := Hf.out; rw [hke, List.take_length] at h; exact h
      have c4 : wr.cell? ⟨gb, 1, none⟩ = some (.slice a rs.length cap) := (HB.out.cell (p := ⟨gb, 1, none⟩) H.out.bw.bus.lt).trans c1
      have HR := Lib.hid (H.out.below HB.out)
      have H1 : Hid (∀ v ∈ ([.iface ty d, .int .u64 b, .int .u64 (b + n)] : List Value), v.oneCell' = true) := by
        intro v hv
        simp only [List.mem_cons, List.not_mem_nil, or_false] at hv
        rcases hv with rfl | rfl | rfl <;> rfl
      clear Hf
      go_wp2_with (first
        | (refine bd_run rfl rfl rfl (cells := #[.iface ty d, .int .u64 b, .int .u64 (b + n)]) (by kernel_rfl) ?_)
        | (refine bs_one rfl rfl (cs := [.iface ty d, .int .u64 b, .int .u64 (b + n)]) rfl Try.underlying55 3 rfl Hi3.out (by kernel_rfl) (by decide) (by decide) ?_; intro w3 hn3; have HA3 := Lib.hid hn3.to; have HR3 := Lib.hid (HR.out.below (hn3.below (Nat.le_refl _))); have HB3 := Lib.hid (HB.out.trans (hn3.below HB.out.size)); clear hn3)
        | (refine ap_one rfl _ _ _ rfl (bytes := 32) Try.underlying55 Hi3.out (by kernel_rfl) (by kernel_rfl) (by decide) rfl HR3.out.own rfl HA3.out rfl H1.out (by unfold maxLen; omega) (by omega) HR3.out.le.2 ?_; intro v4 w4 ho4 hg4
           have HC4 := Lib.hid (own_cells1 ho4); have HO4 := Lib.hid ho4
           have HG4 := Lib.hid (at_grown HR3.out.bw.bus hg4 (own_ne HR3.out.own HR3.out.bw.bus (by decide)))
           have HW4 := Lib.hid (HR3.out.bw.ram.grown HR3.out.own hg4 (by decide) (by decide))
           have HB4 := Lib.hid ((HB3.out.mono H.out.le.2).grown hg4 HR3.out.le.2 (fun k e => own_base HR3.out.own k e))
           clear ho4 hg4)
        | (refine st_cell (v := v4) rfl rfl rfl rfl HC4.out.1 HG4.out Hj1.out (Nat.le_refl 2) HC4.out.2 ?_; intro w5 hu5; have HU5 := Lib.hid hu5; clear hu5)
        | fail)
      go_ret
      obtain ⟨ra2, cp2, hr2, -⟩ := HW4.out.ex
      refine ⟨ret_bool (decide_eq_true Hall.out).symm, ⟨v4, rs ++ [⟨.iface ty d, b, b + n⟩], ⟨⟨HU5.out.to, HW4.out.same HU5.out.same (at_ne hr2 HG4.out (by decide)) (Ne.symm H.out.bw.ne), H.out.bw.ne⟩, ?_, by rw [List.length_append]; simp; omega, H.out.le.1, ?_⟩, fun _ => rfl⟩, HB4.out.trans (HU5.out.below H.out.le.1)⟩
      · rw [← rsCells_snoc, List.length_append]
        exact own_upd HO4.out HU5.out (own_ne HO4.out HG4.out (by decide))
      · rw [HU5.out.size]; exact Nat.le_trans H.out.le.2 HB4.out.size
end Go.Proofs.Ytfgipnohomdcoaa
