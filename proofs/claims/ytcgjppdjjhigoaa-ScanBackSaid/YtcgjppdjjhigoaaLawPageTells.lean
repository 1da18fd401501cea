/- The statement PageTells: which pages may be, any one's words, and what any words are, is the document's. No condition. -/
import Derived.Test.YtcgjppdjjhigoaaPageF
import Derived.Test.YtcgjppdjjhigoaaPageG
import Derived.Test.YtcgjppdjjhigoaaLift
import Derived.Deep.RegionHeld3
namespace Go.Proofs.Ytcgjppdjjhigoaa
open Go.ChangeShapes Go.WideShapes Go.ChangeAt Go.RowKit
set_option maxHeartbeats 4000000

theorem lit_i64 {x : Int} (h : -9223372036854775808 ≤ x ∧ x ≤ 9223372036854775807) : (Lit.int .i64 x).wf = true := by
  simp [Lit.wf, IntKind.min, IntKind.max, IntKind.signed, IntKind.bits]; omega

def Pg.lits (p : Pg) : List Lit := [.int .u32 p.s, .int .u32 p.q, .bool p.g, .int .u32 p.a, .int .u32 p.b, .int .u32 p.c, .int .u32 p.d]
theorem Pg.lits_eq {p q : Pg} (h : p.lits = q.lits) : p = q := by
  cases p; cases q; simp [Pg.lits] at h; simp [h]

set_option maxRecDepth 100000 in
theorem page_lits (p : Pg) (hp : p.ok) : Try.prog.keyLits 4 25 p.val.cells.toList = some p.lits := by
  obtain ⟨s, q, g, a, b, c, d⟩ := p
  obtain ⟨h0, h1, h2, h3, h4, h5⟩ := hp
  simp only [Pg.val, Pg.lits] at *
  simp [Program.keyLits, Try.underlying25, Try.underlying23, Try.underlying22, Try.underlying4, Value.cells, show Try.prog.cellsOf 22 = 1 from by kernel_rfl, show Try.prog.cellsOf 4 = 1 from by kernel_rfl, show Try.prog.cellsOf 23 = 4 from by kernel_rfl, show Try.prog.cellsOf 25 = 7 from by kernel_rfl, List.range, List.range.loop, lit_u32 h0, lit_u32 h1, lit_u32 h2, lit_u32 h3, lit_u32 h4, lit_u32 h5]

theorem page_eq (p q : Pg) (hp : p.ok) (hq : q.ok) (w : World) : (Op.equalIn 10000 25 p.val q.val).run Try.prog w = .ok (decide (p = q)) w :=
  eq_flat (P := Try.prog) (m := 3) (t := 25) (x := p.val) (y := q.val) (D := 4) (D' := 4) (by omega) (by kernel_rfl) (by kernel_rfl) (by kernel_rfl) (page_lits p hp) (page_lits q hq) (decide (p = q))
    (by simp only [decide_eq_true_eq]; exact ⟨fun h => by rw [h], Pg.lits_eq⟩) w

def Pg.cells (p : Pg) : List Value := [.int .u32 p.s, .int .u32 p.q, .bool p.g, .int .u32 p.a, .int .u32 p.b, .int .u32 p.c, .int .u32 p.d]
theorem Pg.val_cells (p : Pg) : p.val = .agg p.cells.toArray := rfl

theorem rd_ok (l : List Int) (h : ∀ x ∈ l, 0 ≤ x ∧ x < 4294967296) : (rd l).1.ok := by
  unfold rd
  split
  · simp [Pg.zero, Pg.ok, u32]
  · rename_i hl
    obtain ⟨x0, x1, x2, x3, x4, x5, x6, rfl⟩ := list7 (by simpa using hl)
    split
    · simp [Pg.zero, Pg.ok, u32]
    · have e0 := h x0 (by simp); have e1 := h x1 (by simp); have e2 := h x2 (by simp); have e3 := h x3 (by simp); have e4 := h x4 (by simp); have e5 := h x5 (by simp)
      have : u32 (x0 % 2147483648) := by simp only [u32]; omega
      exact ⟨this, e1, e2, e3, e4, e5⟩

theorem page_binop (p q : Pg) (hp : p.ok) (hq : q.ok) (w : World) : (binOp .eql 25 p.val q.val).run Try.prog w = .ok (.bool (decide (p = q))) w := by
  have h := page_eq p q hp hq w
  simp only [Pg.val] at h ⊢
  rw [run_eql_struct, h]
  rfl

set_option maxRecDepth 100000 in
theorem pageTells_far (p : Pg) (ua : Option Addr) (n uc : Nat) (w : World) (h1 : 100 < n) (h2 : n ≤ 9223372036854775807) :
    Calls Try.prog 3 #[p.val, .slice ua n uc] w fun e w' => e = .returned (.bool true) ∧ Below w.heap.size w w' := by
  simp only [Pg.val]
  go_enter Try.func3, Try.ntmps3
  go_wp2_with fail
  refine (alive04_any _).mono ?_
  rintro e w1 ⟨rfl, hb1⟩
  have HB1 : Hid (Below w.heap.size w w1) := ((Below.refl _ _).alloc (Nat.le_refl _) _).trans (hb1.mono (by simp))
  clear hb1
  go_wp2_with fail
  go_ret
  exact ⟨rfl, HB1.out⟩

set_option maxRecDepth 100000 in
theorem pageTells_walk (p : Pg) (hp : p.ok) (u : Value) (l : List Int) (w : World) (hlen : l.length ≤ 100) (hu : Sl w u l) :
    Calls Try.prog 3 #[p.val, u] w fun e w' => e = .returned (.bool true) ∧ Below w.heap.size w w' := by
  obtain ⟨ua, uc, rfl⟩ := hu.shape
  generalize hq : (rd l).1 = q
  generalize hk : (rd l).2 = k
  have hqo : q.ok := by rw [← hq]; exact rd_ok l hu.range
  have Hq := Lib.hid hq; have Hk := Lib.hid hk
  clear hq hk
  have Hi25 : Hid ((Try.prog.info? 25).map (·.size) = some 7) := by unfold Hid; kernel_rfl
  have Hi28 : Hid ((Try.prog.info? 28).map (·.size) = some 7) := by unfold Hid; kernel_rfl
  have Hp := Lib.hid hp; have Hqo := Lib.hid hqo
  clear hp hqo
  simp only [Pg.val]
  go_enter Try.func3, Try.ntmps3
  go_wp2_with fail
  refine (alive04_any _).mono ?_
  rintro e w1 ⟨rfl, hb1⟩
  have hA2 : At w1 w.heap.size p.cells 25 := by
    have := hb1.block w.heap.size (by simp)
    unfold At; rw [this]; exact hp_new rfl
  have HB1 : Hid (Below w.heap.size w w1) := ((Below.refl _ _).alloc (Nat.le_refl _) _).trans (hb1.mono (by simp))
  clear hb1
  have Hu1 := Lib.hid (hu.below HB1.out)
  clear hu
  go_wp2_with fail
  refine (read_any _ _ _ Hu1.out).mono ?_
  rintro e w2 ⟨rfl, hb2⟩
  rw [Hq.out, Hk.out]
  have HB2 := Lib.hid (HB1.out.trans (hb2.mono HB1.out.size))
  have hA2 := hA2.of_below hb2
  have Hu2 := Lib.hid (Hu1.out.below hb2)
  clear Hu1 hb2
  simp only [Pg.val]
  go_wp2_with fail
  have Hu3 := Lib.hid (Hu2.out.below ((Below.refl _ _).alloc (Nat.le_refl _) (.cells #[.int .u32 q.s, .int .u32 q.q, .bool q.g, .int .u32 q.a, .int .u32 q.b, .int .u32 q.c, .int .u32 q.d] 28)))
  refine (ref_read_any _ _ _ Hu3.out).mono ?_
  rintro e w3 ⟨rfl, hb3⟩
  rw [Hq.out, Hk.out]
  have hA5 : At w3 w2.heap.size q.cells 28 := by
    have := hb3.block w2.heap.size (by simp)
    unfold At; rw [this]; exact hp_new rfl
  have hbb : Below w2.heap.size w2 w3 := ((Below.refl _ _).alloc (Nat.le_refl _) _).trans (hb3.mono (by simp))
  have HB3 := Lib.hid (HB2.out.trans (hbb.mono HB2.out.size))
  have hA2 := hA2.of_below hbb
  clear Hu2 Hu3 hb3 hbb
  simp only [Pg.val]
  go_wp2_with fail
  have hA7 : At (w3.alloc (.cells #[.int .u32 q.s, .int .u32 q.q, .bool q.g, .int .u32 q.a, .int .u32 q.b, .int .u32 q.c, .int .u32 q.d] 25)) w3.heap.size q.cells 25 := hp_new rfl
  have hA2 := (New.alloc w3 (.cells #[.int .u32 q.s, .int .u32 q.q, .bool q.g, .int .u32 q.a, .int .u32 q.b, .int .u32 q.c, .int .u32 q.d] 25)).at hA2
  have hA5 := (New.alloc w3 (.cells #[.int .u32 q.s, .int .u32 q.q, .bool q.g, .int .u32 q.a, .int .u32 q.b, .int .u32 q.c, .int .u32 q.d] 25)).at hA5
  have HB4 := Lib.hid (HB3.out.trans ((New.alloc w3 (.cells #[.int .u32 q.s, .int .u32 q.q, .bool q.g, .int .u32 q.a, .int .u32 q.b, .int .u32 q.c, .int .u32 q.d] 25)).below HB3.out.size))
  generalize (w3.alloc (.cells #[.int .u32 q.s, .int .u32 q.q, .bool q.g, .int .u32 q.a, .int .u32 q.b, .int .u32 q.c, .int .u32 q.d] 25)) = w4 at *
  have keepS : ∀ w' : World, Below w4.heap.size w4 w' → (∀ i : Nat, w'.cell? ⟨w.heap.size, i, none⟩ = ([.int .u32 p.s, .int .u32 p.q, .bool p.g, .int .u32 p.a, .int .u32 p.b, .int .u32 p.c, .int .u32 p.d] : List Value)[i]?) ∧ (∀ i : Nat, w'.cell? ⟨w2.heap.size, i, none⟩ = ([.int .u32 q.s, .int .u32 q.q, .bool q.g, .int .u32 q.a, .int .u32 q.b, .int .u32 q.c, .int .u32 q.d] : List Value)[i]?) ∧ (∀ i : Nat, w'.cell? ⟨w3.heap.size, i, none⟩ = ([.int .u32 q.s, .int .u32 q.q, .bool q.g, .int .u32 q.a, .int .u32 q.b, .int .u32 q.c, .int .u32 q.d] : List Value)[i]?) ∧ Below w4.heap.size w4 w' := fun w' hb => ⟨(hA2.of_below hb).cell, (hA5.of_below hb).cell, (hA7.of_below hb).cell, hb⟩
  have KS := Lib.hid keepS
  have hS0 := keepS w4 (Below.refl _ _)
  have h18 := Lib.hid (right_any p Hp.out)
  have h19 := Lib.hid (ref_right_any p Hp.out)
  have h21 := Lib.hid (words_any p Hp.out)
  have h22 := Lib.hid (ref_page_words_any p Hp.out)
  have heq := page_binop q q Hqo.out Hqo.out
  simp only [Pg.val] at h18 h19 h21 h22 heq
  simp only [decide_true] at heq
  clear keepS hA2 hA5 hA7 hlen
  go_region_held3 (fun w' => (∀ i : Nat, w'.cell? ⟨w.heap.size, i, none⟩ = ([.int .u32 p.s, .int .u32 p.q, .bool p.g, .int .u32 p.a, .int .u32 p.b, .int .u32 p.c, .int .u32 p.d] : List Value)[i]?) ∧ (∀ i : Nat, w'.cell? ⟨w2.heap.size, i, none⟩ = ([.int .u32 q.s, .int .u32 q.q, .bool q.g, .int .u32 q.a, .int .u32 q.b, .int .u32 q.c, .int .u32 q.d] : List Value)[i]?) ∧ (∀ i : Nat, w'.cell? ⟨w3.heap.size, i, none⟩ = ([.int .u32 q.s, .int .u32 q.q, .bool q.g, .int .u32 q.a, .int .u32 q.b, .int .u32 q.c, .int .u32 q.d] : List Value)[i]?) ∧ Below w4.heap.size w4 w')
    (first
      | exact KS.out _ ((Below.refl _ _).drew)
      | (go_split_ands; exact KS.out _ (Below.trans (by assumption) (hb.mono (Below.size (by assumption)))))
      | (go_split_ands; exact KS.out _ (below_drewN (by assumption) _))
      | go_keep)
    (first
      | (go_at_call 18; refine (h18.out _).mono ?_; rintro e w' ⟨rfl, hb⟩)
      | (go_at_call 19; refine (h19.out _).mono ?_; rintro e w' ⟨rfl, hb⟩)
      | (go_at_call 21; refine (h21.out _).mono ?_; rintro e w' ⟨⟨v1, rfl, hv1⟩, hb⟩)
      | (go_at_call 22; refine (h22.out _).mono ?_; rintro e w' ⟨⟨v2, rfl, hv2⟩, hb⟩)
      | (go_at_call 20; refine (ref_words_any _ _ _ _ _ (hv1.sl.below hb) hv2.sl).mono ?_; rintro e w' ⟨rfl, n, rfl⟩)
      | (go_at_call 20; refine (ref_words_any _ _ _ _ _ hv1.sl (hv2.sl.below hb)).mono ?_; rintro e w' ⟨rfl, n, rfl⟩))
  go_split_ands
  go_wp2_with fail
  go_ret
  exact ⟨rfl, HB4.out.trans (Below.mono (by assumption) HB4.out.size)⟩

theorem fit_page {cs : List Value} (h : Fit [some .u32, some .u32, none, some .u32, some .u32, some .u32, some .u32] cs) : ∃ p : Pg, cs = p.cells ∧ p.ok := by
  match cs, h with
  | [.int _ s, .int _ q, .bool g, .int _ a, .int _ b, .int _ c, .int _ d], h =>
    obtain ⟨⟨rfl, h1, h1'⟩, ⟨rfl, h2, h2'⟩, _, ⟨rfl, h3, h3'⟩, ⟨rfl, h4, h4'⟩, ⟨rfl, h5, h5'⟩, ⟨rfl, h6, h6'⟩, _⟩ := h
    have e : IntKind.u32.max = 4294967295 := rfl
    have e' : IntKind.u32.min = 0 := rfl
    rw [e] at h1' h2' h3' h4' h5' h6'
    rw [e'] at h1 h2 h3 h4 h5 h6
    have f : ∀ x : Int, 0 ≤ x → x ≤ 4294967295 → u32 x := fun x h h' => ⟨h, by omega⟩
    exact ⟨⟨s, q, g, a, b, c, d⟩, rfl, f _ h1 h1', f _ h2 h2', f _ h3 h3', f _ h4 h4', f _ h5 h5', f _ h6 h6'⟩

namespace pageTells
set_option maxRecDepth 100000 in
theorem owed : Owed Try.prog 3 Try.f3 := by
  intro H enc W base args ds p hval hA
  rw [Try.params3] at hval hA
  obtain ⟨hl, _⟩ := trodAll_len _ _ _ _ hA
  obtain ⟨v0, v1, rfl⟩ : ∃ v0 v1, args = #[v0, v1] := by
    obtain ⟨l⟩ := args
    match l, hl with
    | [v0, v1], _ => exact ⟨v0, v1, rfl⟩
  obtain ⟨_, _, _, _, h0, r0⟩ := trodAll_head (v := v0) (vs := [v1]) hA
  obtain ⟨_, _, _, _, h1, r1⟩ := trodAll_head (v := v1) (vs := []) r0
  clear r1
  have hv0 := hval 0 25 v0 rfl rfl
  have hv1 := hval 1 26 v1 rfl rfl
  clear hval hA
  obtain ⟨cs, rfl, hc⟩ := open_flat (ts := [22, 22, 4, 22, 22, 22, 22]) (ks := [some .u32, some .u32, none, some .u32, some .u32, some .u32, some .u32]) Try.underlying25 rfl (by kernel_rfl) (by kernel_rfl) (by kernel_rfl) hv0
  obtain ⟨pg, rfl, hp⟩ := fit_page hc
  obtain ⟨a, cap, l, rfl, hcap, hs⟩ := open_words Try.underlying26 Try.underlying22 (by kernel_rfl) hv1 h1
  rw [← Pg.val_cells]
  by_cases hlen : l.length ≤ 100
  · exact pageTells_walk pg hp _ l W hlen (hs (by omega))
  · refine pageTells_far pg a l.length cap W (by omega) ?_
    have := okWide_slice_le Try.underlying26 hv1
    omega

theorem own : ownKnob Try.prog.godebug = none := by kernel_rfl
theorem laidOut : laidOutB Try.prog = true := by kernel_rfl

set_option maxRecDepth 100000 in
theorem lifted (os : Os) (started : os.Started) (H : Type) (enc : TypeId × Value → H) :
    ReturnsInHanded {} Try.checked os 3 .any (Rows.pageTellsSpec.pre6 enc Try.prog Try.f3 Rows.pageTellsRow.domain false) (Rows.pageTellsSpec.post enc Try.prog Try.f3 false true false false) := by
  refine law_handed (C := Try.checked) (tb := 4) own started (by kernel_rfl) Try.func3
    (ChangeSpec.witness6 (enc := enc) (C := Try.checked) false ⟨#[], #[.agg #[.int .u32 0, .int .u32 0, .bool false, .int .u32 0, .int .u32 0, .int .u32 0, .int .u32 0], .slice none 0 0], []⟩ 8 (by kernel_rfl) (by kernel_rfl) (by kernel_rfl) (by kernel_rfl))
    rfl Try.underlying4 rfl ?_ laidOut (of_decide_eq_true (by kernel_rfl)) owed
  intro ds hl
  match ds, hl with
  | [a, b], _ => exact ⟨rfl, rfl, rfl⟩

theorem over : Rows.pageTellsRow.holds Try.pinned (OpenSpec.ofChange Rows.pageTellsSpec) :=
  OpenClaim.holds_of_wide 3 Try.f3 rfl rfl rfl rfl rfl rfl rfl ⟨rfl, rfl, rfl, rfl, rfl⟩ rfl rfl rfl rfl rfl (by kernel_rfl) Try.func3 (by kernel_rfl)
    (of_decide_eq_true (by kernel_rfl)) (by unfold Func.isWrapper; first | (rw [if_pos (by decide +kernel)]; kernel_rfl) | (rw [if_neg (by decide +kernel)]; exact ⟨rfl, rfl⟩))
    (fun os started H enc _ => lifted os started H enc)

theorem proved : Rows.PageTellsSaid := over
end pageTells
#print axioms pageTells.proved
end Go.Proofs.Ytcgjppdjjhigoaa
