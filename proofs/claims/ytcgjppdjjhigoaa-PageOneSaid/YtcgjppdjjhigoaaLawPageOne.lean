/- The statement PageOne: of words there is one page at most: with another bit anywhere they are none, or another one. No condition. -/
import Derived.Test.YtcgjppdjjhigoaaLawPageBack
namespace Go.Proofs.Ytcgjppdjjhigoaa
open Go.ChangeShapes Go.WideShapes Go.ChangeAt Go.RowKit
set_option maxHeartbeats 4000000

set_option maxRecDepth 100000 in
theorem page_lits28 (p : Pg) (hp : p.ok) : Try.prog.keyLits 4 28 p.val.cells.toList = some p.lits := by
  obtain ⟨s, q, g, a, b, c, d⟩ := p
  obtain ⟨h0, h1, h2, h3, h4, h5⟩ := hp
  simp only [Pg.val, Pg.lits] at *
  simp [Program.keyLits, Try.underlying28, Try.underlying23, Try.underlying22, Try.underlying4, Value.cells, show Try.prog.cellsOf 22 = 1 from by kernel_rfl, show Try.prog.cellsOf 4 = 1 from by kernel_rfl, show Try.prog.cellsOf 23 = 4 from by kernel_rfl, show Try.prog.cellsOf 28 = 7 from by kernel_rfl, List.range, List.range.loop, lit_u32 h0, lit_u32 h1, lit_u32 h2, lit_u32 h3, lit_u32 h4, lit_u32 h5]

theorem page_eq28 (p q : Pg) (hp : p.ok) (hq : q.ok) (w : World) : (Op.equalIn 10000 28 p.val q.val).run Try.prog w = .ok (decide (p = q)) w :=
  eq_flat (P := Try.prog) (m := 3) (t := 28) (x := p.val) (y := q.val) (D := 4) (D' := 4) (by omega) (by kernel_rfl) (by kernel_rfl) (by kernel_rfl) (page_lits28 p hp) (page_lits28 q hq) (decide (p = q))
    (by simp only [decide_eq_true_eq]; exact ⟨fun h => by rw [h], Pg.lits_eq⟩) w
theorem page_binop28 (p q : Pg) (hp : p.ok) (hq : q.ok) (w : World) : (binOp .eql 28 p.val q.val).run Try.prog w = .ok (.bool (decide (p = q))) w := by
  have h := page_eq28 p q hp hq w
  simp only [Pg.val] at h ⊢
  rw [run_eql_struct, h]
  rfl

/-- of words that are a page's, but for one bit -/
theorem rd_other {p : Pg} (hp : p.ok) (hr : p.right = true) {k : Nat} {x y : Int} (hk : k < 7) (hx : p.words[k]? = some x) (hy : u32 y) (hne : y ≠ x) :
    (rd (p.words.set k y) = (Pg.zero, 2)) ∨ (∃ q : Pg, q.ok ∧ q ≠ p ∧ q.words = p.words.set k y ∧ rd (p.words.set k y) = (q, 1)) := by
  have hl : (p.words.set k y).length = 7 := by rw [List.length_set, Pg.words_right hr]; rfl
  have hrange : ∀ z ∈ p.words.set k y, 0 ≤ z ∧ z < 4294967296 := by
    intro z hz
    rcases List.mem_or_eq_of_mem_set hz with h | h
    · rw [Pg.words_right hr] at h
      obtain ⟨h1, _⟩ := (Pg.right_iff p).1 hr
      obtain ⟨⟨h00, h01⟩, h1', h2, h3, h4, h5⟩ := hp
      simp only [u32] at h1' h2 h3 h4 h5
      simp only [List.mem_cons, List.not_mem_nil, or_false] at h
      rcases h with rfl | rfl | rfl | rfl | rfl | rfl | rfl
      · unfold Pg.first; split <;> omega
      all_goals omega
    · rw [h]; exact hy
  have hf : free (p.words.set k y) = false := by
    obtain ⟨h1, _⟩ := (Pg.right_iff p).1 hr
    obtain ⟨⟨h00, h01⟩, _⟩ := hp
    have hfirst : p.first ≠ ones := by unfold Pg.first ones; split <;> omega
    rw [Pg.words_right hr]
    simp only [free, List.all_eq_false]
    by_cases h6 : k = 6
    · subst h6
      exact ⟨p.first, by simp [List.set], by simpa using hfirst⟩
    · refine ⟨1526644958, ?_, by simp [ones]⟩
      have : ([p.first, p.q, p.a, p.b, p.c, p.d, 1526644958].set k y)[6]? = some 1526644958 := by
        rw [List.getElem?_set_ne (by omega)]; rfl
      exact List.mem_of_getElem? this
  have hneq : p.words.set k y ≠ p.words := by
    intro e
    have := congrArg (·[k]?) e
    simp only [List.getElem?_set_self (show k < p.words.length by rw [Pg.words_right hr]; exact hk), hx] at this
    exact hne (Option.some.inj this)
  unfold rd
  rw [if_neg (by omega)]
  by_cases hw : p.words.set k y = (cand (p.words.set k y)).words
  · right
    have hkd : kind (p.words.set k y) (cand (p.words.set k y)).words 7 = 1 := by
      unfold kind; rw [if_neg (by omega), if_neg (by simp [hf]), if_pos hw]
    refine ⟨cand (p.words.set k y), ?_, ?_, hw.symm, by rw [hkd]; simp⟩
    · have := rd_ok (p.words.set k y) hrange
      unfold rd at this
      rw [if_neg (by omega), hkd] at this
      simpa using this
    · intro e
      rw [e] at hw
      exact hneq hw
  · left
    have hkd : kind (p.words.set k y) (cand (p.words.set k y)).words 7 = 2 := by
      unfold kind; rw [if_neg (by omega), if_neg (by simp [hf]), if_neg hw]
    rw [hkd]; simp

theorem xor_bit (x : Int) (j : Nat) (h1 : 0 ≤ x) (h2 : x < 4294967296) (hj : j < 32) : ∃ y, bits .xor .u32 x (2 ^ j % 4294967296) = y ∧ u32 y ∧ y ≠ x := by
  have hp : (2 : Nat) ^ j ≤ 2 ^ 31 := Nat.pow_le_pow_right (by omega) (by omega)
  have hp0 : 0 < (2 : Nat) ^ j := Nat.pow_pos (by omega)
  have e : (2 : Int) ^ j % 4294967296 = ((2 ^ j : Nat) : Int) := by
    have : ((2 : Int) ^ j) = ((2 ^ j : Nat) : Int) := by norm_cast
    rw [this]
    simp only [Nat.reducePow] at hp
    omega
  simp only [Nat.reducePow] at hp
  rw [e, u32_xor x _ h1 h2 (by omega) (by omega)]
  refine ⟨_, rfl, ⟨by omega, ?_⟩, ?_⟩
  · have := Nat.xor_lt_two_pow (x := x.toNat) (y := (2 ^ j : Nat)) (n := 32) (by omega) (by omega)
    simp only [Nat.reducePow, Int.toNat_natCast] at *
    omega
  · intro h
    have h' : x.toNat ^^^ (2 ^ j : Nat) = x.toNat := by simp only [Int.toNat_natCast] at h; omega
    have h2 : (x.toNat ^^^ (2 ^ j : Nat)) ^^^ x.toNat = x.toNat ^^^ x.toNat := by rw [h']
    rw [Nat.xor_comm x.toNat, Nat.xor_assoc, Nat.xor_self, Nat.xor_zero] at h2
    omega

set_option maxRecDepth 100000 in
theorem pageOne_walk (p : Pg) (n m : Nat) (hp : p.ok) (hn : n < 256) (hm : m < 256) (w : World) :
    Calls Try.prog 8 #[p.val, .int .u8 n, .int .u8 m] w fun e w' => e = .returned (.bool true) ∧ Below w.heap.size w w' := by
  have Hp := Lib.hid hp
  have Hwp := Lib.hid (words_any p hp); have Hrp := Lib.hid (right_any p hp)
  clear hp
  simp only [Pg.val] at Hwp Hrp ⊢
  go_enter Try.func8, Try.ntmps8
  go_wp2_with fail
  refine (alive04_any _).mono ?_
  rintro e w4 ⟨rfl, hb1⟩
  have hA3 : At w4 w.heap.size [.int .u32 p.s, .int .u32 p.q, .bool p.g, .int .u32 p.a, .int .u32 p.b, .int .u32 p.c, .int .u32 p.d] 25 := by
    have := hb1.block w.heap.size (by simp)
    unfold At; rw [this]; exact hp_new rfl
  have HB4 : Hid (Below w.heap.size w w4) := ((Below.refl _ _).alloc (Nat.le_refl _) _).trans (hb1.mono (by simp))
  clear hb1
  have hlt4 := hA3.lt
  have hc3 := hA3.cell
  go_wp2_with fail
  refine (Hwp.out _).mono ?_
  rintro e w5 ⟨⟨v, rfl, hv⟩, hb5⟩
  have hA3 := hA3.of_below hb5
  have HB5 := Lib.hid (HB4.out.trans (hb5.mono HB4.out.size))
  clear hc3
  have hc3 := hA3.cell
  cases hpr : p.right
  · rw [Pg.words_not hpr] at hv
    have Hpr := Lib.hid hpr
    obtain ⟨a1, c1, rfl⟩ := hv.sl.shape
    clear hpr hb5
    go_wp2_with fail
    refine (Hrp.out _).mono ?_
    rintro e w6 ⟨rfl, hb6⟩
    rw [Hpr.out]
    go_wp2_with fail
    go_ret
    exact ⟨rfl, HB5.out.trans (hb6.mono HB5.out.size)⟩
  · have hl : p.words.length = 7 := by rw [Pg.words_right hpr]; rfl
    have Hpr := Lib.hid hpr
    clear hpr
    obtain ⟨⟨_, hv1⟩, hvr⟩ := hv
    rcases hv1 with ⟨rfl, h0⟩ | ⟨g, cap, cur, rfl, hg, hh, hcap, hcap2, hcur, htk⟩
    · omega
    obtain ⟨x, hx⟩ : ∃ x, p.words[n % 7]? = some x := ⟨_, List.getElem?_eq_getElem (by omega)⟩
    have hxr := hvr.2 x (List.mem_of_getElem? hx)
    have hcx : w5.cell? ⟨g, n % 7, none⟩ = some (.int .u32 x) := by
      have : cur[n % 7]? = (p.words.map uv)[n % 7]? := by
        rw [← htk, List.getElem?_take, if_pos (by omega)]; simp
      simp only [World.cell?, hh, Option.isSome_none, Bool.false_eq_true, if_false, this, List.getElem?_map, hx]
      rfl
    rw [hl] at hcap ⊢
    have Hx := Lib.hid hx
    have Hh := Lib.hid hh
    have hfz : w5.frozen? ⟨g, n % 7, none⟩ = false := by simp [World.frozen?, hh]
    have Htk := Lib.hid htk; have Hcur := Lib.hid hcur; have Hcap2 := Lib.hid hcap2; have Hvr := Lib.hid hvr
    have hne : w.heap.size ≠ g := by omega
    obtain ⟨y, hy, hyr, hyx⟩ := xor_bit x (m % 32) hxr.1 hxr.2 (by omega)
    have Hyr := Lib.hid hyr; have Hyx := Lib.hid hyx
    clear hx hh htk hcap2 hcur hvr hb5 hyr hyx hxr
    go_wp2_with fail
    have hU := Upd.setCell (o := n % 7) (show At w5 g cur.toList 22 from by unfold At; simpa using Hh.out) (.int .u32 y)
    have hA3 := hU.at hA3 hne
    have hAg := hU.to
    have HB6 := Lib.hid (HB5.out.trans (hU.below (by have := HB4.out.size; omega)))
    clear hU hc3
    generalize (w5.setCell ⟨g, n % 7, none⟩ (.int .u32 y)) = w6 at *
    have hs6 : Sl w6 (.slice (some ⟨g, 0, none⟩) 7 cap) (p.words.set (n % 7) y) := by
      have hll : (p.words.set (n % 7) y).length = 7 := by rw [List.length_set]; exact hl
      refine .inr ⟨g, 0, cap, by rw [hll], by omega, by have := Hcap2.out; unfold maxLen at this; exact this, by omega, hAg.lt, ?_, ?_⟩
      · intro i hi
        rw [Nat.zero_add, hAg.cell]
        by_cases hik : n % 7 = i
        · subst hik
          rw [List.getElem?_set_self (by simp only [Array.length_toList]; rw [Hcur.out]; omega), List.getElem?_set_self (by omega)]
          rfl
        · rw [List.getElem?_set_ne hik, List.getElem?_set_ne hik]
          have : cur.toList[i]? = (p.words.map uv)[i]? := by
            rw [← Htk.out, List.getElem?_take, if_pos (by omega)]
          rw [this, List.getElem?_map, List.getElem?_eq_getElem (by omega)]
          rfl
      · intro z hz
        rcases List.mem_or_eq_of_mem_set hz with h | h
        · exact Hvr.out.2 z h
        · rw [h]; exact Hyr.out
    have Hs6 := Lib.hid hs6
    have hrd := rd_other Hp.out Hpr.out (by omega) Hx.out Hyr.out Hyx.out
    clear hs6
    refine (read_any _ _ _ Hs6.out).mono ?_
    rintro e w7 ⟨rfl, hb7⟩
    have hA3 := hA3.of_below hb7
    have HB7 := Lib.hid (HB6.out.trans (hb7.mono HB6.out.size))
    have Hs7 := Lib.hid (Hs6.out.below hb7)
    have hc3 := hA3.cell
    have hlt3 := hA3.lt
    clear hb7 hfz
    rcases hrd with hrd | ⟨q, hqo, hqp, hqw, hrd⟩
    · rw [hrd]
      have hz : Pg.zero.ok := by simp [Pg.zero, Pg.ok, u32]
      have hbz := page_binop28 Pg.zero Pg.zero hz hz
      simp only [Pg.val, Pg.zero, decide_true] at hbz ⊢
      clear hrd hz
      go_wp2_with fail
      go_ret
      exact ⟨rfl, HB7.out.trans ((New.alloc _ _).below HB7.out.size)⟩
    · rw [hrd]
      have hbq := page_binop_neq q p hqo Hp.out
      have Hwq := Lib.hid (words_any q hqo)
      have hd : decide (q = p) = false := by simpa using hqp
      rw [hd] at hbq
      simp only [Pg.val] at hbq Hwq ⊢
      simp only [Bool.not_false] at hbq
      have Hqw := Lib.hid hqw
      clear hrd hd hqo hqp hqw
      go_wp2_with fail
      refine (Hwq.out _).mono ?_
      rintro e w8 ⟨⟨v2, rfl, hv2⟩, hb8⟩
      rw [Hqw.out] at hv2
      have hbb := ((New.alloc w7 (.cells #[.int .u32 q.s, .int .u32 q.q, .bool q.g, .int .u32 q.a, .int .u32 q.b, .int .u32 q.c, .int .u32 q.d] 28)).below (Nat.le_refl _)).trans (hb8.mono (by simp))
      have HB8 := Lib.hid (HB7.out.trans (hbb.mono HB7.out.size))
      have Hs8 := Lib.hid (Hs7.out.below hbb)
      clear hbb hb8
      go_wp2_with fail
      refine (ref_words_any _ _ _ _ _ hv2.sl Hs8.out).mono ?_
      rintro e w9 ⟨rfl, k, rfl⟩
      go_wp2_with fail
      go_ret
      exact ⟨ret_bool (by simp), below_drewN HB8.out k⟩

namespace pageOne
set_option maxRecDepth 100000 in
theorem owed : Owed Try.prog 8 Try.f8 := by
  intro H enc W base args ds p hval hA
  rw [Try.params8] at hval hA
  obtain ⟨hl, _⟩ := trodAll_len _ _ _ _ hA
  obtain ⟨v0, v1, v2, rfl⟩ : ∃ v0 v1 v2, args = #[v0, v1, v2] := by
    obtain ⟨l⟩ := args
    match l, hl with
    | [v0, v1, v2], _ => exact ⟨v0, v1, v2, rfl⟩
  obtain ⟨_, _, _, _, h0, r0⟩ := trodAll_head (v := v0) (vs := [v1, v2]) hA
  obtain ⟨_, _, _, _, h1, r1⟩ := trodAll_head (v := v1) (vs := [v2]) r0
  obtain ⟨_, _, _, _, h2, r2⟩ := trodAll_head (v := v2) (vs := []) r1
  clear r2
  have hv0 := hval 0 25 v0 rfl rfl
  have hv1 := hval 1 5 v1 rfl rfl
  have hv2 := hval 2 5 v2 rfl rfl
  clear hval hA
  obtain ⟨n, rfl, hn, hn'⟩ := open_u8 Try.underlying5 hv1
  obtain ⟨m, rfl, hm, hm'⟩ := open_u8 Try.underlying5 hv2
  obtain ⟨cs, rfl, hc⟩ := open_flat (ts := [22, 22, 4, 22, 22, 22, 22]) (ks := [some .u32, some .u32, none, some .u32, some .u32, some .u32, some .u32]) Try.underlying25 rfl (by kernel_rfl) (by kernel_rfl) (by kernel_rfl) hv0
  obtain ⟨pg, rfl, hp⟩ := fit_page hc
  rw [← Pg.val_cells]
  obtain ⟨n, rfl⟩ := Int.eq_ofNat_of_zero_le hn
  obtain ⟨m, rfl⟩ := Int.eq_ofNat_of_zero_le hm
  exact pageOne_walk pg n m hp (by omega) (by omega) W

theorem own : ownKnob Try.prog.godebug = none := by kernel_rfl
theorem laidOut : laidOutB Try.prog = true := by kernel_rfl

set_option maxRecDepth 100000 in
theorem lifted (os : Os) (started : os.Started) (H : Type) (enc : TypeId × Value → H) :
    ReturnsInHanded {} Try.checked os 8 .any (Rows.pageOneSpec.pre6 enc Try.prog Try.f8 Rows.pageOneRow.domain false) (Rows.pageOneSpec.post enc Try.prog Try.f8 false true false false) := by
  refine law_handed (C := Try.checked) (tb := 4) own started (by kernel_rfl) Try.func8
    (ChangeSpec.witness6 (enc := enc) (C := Try.checked) false ⟨#[], #[.agg #[.int .u32 0, .int .u32 0, .bool false, .int .u32 0, .int .u32 0, .int .u32 0, .int .u32 0], .int .u8 0, .int .u8 0], []⟩ 8 (by kernel_rfl) (by kernel_rfl) (by kernel_rfl) (by kernel_rfl))
    rfl Try.underlying4 rfl ?_ laidOut (of_decide_eq_true (by kernel_rfl)) owed
  intro ds hl
  match ds, hl with
  | [a, b, c], _ => exact ⟨rfl, rfl, rfl⟩

theorem over : Rows.pageOneRow.holds Try.pinned (OpenSpec.ofChange Rows.pageOneSpec) :=
  OpenClaim.holds_of_wide 8 Try.f8 rfl rfl rfl rfl rfl rfl rfl ⟨rfl, rfl, rfl, rfl, rfl⟩ rfl rfl rfl rfl rfl (by kernel_rfl) Try.func8 (by kernel_rfl)
    (of_decide_eq_true (by kernel_rfl)) (by unfold Func.isWrapper; first | (rw [if_pos (by decide +kernel)]; kernel_rfl) | (rw [if_neg (by decide +kernel)]; exact ⟨rfl, rfl⟩))
    (fun os started H enc _ => lifted os started H enc)

theorem proved : Rows.PageOneSaid := over
end pageOne
#print axioms pageOne.proved
end Go.Proofs.Ytcgjppdjjhigoaa
