/- Walks of package latest: Find; the reference's. -/
import Derived.Test.YtihlbfbplmehiaaLatI
import Derived.Test.YtihlbfbplmehiaaScanS
namespace Go.Proofs.Ytihlbfbplmehiaa
open Go.RowKit Go.Shelf
set_option maxHeartbeats 4000000

/-- a place, whatever numbers it has -/
structure Pz where
  b : Int
  k : Int
  p : Pg
  deriving DecidableEq
def Pz.cells (x : Pz) : List Value := [.int .i64 x.b, .int .i64 x.k] ++ x.p.cells
def Pz.zero : Pz := ⟨0, 0, Pg.zero⟩
instance : Inhabited Pz := ⟨Pz.zero⟩
def Pl.z (x : Pl) : Pz := ⟨x.b, x.k, x.p⟩
theorem pz_len (x : Pz) : x.cells.length = 9 := rfl
theorem pz_one (x : Pz) : ∀ u ∈ x.cells, u.oneCell' = true := by
  intro u hu
  simp only [Pz.cells, Pg.cells, List.cons_append, List.nil_append, List.mem_cons, List.not_mem_nil, or_false] at hu
  rcases hu with rfl | rfl | rfl | rfl | rfl | rfl | rfl | rfl | rfl <;> rfl
/-- what Find tells -/
def fz (zs : List Pz) (s : Int) : Pz × Bool := match zs.find? (fun x => x.p.s == s) with
  | some x => (x, true)
  | none => (Pz.zero, false)
theorem idx_find (q : Pz → Bool) (d : Pz) : ∀ (zs : List Pz) (i : Nat), (zs.find? q = none ∧ Lib.idxByFrom (fun _ y => q y) d zs i = -1) ∨ ∃ k x, k < zs.length ∧ zs[k]? = some x ∧ zs.find? q = some x ∧ Lib.idxByFrom (fun _ y => q y) d zs i = ((i + k : Nat) : Int)
  | [], i => .inl ⟨rfl, rfl⟩
  | y :: zs, i => by
    cases hq : q y with
    | true => exact .inr ⟨0, y, by simp, rfl, by simp [hq], by simp [Lib.idxByFrom, hq]⟩
    | false =>
      rcases idx_find q d zs (i + 1) with ⟨h1, h2⟩ | ⟨k, x, h1, h2, h3, h4⟩
      · exact .inl ⟨by simp [hq, h1], by simp [Lib.idxByFrom, hq, h2]⟩
      · exact .inr ⟨k + 1, x, by simpa using h1, by simpa using h2, by simp [hq, h3], by simp [Lib.idxByFrom, hq, h4]; omega⟩

set_option maxRecDepth 100000 in
theorem pred_find (s : Int) (g : Nat) (w : World) (h : At w g [.int .u32 s] 23) : PredBelow Try.prog 20 #[.pointer (some ⟨g, 0, none⟩)] (fun x : Pz => .agg x.cells.toArray) (fun x => x.p.s == s) w := by
  intro W x hb
  have hA := h.of_below hb
  have HA := Lib.hid hA
  clear h hA
  show Calls Try.prog 20 #[.agg x.cells.toArray, .pointer (some ⟨g, 0, none⟩)] W _
  go_enter Try.func20, Try.ntmps20
  go_wp2_with (first
    | (refine bx_o (ty := 29) rfl (v := .agg x.cells.toArray) rfl rfl ?_; intro w1 hn1
       have HX1 : Hid (At w1 W.heap.size x.cells 29) := Lib.hid hn1.to
       have c2 : w1.cell? ⟨W.heap.size, 2, none⟩ = some (.int .u32 x.p.s) := HX1.out.cell 2
       have d2 : w1.cell? ⟨g, 0, none⟩ = some (.int .u32 s) := (hn1.at HA.out).cell 0
       have HB1 := Lib.hid (hn1.below (Nat.le_refl _)); clear hn1)
    | fail)
  go_ret
  exact ⟨rfl, hb.trans (HB1.out.mono hb.size)⟩

theorem zero_pz (w : World) : (zeroValue 29).run Try.prog w = .ok (.agg Pz.zero.cells.toArray) w := zero_place w

set_option maxRecDepth 100000 in
theorem find_any (zs : List Pz) (s : Int) (v : Value) (w : World) (he : Es 9 w v (zs.map Pz.cells)) :
    Calls Try.prog 9 #[v, .int .u32 s] w fun e w' => e = .returned (.tuple #[.agg (fz zs s).1.cells.toArray, .bool (fz zs s).2]) ∧ Below w.heap.size w w' := by
  have Hi9 : Hid ((Try.prog.info? 29).map (·.size) = some 9) := by unfold Hid; kernel_rfl
  have HE := Lib.hid he
  obtain ⟨a, cp, rfl⟩ := he.shape
  rw [List.length_map] at HE ⊢
  clear he
  go_enter Try.func9, Try.ntmps9
  go_wp2_with (first
    | (refine al_new rfl rfl (zero_pz _) ?_; intro w2 hn2
       have n1 := New.alloc w (.cells #[.int .u32 s] 23)
       have HS2 : Hid (At w2 w.heap.size [.int .u32 s] 23) := Lib.hid (hn2.at n1.to)
       have HR2 : Hid (At w2 (w.heap.size + 1) Pz.zero.cells 29) := Lib.hid (by have h := At.of_new hn2; rw [World.size_alloc] at h; exact h)
       have HB2 : Hid (Below w.heap.size w w2) := Lib.hid ((n1.below (Nat.le_refl _)).trans (hn2.below (by rw [World.size_alloc]; omega)))
       clear n1 hn2)
    | fail)
  have hidx := idx_find (fun x => x.p.s == s) default zs 0
  obtain ⟨r, hr⟩ : ∃ r, Lib.idxByFrom (fun _ y : Pz => y.p.s == s) default zs 0 = r := ⟨_, rfl⟩
  rw [hr] at hidx
  have hcall : Calls Try.prog 19 #[.slice a zs.length cp, .func (.func 20) #[] #[.pointer (some ⟨w.heap.size, 0, none⟩)]] w2 fun e w' => e = .returned (.int .i64 r) ∧ Below w2.heap.size w2 w' := by
    by_cases h0 : zs.length = 0
    · have hz : zs = [] := List.length_eq_zero_iff.1 h0
      subst hz
      have hrr : r = -1 := by rw [← hr]; rfl
      subst hrr
      clear hidx hr HE
      show Calls _ _ #[.slice a 0 cp, _] _ _
      go_enter Try.func19, Try.ntmps19
      go_wp2_with fail
      refine wp_loop_rounds 1 ?_
      rw [rounds_succ]
      go_wp2_with fail
      go_ret
      exact ⟨rfl, Below.refl _ _⟩
    · obtain ⟨x0, hx0⟩ : ∃ x, zs[0]? = some x := ⟨_, List.getElem?_eq_getElem (by omega)⟩
      obtain ⟨b, off, cap, hv, hbl, _⟩ := HE.out.elem (i := 0) (x := x0.cells) (by rw [List.getElem?_map, hx0]; rfl)
      rw [List.length_map] at hv
      simp only [Value.slice.injEq] at hv
      obtain ⟨rfl, _, rfl⟩ := hv
      have hbig : zs.length ≤ 9223372036854775807 := by
        rcases HE.out with ⟨hh, _⟩ | ⟨b', off', cap', hh, h2, h3, _⟩
        · cases hh
        · rw [List.length_map] at h2; omega
      have eg : ∀ args w, (callFunc 20 args).run Try.prog w = .ok (.enter 20 args) w := enters_of Try.func20 (by kernel_rfl) rfl
      have hcon := AnyQ.slices_IndexFunc (α := Pz) Try.indexP 9 Try.isAgg29 Try.sizeOf29 Pz.cells (fun _ => rfl) (fun x => x.p.s == s) 20 #[.pointer (some ⟨w.heap.size, 0, none⟩)] eg b off zs.length cp zs w2 (pred_find s _ w2 HS2.out) (Nat.le_refl _) hbig (Nat.lt_of_lt_of_le hbl HB2.out.size)
        (fun j hj i u hu => by
          have hzj : zs[j]? = some zs[j]! := by rw [getElem!_pos zs j hj]; exact List.getElem?_eq_getElem hj
          obtain ⟨b', off', cap', hv', _, hrg⟩ := HE.out.elem (i := j) (x := (zs[j]!).cells) (by rw [List.getElem?_map, hzj]; rfl)
          simp only [Value.slice.injEq, Option.some.injEq, Addr.mk.injEq] at hv'
          obtain ⟨⟨rfl, rfl, _⟩, _⟩ := hv'
          exact hrg w2 HB2.out i u hu)
      change Calls Try.prog 19 _ _ _ at hcon
      rw [List.take_length] at hcon
      have hrr : Lib.idxBy (fun _ y : Pz => y.p.s == s) zs default = r := hr
      rw [hrr] at hcon
      exact hcon
  have HCall := Lib.hid hcall
  clear hcall hr
  rcases hidx with ⟨hf, rfl⟩ | ⟨k, x, hk, hx, hf, rfl⟩
  · have Hfz : Hid (fz zs s = (Pz.zero, false)) := Lib.hid (by unfold fz; rw [hf])
    clear hf
    go_wp2_with (first
      | (go_at_call 19; refine HCall.out.mono ?_; rintro e w3 ⟨rfl, hb3⟩; have HB3 := Lib.hid (HB2.out.trans (hb3.mono HB2.out.size)); have HR3 := Lib.hid (HR2.out.of_below hb3); clear hb3)
      | (refine bd_run rfl rfl rfl (cells := Pz.zero.cells.toArray) (by kernel_rfl) ?_)
      | (refine st_agg rfl rfl rfl rfl HR3.out 9 Hi9.out (pz_len _) (Nat.le_refl 9) (pz_one _) ?_; intro w4 hu4; have HU4 : Hid (At w4 (w.heap.size + 1) Pz.zero.cells 29) := Lib.hid hu4.to; have HB4 := Lib.hid (HB3.out.trans (hu4.below (Nat.le_succ _))); clear hu4)
      | fail)
    refine bodyPost_ret (res_cell_tmp (p := 4) (q := 5) (ty := 29) rfl _ rfl HU4.out Try.underlying29 rfl 9 Hi9.out (pz_len _)) rfl ⟨?_, HB4.out⟩
    rw [Hfz.out]; rfl
  · have Hfz : Hid (fz zs s = (x, true)) := Lib.hid (by unfold fz; rw [hf])
    obtain ⟨b, off, cap, hv, hbl, hrg⟩ := HE.out.elem (i := k) (x := x.cells) (by rw [List.getElem?_map, hx]; rfl)
    rw [List.length_map] at hv
    simp only [Value.slice.injEq] at hv
    obtain ⟨rfl, _, rfl⟩ := hv
    have Hrg := Lib.hid hrg
    have hk1 : (k : Int) < (zs.length : Int) := by omega
    have hk2 : ((0 + k : Nat) : Int) = (k : Int) := by omega
    rw [hk2] at HCall
    clear hf hx hk2 hrg
    go_wp2_with (first
      | (go_at_call 19; refine HCall.out.mono ?_; rintro e w3 ⟨rfl, hb3⟩; have HB3 := Lib.hid (HB2.out.trans (hb3.mono HB2.out.size)); have HR3 := Lib.hid (HR2.out.of_below hb3); have Hrg3 := Lib.hid (Hrg.out _ HB3.out); clear hb3)
      | (refine ld_rng rfl rfl rfl Hrg3.out Try.underlying29 rfl Hi9.out ?_)
      | (refine st_agg rfl rfl rfl rfl HR3.out 9 Hi9.out (pz_len _) (Nat.le_refl 9) (pz_one _) ?_; intro w4 hu4; have HU4 : Hid (At w4 (w.heap.size + 1) x.cells 29) := Lib.hid hu4.to; have HB4 := Lib.hid (HB3.out.trans (hu4.below (Nat.le_succ _))); clear hu4)
      | fail)
    refine bodyPost_ret (res_cell_tmp (p := 4) (q := 5) (ty := 29) rfl _ rfl HU4.out Try.underlying29 rfl 9 Hi9.out (pz_len _)) rfl ⟨?_, HB4.out⟩
    rw [Hfz.out]; rfl
end Go.Proofs.Ytihlbfbplmehiaa
