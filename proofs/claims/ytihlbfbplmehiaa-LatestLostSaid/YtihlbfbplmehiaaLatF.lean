/- Walks of package latest: compare; the sort. -/
import Derived.Test.YtihlbfbplmehiaaLatE
import Derived.Test.YtihlbfbplmehiaaLays
import Derived.Test.YtihlbfbplmehiaaTail
namespace Go.Proofs.Ytihlbfbplmehiaa
open Go.RowKit Go.Shelf
set_option maxHeartbeats 4000000

instance : Inhabited Pl := ⟨⟨0, 0, Pg.zero⟩⟩
/-- the first number that is not 0 -/
def orI : List Int → Int
  | [] => 0
  | x :: l => if x = 0 then orI l else x
/-- how two places stand -/
def cfP (x y : Pl) : Int := orI [cmpI x.p.s y.p.s, cmpI y.p.q x.p.q, cmpI x.b y.b, cmpI x.k y.k]

set_option maxRecDepth 100000 in
theorem or_any {g : Nat} {l : List Int} (hl : l.length ≤ 1000) (w : World) (h : At w g (l.map (.int .i64)) 3) (cap : Nat) (hc : l.length ≤ cap) :
    Calls Try.prog 35 #[.slice (some ⟨g, 0, none⟩) l.length cap] w fun e w' => e = .returned (.int .i64 (orI l)) ∧ w = w' := by
  have H := Lib.hid h; clear h
  go_enter Try.func35, Try.ntmps35
  go_wp2_with fail
  go_loopw [5, 8] (fun _ i wr => ∃ k : Nat, k ≤ l.length ∧ i = .int .i64 k ∧ wr = w ∧ orI l = orI (l.drop k)) (fun _ i _ => l.length - (intOf i).toNat)
  case atStart => exact ⟨0, by omega, rfl, rfl, by simp⟩
  case round =>
    obtain ⟨k, hk, rfl, rfl, ho⟩ := hrel
    have Ho := Lib.hid ho; clear ho
    by_cases hlt : k < l.length
    · obtain ⟨x, hx⟩ : ∃ x, l[k]? = some x := ⟨_, List.getElem?_eq_getElem hlt⟩
      have hc1 : wr.cell? ⟨g, k, none⟩ = some (.int .i64 x) := by rw [H.out.cell, List.getElem?_map, hx]; rfl
      have hd : l.drop k = x :: l.drop (k + 1) := by
        rw [List.drop_eq_getElem_cons hlt]
        congr 1
        rw [List.getElem?_eq_getElem hlt] at hx
        exact Option.some.inj hx
      have hlt' : (k : Int) < (l.length : Int) := by omega
      rw [hd] at Ho
      clear hd hx
      by_cases h0 : x = 0
      · have hb : (x != 0) = false := by rw [bne_eq_false_iff_eq]; exact h0
        have hn : orI (x :: l.drop (k + 1)) = orI (l.drop (k + 1)) := by show (if x = 0 then _ else _) = _; rw [if_pos h0]
        rw [hn] at Ho
        clear hn h0
        go_wp2_with fail
        exact ⟨⟨k + 1, by omega, by go_num, by first | rfl | trivial, Ho.out⟩, by simp only [intOf]; omega⟩
      · have hb : (x != 0) = true := by rw [bne_iff_ne]; exact h0
        have hn : orI (x :: l.drop (k + 1)) = x := by show (if x = 0 then _ else _) = _; rw [if_neg h0]
        rw [hn] at Ho
        clear hn h0
        go_wp2_with fail
        go_ret
        exact ⟨by rw [Ho.out]; rfl, rfl⟩
    · obtain rfl : k = l.length := by omega
      have Hz : Hid (orI l = 0) := Lib.hid (by rw [Ho.out, List.drop_length]; rfl)
      go_wp2_with fail
      go_ret
      exact ⟨by rw [Hz.out]; rfl, rfl⟩

set_option maxRecDepth 100000 in
theorem compare_any (x y : Pl) (W : World) : Calls Try.prog 23 #[.agg x.cells.toArray, .agg y.cells.toArray] W fun e w' => e = .returned (.int .i64 (cfP x y)) ∧ ∃ q os', w' = Sort.grow (W.drewN q) os' := by
  go_enter Try.func23, Try.ntmps23
  go_wp2_with fail
  obtain ⟨W2, hW2⟩ : ∃ W2, (W.alloc (.cells x.cells.toArray 29)).alloc (.cells y.cells.toArray 29) = W2 := ⟨_, rfl⟩
  rw [hW2]
  have hg : W2 = Sort.grow W #[.cells x.cells.toArray 29, .cells y.cells.toArray 29] := by
    rw [← hW2, Sort.alloc_eq_grow, Sort.alloc_eq_grow, Sort.grow_grow]; rfl
  have n1 := New.alloc W (.cells x.cells.toArray 29)
  have n2 := New.alloc (W.alloc (.cells x.cells.toArray 29)) (.cells y.cells.toArray 29)
  rw [hW2] at n2
  have s1 : (W.alloc (.cells x.cells.toArray 29)).heap.size = W.heap.size + 1 := World.size_alloc _ _
  have hX : At W2 W.heap.size x.cells 29 := n2.at n1.to
  have hY : At W2 (W.heap.size + 1) y.cells 29 := by have h := At.of_new n2; rw [s1] at h; exact h
  obtain ⟨gx, hgx⟩ : ∃ g, W.heap.size = g := ⟨_, rfl⟩
  rw [hgx] at hX hY ⊢
  obtain ⟨gy, hgy⟩ : ∃ g, gx + 1 = g := ⟨_, rfl⟩
  rw [hgy] at hY ⊢
  have c0 : W2.cell? ⟨gx, 0, none⟩ = some (.int .i64 x.b) := hX.cell 0
  have d0 : W2.cell? ⟨gy, 0, none⟩ = some (.int .i64 y.b) := hY.cell 0
  have c1 : W2.cell? ⟨gx, 1, none⟩ = some (.int .i64 x.k) := hX.cell 1
  have d1 : W2.cell? ⟨gy, 1, none⟩ = some (.int .i64 y.k) := hY.cell 1
  have c2 : W2.cell? ⟨gx, 2, none⟩ = some (.int .u32 x.p.s) := hX.cell 2
  have d2 : W2.cell? ⟨gy, 2, none⟩ = some (.int .u32 y.p.s) := hY.cell 2
  have c3 : W2.cell? ⟨gx, 3, none⟩ = some (.int .u32 x.p.q) := hX.cell 3
  have d3 : W2.cell? ⟨gy, 3, none⟩ = some (.int .u32 y.p.q) := hY.cell 3
  have HG := Lib.hid hg
  have Hu : Hid (∀ (a b : Int) (k : Nat), Calls Try.prog 36 #[.int .u32 a, .int .u32 b] (W2.drewN k) fun e w' => e = .returned (.int .i64 (cmpI a b)) ∧ ∃ m, w' = (W2.drewN k).drewN m) := Lib.hid fun a b k => (compare_uint32 a b _).mono (by rintro e w' ⟨rfl, rfl⟩; exact ⟨rfl, 0, rfl⟩)
  have Hi : Hid (∀ (a b : Int) (k : Nat), Calls Try.prog 37 #[.int .i64 a, .int .i64 b] (W2.drewN k) fun e w' => e = .returned (.int .i64 (cmpI a b)) ∧ ∃ m, w' = (W2.drewN k).drewN m) := Lib.hid fun a b k => (compare_int a b _).mono (by rintro e w' ⟨rfl, rfl⟩; exact ⟨rfl, 0, rfl⟩)
  clear hg hW2 n1 n2 s1 hX hY hgx hgy
  refine wp_region_tail_drew 24 (by kernel_rfl) (by kernel_rfl) ?_
  simp only [List.take_succ_cons, List.take_zero, List.drop_succ_cons, List.drop_zero]
  iterate 6 (first | ((with_reducible refine wpQuiet_step (fun K' hK' => ?_)); go_simp; (with_reducible refine hK' _ ?_); clear hK' K') | ((with_reducible refine wpQuiet_skip ?_ ?_); focus rfl))
  (with_reducible refine wpQuiet_step (fun K' hK' => ?_))
  go_simp
  apply Exists.intro
  (with_reducible refine ⟨fun nw => ?_, hK' _ ?_⟩)
  · (go_at_call 36; exact Calls.quiet_of (Hu.out _ _ _))
  clear hK' K'
  iterate 6 (first | ((with_reducible refine wpQuiet_step (fun K' hK' => ?_)); go_simp; (with_reducible refine hK' _ ?_); clear hK' K') | ((with_reducible refine wpQuiet_skip ?_ ?_); focus rfl))
  (with_reducible refine wpQuiet_step (fun K' hK' => ?_))
  go_simp
  apply Exists.intro
  (with_reducible refine ⟨fun nw => ?_, hK' _ ?_⟩)
  · (go_at_call 36; exact Calls.quiet_of (Hu.out _ _ _))
  clear hK' K'
  iterate 4 (first | ((with_reducible refine wpQuiet_step (fun K' hK' => ?_)); go_simp; (with_reducible refine hK' _ ?_); clear hK' K') | ((with_reducible refine wpQuiet_skip ?_ ?_); focus rfl))
  (with_reducible refine wpQuiet_step (fun K' hK' => ?_))
  go_simp
  apply Exists.intro
  (with_reducible refine ⟨fun nw => ?_, hK' _ ?_⟩)
  · (go_at_call 37; exact Calls.quiet_of (Hi.out _ _ _))
  clear hK' K'
  iterate 4 (first | ((with_reducible refine wpQuiet_step (fun K' hK' => ?_)); go_simp; (with_reducible refine hK' _ ?_); clear hK' K') | ((with_reducible refine wpQuiet_skip ?_ ?_); focus rfl))
  (with_reducible refine wpQuiet_step (fun K' hK' => ?_))
  go_simp
  apply Exists.intro
  (with_reducible refine ⟨fun nw => ?_, hK' _ ?_⟩)
  · (go_at_call 37; exact Calls.quiet_of (Hi.out _ _ _))
  clear hK' K'
  refine wpQuiet_nil ?_
  rintro w' ⟨nq, rfl⟩
  clear c0 d0 c1 d1 c2 d2 c3 d3
  obtain ⟨r1, h1⟩ : ∃ r, cmpI x.p.s y.p.s = r := ⟨_, rfl⟩
  obtain ⟨r2, h2⟩ : ∃ r, cmpI y.p.q x.p.q = r := ⟨_, rfl⟩
  obtain ⟨r3, h3⟩ : ∃ r, cmpI (x.b : Int) y.b = r := ⟨_, rfl⟩
  obtain ⟨r4, h4⟩ : ∃ r, cmpI (x.k : Int) y.k = r := ⟨_, rfl⟩
  rw [h1, h2, h3, h4]
  have hcf : cfP x y = orI [r1, r2, r3, r4] := by unfold cfP; rw [h1, h2, h3, h4]
  have HF := Lib.hid hcf
  clear hcf h1 h2 h3 h4
  go_wp2_with fail
  refine (or_any (l := [r1, r2, r3, r4]) (by simp) _ (New.alloc (W2.drewN nq) (.cells #[.int .i64 r1, .int .i64 r2, .int .i64 r3, .int .i64 r4] 3)).to 4 (by simp)).mono ?_
  rintro e w3 ⟨rfl, rfl⟩
  go_wp2_with fail
  go_ret
  refine ⟨by rw [HF.out]; rfl, nq, #[.cells x.cells.toArray 29, .cells y.cells.toArray 29, .cells #[.int .i64 r1, .int .i64 r2, .int .i64 r3, .int .i64 r4] 3], ?_⟩
  rw [Sort.alloc_eq_grow, HG.out]
  show Sort.grow (Sort.grow (W.drewN nq) _) _ = _
  rw [Sort.grow_grow]; rfl
end Go.Proofs.Ytihlbfbplmehiaa
