/- Walks of package page, and of its reference: counts of heads; the library's Concat. -/
import Derived.Test.YtihlbfbplmehiaaPageB
import Derived.Lib.AppendZerosOnto
import Derived.Lib.SliceRun
import Derived.Laws.AppendOwnNone
namespace Go.Proofs.Ytihlbfbplmehiaa
open Go.RowKit
set_option maxHeartbeats 400000

theorem list4 {l : List Int} (h : l.length = 4) : ∃ a b c d, l = [a, b, c, d] := by
  match l, h with
  | [a, b, c, d], _ => exact ⟨a, b, c, d, rfl⟩
theorem list7 {l : List Int} (h : l.length = 7) : ∃ a b c d e f g, l = [a, b, c, d, e, f, g] := by
  match l, h with
  | [a, b, c, d, e, f, g], _ => exact ⟨a, b, c, d, e, f, g, rfl⟩

theorem Sl.shape {w : World} {u : Value} {l : List Int} (hu : Sl w u l) : ∃ a c, u = .slice a l.length c := by
  rcases hu with ⟨rfl, rfl⟩ | ⟨b, off, cap, rfl, _⟩
  · exact ⟨_, _, rfl⟩
  · exact ⟨_, _, rfl⟩

theorem Sl.cells {w : World} {u : Value} {l : List Int} (hu : Sl w u l) (hn : l ≠ []) : ∃ b off cap, u = .slice (some ⟨b, off, none⟩) l.length cap ∧ l.length ≤ cap ∧ cap ≤ 9223372036854775807 ∧ b < w.heap.size ∧
    ∀ w', Below w.heap.size w w' → ∀ i x, l[i]? = some x → w'.cell? ⟨b, off + i, none⟩ = some (.int .u32 x) := by
  rcases hu with ⟨rfl, rfl⟩ | ⟨b, off, cap, rfl, h1, h2, h3, h4, h5, _⟩
  · exact absurd rfl hn
  · refine ⟨b, off, cap, rfl, h1, h2, h4, fun w' hb i x hx => ?_⟩
    rw [hb.cell (p := ⟨b, off + i, none⟩) h4, h5 i (by rw [List.getElem?_eq_some_iff] at hx; exact hx.1), hx]
    rfl

def count (l : List Int) : Int × Int := if l.length ≠ 4 then (0, 2) else if kind l (header (l[1]?.getD 0)) 4 ≠ 1 then (0, kind l (header (l[1]?.getD 0)) 4) else (l[1]?.getD 0, 1)

theorem count_any (u : Value) (l : List Int) (w : World) (hu : Sl w u l) : Calls Try.prog 39 #[u] w fun e w' => e = .returned (.tuple #[.int .u32 (count l).1, .int .i64 (count l).2]) ∧ Below w.heap.size w w' := by
  by_cases hl : l.length = 4
  case neg =>
    obtain ⟨a, c, rfl⟩ := hu.shape
    have hb : ((l.length : Int) != 4) = true := by simp; omega
    have hc : count l = (0, 2) := by unfold count; rw [if_pos hl]
    rw [hc]; clear hc hl
    go_enter Try.func39, Try.ntmps39
    go_wp2
    go_ret2
    exact ⟨rfl, Below.refl _ _⟩
  case pos =>
    obtain ⟨x0, x1, x2, x3, rfl⟩ := list4 hl
    have hr := hu.range x1 (by simp)
    obtain ⟨b, off, cap, rfl, hcap, hcap', hbw, hcell⟩ := hu.cells (by simp)
    have hx0 := hcell w (Below.refl _ _) 1 x1 rfl
    have Hc := Lib.hid hcell; clear hcell
    simp only [List.length_cons, List.length_nil, Nat.zero_add, Nat.reduceAdd] at hu hcap ⊢
    generalize hk : kind [x0, x1, x2, x3] (header x1) 4 = k
    have Hk := Lib.hid hk; clear hk hl
    by_cases hk1 : k = 1
    · have hb : (k != 1) = false := by simpa using hk1
      have Hk1 := Lib.hid hk1; clear hk1
      go_enter Try.func39, Try.ntmps39
      go_wp2_with fail
      refine (header_any _ hr _).mono ?_
      rintro e w1 ⟨⟨v, rfl, hv⟩, hb1⟩
      have hx1 := Hc.out w1 hb1 1 x1 rfl
      go_wp2_with fail
      refine (kind_any _ _ _ _ _ _ (hu.below hb1) hv.sl).mono ?_
      rintro e w2 ⟨rfl, n, rfl⟩
      rw [Hk.out]
      go_wp2
      go_ret2
      refine ⟨?_, hb1.trans (below_drewN (Below.refl _ _) n)⟩
      simp [count, Hk.out, Hk1.out]
    · have hb : (k != 1) = true := by simpa using hk1
      have Hk1 := Lib.hid hk1; clear hk1
      go_enter Try.func39, Try.ntmps39
      go_wp2_with fail
      refine (header_any _ hr _).mono ?_
      rintro e w1 ⟨⟨v, rfl, hv⟩, hb1⟩
      have hx1 := Hc.out w1 hb1 1 x1 rfl
      go_wp2_with fail
      refine (kind_any _ _ _ _ _ _ (hu.below hb1) hv.sl).mono ?_
      rintro e w2 ⟨rfl, n, rfl⟩
      rw [Hk.out]
      go_wp2
      go_ret2
      refine ⟨?_, hb1.trans (below_drewN (Below.refl _ _) n)⟩
      simp [count, Hk.out, Hk1.out]

theorem info_u32 : (Try.prog.info? 23).map (fun i => (i.zero, i.size, i.bytes)) = some (some (.int .u32 0), 1, 4) := by kernel_rfl

/-- slices.Grow(nil, n) -/
theorem grow_any (n : Nat) (hn : n ≤ 1000000) (w : World) : Calls Try.prog 73 #[.slice none 0 0, .int .i64 n] w fun e w' => (∃ v, e = .returned v ∧ w'.ownsRow w.heap.size 23 1 v 0 []) ∧ Below w.heap.size w w' := by
  by_cases h0 : n = 0
  · subst h0
    go_enter Try.func73, Try.ntmps73
    go_wp2
    go_ret
    exact ⟨⟨_, rfl, World.ownsRow_nil ..⟩, Below.refl _ _⟩
  · obtain ⟨i0, hi, hz, hs, hb⟩ := info_parts info_u32
    have hrz : ∀ ty, (Builtin.append_ #[62, 3] ty #[.slice none 0 0, .int .i64 n]).run Try.prog w =
        .ok (.slice (some ⟨w.heap.size, 0, none⟩) n (grownCap w n 0 23)) (w.drew.alloc (.cells (Builtin.zeroCells (Value.int .u32 0).cells n ++ Builtin.zeroCells (Value.int .u32 0).cells (grownCap w n 0 23 - n)) 23)) := fun ty => by
      have h := Lib.run_append_grow_zeros w 62 3 ty 23 i0 _ .i64 .i64 Try.underlying62 Try.underlying3 hi hz none 0 0 [] (run_firstCells_none w.drew i0.size 0 0 0) n (by omega) (by omega) (by omega) (by omega)
        (by rw [hb]; omega) (by rw [Nat.zero_add, hb]; exact Nat.le_trans (growslice_fits (need := n) (old := 0) (bytes := 4) (by omega) (by omega)) (Nat.le_refl _))
      simpa using h
    have hge : n ≤ grownCap w n 0 23 := grownCap_ge w _ _ _
    have hle : grownCap w n 0 23 ≤ maxLen := grownCap_le_maxLen w n 0 23 (by unfold maxLen; omega)
    generalize grownCap w n 0 23 = G at *
    have Hle := Lib.hid hle; clear hle
    have hG : G ≤ 9223372036854775807 := by have := Hle.out; unfold maxLen at this; omega
    have h1 : 0 < n := by omega
    clear hi hz hs hb
    go_enter Try.func73, Try.ntmps73
    go_wp2_with (at_builtin; refine Lib.wpList_append_run _ rfl _ _ _ _ rfl _ _ rfl rfl _ _ (hrz _) ?_)
    go_ret
    refine ⟨⟨_, rfl, ⟨rfl, .inr ⟨w.heap.size, G, _, rfl, Nat.le_refl _, heap_alloc_new w.drew _, by omega, Hle.out, ?_, by simp⟩⟩⟩, ((Below.refl _ _).drew).alloc (Nat.le_refl _) _⟩
    simp [size_zeroCells]; omega

/-- the words of all lists up to k -/
def cat (ss : List (Value × List Int)) (k : Nat) : List Int := (ss.take k).flatMap (·.2)
theorem cat_succ {ss : List (Value × List Int)} {k : Nat} {x : Value × List Int} (h : ss[k]? = some x) : cat ss (k + 1) = cat ss k ++ x.2 := by
  simp [cat, List.take_add_one, h]
theorem cat_len {ss : List (Value × List Int)} {k : Nat} {x : Value × List Int} (h : ss[k]? = some x) : (cat ss (k + 1)).length = (cat ss k).length + x.2.length := by rw [cat_succ h]; simp
theorem cat_le (ss : List (Value × List Int)) (k : Nat) : (cat ss k).length ≤ (cat ss ss.length).length := by
  have : cat ss ss.length = cat ss k ++ (ss.drop k).flatMap (·.2) := by simp [cat, ← List.flatMap_append]
  rw [this]; simp

set_option maxRecDepth 100000 in
theorem concat_any (b cap : Nat) (ss : List (Value × List Int)) (w : World) (hn : ss.length ≤ 1000) (hbw : b < w.heap.size) (hcell : ∀ k x, ss[k]? = some x → w.cell? ⟨b, k, none⟩ = some x.1) (hs : ∀ x ∈ ss, Sl w x.1 x.2) (hl : (cat ss ss.length).length ≤ 1000000) :
    Calls Try.prog 66 #[.slice (some ⟨b, 0, none⟩) ss.length cap] w fun e w' => (∃ v, e = .returned v ∧ Ow w.heap.size 23 w' v (cat ss ss.length)) ∧ Below w.heap.size w w' := by
  have Hs := Lib.hid hs; clear hs
  have Hc := Lib.hid hcell; clear hcell
  go_enter Try.func66, Try.ntmps66
  go_wp2_with fail
  go_loop [3, 5, 11] (fun s _ i => ∃ k : Nat, k ≤ ss.length ∧ i = .int .i64 k ∧ s = .int .i64 (cat ss k).length) (fun _ _ i => ss.length - (intOf i).toNat)
  case atStart => exact ⟨0, Nat.zero_le _, rfl, rfl⟩
  case round =>
    obtain ⟨k, hk, rfl, rfl⟩ := hrel
    have hle := cat_le ss k
    by_cases hlt : k < ss.length
    · obtain ⟨x, hx⟩ : ∃ x, ss[k]? = some x := ⟨_, List.getElem?_eq_getElem hlt⟩
      have hc1 := Hc.out k x hx
      have hlen := cat_len hx
      have hle1 := cat_le ss (k + 1)
      obtain ⟨a, c, hsh⟩ := (Hs.out x (List.mem_of_getElem? hx)).shape
      rw [hsh] at hc1
      have Hl := Lib.hid hlen
      have hlx : (cat ss k).length + x.2.length ≤ 1000000 := by omega
      clear hlen hsh hx hle1
      go_wp2_with fail
      go_round
      case rel => exact ⟨k + 1, by omega, by go_num, by rw [Hl.out]; go_num⟩
      case measure => simp only [intOf]; omega
    · obtain rfl : k = ss.length := by omega
      clear hlt hk
      go_wp2_with fail
      refine (grow_any _ (by omega) _).mono ?_
      rintro e w1 ⟨⟨v, rfl, hv⟩, hb1⟩
      have Hb1 := Lib.hid hb1; clear hb1
      go_wp2_with fail
      go_loopw [6, 8, 27] (fun v _ i wr => ∃ k : Nat, k ≤ ss.length ∧ i = .int .i64 k ∧ wr.ownsRow w.heap.size 23 1 v (cat ss k).length ((cat ss k).map uv) ∧ Below w.heap.size w wr) (fun _ _ i _ => ss.length - (intOf i).toNat)
      case atStart => exact ⟨0, Nat.zero_le _, rfl, hv, Hb1.out⟩
      case round =>
        obtain ⟨k, hk, rfl, hv, hbr⟩ := hrel
        have Hbr := Lib.hid hbr; clear hbr
        have Hv := Lib.hid hv; clear hv
        by_cases hlt : k < ss.length
        · obtain ⟨x, hx⟩ : ∃ x, ss[k]? = some x := ⟨_, List.getElem?_eq_getElem hlt⟩
          have hlen := cat_len hx
          have hle1 := cat_le ss (k + 1)
          have hcs := cat_succ hx
          have Hcs := Lib.hid hcs
          have Hlen := Lib.hid hlen
          have hlx : (cat ss k).length + x.2.length ≤ 1000000 := by omega
          have hc1 := (Hbr.out.cell (p := ⟨b, k, none⟩) hbw).trans (Hc.out k x hx)
          have hsx := (Hs.out x (List.mem_of_getElem? hx)).below Hbr.out
          have hbs := Hbr.out.size
          clear hlen hcs hx hle1
          obtain ⟨i0, hi, hz0, hz1, hz2⟩ := info_parts info_u32
          rcases hsx with ⟨hx1, hx2⟩ | ⟨b', off', cap', hx1, h1, h2, h3, h4, h5, h6⟩
          · rw [hx1] at hc1
            have Hx2 := Lib.hid hx2; clear hx1 hx2
            go_wp2_with (at_builtin; refine wpList_append_own_none rfl _ _ 62 rfl _ _ _ _ Try.underlying62 hi _ _ _ rfl Hv.out rfl ?_)
            go_roundw
            case rel => exact ⟨k + 1, by omega, by go_num, by rw [Hcs.out, Hx2.out, List.append_nil]; exact Hv.out, Hbr.out⟩
            case measure => simp only [intOf]; omega
          · rw [hx1] at hc1
            have H5 := Lib.hid h5; clear hx1 h5
            have Hz := Lib.hid (And.intro hi (And.intro hz0 (And.intro hz1 hz2))); clear hi hz0 hz1 hz2
            have Hn1 : Hid (∀ j u, (x.2.map uv)[j]? = some u → wr.cell? (Addr.add ⟨b', off', none⟩ j) = some u) := by
              intro j u hj
              simp only [List.getElem?_map, Option.map_eq_some_iff] at hj
              obtain ⟨y, hy, rfl⟩ := hj
              have := H5.out j (by rw [List.getElem?_eq_some_iff] at hy; exact hy.1)
              rw [hy, Option.getD_some] at this
              rw [addr_add]; exact this
            have Hn2 : Hid (∀ u ∈ x.2.map uv, u.oneCell' = true) := by
              intro u hu
              simp only [List.mem_map] at hu
              obtain ⟨y, _, rfl⟩ := hu
              rfl
            have Hm1 : Hid ((cat ss k).length + x.2.length ≤ maxLen) := by unfold Hid maxLen; omega
            have Hm2 : Hid (((cat ss k).length + x.2.length) * 4 ≤ 140737488355328) := by unfold Hid; omega
            have Hm3 : Hid (w.heap.size ≤ wr.heap.size) := hbs
            go_wp2_with (at_builtin; refine wpList_append_own _ rfl _ _ 62 rfl w.heap.size 23 i0 (.int .u32 0) 1 4 Try.underlying62 Hz.out.1 Hz.out.2.1 Hz.out.2.2.1 Hz.out.2.2.2 rfl (by decide) _ _ _ rfl Hv.out ⟨b', off', none⟩ x.2.length cap' (x.2.map uv) rfl (by simp) Hn1.out Hn2.out Hm1.out Hm2.out Hm3.out ?_; intro v' w2 hown' hgrow _)
            have Hown := Lib.hid hown'
            have Hg := Lib.hid hgrow
            clear hown' hgrow
            go_wp2_with fail
            go_roundw
            case rel =>
              refine ⟨k + 1, by omega, by go_num, ?_, Hbr.out.grown Hg.out hbs ?_⟩
              · rw [Hcs.out, List.length_append, List.map_append]; exact Hown.out
              · exact own_base Hv.out
            case measure => simp only [intOf]; omega
        · obtain rfl : k = ss.length := by omega
          clear hlt hk
          go_wp2_with fail
          go_ret
          refine ⟨⟨_, rfl, Hv.out, by omega, ?_⟩, Hbr.out⟩
          intro y hy
          simp only [cat, List.mem_flatMap, List.take_length] at hy
          obtain ⟨x, hx, hy⟩ := hy
          exact (Hs.out x hx).range y hy
end Go.Proofs.Ytihlbfbplmehiaa
