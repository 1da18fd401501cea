/- Walks of the reference of scan: Same. -/
import Derived.Test.YtcgjppdjjhigoaaScanK
import Derived.Test.YtcgjppdjjhigoaaQuiets
namespace Go.Proofs.Ytcgjppdjjhigoaa
open Go.RowKit Go.Shelf
set_option maxHeartbeats 4000000

/-- a block is loaded -/
theorem bk_load {P : Program} {w : World} {b o : Nat} {t : TypeId} {x : Bk} {d : TypeDesc} (hx : x.ok) (hr : w.rangeAt b o x.cells) (hu : P.underlying t = some d) (hd : d.isRow = true) (hi : (P.info? t).map (·.size) = some 66) (n : Nat) :
    (loadVar t ⟨b, o, none⟩).run P (w.drewN n) = .ok (.agg x.cells.toArray) (w.drewN n) :=
  run_loadVar_mid (w.drewN n) b o t x.cells d (fun j v hv => hr j v hv) hu hd (by rw [hi, Bk.cells_length hx])

theorem bks_same {xs bs : List Bk} (h : xs.length = bs.length) : (∀ k, xs.take k = bs.take k) ↔ xs = bs := by
  constructor
  · intro hk
    have := hk xs.length
    rwa [List.take_length, h, List.take_length] at this
  · intro e k; rw [e]

set_option maxRecDepth 100000 in
theorem same_any (u v : Value) (xs bs : List Bk) (w : World) (ha : Bl w u xs) (hb : Bl w v bs) (hla : xs.length ≤ 1000) (hlb : bs.length ≤ 1000) :
    Calls Try.prog 33 #[u, v] w fun e w' => e = .returned (.bool (decide (xs = bs))) ∧ ∃ n, w' = w.drewN n := by
  obtain ⟨a1, c1, rfl⟩ := ha.shape
  obtain ⟨a2, c2, rfl⟩ := hb.shape
  go_enter Try.func33, Try.ntmps33
  have Ha := Lib.hid ha; clear ha
  have Hb := Lib.hid hb; clear hb
  by_cases hl : xs.length = bs.length
  · have Hl := Lib.hid hl; clear hl
    have hbn : ((xs.length : Int) != (bs.length : Int)) = false := by rw [Hl.out]; simp
    go_wp2_with fail
    go_loopw [5] (fun i wr => ∃ k : Nat, k ≤ xs.length ∧ i = .int .i64 k ∧ xs.take k = bs.take k ∧ ∃ n, wr = w.drewN n) (fun i _ => xs.length - (intOf i).toNat)
    case atStart => exact ⟨0, by omega, rfl, rfl, 0, rfl⟩
    case round =>
      obtain ⟨k, hk, rfl, ht, n, rfl⟩ := hrel
      have Ht := Lib.hid ht; clear ht
      by_cases hlt : k < xs.length
      · have hlt2 : k < bs.length := by rw [← Hl.out]; exact hlt
        obtain ⟨x, hx⟩ : ∃ x, xs[k]? = some x := ⟨_, List.getElem?_eq_getElem hlt⟩
        obtain ⟨y, hy⟩ : ∃ y, bs[k]? = some y := ⟨_, List.getElem?_eq_getElem hlt2⟩
        obtain ⟨hok, b, off, cap, hv, hbw, hrg⟩ := Ha.out.block hx
        simp only [Value.slice.injEq] at hv
        obtain ⟨rfl, _, rfl⟩ := hv
        obtain ⟨hok2, b2, off2, cap2, hv, hbw2, hrg2⟩ := Hb.out.block hy
        simp only [Value.slice.injEq] at hv
        obtain ⟨rfl, _, rfl⟩ := hv
        have r1 := bk_load hok (hrg w (Below.refl _ _)) Try.underlying72 rfl (by kernel_rfl)
        have r2 := bk_load hok2 (hrg2 w (Below.refl _ _)) Try.underlying72 rfl (by kernel_rfl)
        have hq := bk_neq_ref x y hok hok2
        obtain ⟨q, hqe⟩ : ∃ q, (!decide (x = y)) = q := ⟨_, rfl⟩
        rw [hqe] at hq
        have Hqe := Lib.hid hqe; clear hqe
        have Hx := Lib.hid hx; have Hy := Lib.hid hy
        clear hx hy hrg hrg2 hok hok2
        go_wp2_with fail
        refine wp_region_quiet_lit (by kernel_rfl) (by kernel_rfl) ?_
        iterate 3 (quiet_step (fail))
        refine wpQuiet_ld rfl rfl rfl (by rintro w' ⟨m, rfl⟩; rw [World.drewN_drewN]; exact r1 _) ?_
        iterate 3 (quiet_step (fail))
        refine wpQuiet_ld rfl rfl rfl (by rintro w' ⟨m, rfl⟩; rw [World.drewN_drewN]; exact r2 _) ?_
        quiet_step (fail)
        refine wpQuiet_nil ?_
        rintro w' ⟨nq, rfl⟩
        clear r1 r2 hq
        have HT0 : xs.take (k + 1) = xs.take k ++ [x] ∧ bs.take (k + 1) = bs.take k ++ [y] := ⟨by rw [List.take_add_one, Hx.out]; rfl, by rw [List.take_add_one, Hy.out]; rfl⟩
        have HT := Lib.hid HT0; clear HT0
        cases q
        · have Hxy : Hid (x = y) := Lib.hid (by have := Hqe.out; simpa using this)
          go_wp2_with fail
          exact ⟨⟨k + 1, by omega, by go_num, by rw [HT.out.1, HT.out.2, Ht.out, Hxy.out], n + nq, rfl⟩, by simp only [intOf]; omega⟩
        · have Hxy : Hid (x ≠ y) := Lib.hid (by have := Hqe.out; simpa using this)
          go_wp2_with fail
          go_ret
          exact ⟨ret_bool (by symm; rw [decide_eq_false_iff_not]; intro e; have h1 := Hx.out; rw [e, Hy.out] at h1; exact Hxy.out (Option.some.inj h1).symm), n + nq, World.drewN_drewN _ _ _⟩
      · obtain rfl : k = xs.length := by omega
        go_wp2_with fail
        go_ret
        exact ⟨ret_bool (by symm; rw [decide_eq_true_eq]; have h := Ht.out; rw [List.take_length, Hl.out, List.take_length] at h; exact h), n, rfl⟩
  · have hbn : ((xs.length : Int) != (bs.length : Int)) = true := by simp; omega
    have Hl := Lib.hid hl; clear hl
    go_wp2_with fail
    go_ret
    exact ⟨ret_bool (by symm; rw [decide_eq_false_iff_not]; intro e; exact Hl.out (by rw [e])), 0, rfl⟩
end Go.Proofs.Ytcgjppdjjhigoaa
