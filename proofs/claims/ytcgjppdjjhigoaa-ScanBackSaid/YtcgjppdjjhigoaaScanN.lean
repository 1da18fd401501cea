/- Walks of the reference of scan: Words. -/
import Derived.Test.YtcgjppdjjhigoaaScanM
namespace Go.Proofs.Ytcgjppdjjhigoaa
open Go.RowKit Go.Shelf
set_option maxHeartbeats 4000000

theorem fBlock_one (l : List Int) : ∀ u ∈ fBlock l, u.oneCell' = true := bk_one
theorem ownsRow_nil (w : World) (base : Nat) (e : TypeId) (size : Nat) : w.ownsRow base e size (.slice none 0 0) 0 [] := ⟨by simp, .inl ⟨rfl, rfl⟩⟩

set_option maxRecDepth 100000 in
/-- the reference's Words, at whole blocks -/
theorem refWords_any (b off cap m : Nat) (l : List Int) (w : World) (hl : l.length = 64 * m) (hm : 1 ≤ m ∧ m ≤ 64) (hcap : l.length ≤ cap) (hc63 : cap ≤ 9223372036854775807) (hb : b < w.heap.size) (hs : Sl w (.slice (some ⟨b, off, none⟩) l.length cap) l) :
    Calls Try.prog 32 #[.slice (some ⟨b, off, none⟩) l.length cap] w fun e w' => (∃ v, e = .returned (.tuple #[v, .int .i64 0]) ∧ w'.ownsRow w.heap.size 72 66 v m (foundCells l m)) ∧ Below w.heap.size w w' := by
  have Hs := Lib.hid hs; clear hs
  obtain ⟨hm1, hm2⟩ := hm
  have hq : ((64 * m : Nat) : Int) / 64 = (m : Int) := by omega
  have hr : ((64 * m : Nat) : Int) % 64 = 0 := by omega
  rw [hl]
  rw [hl] at hcap
  have Hl := Lib.hid hl; clear hl
  go_enter Try.func32, Try.ntmps32
  go_wp2_with fail
  clear hq hr
  have Hi66 : Hid ((Try.prog.info? 72).map (·.size) = some 66) := by unfold Hid; kernel_rfl
  go_loopw [5, 6] (fun o i wr => ∃ k : Nat, k ≤ m ∧ i = .int .i64 k ∧ wr.ownsRow w.heap.size 72 66 o k (foundCells l k) ∧ Below w.heap.size w wr) (fun _ i _ => m - (intOf i).toNat)
  case atStart => exact ⟨0, by omega, rfl, ownsRow_nil _ _ _ _, Below.refl _ _⟩
  case round =>
    obtain ⟨k, hk, rfl, ho, hB⟩ := hrel
    have HO := Lib.hid ho; have HB := Lib.hid hB; clear ho hB
    by_cases hlt : k < m
    · have n1 : (64 * (k : Int)).toNat = 64 * k := by omega
      have n2 : (64 * (k : Int) + 64).toNat = 64 * k + 64 := by omega
      have n3 : 64 * k + 64 - 64 * k = 64 := by omega
      have hsl := (sl_sub Hs.out (64 * k) 64 (by rw [Hl.out]; omega) (by rw [Hl.out]; omega) hc63 (by omega) hb).below HB.out
      have Hsl := Lib.hid hsl; clear hsl
      have hbl : (blk l k).length = 64 := by unfold blk; rw [List.length_take, List.length_drop, Hl.out]; omega
      have Hbl := Lib.hid hbl; clear hbl
      go_wp2_with (first
        | (go_at_call 50; refine (refBlock_any _ _ _ (blk l k) _ Hbl.out (by omega) (by omega) (Nat.lt_of_lt_of_le hb HB.out.size) Hsl.out).mono ?_; rintro e w2 ⟨rfl, hb2⟩
           have HO2 := Lib.hid (own_below HO.out hb2); have HB2 := Lib.hid (HB.out.trans (hb2.mono HB.out.size)); clear hb2)
        | (refine bs_one rfl rfl rfl Try.underlying57 66 (fBlock_length _) Hi66.out (by kernel_rfl) (by decide) (by decide) ?_; intro w3 hn3
           have HO3 := Lib.hid (own_below HO2.out (hn3.below (Nat.le_refl _))); have HB3 := Lib.hid (HB2.out.trans (hn3.below HB2.out.size)); have HA3 := Lib.hid hn3.to; clear hn3)
        | (refine ap_one rfl _ _ _ rfl (bytes := 304) Try.underlying57 Hi66.out (by kernel_rfl) (by kernel_rfl) (by decide) rfl HO3.out rfl HA3.out (fBlock_length _) (fBlock_one _) (by unfold maxLen; omega) (by omega) HB3.out.size ?_; intro v4 w4 ho4 hg4
           have HO4 : Hid (w4.ownsRow w.heap.size 72 66 v4 (k + 1) (foundCells l (k + 1))) := Lib.hid (by rw [foundCells_succ]; exact ho4)
           have HB4 := Lib.hid (HB3.out.grown hg4 HB3.out.size (fun j e => own_base HO3.out j e)); clear ho4 hg4)
        | fail)
      exact ⟨⟨k + 1, by omega, by go_num, HO4.out, HB4.out⟩, by simp only [intOf]; omega⟩
    · obtain rfl : k = m := by omega
      go_wp2_with fail
      go_ret2
      exact ⟨⟨_, rfl, HO.out⟩, HB.out⟩

/-- the reference's Words, at what is no whole number of blocks, or too many -/
theorem refWords_form (a : Option Addr) (len cap : Nat) (w : World) (hlen : len ≤ 140737488355328) (h : len % 64 ≠ 0 ∨ len / 64 < 1 ∨ 64 < len / 64) :
    Calls Try.prog 32 #[.slice a len cap] w fun e w' => e = .returned (.tuple #[.slice none 0 0, .int .i64 8]) ∧ w = w' := by
  obtain ⟨q, r, hr, rfl⟩ : ∃ q r, r < 64 ∧ len = 64 * q + r := ⟨len / 64, len % 64, Nat.mod_lt _ (by decide), by omega⟩
  have hq1 : (64 * q + r) / 64 = q := by omega
  have hr1 : (64 * q + r) % 64 = r := by omega
  rw [hq1, hr1] at h
  clear hq1 hr1
  have hq2 : ((64 * q + r : Nat) : Int) / 64 = (q : Int) := by omega
  have hr2 : ((64 * q + r : Nat) : Int) % 64 = (r : Int) := by omega
  by_cases hr0 : r = 0
  · subst hr0
    have h := h.resolve_left (fun k => k rfl)
    by_cases hq0 : q = 0
    · subst hq0
      go_enter Try.func32, Try.ntmps32
      go_wp2_with fail
      go_ret2
      exact ⟨rfl, rfl⟩
    · have hq3 : 64 < q := by omega
      clear h
      go_enter Try.func32, Try.ntmps32
      go_wp2_with fail
      go_ret2
      exact ⟨rfl, rfl⟩
  · clear h
    go_enter Try.func32, Try.ntmps32
    go_wp2_with fail
    go_ret2
    exact ⟨rfl, rfl⟩
end Go.Proofs.Ytcgjppdjjhigoaa
