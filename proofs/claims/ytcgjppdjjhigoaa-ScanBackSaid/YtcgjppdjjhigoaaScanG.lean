/- Walks of package scan: Next. -/
import Derived.Test.YtcgjppdjjhigoaaScanF
namespace Go.Proofs.Ytcgjppdjjhigoaa
open Go.RowKit Go.Shelf
set_option maxHeartbeats 4000000
attribute [local go_sem] Oper.semAt_some

/-- the page behind x, or none -/
def behind (x : Fin 8) : Int := if x.1 = 7 then -1 else (x.1 : Int) + 1
/-- the first page that may be written -/
def nextOf (h : Int) (kv : Fin 8 → Int) : Int := if h = 1 then (match (dn8 8).find? (fun x => kv x ≠ 0) with | none => 0 | some x => behind x) else -1

theorem nextOf_none {kv : Fin 8 → Int} (h : ∀ x ∈ dn8 8, kv x = 0) : nextOf 1 kv = 0 := by
  have : (dn8 8).find? (fun x => kv x ≠ 0) = none := by simp only [List.find?_eq_none]; intro x hx; simp [h x hx]
  unfold nextOf; rw [if_pos rfl, this]
theorem nextOf_some {kv : Fin 8 → Int} {k : Nat} {ini : List (Fin 8)} {x : Fin 8} (hk : dn8 k = ini ++ [x]) (h : ∀ y ∈ ini, kv y = 0) (hx : kv x ≠ 0) : nextOf 1 kv = behind x := by
  have hp : dn8 8 = ini ++ [x] ++ (dn8 8).drop k := by
    have : dn8 k = (dn8 8).take k := by
      unfold dn8; rw [List.take_take]
      by_cases h8 : k ≤ 8
      · rw [Nat.min_eq_left h8]
      · rw [Nat.min_eq_right (by omega), List.take_of_length_le (by simp; omega), List.take_of_length_le (by simp)]
    rw [← hk, this, List.take_append_drop]
  have : (dn8 8).find? (fun x => kv x ≠ 0) = some x := by
    rw [hp, List.append_assoc, List.find?_append, List.find?_eq_none.2 (by intro y hy; simp [h y hy])]
    simp [hx]
  unfold nextOf; rw [if_pos rfl, this]
set_option maxRecDepth 100000 in
theorem next_in (h c : Int) (ks : List Int) (ps : List Pg) (kv : Fin 8 → Int) (hk : ks.length = 8) (hp : ps.length = 8) (hkv : ∀ x : Fin 8, ks[x.1]? = some (kv x)) (w : World) :
    CallsIn Fence.wide 10 Try.prog 37 #[.agg (bkCells h c ks ps).toArray] w fun e w' => e = .returned (.int .i64 (nextOf h kv)) ∧ Below w.heap.size w w' := by
  refine callsIn_of_wp_marks Try.func37 rfl trivial ?_ rfl
  simp only [Try.ntmps37, List.size_toArray, List.length_cons, List.length_nil, Nat.reduceAdd, Nat.reduceSub, Array.replicate_succ, Array.replicate_zero, List.push_toArray, List.append_toArray, List.nil_append, List.cons_append]
  have hlen := bk_length (h := h) (c := c) hk hp
  have hc0 : (bkCells h c ks ps)[0]? = some (.int .i64 h) := rfl
  have hcx : ∀ x : Fin 8, (bkCells h c ks ps)[2 + x.1]? = some (.int .i64 (kv x)) := by
    intro x
    unfold bkCells
    rw [List.append_assoc, List.getElem?_append_right (by simp), List.getElem?_append_left (by simp [hk])]
    simp [hkv x]
  generalize bkCells h c ks ps = cs at *
  have Hlen := Lib.hid hlen; have Hcx := Lib.hid hcx; clear hlen hcx
  have hi8 : (Try.prog.info? 3).map (·.size) = some 1 := by kernel_rfl
  have Hi8 := Lib.hid hi8; clear hi8
  by_cases h1 : h = 1
  · subst h1
    gi_wp2_with fail
    refine ⟨trivial, (backward_in _ _ _ _ _).mono ?_⟩
    rintro e w4 ⟨rfl, rfl⟩
    have hA1 : At (w.alloc (.cells cs.toArray 68)) w.heap.size cs 68 := (New.alloc w _).to
    have hs1 : (w.alloc (.cells cs.toArray 68)).heap.size = w.heap.size + 1 := World.size_alloc _ _
    have hb1 : Below w.heap.size w (w.alloc (.cells cs.toArray 68)) := (Below.refl _ w).alloc (Nat.le_refl _) _
    generalize (w.alloc (.cells cs.toArray 68)) = w1 at *
    have hR : At (w1.alloc (.cells #[.int .i64 0] 3)) w1.heap.size [.int .i64 0] 3 := (New.alloc w1 _).to
    have hA2 := (New.alloc w1 (.cells #[.int .i64 0] 3)).at hA1
    have hs2 : (w1.alloc (.cells #[.int .i64 0] 3)).heap.size = w.heap.size + 2 := by rw [World.size_alloc, hs1]
    have hb2 : Below w.heap.size w (w1.alloc (.cells #[.int .i64 0] 3)) := hb1.alloc (by omega) _
    rw [hs1] at hR
    generalize (w1.alloc (.cells #[.int .i64 0] 3)) = w2 at *
    have hBs : At (w2.alloc (.cells #[.slice (some ⟨w.heap.size, 2, none⟩) 8 8] 85)) w2.heap.size [.slice (some ⟨w.heap.size, 2, none⟩) 8 8] 85 := (New.alloc w2 _).to
    have hA3 := (New.alloc w2 (.cells #[.slice (some ⟨w.heap.size, 2, none⟩) 8 8] 85)).at hA2
    have hR3 := (New.alloc w2 (.cells #[.slice (some ⟨w.heap.size, 2, none⟩) 8 8] 85)).at hR
    have hs3 : (w2.alloc (.cells #[.slice (some ⟨w.heap.size, 2, none⟩) 8 8] 85)).heap.size = w.heap.size + 3 := by rw [World.size_alloc, hs2]
    have hb3 : Below w.heap.size w (w2.alloc (.cells #[.slice (some ⟨w.heap.size, 2, none⟩) 8 8] 85)) := hb2.alloc (by omega) _
    rw [hs2] at hBs ⊢
    generalize (w2.alloc (.cells #[.slice (some ⟨w.heap.size, 2, none⟩) 8 8] 85)) = w3 at *
    clear hA1 hs1 hb1 hA2 hs2 hb2 hR w1 w2
    gi_wp2_with fail
    refine wpIn_rangeFunc_ownF rfl (by omega) (gf := 59) (lb := #[.pointer (some ⟨w.heap.size + 2, 0, none⟩)]) rfl trivial (enters_of Try.func59 (by kernel_rfl) rfl)
      (back_stops (w.heap.size + 2) w.heap.size _ _ cs kv Hcx.out w3 hBs hA3) keepTwo_t (fun W l o o' h1 h2 h3 h4 => ⟨keepBlk_b hBs.lt W l o o' h1 h2 h3 h4, keepBlk_b hA3.lt W l o o' h1 h2 h3 h4⟩) (Below.refl _ _) (fun _ => rfl)
      (fun pre W => ((∀ p ∈ pre, kv p = 0) ∧ At W (w.heap.size + 1) [.int .i64 0] 3) ∧ Below w.heap.size w W)
      (fun cd pre W => (cd = .ret ∧ ∃ ini x, pre = ini ++ [x] ∧ (∀ p ∈ ini, kv p = 0) ∧ kv x ≠ 0 ∧ At W (w.heap.size + 1) [.int .i64 (behind x)] 3) ∧ Below w.heap.size w W)
      (OwnFrom.and (fun s W W' row ⟨h1, h2⟩ hg hr => ⟨h1, ownFrom_at _ _ _ (fun _ => [Value.int .i64 0]) s W W' row h2 hg hr⟩) (ownFrom_below (Nat.le_refl _) hb3.size))
      (fun cd => OwnFrom.and (fun s W W' row ⟨h1, ini, x, e1, e2, e3, h2⟩ hg hr => ⟨h1, ini, x, e1, e2, e3, ownFrom_at _ _ _ (fun _ => [Value.int .i64 (behind x)]) s W W' row h2 hg hr⟩) (ownFrom_below (Nat.le_refl _) hb3.size))
      ⟨⟨by simp, hR3⟩, hb3⟩
      (fun x => { tmps := #[.agg cs.toArray, .pointer (some ⟨w.heap.size, 0, none⟩), .pointer (some ⟨w.heap.size + 1, 0, none⟩), .int .i64 (x.1 : Int), .int .i64 (kv x), .pointer (some ⟨w.heap.size, 0, none⟩), .int .i64 1, .bool false, .pointer (some ⟨w.heap.size, 2, none⟩), .slice (some ⟨w.heap.size, 2, none⟩) 8 8, .func (.func 59) #[] #[.pointer (some ⟨w.heap.size + 2, 0, none⟩)], .int .i64 (x.1 : Int), .int .i64 (kv x), undef, undef, undef, undef, undef, undef, undef], defers := [] }) ?assign ?body ?done ?stop
    case assign =>
      intro l x W K hK
      unfold kindEnc
      gi_wp2
      exact hK
    case body =>
      rintro lp pre x W ⟨⟨hz, hA⟩, hB⟩ _
      clear hBs hA3 hR3 hs3 hb3
      have HA := Lib.hid hA; have HB := Lib.hid hB; have Hz := Lib.hid hz; clear hA hB hz
      have hx8 := x.2
      by_cases hk0 : kv x = 0
      · gi_wp2_with fail
        exact ⟨KeepsOthers.refl _, ⟨rfl, rfl⟩, ⟨fun p hp => (List.mem_append.1 hp).elim (Hz.out p) (fun e => by simp at e; subst e; exact hk0), HA.out⟩, HB.out⟩
      · by_cases h7 : x.1 = 7
        · have h7i : ((x.1 : Nat) : Int) + 1 = 8 := by omega
          gi_wp2_with (first
            | (refine st_cell_in (v := .int .i64 (-1)) rfl rfl rfl rfl rfl HA.out Hi8.out Nat.zero_lt_one rfl ?_; intro W2 hu2; have HU2 := Lib.hid hu2; clear hu2)
            | fail)
          exact ⟨keepsOthers_upd HA.out HU2.out, ⟨rfl, pre, x, rfl, Hz.out, hk0, by have h := HU2.out.to; unfold behind; rw [if_pos h7]; exact h⟩, HB.out.trans (HU2.out.below (Nat.le_succ _))⟩
        · have h7i : ¬ (((x.1 : Nat) : Int) + 1 = 8) := by omega
          gi_wp2_with (first
            | (refine st_cell_in (v := .int .i64 ((x.1 : Int) + 1)) rfl rfl rfl rfl rfl HA.out Hi8.out Nat.zero_lt_one rfl ?_; intro W2 hu2; have HU2 := Lib.hid hu2; clear hu2)
            | fail)
          exact ⟨keepsOthers_upd HA.out HU2.out, ⟨rfl, pre, x, rfl, Hz.out, hk0, by have h := HU2.out.to; unfold behind; rw [if_neg h7]; exact h⟩, HB.out.trans (HU2.out.below (Nat.le_succ _))⟩
    case done =>
      rintro D ys W hD rfl ⟨⟨hz, hA⟩, hB⟩ hK
      have hn := nextOf_none hz
      have Hn := Lib.hid hn; clear hn
      have hwD : w.heap.size ≤ D := by omega
      have HA := Lib.hid hA; have HB := Lib.hid hB; have HK := Lib.hid hK; have HD := Lib.hid hwD; clear hA hB hK hwD hD hBs hA3 hR3 hs3 hb3
      gi_wp2_with (first
        | (refine st_cell_in (v := .int .i64 0) rfl rfl rfl rfl rfl HA.out Hi8.out Nat.zero_lt_one rfl ?_; intro W2 hu2
           have HA2 := Lib.hid hu2.to
           have HB2 := Lib.hid (HB.out.trans (hu2.below (Nat.le_succ _)))
           have HK2 := Lib.hid ((keepsOthers_upd HA.out hu2).same D _ HK.out rfl)
           clear hu2)
        | fail)
      refine ⟨by simp, .inl ⟨_, _, rfl, run_takeDeferred HK2.out, ?_⟩⟩
      have hc5 := (at_putObj (o' := .deferred none) HA2.out HK2.out rfl).cell 0
      simp only [List.set_cons_zero, List.getElem?_cons_zero] at hc5
      exact ⟨.int .i64 0, by simp [results, Try.f37, go_sem, hc5], by rw [Hn.out], below_putObj HB2.out HD.out (Nat.le_refl _)⟩
    case stop =>
      rintro D cd pre W hD ⟨k, hk8, hpre⟩ ⟨⟨rfl, ini, x, e1, e2, e3, hA⟩, hB⟩ hK
      have hn : nextOf 1 kv = behind x := nextOf_some (by rw [← hpre, e1]) e2 e3
      have Hn := Lib.hid hn; clear hn
      have hwD : w.heap.size ≤ D := by omega
      have HA := Lib.hid hA; have HB := Lib.hid hB; have HK := Lib.hid hK; have HD := Lib.hid hwD; clear hA hB hK hwD hD hBs hA3 hR3 hs3 hb3
      gi_wp2_with fail
      refine ⟨by simp, .inl ⟨_, _, rfl, run_takeDeferred HK.out, ?_⟩⟩
      have hc5 := (at_putObj (o' := .deferred none) HA.out HK.out rfl).cell 0
      simp only [List.getElem?_cons_zero] at hc5
      exact ⟨.int .i64 (behind x), by simp [results, Try.f37, go_sem, hc5], by rw [Hn.out], below_putObj HB.out HD.out (Nat.le_refl _)⟩
  · have hbn : (h != 1) = true := by simp [h1]
    have hn : nextOf h kv = -1 := by unfold nextOf; rw [if_neg h1]
    rw [hn]
    clear h1 hn
    gi_wp2_with fail
    have hcr : ((w.alloc (.cells cs.toArray 68)).alloc (.cells #[.int .i64 (-1)] 3)).cell? ⟨w.heap.size + 1, 0, none⟩ = some (.int .i64 (-1)) := by
      have h := (New.alloc (w.alloc (.cells cs.toArray 68)) (.cells [Value.int .i64 (-1)].toArray 3)).to.cell 0
      rw [World.size_alloc] at h
      exact h
    exact ⟨.int .i64 (-1), by simp [results, Try.f37, go_sem, hcr], rfl, ((Below.refl _ w).alloc (Nat.le_refl _) _).alloc (by simp) _⟩
theorem next_any (h c : Int) (ks : List Int) (ps : List Pg) (kv : Fin 8 → Int) (hk : ks.length = 8) (hp : ps.length = 8) (hkv : ∀ x : Fin 8, ks[x.1]? = some (kv x)) (w : World) :
    Calls Try.prog 37 #[.agg (bkCells h c ks ps).toArray] w fun e w' => e = .returned (.int .i64 (nextOf h kv)) ∧ Below w.heap.size w w' :=
  (callsIn_wide (n := 10)).1 (next_in h c ks ps kv hk hp hkv w)
end Go.Proofs.Ytcgjppdjjhigoaa
