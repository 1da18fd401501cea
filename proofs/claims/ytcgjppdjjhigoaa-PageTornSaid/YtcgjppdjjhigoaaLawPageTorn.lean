/- The statement PageTorn: as long as the last word is not wholly there a page, or a head, is torn; where nothing is it is free. No condition. -/
import Derived.Test.YtcgjppdjjhigoaaLawPageBack
import Derived.Test.YtcgjppdjjhigoaaBits
namespace Go.Proofs.Ytcgjppdjjhigoaa
open Go.ChangeShapes Go.WideShapes Go.ChangeAt Go.RowKit
set_option maxHeartbeats 4000000

theorem kind_no {l m : List Int} {n : Int} (hl : (l.length : Int) = n) (h : l ≠ m) : kind l m n = if free l then 0 else 2 := by
  unfold kind; rw [if_neg (by simpa using hl)]; split <;> simp_all

theorem rd_torn {r : List Int} (hl : r.length = 7) (h : r[6]? ≠ some 1526644958) : (rd r).2 = if free r then 0 else 2 := by
  have hk : kind r (cand r).words 7 = if free r then 0 else 2 := by
    refine kind_no (by omega) ?_
    intro e
    unfold Pg.words at e
    split at e
    · rw [e] at h; exact h rfl
    · rw [e] at hl; simp at hl
  unfold rd
  rw [if_neg (by omega)]
  by_cases hf : free r = true <;> simp [hf] at hk ⊢ <;> simp [hk]
theorem count_torn {r : List Int} (hl : r.length = 4) (h : r[3]? ≠ some 1526644958) : (count r).2 = if free r then 0 else 2 := by
  have hk : kind r (header (r[1]?.getD 0)) 4 = if free r then 0 else 2 := by
    refine kind_no (by omega) ?_
    intro e
    unfold header at e
    split at e
    · rw [e] at hl; simp at hl
    · rw [e] at h; exact h rfl
  unfold count
  rw [if_neg (by omega)]
  by_cases hf : free r = true <;> simp [hf] at hk ⊢ <;> simp [hk]

/-- a slice of words of the call's own, in its block -/
def Blk (w : World) (v : Value) (g : Nat) (l : List Int) : Prop := ∃ cap cs, v = .slice (some ⟨g, 0, none⟩) l.length cap ∧ l.length ≤ cap ∧ cap ≤ 9223372036854775807 ∧ At w g cs 22 ∧ l.length ≤ cs.length ∧ (∀ i, i < l.length → cs[i]? = (l.map uv)[i]?) ∧ ∀ x ∈ l, 0 ≤ x ∧ x < 4294967296

theorem Ow.blk {w : World} {base : Nat} {v : Value} {l : List Int} (h : Ow base 22 w v l) (hn : l ≠ []) : ∃ g, base ≤ g ∧ g < w.heap.size ∧ Blk w v g l := by
  obtain ⟨⟨_, hv1⟩, _, hr⟩ := h
  rcases hv1 with ⟨_, h0⟩ | ⟨g, cap, cur, rfl, hg, hh, hcap, hcap2, hcur, htk⟩
  · exact absurd (List.length_eq_zero_iff.1 h0) hn
  · have hA : At w g cur.toList 22 := by unfold At; simpa using hh
    refine ⟨g, hg, hA.lt, cap, cur.toList, rfl, hcap, by unfold maxLen at hcap2; exact hcap2, hA, by simp [hcur]; omega, ?_, hr⟩
    intro i hi
    rw [← htk, List.getElem?_take, if_pos (by omega)]

theorem Blk.sl {w : World} {v : Value} {g : Nat} {l : List Int} (h : Blk w v g l) (hl : l.length ≤ 100) : Sl w v l := by
  obtain ⟨cap, cs, rfl, h1, h2, h3, h4, h5, h6⟩ := h
  refine .inr ⟨g, 0, cap, rfl, h1, h2, by omega, h3.lt, ?_, h6⟩
  intro i hi
  rw [Nat.zero_add, h3.cell, h5 i hi, List.getElem?_map, List.getElem?_eq_getElem hi]
  rfl
theorem Blk.same {w w' : World} {v : Value} {g g' : Nat} {l : List Int} (h : Blk w v g l) (hs : Same g' w w') (hg : g ≠ g') : Blk w' v g l := by
  obtain ⟨cap, cs, hv, h1, h2, h3, h⟩ := h
  exact ⟨cap, cs, hv, h1, h2, hs.at h3 hg, h⟩
theorem Blk.below {w w' : World} {v : Value} {g : Nat} {l : List Int} (h : Blk w v g l) (hb : Below w.heap.size w w') : Blk w' v g l := by
  obtain ⟨cap, cs, hv, h1, h2, h3, h⟩ := h
  exact ⟨cap, cs, hv, h1, h2, h3.of_below hb, h⟩
theorem Blk.set {w : World} {v : Value} {g : Nat} {l : List Int} (h : Blk w v g l) {i : Nat} (hi : i < l.length) {y : Int} (hy : 0 ≤ y ∧ y < 4294967296) : Same g w (w.setCell ⟨g, i, none⟩ (.int .u32 y)) ∧ Blk (w.setCell ⟨g, i, none⟩ (.int .u32 y)) v g (l.set i y) := by
  obtain ⟨cap, cs, rfl, h1, h2, h3, h4, h5, h6⟩ := h
  have hU := Upd.setCell (o := i) h3 (.int .u32 y)
  refine ⟨hU.same, cap, cs.set i (.int .u32 y), by rw [List.length_set], by rw [List.length_set]; exact h1, h2, hU.to, by simpa using h4, ?_, ?_⟩
  · intro j hj
    rw [List.length_set] at hj
    by_cases e : i = j
    · subst e
      rw [List.getElem?_set_self (by omega), List.getElem?_map, List.getElem?_set_self hi]
      rfl
    · rw [List.getElem?_set_ne e, List.getElem?_map, List.getElem?_set_ne e, h5 j hj, List.getElem?_map]
  · intro z hz
    rcases List.mem_or_eq_of_mem_set hz with h | h
    · exact h6 z h
    · rw [h]; exact hy
theorem Blk.cell {w : World} {v : Value} {g : Nat} {l : List Int} (h : Blk w v g l) {i : Nat} {x : Int} (hx : l[i]? = some x) : w.cell? ⟨g, i, none⟩ = some (.int .u32 x) ∧ w.frozen? ⟨g, i, none⟩ = false := by
  obtain ⟨cap, cs, rfl, h1, h2, h3, h4, h5, h6⟩ := h
  have hi : i < l.length := (List.getElem?_eq_some_iff.1 hx).1
  exact ⟨by rw [h3.cell, h5 i hi, List.getElem?_map, hx]; rfl, h3.frozen i⟩

theorem Blk.range {w : World} {v : Value} {g : Nat} {l : List Int} (h : Blk w v g l) : ∀ x ∈ l, 0 ≤ x ∧ x < 4294967296 := by
  obtain ⟨_, _, _, _, _, _, _, _, h⟩ := h
  exact h

theorem free_step {r : List Int} {j : Nat} {x : Int} (hx : r[j]? = some x) : free (r.take (j + 1)) = (free (r.take j) && (x == ones)) := by
  simp [free, List.take_add_one, hx, List.all_append]

theorem free_set {r : List Int} {j k : Nat} {y : Int} (h : k ≤ j) : free ((r.set j y).take k) = free (r.take k) := by
  rw [List.take_set_of_le h]

structure Len (r : List Int) (n : Nat) : Prop where
  out : r.length = n

/-- the two slices that the loop goes through -/
structure Two (w0 wr : World) (n0 gp gS g1 g2 : Nat) (v1 v2 : Value) (l1 l2 : List Int) (picks : List Value) (k : Nat) : Prop where
  below : Below n0 w0 wr
  pk : At wr gp picks 46
  ss : At wr gS [v1, v2] 26
  one : k ≤ 0 → l1 ≠ [] → Blk wr v1 g1 l1
  two : k ≤ 1 → l2 ≠ [] → Blk wr v2 g2 l2

theorem Two.below' {w0 wr w' : World} {n0 gp gS g1 g2 : Nat} {v1 v2 : Value} {l1 l2 : List Int} {picks : List Value} {k : Nat} (h : Two w0 wr n0 gp gS g1 g2 v1 v2 l1 l2 picks k) (hb : Below wr.heap.size wr w') (hn : n0 ≤ wr.heap.size) : Two w0 w' n0 gp gS g1 g2 v1 v2 l1 l2 picks k :=
  ⟨h.below.trans (hb.mono hn), h.pk.of_below hb, h.ss.of_below hb, fun a b => (h.one a b).below hb, fun a b => (h.two a b).below hb⟩

def pickCells (q0 q1 q2 q3 q4 q5 q6 : Int) : List Value := [.int .u32 q0, .int .u32 q1, .int .u32 q2, .int .u32 q3, .int .u32 q4, .int .u32 q5, .int .u32 q6]
theorem pick_some {q0 q1 q2 q3 q4 q5 q6 : Int} (h0 : u32 q0) (h1 : u32 q1) (h2 : u32 q2) (h3 : u32 q3) (h4 : u32 q4) (h5 : u32 q5) (h6 : u32 q6) (j : Nat) (hj : j < 7) : ∃ q, (pickCells q0 q1 q2 q3 q4 q5 q6)[j]? = some (.int .u32 q) ∧ 0 ≤ q ∧ q < 4294967296 := by
  match j, hj with
  | 0, _ => exact ⟨q0, rfl, h0⟩
  | 1, _ => exact ⟨q1, rfl, h1⟩
  | 2, _ => exact ⟨q2, rfl, h2⟩
  | 3, _ => exact ⟨q3, rfl, h3⟩
  | 4, _ => exact ⟨q4, rfl, h4⟩
  | 5, _ => exact ⟨q5, rfl, h5⟩
  | 6, _ => exact ⟨q6, rfl, h6⟩

set_option maxRecDepth 100000 in
theorem pageTorn_walk (p : Pg) (n : Int) (hp : p.ok) (hn : u32 n) (q0 q1 q2 q3 q4 q5 q6 : Int) (h0 : u32 q0) (h1 : u32 q1) (h2 : u32 q2) (h3 : u32 q3) (h4 : u32 q4) (h5 : u32 q5) (h6 : u32 q6) (w : World) :
    Calls Try.prog 6 #[p.val, .int .u32 n, .agg (pickCells q0 q1 q2 q3 q4 q5 q6).toArray] w fun e w' => e = .returned (.bool true) ∧ Below w.heap.size w w' := by
  have Hpick := Lib.hid (pick_some h0 h1 h2 h3 h4 h5 h6)
  clear h0 h1 h2 h3 h4 h5 h6
  have Hn := Lib.hid hn
  have Hwp := Lib.hid (words_any p hp); have Hh := Lib.hid (header_any n hn)
  clear hp hn
  have HcP : Hid (pickCells q0 q1 q2 q3 q4 q5 q6 = [.int .u32 q0, .int .u32 q1, .int .u32 q2, .int .u32 q3, .int .u32 q4, .int .u32 q5, .int .u32 q6]) := rfl
  simp only [Pg.val] at Hwp ⊢
  generalize pickCells q0 q1 q2 q3 q4 q5 q6 = pk at *
  go_enter Try.func6, Try.ntmps6
  go_wp2_with fail
  refine (alive04_any _).mono ?_
  rintro e w1 ⟨rfl, hb1⟩
  have hA3 : At w1 w.heap.size [.int .u32 p.s, .int .u32 p.q, .bool p.g, .int .u32 p.a, .int .u32 p.b, .int .u32 p.c, .int .u32 p.d] 25 := by
    have := hb1.block w.heap.size (by simp; omega)
    unfold At; rw [this]; exact hp_old (by simp) (hp_new rfl)
  have hA5 : At w1 (w.heap.size + 1) pk 46 := by
    have := hb1.block (w.heap.size + 1) (by simp)
    unfold At; rw [this]; exact hp_new (by simp)
  have HB1 : Hid (Below w.heap.size w w1) := (((Below.refl _ _).alloc (Nat.le_refl _) _).alloc (by simp) _).trans (hb1.mono (by simp; omega))
  have hlt5 := hA5.lt
  clear hb1
  have hc3 := hA3.cell
  go_wp2_with fail
  refine (Hwp.out _).mono ?_
  rintro e w2 ⟨⟨v1, rfl, hv1⟩, hb2⟩
  have hA5 := hA5.of_below hb2
  have HB2 := Lib.hid (HB1.out.trans (hb2.mono HB1.out.size))
  obtain ⟨g1, hg1⟩ : ∃ g1, p.words ≠ [] → w1.heap.size ≤ g1 ∧ g1 < w2.heap.size ∧ Blk w2 v1 g1 p.words := by
    by_cases hn : p.words = []
    · exact ⟨0, fun h => absurd hn h⟩
    · obtain ⟨g, h⟩ := hv1.blk hn
      exact ⟨g, fun _ => h⟩
  clear hc3 hA3
  have hsz2 := hb2.size
  clear hb2
  go_wp2_with fail
  refine (Hh.out _).mono ?_
  rintro e w3 ⟨⟨v2, rfl, hv2⟩, hb3⟩
  have hA5 := hA5.of_below hb3
  have HB3 := Lib.hid (HB2.out.trans (hb3.mono HB2.out.size))
  have hv1 := hv1.below hb3
  have hsz3 := hb3.size
  have hg1 : p.words ≠ [] → w1.heap.size ≤ g1 ∧ g1 < w2.heap.size ∧ Blk w3 v1 g1 p.words := fun h => ⟨(hg1 h).1, (hg1 h).2.1, (hg1 h).2.2.below hb3⟩
  obtain ⟨g2, hg2⟩ : ∃ g2, header n ≠ [] → w2.heap.size ≤ g2 ∧ g2 < w3.heap.size ∧ Blk w3 v2 g2 (header n) := by
    by_cases hn : header n = []
    · exact ⟨0, fun h => absurd hn h⟩
    · obtain ⟨g, h⟩ := hv2.blk hn
      exact ⟨g, fun _ => h⟩
  clear hb3
  obtain ⟨a1, c1, he1⟩ := hv1.sl.shape
  obtain ⟨a2, c2, he2⟩ := hv2.sl.shape
  subst he1 he2
  have hl1 : p.words.length = 0 ∨ p.words.length = 7 := by unfold Pg.words; split <;> simp
  have hl2 : (header n).length = 0 ∨ (header n).length = 4 := by unfold header; split <;> simp
  have hlast1 : p.words.length = 7 → p.words[6]? = some 1526644958 := by unfold Pg.words; split <;> simp
  have hlast2 : (header n).length = 4 → (header n)[3]? = some 1526644958 := by unfold header; split <;> simp
  have hne1 : p.words ≠ [] ↔ p.words.length ≠ 0 := by simp
  have hne2 : header n ≠ [] ↔ (header n).length ≠ 0 := by simp
  clear hv1 hv2 Hwp Hh Hn
  generalize hL1 : p.words = l1 at *
  generalize hL2 : header n = l2 at *
  clear hL1 hL2
  generalize hN1 : l1.length = N1 at *
  generalize hN2 : l2.length = N2 at *
  have Hlen1 : Len l1 N1 := ⟨hN1⟩
  have Hlen2 : Len l2 N2 := ⟨hN2⟩
  have Hlast1 := Lib.hid hlast1; have Hlast2 := Lib.hid hlast2
  have HN1 := Lib.hid hl1; have HN2 := Lib.hid hl2
  have hN1' : N1 ≤ 7 := by omega
  have hN2' : N2 ≤ 4 := by omega
  have Hne1 := Lib.hid hne1; have Hne2 := Lib.hid hne2
  clear hN1 hN2 hlast1 hlast2 hl1 hl2 hne1 hne2
  go_wp2_with fail
  have hN := New.alloc w3 (.cells #[.slice a1 N1 c1, .slice a2 N2 c2] 26)
  have hA5 := hN.at hA5
  have hS : At (w3.alloc (.cells #[.slice a1 N1 c1, .slice a2 N2 c2] 26)) w3.heap.size [.slice a1 N1 c1, .slice a2 N2 c2] 26 := hN.here
  have Hg1 : Hid (l1 ≠ [] → w1.heap.size ≤ g1 ∧ g1 < w2.heap.size ∧ Blk (w3.alloc (.cells #[.slice a1 N1 c1, .slice a2 N2 c2] 26)) (.slice a1 N1 c1) g1 l1) := fun h => ⟨(hg1 h).1, (hg1 h).2.1, (hg1 h).2.2.below (hN.below (Nat.le_refl _))⟩
  have Hg2 : Hid (l2 ≠ [] → w2.heap.size ≤ g2 ∧ g2 < w3.heap.size ∧ Blk (w3.alloc (.cells #[.slice a1 N1 c1, .slice a2 N2 c2] 26)) (.slice a2 N2 c2) g2 l2) := fun h => ⟨(hg2 h).1, (hg2 h).2.1, (hg2 h).2.2.below (hN.below (Nat.le_refl _))⟩
  have HB4 := Lib.hid (HB3.out.trans (hN.below HB3.out.size))
  have hlt := hS.lt
  have hgs : w3.heap.size ≤ w3.heap.size := Nat.le_refl _
  clear hN hg1 hg2
  generalize (w3.alloc (.cells #[.slice a1 N1 c1, .slice a2 N2 c2] 26)) = w4 at *
  have HT0 : Hid (Two w w4 w.heap.size (w.heap.size + 1) w3.heap.size g1 g2 (.slice a1 N1 c1) (.slice a2 N2 c2) l1 l2 pk 0) := ⟨HB4.out, hA5, hS, fun _ h => (Hg1.out h).2.2, fun _ h => (Hg2.out h).2.2⟩
  clear hA5 hS
  go_loopw [8, 9, 10, 11, 12, 13, 14, 23] (fun _ _ _ _ _ _ _ i wr => ∃ k : Nat, k ≤ 2 ∧ i = .int .i64 k ∧ Two w wr w.heap.size (w.heap.size + 1) w3.heap.size g1 g2 (.slice a1 N1 c1) (.slice a2 N2 c2) l1 l2 pk k) (fun _ _ _ _ _ _ _ i _ => 2 - (intOf i).toNat)
  case atStart => exact ⟨0, by omega, rfl, HT0.out⟩
  case round =>
    obtain ⟨k, hk, rfl, hT⟩ := hrel
    clear HT0
    have HT := Lib.hid hT; clear hT
    have hss := HT.out.ss.cell
    have hpk := HT.out.pk.cell
    by_cases hk2 : k = 2
    · subst hk2
      go_wp2_with fail
      go_ret
      exact ⟨rfl, HT.out.below⟩
    by_cases hk0 : k = 0
    · subst hk0
      clear hk2 hk
      by_cases hz : N1 = 0
      · have hb : ((N1 : Int) == 0) = true := by simpa using hz
        have Hz := Lib.hid hz; clear hz
        go_wp2_with fail
        go_roundw
        case rel => exact ⟨1, by omega, rfl, HT.out.1, HT.out.2, HT.out.3, fun h => by omega, fun _ => HT.out.5 (by omega)⟩
        case measure => simp only [intOf]; omega
      · have hpos : 7 ≤ N1 := by have := HN1.out; omega
        have hb : ((N1 : Int) == 0) = false := by simp; omega
        have hB := HT.out.one (by omega) (Hne1.out.2 hz)
        obtain ⟨hlo, hhi, _⟩ := Hg1.out (Hne1.out.2 hz)
        have hgP : g1 ≠ w.heap.size + 1 := by omega
        have hB0 := hB
        obtain ⟨cap, cs, hv, hB0⟩ := hB0
        clear hB0
        simp only [Value.slice.injEq] at hv
        obtain ⟨rfl, hvv, rfl⟩ := hv
        clear hvv
        have hfull : l1[N1 - 1]? = some 1526644958 := by
          have e : N1 = 7 := by omega
          have := Hlast1.out e
          rw [e]; exact this
        have hcf := (hB.cell hfull).1
        have HB := Lib.hid hB
        clear hB hfull hz
        go_wp2_with fail
        obtain ⟨wo, hwo⟩ : ∃ wo : World, wo = wr := ⟨_, rfl⟩
        subst hwo
        go_loopw [11, 12, 39] (fun f _ i wq => ∃ (j : Nat) (r : List Int), j ≤ N1 ∧ i = .int .i64 j ∧ f = .bool (free (r.take j)) ∧ Len r N1 ∧ Same g1 wo wq ∧ Blk wq (.slice (some ⟨g1, 0, none⟩) N1 c1) g1 r) (fun _ _ i _ => N1 - (intOf i).toNat)
        case atStart => exact ⟨0, l1, by omega, rfl, rfl, ⟨Hlen1.out⟩, Same.refl _ _, HB.out⟩
        case round =>
          obtain ⟨j, r, hj, rfl, rfl, hr, hsame, hBr⟩ := hrel
          have Hr := hr; have Hsame := Lib.hid hsame; have HBr := Lib.hid hBr
          clear hsame hBr
          by_cases hlt : j < N1
          · obtain ⟨x, hx⟩ : ∃ x, r[j]? = some x := ⟨_, List.getElem?_eq_getElem (by rw [Hr.out]; exact hlt)⟩
            obtain ⟨q, hq, hq1, hq2⟩ := Hpick.out j (by omega)
            obtain ⟨hcx, hfx⟩ := HBr.out.cell hx
            obtain ⟨hx1, hx2⟩ := HBr.out.range x (List.mem_of_getElem? hx)
            have hcq := (Hsame.out.at HT.out.pk (fun e => hgP e.symm)).cell j
            rw [hq] at hcq
            clear hq hx hss hpk hcf
            have hps := Lib.hid (partial_some 4294967295 x q (by omega) (by omega) hx1 hx2 hq1 hq2)
            go_wp2_with fail
            go_region_with (go_at_call 29; refine (hps.out _).mono ?_; rintro e w' ⟨⟨y, rfl, hy1, hy2⟩, rfl⟩)
            all_goals
              obtain ⟨hs2, hB2⟩ := HBr.out.set (i := j) (by rw [Hr.out]; exact hlt) (y := y) ⟨hy1, hy2⟩
              have Hst : Hid (free ((r.set j y).take (j + 1)) = (free (r.take j) && (y == ones))) := by
                unfold Hid
                rw [free_step (x := y) (by rw [List.getElem?_set_self (by rw [Hr.out]; exact hlt)]), free_set (Nat.le_refl _)]
              have Hs2 := Lib.hid hs2; have HB2 := Lib.hid hB2
              clear hs2 hB2
              cases hf : free (r.take j)
              · rw [hf] at Hst
                have Hf := Lib.hid hf; clear hf
                go_wp2_with fail
                refine ⟨?_, ?_⟩
                · (iterate 25 (apply Exists.intro))
                  exact ⟨⟨j + 1, r.set j y, by omega, by go_num, by rw [Hst.out]; rfl, ⟨by rw [List.length_set]; exact Hr.out⟩, (Hsame.out.trans Hs2.out).drew, HB2.out⟩, rfl⟩
                · show N1 - (intOf (.int .i64 (↑j + 1))).toNat < N1 - (intOf (.int .i64 ↑j)).toNat
                  simp only [intOf]; omega
              · rw [hf] at Hst
                have Hf := Lib.hid hf; clear hf
                go_wp2_with fail
                refine ⟨?_, ?_⟩
                · (iterate 25 (apply Exists.intro))
                  exact ⟨⟨j + 1, r.set j y, by omega, by go_num, by rw [Hst.out]; rfl, ⟨by rw [List.length_set]; exact Hr.out⟩, (Hsame.out.trans Hs2.out).drew, HB2.out⟩, rfl⟩
                · show N1 - (intOf (.int .i64 (↑j + 1))).toNat < N1 - (intOf (.int .i64 ↑j)).toNat
                  simp only [intOf]; omega
          · obtain rfl : j = N1 := by omega
            have Hfr : Hid (free (r.take j) = free r) := by unfold Hid; rw [List.take_of_length_le (by rw [Hr.out]; exact Nat.le_refl _)]
            rw [Hfr.out]
            obtain ⟨z, hz⟩ : ∃ z, r[j - 1]? = some z := ⟨_, List.getElem?_eq_getElem (by rw [Hr.out]; omega)⟩
            obtain ⟨hcz, _⟩ := HBr.out.cell hz
            have Hz := Lib.hid hz
            have hBel : Below w.heap.size w wr := HT.out.below.trans (Hsame.out.below (by omega))
            have HT1 : Hid (Two w wr w.heap.size (w.heap.size + 1) w3.heap.size g1 g2 (.slice (some ⟨g1, 0, none⟩) j c1) (.slice a2 N2 c2) l1 l2 pk 1) :=
              ⟨hBel, Hsame.out.at HT.out.pk (fun e => hgP e.symm), Hsame.out.at HT.out.ss (by omega), fun h => by omega, fun _ h => (HT.out.two (by omega) h).same Hsame.out (by have := (Hg2.out h).1; omega)⟩
            clear hz hBel hcf hss hpk
            by_cases hzl : z = 1526644958
            · have hzb : (z == 1526644958) = true := by simpa using hzl
              clear hzl
              go_wp2_with fail
              exact ⟨⟨1, by omega, rfl, HT1.out⟩, by simp only [intOf]; omega⟩
            · have hzb : (z == 1526644958) = false := by simpa using hzl
              have hrd : (rd r).2 = if free r then 0 else 2 := by
                have e : j = 7 := by omega
                subst e
                refine rd_torn Hr.out ?_
                rw [Hz.out]
                exact fun h => hzl (Option.some.inj h)
              have Hrd := Lib.hid hrd
              have hk3 : ((j : Int) - 1 == 3) = false := by simp; omega
              have Hsl := Lib.hid (HBr.out.sl (by rw [Hr.out]; omega))
              clear hzl hrd
              go_wp2_with fail
              refine (read_any _ _ _ Hsl.out).mono ?_
              rintro e w5 ⟨rfl, hb5⟩
              rw [Hrd.out]
              have HT2 := Lib.hid (HT1.out.below' hb5 (by have := HT1.out.pk.lt; omega))
              have hc5 := hb5.size
              cases hfr : free r
              · simp only [Pg.val, if_neg (show ¬ false = true by decide)]
                have Hf2 := Lib.hid hfr; clear hfr hb5
                go_wp2_with fail
                exact ⟨⟨1, by omega, rfl, HT2.out.below' ((New.alloc _ _).below (Nat.le_refl _)) (by have := HT2.out.pk.lt; omega)⟩, by simp only [intOf]; omega⟩
              · simp only [Pg.val, if_true]
                have Hf2 := Lib.hid hfr; clear hfr hb5
                go_wp2_with fail
                exact ⟨⟨1, by omega, rfl, HT2.out.below' ((New.alloc _ _).below (Nat.le_refl _)) (by have := HT2.out.pk.lt; omega)⟩, by simp only [intOf]; omega⟩
    · obtain rfl : k = 1 := by omega
      clear hk2 hk hk0
      by_cases hz : N2 = 0
      · have hb : ((N2 : Int) == 0) = true := by simpa using hz
        have Hz := Lib.hid hz; clear hz
        go_wp2_with fail
        go_roundw
        case rel => exact ⟨2, by omega, rfl, HT.out.1, HT.out.2, HT.out.3, fun h => by omega, fun h => by omega⟩
        case measure => simp only [intOf]; omega
      · have hpos : 4 ≤ N2 := by have := HN2.out; omega
        have hb : ((N2 : Int) == 0) = false := by simp; omega
        have hB := HT.out.two (by omega) (Hne2.out.2 hz)
        obtain ⟨hlo, hhi, _⟩ := Hg2.out (Hne2.out.2 hz)
        have hgP : g2 ≠ w.heap.size + 1 := by omega
        have hB0 := hB
        obtain ⟨cap, cs, hv, hB0⟩ := hB0
        clear hB0
        simp only [Value.slice.injEq] at hv
        obtain ⟨rfl, hvv, rfl⟩ := hv
        clear hvv
        have hfull : l2[N2 - 1]? = some 1526644958 := by
          have e : N2 = 4 := by omega
          have := Hlast2.out e
          rw [e]; exact this
        have hcf := (hB.cell hfull).1
        have HB := Lib.hid hB
        clear hB hfull hz
        go_wp2_with fail
        obtain ⟨wo, hwo⟩ : ∃ wo : World, wo = wr := ⟨_, rfl⟩
        subst hwo
        go_loopw [11, 12, 39] (fun f _ i wq => ∃ (j : Nat) (r : List Int), j ≤ N2 ∧ i = .int .i64 j ∧ f = .bool (free (r.take j)) ∧ Len r N2 ∧ Same g2 wo wq ∧ Blk wq (.slice (some ⟨g2, 0, none⟩) N2 c2) g2 r) (fun _ _ i _ => N2 - (intOf i).toNat)
        case atStart => exact ⟨0, l2, by omega, rfl, rfl, ⟨Hlen2.out⟩, Same.refl _ _, HB.out⟩
        case round =>
          obtain ⟨j, r, hj, rfl, rfl, hr, hsame, hBr⟩ := hrel
          have Hr := hr; have Hsame := Lib.hid hsame; have HBr := Lib.hid hBr
          clear hsame hBr
          by_cases hlt : j < N2
          · obtain ⟨x, hx⟩ : ∃ x, r[j]? = some x := ⟨_, List.getElem?_eq_getElem (by rw [Hr.out]; exact hlt)⟩
            obtain ⟨q, hq, hq1, hq2⟩ := Hpick.out j (by omega)
            obtain ⟨hcx, hfx⟩ := HBr.out.cell hx
            obtain ⟨hx1, hx2⟩ := HBr.out.range x (List.mem_of_getElem? hx)
            have hcq := (Hsame.out.at HT.out.pk (fun e => hgP e.symm)).cell j
            rw [hq] at hcq
            clear hq hx hss hpk hcf
            have hps := Lib.hid (partial_some 4294967295 x q (by omega) (by omega) hx1 hx2 hq1 hq2)
            go_wp2_with fail
            go_region_with (go_at_call 29; refine (hps.out _).mono ?_; rintro e w' ⟨⟨y, rfl, hy1, hy2⟩, rfl⟩)
            all_goals
              obtain ⟨hs2, hB2⟩ := HBr.out.set (i := j) (by rw [Hr.out]; exact hlt) (y := y) ⟨hy1, hy2⟩
              have Hst : Hid (free ((r.set j y).take (j + 1)) = (free (r.take j) && (y == ones))) := by
                unfold Hid
                rw [free_step (x := y) (by rw [List.getElem?_set_self (by rw [Hr.out]; exact hlt)]), free_set (Nat.le_refl _)]
              have Hs2 := Lib.hid hs2; have HB2 := Lib.hid hB2
              clear hs2 hB2
              cases hf : free (r.take j)
              · rw [hf] at Hst
                have Hf := Lib.hid hf; clear hf
                go_wp2_with fail
                refine ⟨?_, ?_⟩
                · (iterate 25 (apply Exists.intro))
                  exact ⟨⟨j + 1, r.set j y, by omega, by go_num, by rw [Hst.out]; rfl, ⟨by rw [List.length_set]; exact Hr.out⟩, (Hsame.out.trans Hs2.out).drew, HB2.out⟩, rfl⟩
                · show N2 - (intOf (.int .i64 (↑j + 1))).toNat < N2 - (intOf (.int .i64 ↑j)).toNat
                  simp only [intOf]; omega
              · rw [hf] at Hst
                have Hf := Lib.hid hf; clear hf
                go_wp2_with fail
                refine ⟨?_, ?_⟩
                · (iterate 25 (apply Exists.intro))
                  exact ⟨⟨j + 1, r.set j y, by omega, by go_num, by rw [Hst.out]; rfl, ⟨by rw [List.length_set]; exact Hr.out⟩, (Hsame.out.trans Hs2.out).drew, HB2.out⟩, rfl⟩
                · show N2 - (intOf (.int .i64 (↑j + 1))).toNat < N2 - (intOf (.int .i64 ↑j)).toNat
                  simp only [intOf]; omega
          · obtain rfl : j = N2 := by omega
            have Hfr : Hid (free (r.take j) = free r) := by unfold Hid; rw [List.take_of_length_le (by rw [Hr.out]; exact Nat.le_refl _)]
            rw [Hfr.out]
            obtain ⟨z, hz⟩ : ∃ z, r[j - 1]? = some z := ⟨_, List.getElem?_eq_getElem (by rw [Hr.out]; omega)⟩
            obtain ⟨hcz, _⟩ := HBr.out.cell hz
            have Hz := Lib.hid hz
            have hBel : Below w.heap.size w wr := HT.out.below.trans (Hsame.out.below (by omega))
            have HT1 : Hid (Two w wr w.heap.size (w.heap.size + 1) w3.heap.size g1 g2 (.slice a1 N1 c1) (.slice (some ⟨g2, 0, none⟩) j c2) l1 l2 pk 2) :=
              ⟨hBel, Hsame.out.at HT.out.pk (fun e => hgP e.symm), Hsame.out.at HT.out.ss (by omega), fun h => by omega, fun h => by omega⟩
            clear hz hBel hcf hss hpk
            by_cases hzl : z = 1526644958
            · have hzb : (z == 1526644958) = true := by simpa using hzl
              clear hzl
              go_wp2_with fail
              exact ⟨⟨2, by omega, rfl, HT1.out⟩, by simp only [intOf]; omega⟩
            · have hzb : (z == 1526644958) = false := by simpa using hzl
              have e4 : j = 4 := by omega
              have hrd : rd r = (Pg.zero, 2) := by unfold rd; rw [if_pos (by rw [Hr.out]; omega)]
              have hct : (count r).2 = if free r then 0 else 2 := by
                subst e4
                refine count_torn Hr.out ?_
                rw [Hz.out]
                exact fun h => hzl (Option.some.inj h)
              have Hrd := Lib.hid hrd; have Hct := Lib.hid hct
              have hk3 : ((j : Int) - 1 == 3) = true := by simp; omega
              have Hsl := Lib.hid (HBr.out.sl (by rw [Hr.out]; omega))
              clear hzl hrd hct e4
              go_wp2_with fail
              refine (read_any _ _ _ Hsl.out).mono ?_
              rintro e w5 ⟨rfl, hb5⟩
              rw [Hrd.out]
              have HT2 := Lib.hid (HT1.out.below' hb5 (by have := HT1.out.pk.lt; omega))
              have Hsl5 := Lib.hid (Hsl.out.below hb5)
              clear hb5
              simp only [Pg.val, Pg.zero]
              go_wp2_with fail
              have hN6 := New.alloc w5 (.cells #[.int .u32 0, .int .u32 0, .bool false, .int .u32 0, .int .u32 0, .int .u32 0, .int .u32 0] 28)
              refine (count_any _ _ _ (Hsl5.out.below (hN6.below (Nat.le_refl _)))).mono ?_
              rintro e w7 ⟨rfl, hb7⟩
              rw [Hct.out]
              have hb57 : Below w5.heap.size w5 w7 := (hN6.below (Nat.le_refl _)).trans (hb7.mono (by simp))
              have HT3 := Lib.hid (HT2.out.below' hb57 (by have := HT2.out.pk.lt; omega))
              clear hN6 hb7 hb57
              cases hfr : free r
              · simp only [if_neg (show ¬ false = true by decide)]
                have Hf2 := Lib.hid hfr; clear hfr
                go_wp2_with fail
                exact ⟨⟨2, by omega, rfl, HT3.out⟩, by simp only [intOf]; omega⟩
              · simp only [if_true]
                have Hf2 := Lib.hid hfr; clear hfr
                go_wp2_with fail
                exact ⟨⟨2, by omega, rfl, HT3.out⟩, by simp only [intOf]; omega⟩

theorem fit_u32x7 {cs : List Value} (h : Fit [some .u32, some .u32, some .u32, some .u32, some .u32, some .u32, some .u32] cs) : ∃ q0 q1 q2 q3 q4 q5 q6 : Int, cs = pickCells q0 q1 q2 q3 q4 q5 q6 ∧ u32 q0 ∧ u32 q1 ∧ u32 q2 ∧ u32 q3 ∧ u32 q4 ∧ u32 q5 ∧ u32 q6 := by
  match cs, h with
  | [.int _ q0, .int _ q1, .int _ q2, .int _ q3, .int _ q4, .int _ q5, .int _ q6], h =>
    obtain ⟨⟨rfl, h0, h0'⟩, ⟨rfl, h1, h1'⟩, ⟨rfl, h2, h2'⟩, ⟨rfl, h3, h3'⟩, ⟨rfl, h4, h4'⟩, ⟨rfl, h5, h5'⟩, ⟨rfl, h6, h6'⟩, _⟩ := h
    have e : IntKind.u32.max = 4294967295 := rfl
    have e' : IntKind.u32.min = 0 := rfl
    rw [e] at h0' h1' h2' h3' h4' h5' h6'
    rw [e'] at h0 h1 h2 h3 h4 h5 h6
    have f : ∀ x : Int, 0 ≤ x → x ≤ 4294967295 → u32 x := fun x h h' => ⟨h, by omega⟩
    exact ⟨q0, q1, q2, q3, q4, q5, q6, rfl, f _ h0 h0', f _ h1 h1', f _ h2 h2', f _ h3 h3', f _ h4 h4', f _ h5 h5', f _ h6 h6'⟩

namespace pageTorn
set_option maxRecDepth 100000 in
theorem owed : Owed Try.prog 6 Try.f6 := by
  intro H enc W base args ds p hval hA
  rw [Try.params6] at hval hA
  obtain ⟨hl, _⟩ := trodAll_len _ _ _ _ hA
  obtain ⟨v0, v1, v2, rfl⟩ : ∃ v0 v1 v2, args = #[v0, v1, v2] := by
    obtain ⟨l⟩ := args
    match l, hl with
    | [v0, v1, v2], _ => exact ⟨v0, v1, v2, rfl⟩
  obtain ⟨_, _, _, _, h0, r0⟩ := trodAll_head (v := v0) (vs := [v1, v2]) hA
  obtain ⟨_, _, _, _, h1, r1⟩ := trodAll_head (v := v1) (vs := [v2]) r0
  obtain ⟨_, _, _, _, h2, r2⟩ := trodAll_head (v := v2) (vs := []) r1
  clear r2
  have hv0 := hval 0 25 v0 rfl rfl
  have hv1 := hval 1 22 v1 rfl rfl
  have hv2 := hval 2 46 v2 rfl rfl
  clear hval hA
  obtain ⟨n, rfl, hn⟩ := open_u32 Try.underlying22 hv1
  obtain ⟨cs, rfl, hc⟩ := open_flat (ts := [22, 22, 4, 22, 22, 22, 22]) (ks := [some .u32, some .u32, none, some .u32, some .u32, some .u32, some .u32]) Try.underlying25 rfl (by kernel_rfl) (by kernel_rfl) (by kernel_rfl) hv0
  obtain ⟨pg, rfl, hp⟩ := fit_page hc
  obtain ⟨cs, rfl, hc⟩ := open_flat (ts := [22, 22, 22, 22, 22, 22, 22]) (ks := [some .u32, some .u32, some .u32, some .u32, some .u32, some .u32, some .u32]) Try.underlying46 rfl (by kernel_rfl) (by kernel_rfl) (by kernel_rfl) hv2
  obtain ⟨q0, q1, q2, q3, q4, q5, q6, rfl, h0, h1, h2, h3, h4, h5, h6⟩ := fit_u32x7 hc
  rw [← Pg.val_cells]
  exact pageTorn_walk pg n hp hn q0 q1 q2 q3 q4 q5 q6 h0 h1 h2 h3 h4 h5 h6 W

theorem own : ownKnob Try.prog.godebug = none := by kernel_rfl
theorem laidOut : laidOutB Try.prog = true := by kernel_rfl

set_option maxRecDepth 100000 in
theorem lifted (os : Os) (started : os.Started) (H : Type) (enc : TypeId × Value → H) :
    ReturnsInHanded {} Try.checked os 6 .any (Rows.pageTornSpec.pre6 enc Try.prog Try.f6 Rows.pageTornRow.domain false) (Rows.pageTornSpec.post enc Try.prog Try.f6 false true false false) := by
  refine law_handed (C := Try.checked) (tb := 4) own started (by kernel_rfl) Try.func6
    (ChangeSpec.witness6 (enc := enc) (C := Try.checked) false ⟨#[], #[.agg #[.int .u32 0, .int .u32 0, .bool false, .int .u32 0, .int .u32 0, .int .u32 0, .int .u32 0], .int .u32 0, .agg #[.int .u32 0, .int .u32 0, .int .u32 0, .int .u32 0, .int .u32 0, .int .u32 0, .int .u32 0]], []⟩ 8 (by kernel_rfl) (by kernel_rfl) (by kernel_rfl) (by kernel_rfl))
    rfl Try.underlying4 rfl ?_ laidOut (of_decide_eq_true (by kernel_rfl)) owed
  intro ds hl
  match ds, hl with
  | [a, b, c], _ => exact ⟨rfl, rfl, rfl⟩

theorem over : Rows.pageTornRow.holds Try.pinned (OpenSpec.ofChange Rows.pageTornSpec) :=
  OpenClaim.holds_of_wide 6 Try.f6 rfl rfl rfl rfl rfl rfl rfl ⟨rfl, rfl, rfl, rfl, rfl⟩ rfl rfl rfl rfl rfl (by kernel_rfl) Try.func6 (by kernel_rfl)
    (of_decide_eq_true (by kernel_rfl)) (by unfold Func.isWrapper; first | (rw [if_pos (by decide +kernel)]; kernel_rfl) | (rw [if_neg (by decide +kernel)]; exact ⟨rfl, rfl⟩))
    (fun os started H enc _ => lifted os started H enc)

theorem proved : Rows.PageTornSaid := over
end pageTorn
#print axioms pageTorn.proved
end Go.Proofs.Ytcgjppdjjhigoaa
