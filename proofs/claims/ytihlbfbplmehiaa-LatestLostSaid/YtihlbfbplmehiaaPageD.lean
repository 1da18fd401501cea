/- Walks of package page, and of its reference: the words of a page; what words are. -/
import Derived.Test.YtihlbfbplmehiaaPageC
namespace Go.Proofs.Ytihlbfbplmehiaa
open Go.RowKit
set_option maxHeartbeats 400000

def Pg.first (p : Pg) : Int := if p.g then p.s + 2147483648 else p.s
def Pg.words (p : Pg) : List Int := if p.right then [p.first, p.q, p.a, p.b, p.c, p.d, 1526644958] else []

theorem or_gone (s : Int) (h0 : 0 ≤ s) (h : s < 512) : bits .or .u32 s 2147483648 = s + 2147483648 := by
  rw [u32_or _ _ h0 (by omega) (by omega) (by omega)]
  have e : s.toNat ||| (2147483648 : Int).toNat = 2147483648 + s.toNat := by
    rw [Nat.or_comm]
    exact nat_join 31 2147483648 s.toNat (by decide) (by omega)
  rw [e]; omega

theorem Ow.mono {base base' : Nat} {e : TypeId} {w : World} {v : Value} {l : List Int} (h : Ow base e w v l) (hb : base' ≤ base) : Ow base' e w v l := by
  obtain ⟨⟨h0, h1⟩, h2⟩ := h
  refine ⟨⟨h0, ?_⟩, h2⟩
  rcases h1 with h1 | ⟨g, cap, cur, hv, hg, r⟩
  · exact .inl h1
  · exact .inr ⟨g, cap, cur, hv, Nat.le_trans hb hg, r⟩

theorem sl_of_block {w : World} {l : List Int} {g : Nat} {e : TypeId} (h : w.heap[g]? = some (.cells (l.map uv).toArray e)) (hb : l.length ≤ 140737488355328) (hr : ∀ x ∈ l, 0 ≤ x ∧ x < 4294967296) :
    Sl w (.slice (some ⟨g, 0, none⟩) l.length l.length) l := (Ow.of_block (Nat.le_refl g) h hb hr).sl

theorem concat3 (w : World) (g : Nat) (v1 v2 v3 : Value) (l1 l2 l3 : List Int) (hg : w.heap[g]? = some (.cells #[v1, v2, v3] 62)) (h1 : Sl w v1 l1) (h2 : Sl w v2 l2) (h3 : Sl w v3 l3) (hl : (l1 ++ l2 ++ l3).length ≤ 1000) :
    Calls Try.prog 66 #[.slice (some ⟨g, 0, none⟩) 3 3] w fun e w' => (∃ v, e = .returned v ∧ Ow w.heap.size 23 w' v (l1 ++ l2 ++ l3)) ∧ Below w.heap.size w w' := by
  have e : cat [(v1, l1), (v2, l2), (v3, l3)] [(v1, l1), (v2, l2), (v3, l3)].length = l1 ++ l2 ++ l3 := by simp [cat]
  have hgs : g < w.heap.size := by rw [Array.getElem?_eq_some_iff] at hg; exact hg.1
  have h := concat_any g 3 [(v1, l1), (v2, l2), (v3, l3)] w (by simp) hgs ?_ ?_ (by rw [e]; omega)
  · rw [e] at h; exact h
  · intro k x hx
    match k, hx with
    | 0, hx => cases hx; simp [World.cell?, hg]
    | 1, hx => cases hx; simp [World.cell?, hg]
    | 2, hx => cases hx; simp [World.cell?, hg]
    | k + 3, hx => simp at hx
  · intro x hx
    simp only [List.mem_cons, List.not_mem_nil, or_false] at hx
    rcases hx with rfl | rfl | rfl
    · exact h1
    · exact h2
    · exact h3

theorem words_cat1 (w : World) (v : Value) (s q z : Int) (l : List Int) (hs : u32 s) (hq : u32 q) (hz : u32 z) (hv : Sl w v l) (hl : l.length ≤ 10) : Calls Try.prog 66 #[.slice (some ⟨w.heap.size + 1 + 1, 0, none⟩) 3 3]
    (((w.alloc (.cells #[.int .u32 s, .int .u32 q] 23)).alloc (.cells #[.int .u32 z] 23)).alloc (.cells #[.slice (some ⟨w.heap.size, 0, none⟩) 2 2, v, .slice (some ⟨w.heap.size + 1, 0, none⟩) 1 1] 62)).drew
    fun e w' => (∃ v, e = .returned v ∧ Ow w.heap.size 23 w' v ([s, q] ++ l ++ [z])) ∧ Below w.heap.size w w' := by
  simp only [u32] at hs hq hz
  have hb : Below w.heap.size w (((w.alloc (.cells #[.int .u32 s, .int .u32 q] 23)).alloc (.cells #[.int .u32 z] 23)).alloc (.cells #[.slice (some ⟨w.heap.size, 0, none⟩) 2 2, v, .slice (some ⟨w.heap.size + 1, 0, none⟩) 1 1] 62)).drew :=
    ((((Below.refl _ _).alloc (Nat.le_refl _) _).alloc (by simp) _).alloc (by simp; omega) _).drew
  have e1 := hp_old (w := (w.alloc (.cells #[.int .u32 s, .int .u32 q] 23)).alloc (.cells #[.int .u32 z] 23)) (o := .cells #[.slice (some ⟨w.heap.size, 0, none⟩) 2 2, v, .slice (some ⟨w.heap.size + 1, 0, none⟩) 1 1] 62) (by simp; omega) (hp_old (i := w.heap.size) (by simp) (hp_new rfl))
  have e2 := hp_old (w := (w.alloc (.cells #[.int .u32 s, .int .u32 q] 23)).alloc (.cells #[.int .u32 z] 23)) (o := .cells #[.slice (some ⟨w.heap.size, 0, none⟩) 2 2, v, .slice (some ⟨w.heap.size + 1, 0, none⟩) 1 1] 62) (by simp) (hp_new (i := w.heap.size + 1) (by simp))
  refine (concat3 _ _ _ _ _ [s, q] l [z] (hp_drew (hp_new (by simp))) (sl_of_block (l := [s, q]) (hp_drew e1) (by simp) ?_) (hv.below hb) (sl_of_block (l := [z]) (hp_drew e2) (by simp) ?_) (by simp; omega)).mono ?_
  · simp; omega
  · simp; omega
  · rintro e w' ⟨⟨v', rfl, h⟩, hb'⟩
    have hsz := hb.size
    exact ⟨⟨v', rfl, h.mono hsz⟩, hb.trans (hb'.mono hsz)⟩

theorem words_cat2 (w : World) (v : Value) (s q z : Int) (l : List Int) (hs : u32 s) (hq : u32 q) (hz : u32 z) (hv : Sl w v l) (hl : l.length ≤ 10) : Calls Try.prog 66 #[.slice (some ⟨w.heap.size + 1 + 1, 0, none⟩) 3 3]
    (((w.alloc (.cells #[.int .u32 z] 23)).alloc (.cells #[.int .u32 s, .int .u32 q] 23)).alloc (.cells #[.slice (some ⟨w.heap.size + 1, 0, none⟩) 2 2, v, .slice (some ⟨w.heap.size, 0, none⟩) 1 1] 62)).drew
    fun e w' => (∃ v, e = .returned v ∧ Ow w.heap.size 23 w' v ([s, q] ++ l ++ [z])) ∧ Below w.heap.size w w' := by
  simp only [u32] at hs hq hz
  have hb : Below w.heap.size w (((w.alloc (.cells #[.int .u32 z] 23)).alloc (.cells #[.int .u32 s, .int .u32 q] 23)).alloc (.cells #[.slice (some ⟨w.heap.size + 1, 0, none⟩) 2 2, v, .slice (some ⟨w.heap.size, 0, none⟩) 1 1] 62)).drew :=
    ((((Below.refl _ _).alloc (Nat.le_refl _) _).alloc (by simp) _).alloc (by simp; omega) _).drew
  have e2 := hp_old (w := (w.alloc (.cells #[.int .u32 z] 23)).alloc (.cells #[.int .u32 s, .int .u32 q] 23)) (o := .cells #[.slice (some ⟨w.heap.size + 1, 0, none⟩) 2 2, v, .slice (some ⟨w.heap.size, 0, none⟩) 1 1] 62) (by simp; omega) (hp_old (i := w.heap.size) (by simp) (hp_new rfl))
  have e1 := hp_old (w := (w.alloc (.cells #[.int .u32 z] 23)).alloc (.cells #[.int .u32 s, .int .u32 q] 23)) (o := .cells #[.slice (some ⟨w.heap.size + 1, 0, none⟩) 2 2, v, .slice (some ⟨w.heap.size, 0, none⟩) 1 1] 62) (by simp) (hp_new (i := w.heap.size + 1) (by simp))
  refine (concat3 _ _ _ _ _ [s, q] l [z] (hp_drew (hp_new (by simp))) (sl_of_block (l := [s, q]) (hp_drew e1) (by simp) ?_) (hv.below hb) (sl_of_block (l := [z]) (hp_drew e2) (by simp) ?_) (by simp; omega)).mono ?_
  · simp; omega
  · simp; omega
  · rintro e w' ⟨⟨v', rfl, h⟩, hb'⟩
    have hsz := hb.size
    exact ⟨⟨v', rfl, h.mono hsz⟩, hb.trans (hb'.mono hsz)⟩

def Made (n0 : Nat) (w0 : World) (l : List Int) (e : Ending) (w' : World) : Prop := (∃ v, e = .returned v ∧ Ow n0 23 w' v l) ∧ Below n0 w0 w'

set_option maxRecDepth 100000 in
theorem words_any (p : Pg) (hp : p.ok) (w : World) : Calls Try.prog 51 #[p.val] w fun e w' => (∃ v, e = .returned v ∧ Ow w.heap.size 23 w' v p.words) ∧ Below w.heap.size w w' := by
  have hr := right_any p hp
  by_cases hrt : p.right = true
  case neg =>
    have hf : p.right = false := by simpa using hrt
    have hw : p.words = [] := by unfold Pg.words; rw [if_neg hrt]
    rw [hw]; clear hw hrt
    obtain ⟨s, q, g, a, b, c, d⟩ := p
    simp only [Pg.val] at hr ⊢
    have Hf := Lib.hid hf
    clear hp hf
    go_enter Try.func51, Try.ntmps51
    go_wp2_with fail
    refine (hr _).mono ?_
    rintro e w1 ⟨rfl, hb1⟩
    rw [Hf.out]
    have Hb1 := Lib.hid hb1; clear hb1 hr
    go_wp2_with fail
    go_ret
    exact ⟨⟨_, rfl, Ow.nil ..⟩, (((Below.refl _ _).alloc (Nat.le_refl _) _).trans (Hb1.out.mono (by simp)))⟩
  case pos =>
    have hw : p.words = [p.first, p.q, p.a, p.b, p.c, p.d, 1526644958] := by unfold Pg.words; rw [if_pos hrt]
    rw [hw]; clear hw
    obtain ⟨s, q, g, a, b, c, d⟩ := p
    simp only [Pg.val, Pg.first] at hr ⊢
    have Hf := Lib.hid hrt
    have Hp := Lib.hid hp
    have hs : s < 512 ∧ 0 ≤ s := ⟨by simp [Pg.right] at hrt; exact hrt.1.1.1, hp.1.1⟩
    have hor := or_gone s hs.2 hs.1
    obtain ⟨hs1, hs2⟩ := hs
    clear hp hrt
    cases g
    · go_enter Try.func51, Try.ntmps51
      go_wp2_with fail
      refine (hr _).mono ?_
      rintro e w1 ⟨rfl, hb1⟩
      rw [Hf.out]
      have hsz := hb1.size
      have hsl : Sl w1 (.slice (some ⟨w.heap.size, 3, none⟩) 4 4) [a, b, c, d] := by
        refine .inr ⟨w.heap.size, 3, 4, rfl, by simp, by simp, by simp, by simp at hsz; omega, ?_, ?_⟩
        · intro i hi
          rw [hb1.cell (p := ⟨w.heap.size, 3 + i, none⟩) (by simp)]
          match i, hi with
          | 0, _ => simp
          | 1, _ => simp
          | 2, _ => simp
          | 3, _ => simp
        · obtain ⟨_, _, r1, r2, r3, r4⟩ := Hp.out
          simp only [u32] at r1 r2 r3 r4
          simp; omega
      have Hsl := Lib.hid hsl; clear hsl
      have hc0 := hb1.cell (p := ⟨w.heap.size, 0, none⟩) (by simp)
      have hc1 := hb1.cell (p := ⟨w.heap.size, 1, none⟩) (by simp)
      have hc2 := hb1.cell (p := ⟨w.heap.size, 2, none⟩) (by simp)
      simp at hsz hc0 hc1 hc2
      have hlt : w.heap.size < w1.heap.size := by omega
      have Hb1 := Lib.hid hb1; clear hb1 hr
      go_wp2_with fail
      have Hs : Hid (u32 s) := Hp.out.1
      have Hq : Hid (u32 q) := Hp.out.2.1
      have Hz : Hid (u32 1526644958) := by simp [u32, Hid]
      go_region_with (go_at_call 66; (first | (refine (words_cat1 _ _ s q 1526644958 [a, b, c, d] Hs.out Hq.out Hz.out Hsl.out (by simp)).mono ?_) | (refine (words_cat2 _ _ s q 1526644958 [a, b, c, d] Hs.out Hq.out Hz.out Hsl.out (by simp)).mono ?_)); rintro e w2 ⟨⟨v, rfl, hv⟩, hb2⟩)
      all_goals
        go_wp2_with fail
        go_ret
        exact ⟨⟨_, rfl, hv.mono (by omega)⟩, ((Below.refl _ _).alloc (Nat.le_refl _) _).trans ((Hb1.out.mono (by simp)).trans (hb2.mono (by omega)))⟩
    · go_enter Try.func51, Try.ntmps51
      go_wp2_with fail
      refine (hr _).mono ?_
      rintro e w1 ⟨rfl, hb1⟩
      rw [Hf.out]
      have hsz := hb1.size
      have hsl : Sl w1 (.slice (some ⟨w.heap.size, 3, none⟩) 4 4) [a, b, c, d] := by
        refine .inr ⟨w.heap.size, 3, 4, rfl, by simp, by simp, by simp, by simp at hsz; omega, ?_, ?_⟩
        · intro i hi
          rw [hb1.cell (p := ⟨w.heap.size, 3 + i, none⟩) (by simp)]
          match i, hi with
          | 0, _ => simp
          | 1, _ => simp
          | 2, _ => simp
          | 3, _ => simp
        · obtain ⟨_, _, r1, r2, r3, r4⟩ := Hp.out
          simp only [u32] at r1 r2 r3 r4
          simp; omega
      have Hsl := Lib.hid hsl; clear hsl
      have hc0 := hb1.cell (p := ⟨w.heap.size, 0, none⟩) (by simp)
      have hc1 := hb1.cell (p := ⟨w.heap.size, 1, none⟩) (by simp)
      have hc2 := hb1.cell (p := ⟨w.heap.size, 2, none⟩) (by simp)
      simp at hsz hc0 hc1 hc2
      have hlt : w.heap.size < w1.heap.size := by omega
      have Hb1 := Lib.hid hb1; clear hb1 hr
      go_wp2_with fail
      have Hs : Hid (u32 (s + 2147483648)) := by simp only [u32, Hid]; omega
      have Hq : Hid (u32 q) := Hp.out.2.1
      have Hz : Hid (u32 1526644958) := by simp [u32, Hid]
      go_region_with (go_at_call 66; (first | (refine (words_cat1 _ _ (s + 2147483648) q 1526644958 [a, b, c, d] Hs.out Hq.out Hz.out Hsl.out (by simp)).mono ?_) | (refine (words_cat2 _ _ (s + 2147483648) q 1526644958 [a, b, c, d] Hs.out Hq.out Hz.out Hsl.out (by simp)).mono ?_)); rintro e w2 ⟨⟨v, rfl, hv⟩, hb2⟩)
      all_goals
        go_wp2_with fail
        go_ret
        exact ⟨⟨_, rfl, hv.mono (by omega)⟩, ((Below.refl _ _).alloc (Nat.le_refl _) _).trans ((Hb1.out.mono (by simp)).trans (hb2.mono (by omega)))⟩

end Go.Proofs.Ytihlbfbplmehiaa
