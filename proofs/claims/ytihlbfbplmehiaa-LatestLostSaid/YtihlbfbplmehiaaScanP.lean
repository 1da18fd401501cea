/- Walks of the statements' own words: Built. -/
import Derived.Test.YtihlbfbplmehiaaScanO
import Derived.Test.YtihlbfbplmehiaaPagePlain
namespace Go.Proofs.Ytihlbfbplmehiaa
open Go.RowKit Go.Shelf
set_option maxHeartbeats 4000000

def ones7 : List Int := [4294967295, 4294967295, 4294967295, 4294967295, 4294967295, 4294967295, 4294967295]
def ones4 : List Int := [4294967295, 4294967295, 4294967295, 4294967295]
/-- the words of a page that may be, or none -/
def pageW (ps : List Pg) (k : Nat) : List Int := match ps[k]? with | some p => if p.right then p.words else ones7 | none => ones7
def pagesW (ps : List Pg) (n : Nat) : List Int := (List.range n).flatMap (pageW ps)
theorem pagesW_succ (ps : List Pg) (n : Nat) : pagesW ps (n + 1) = pagesW ps n ++ pageW ps n := by unfold pagesW; rw [List.range_succ, List.flatMap_append]; simp
def blockW (i : Nat) (ps : List Pg) : List Int := header i ++ pagesW ps 8 ++ ones4
def builtW (l : List (List Pg)) (n : Nat) : List Int := (List.range n).flatMap fun i => blockW i (l[i]?.getD [])
theorem builtW_succ (l : List (List Pg)) (n : Nat) : builtW l (n + 1) = builtW l n ++ blockW n (l[n]?.getD []) := by unfold builtW; rw [List.range_succ, List.flatMap_append]; simp
theorem pageW_len (ps : List Pg) (k : Nat) : (pageW ps k).length = 7 := by
  unfold pageW
  split
  · split
    · rename_i h; rw [Pg.words_right h]; rfl
    · rfl
  · rfl
theorem header_len {i : Nat} (h : i ≤ 2147483648) : (header i).length = 4 := by unfold header; rw [if_neg (by omega)]; rfl
theorem pagesW_len (ps : List Pg) : ∀ n, (pagesW ps n).length = 7 * n
  | 0 => rfl
  | n + 1 => by rw [pagesW_succ, List.length_append, pagesW_len ps n, pageW_len]; omega
theorem blockW_len {i : Nat} (h : i ≤ 2147483648) (ps : List Pg) : (blockW i ps).length = 64 := by unfold blockW; rw [List.length_append, List.length_append, header_len h, pagesW_len]; rfl
theorem builtW_len (l : List (List Pg)) : ∀ n, n ≤ 2147483648 → (builtW l n).length = 64 * n
  | 0, _ => rfl
  | n + 1, h => by rw [builtW_succ, List.length_append, builtW_len l n (by omega), blockW_len (by omega)]; omega

/-- a slice of elements, whatever address an empty one has -/
def Ei (s : Nat) (w : World) (v : Value) (l : List (List Value)) : Prop := (l = [] ∧ ∃ a c, v = .slice a 0 c) ∨ Es s w v l
theorem Ei.shape {s : Nat} {w : World} {v : Value} {l : List (List Value)} (h : Ei s w v l) : ∃ a c, v = .slice a l.length c := by
  rcases h with ⟨rfl, a, c, rfl⟩ | h
  · exact ⟨a, c, rfl⟩
  · exact h.shape
theorem Ei.below {s : Nat} {w w' : World} {v : Value} {l : List (List Value)} (h : Ei s w v l) (hb : Below w.heap.size w w') : Ei s w' v l := by
  rcases h with h | h
  · exact .inl h
  · exact .inr (h.below hb)
theorem Ei.elem {s : Nat} {w : World} {v : Value} {l : List (List Value)} (h : Ei s w v l) {i : Nat} {x : List Value} (hi : l[i]? = some x) : ∃ b off cap, v = .slice (some ⟨b, off, none⟩) l.length cap ∧ b < w.heap.size ∧ ∀ w', Below w.heap.size w w' → w'.rangeAt b (off + i * s) x := by
  rcases h with ⟨rfl, _⟩ | h
  · cases hi
  · exact h.elem hi
/-- a slice of slices of pages -/
def Pss (w : World) (v : Value) (l : List (List Pg)) : Prop := ∃ vs : List Value, vs.length = l.length ∧ Es 1 w v (vs.map fun x => [x]) ∧ (∀ (i : Nat) x ps, vs[i]? = some x → l[i]? = some ps → Ei 7 w x (ps.map Pg.cells) ∧ ps.length ≤ 9223372036854775807) ∧ ∀ ps ∈ l, ∀ p ∈ ps, p.ok
theorem Pss.below {w w' : World} {v : Value} {l : List (List Pg)} (h : Pss w v l) (hb : Below w.heap.size w w') : Pss w' v l := by
  obtain ⟨vs, h1, h2, h3, h4⟩ := h
  exact ⟨vs, h1, h2.below hb, fun i x ps hx hp => ⟨(h3 i x ps hx hp).1.below hb, (h3 i x ps hx hp).2⟩, h4⟩
theorem Pss.shape {w : World} {v : Value} {l : List (List Pg)} (h : Pss w v l) : ∃ a c, v = .slice a l.length c := by
  obtain ⟨vs, h1, h2, _⟩ := h
  obtain ⟨a, c, e⟩ := h2.shape
  exact ⟨a, c, by rw [e, List.length_map, h1]⟩
/-- where the i-th one lies -/
theorem Pss.elem {w : World} {v : Value} {l : List (List Pg)} (h : Pss w v l) {i : Nat} {ps : List Pg} (hi : l[i]? = some ps) : ∃ b off cap x, v = .slice (some ⟨b, off, none⟩) l.length cap ∧ Ei 7 w x (ps.map Pg.cells) ∧ ps.length ≤ 9223372036854775807 ∧ (∀ p ∈ ps, p.ok) ∧ ∀ w', Below w.heap.size w w' → w'.cell? ⟨b, off + i, none⟩ = some x := by
  obtain ⟨vs, h1, h2, h3, h4⟩ := h
  have hil : i < l.length := (List.getElem?_eq_some_iff.1 hi).1
  obtain ⟨x, hx⟩ : ∃ x, vs[i]? = some x := ⟨_, List.getElem?_eq_getElem (by omega)⟩
  obtain ⟨b, off, cap, e1, e2, e3⟩ := h2.elem (i := i) (x := [x]) (by rw [List.getElem?_map, hx]; rfl)
  refine ⟨b, off, cap, x, by rw [e1, List.length_map, h1], (h3 i x ps hx hi).1, (h3 i x ps hx hi).2, h4 ps (List.mem_of_getElem? hi), fun w' hb => ?_⟩
  have := e3 w' hb 0 x rfl
  simpa using this

theorem uv_one (l : List Int) : ∀ u ∈ l.map uv, u.oneCell' = true := by
  intro u hu
  obtain ⟨x, _, rfl⟩ := List.mem_map.1 hu
  rfl
theorem Ow.rng {base : Nat} {e : TypeId} {w : World} {v : Value} {l : List Int} (h : Ow base e w v l) (hl : l ≠ []) : ∃ g cap, v = .slice (some ⟨g, 0, none⟩) l.length cap ∧ w.rangeAt g 0 (l.map uv) := by
  obtain ⟨g, cap, e1, _, _, _, e2⟩ := h.len7 hl
  refine ⟨g, cap, e1, fun j v hv => ?_⟩
  rw [List.getElem?_map, Option.map_eq_some_iff] at hv
  obtain ⟨x, hx, rfl⟩ := hv
  rw [Nat.zero_add]
  exact e2 w (Below.refl _ _) j x hx

theorem At.rng {w : World} {g : Nat} {c : List Value} {t : TypeId} (h : At w g c t) : w.rangeAt g 0 c := fun j v hv => by rw [Nat.zero_add, h.cell]; exact hv
theorem pageW_right {ps : List Pg} {j : Nat} {p : Pg} (h : ps[j]? = some p) (hr : p.right = true) : pageW ps j = p.words := by unfold pageW; rw [h]; simp [hr]
theorem pageW_not {ps : List Pg} {j : Nat} {p : Pg} (h : ps[j]? = some p) (hr : p.right = false) : pageW ps j = ones7 := by unfold pageW; rw [h]; simp [hr]
theorem pageW_none {ps : List Pg} {j : Nat} (h : ¬ j < ps.length) : pageW ps j = ones7 := by unfold pageW; rw [List.getElem?_eq_none (by omega)]

/-- one page's words more -/
theorem built_page {W : World} {B k j : Nat} {e : TypeId} {v : Value} {l : List (List Pg)} {ps : List Pg} {ws : List Int} (h : W.ownsRow B e 1 v (64 * k + 4 + 7 * j + 7) ((builtW l k ++ header k ++ pagesW ps j).map uv ++ ws.map uv)) (hw : pageW ps j = ws) :
    W.ownsRow B e 1 v (64 * k + 4 + 7 * (j + 1)) ((builtW l k ++ header k ++ pagesW ps (j + 1)).map uv) := by
  rw [pagesW_succ, hw, ← List.append_assoc, List.map_append]
  exact h
theorem built_block {W : World} {B k : Nat} {e : TypeId} {v : Value} {l : List (List Pg)} {ps : List Pg} (h : W.ownsRow B e 1 v (64 * k + 4 + 7 * 8 + 4) ((builtW l k ++ header k ++ pagesW ps 8).map uv ++ ones4.map uv)) (hw : l[k]? = some ps) :
    W.ownsRow B e 1 v (64 * (k + 1)) ((builtW l (k + 1)).map uv) := by
  rw [builtW_succ, hw]
  unfold blockW
  rw [← List.map_append] at h
  rw [show 64 * (k + 1) = 64 * k + 4 + 7 * 8 + 4 by omega]
  simpa using h

set_option maxRecDepth 100000 in
theorem Built_any (v : Value) (l : List (List Pg)) (w : World) (hb : Pss w v l) (hlen : l.length ≤ 64) :
    Calls Try.prog 18 #[v] w fun e w' => (∃ r, e = .returned r ∧ w'.ownsRow w.heap.size 23 1 r (64 * l.length) ((builtW l l.length).map uv)) ∧ Below w.heap.size w w' := by
  obtain ⟨a, cp, rfl⟩ := hb.shape
  have Hb := Lib.hid hb; clear hb
  have Hi1 : Hid ((Try.prog.info? 23).map (·.size) = some 1) := by unfold Hid; kernel_rfl
  have Hi7 : Hid ((Try.prog.info? 34).map (·.size) = some 7) := by unfold Hid; kernel_rfl
  go_enter Try.func18, Try.ntmps18
  go_wp2_with fail
  go_loopw [3, 4, 5, 6, 7, 10] (fun o _ _ _ _ i wr => ∃ k : Nat, k ≤ l.length ∧ i = .int .i64 k ∧ wr.ownsRow w.heap.size 23 1 o (64 * k) ((builtW l k).map uv) ∧ Below w.heap.size w wr) (fun _ _ _ _ _ i _ => l.length - (intOf i).toNat)
  case atStart => exact ⟨0, by omega, rfl, ownsRow_nil _ _ _ _, Below.refl _ _⟩
  case round =>
    obtain ⟨wo, rfl⟩ : ∃ wo : World, wo = wr := ⟨_, rfl⟩
    obtain ⟨k, hk, rfl, ho, hB⟩ := hrel
    by_cases hlt : k < l.length
    · have HR := Lib.hid (Rn.start ho hB); clear ho hB
      obtain ⟨ps, hps⟩ : ∃ ps, l[k]? = some ps := ⟨_, List.getElem?_eq_getElem hlt⟩
      obtain ⟨b, off, cap, x, hv, hes, hpl, hok, hcx⟩ := Hb.out.elem hps
      simp only [Value.slice.injEq] at hv
      obtain ⟨rfl, -, rfl⟩ := hv
      have hc := hcx wo HR.out.below
      have Hps := Lib.hid hps; have Hes := Lib.hid hes; have Hok := Lib.hid hok; clear hps hes hok hcx
      have hhl := header_len (i := k) (by omega)
      have Hhl := Lib.hid hhl; clear hhl
      have hw32 : IntKind.u32.wrap (k : Int) = (k : Int) := by simp [IntKind.wrap, IntKind.bits, IntKind.signed]; omega
      obtain ⟨xa, xc, rfl⟩ := Hes.out.shape
      simp only [List.length_map] at hc
      rw [List.length_map] at Hes
      go_wp2_with (first
        | (go_at_call 29; refine (ref_header_any _ ⟨by omega, by omega⟩ _).mono ?_; rintro e w1 ⟨⟨v1, rfl, hv1⟩, hb1⟩
           obtain ⟨g1, cap1, rfl, hr1⟩ := hv1.rng (by intro e; have := Hhl.out; rw [e] at this; cases this)
           have HR1 := Lib.hid (HR.out.call hb1); have Hr1 := Lib.hid hr1
           clear hv1 hr1 HR hb1)
        | (refine ap_src rfl _ _ _ rfl (bytes := 4) Try.underlying62 Hi1.out (by kernel_rfl) (by kernel_rfl) (by decide) rfl HR1.out.own rfl Hr1.out (by rw [List.length_map, Nat.mul_one]) (uv_one _) (by rw [Hhl.out]; unfold maxLen; omega) (by rw [Hhl.out]; omega) HR1.out.below.size ?_; intro v2 w2 ho2 hg2
           have HO2 : Hid (w2.ownsRow w.heap.size 23 1 v2 (64 * k + 4 + 7 * 0) ((builtW l k ++ header k ++ pagesW ps 0).map uv)) := Lib.hid (by rw [Hhl.out, ← List.map_append] at ho2; simpa [pagesW] using ho2)
           have HB2 := Lib.hid (below_append HR1.out.own HR1.out.below hg2); clear ho2 hg2 HR1 Hr1)
        | fail)
      go_loopw [3, 6, 7, 20] (fun o _ _ i W => ∃ j : Nat, j ≤ 8 ∧ i = .int .i64 j ∧ W.ownsRow w.heap.size 23 1 o (64 * k + 4 + 7 * j) ((builtW l k ++ header k ++ pagesW ps j).map uv) ∧ Below w.heap.size w W) (fun _ _ _ i _ => 8 - (intOf i).toNat)
      case atStart => exact ⟨0, by omega, rfl, HO2.out, HB2.out⟩
      case round =>
        clear HO2 HB2
        obtain ⟨j, hj, rfl, ho, hB⟩ := hrel
        have HR := Lib.hid (Rn.start ho hB); clear ho hB
        by_cases hj8 : j < 8
        · by_cases hjl : j < ps.length
          · obtain ⟨p, hp⟩ : ∃ p, ps[j]? = some p := ⟨_, List.getElem?_eq_getElem hjl⟩
            obtain ⟨pb, poff, pcap, hxv, hpb, hpr⟩ := Hes.out.elem (i := j) (x := p.cells) (by rw [List.getElem?_map, hp]; rfl)
            simp only [Value.slice.injEq] at hxv
            obtain ⟨rfl, -, rfl⟩ := hxv
            have Hpo := Lib.hid (Hok.out p (List.mem_of_getElem? hp))
            have Hp := Lib.hid hp; have Hpr := Lib.hid hpr; clear hp hpr
            have hra := ref_right_any p Hpo.out
            cases hrt : p.right
            · rw [hrt] at hra
              have Hra := Lib.hid hra
              have Hrt := Lib.hid hrt; clear hrt hra
              go_wp2_with (first
                | (refine ld_rng rfl rfl rfl (Hpr.out _ (HR.out.new (New.alloc wr _)).below) Try.underlying34 rfl Hi7.out ?_)
                | (go_at_call 30; refine (Hra.out _).mono ?_; rintro e w5 ⟨rfl, hb5⟩
                   have HA5 : Hid (At w5 wr.heap.size (ones7.map uv) 23) := Lib.hid ((New.alloc wr (.cells (ones7.map uv).toArray 23)).to.of_below hb5)
                   have HR5 := Lib.hid ((HR.out.new (New.alloc wr _)).call hb5); clear hb5 HR)
                | (refine ap_src rfl _ _ _ rfl (bytes := 4) Try.underlying62 Hi1.out (by kernel_rfl) (by kernel_rfl) (by decide) rfl HR5.out.own rfl HA5.out.rng rfl (uv_one _) (by unfold maxLen; omega) (by omega) HR5.out.below.size ?_; intro v6 w6 ho6 hg6
                   have HO6 := Lib.hid (built_page ho6 (pageW_not Hp.out Hrt.out)); have HB6 := Lib.hid (below_append HR5.out.own HR5.out.below hg6); clear ho6 hg6 HR5 HA5)
                | fail)
              exact ⟨⟨j + 1, by omega, by go_num, HO6.out, HB6.out⟩, by simp only [intOf]; omega⟩
            · rw [hrt] at hra
              have hwl : p.words.length = 7 := by rw [Pg.words_right hrt]; rfl
              have Hra := Lib.hid hra; have Hwl := Lib.hid hwl
              have Hrt := Lib.hid hrt; clear hrt hra hwl
              go_wp2_with (first
                | (refine ld_rng rfl rfl rfl (Hpr.out _ HR5.out.below) Try.underlying34 rfl Hi7.out ?_)
                | (refine ld_rng rfl rfl rfl (Hpr.out _ (HR.out.new (New.alloc wr _)).below) Try.underlying34 rfl Hi7.out ?_)
                | (go_at_call 30; refine (Hra.out _).mono ?_; rintro e w5 ⟨rfl, hb5⟩
                   have HR5 := Lib.hid ((HR.out.new (New.alloc wr _)).call hb5); clear hb5 HR)
                | (go_at_call 31; refine (ref_page_words_any p Hpo.out _).mono ?_; rintro e w6 ⟨⟨v6, rfl, hv6⟩, hb6⟩
                   obtain ⟨g6, cap6, rfl, hr6⟩ := hv6.rng (by intro e; have := Hwl.out; rw [e] at this; cases this)
                   have HR6 := Lib.hid (HR5.out.call hb6); have Hr6 := Lib.hid hr6
                   rw [Hwl.out]
                   clear hv6 hr6 HR5 hb6)
                | (refine ap_src rfl _ _ _ rfl (bytes := 4) Try.underlying62 Hi1.out (by kernel_rfl) (by kernel_rfl) (by decide) rfl HR6.out.own rfl Hr6.out (by rw [List.length_map, Hwl.out]) (uv_one _) (by unfold maxLen; omega) (by omega) HR6.out.below.size ?_; intro v7 w7 ho7 hg7
                   have HO7 := Lib.hid (built_page ho7 (pageW_right Hp.out Hrt.out)); have HB7 := Lib.hid (below_append HR6.out.own HR6.out.below hg7); clear ho7 hg7 HR6 Hr6)
                | fail)
              exact ⟨⟨j + 1, by omega, by go_num, HO7.out, HB7.out⟩, by simp only [intOf]; omega⟩
          · have Hpw := Lib.hid (pageW_none hjl)
            go_wp2_with (first
              | (refine ap_src rfl _ _ _ rfl (bytes := 4) Try.underlying62 Hi1.out (by kernel_rfl) (by kernel_rfl) (by decide) rfl (HR.out.new (New.alloc wr _)).own rfl (New.alloc wr (.cells (ones7.map uv).toArray 23)).to.rng rfl (uv_one _) (by unfold maxLen; omega) (by omega) (HR.out.new (New.alloc wr _)).below.size ?_; intro v6 w6 ho6 hg6
                 have HO6 := Lib.hid (built_page ho6 Hpw.out); have HB6 := Lib.hid (below_append (HR.out.new (New.alloc wr _)).own (HR.out.new (New.alloc wr _)).below hg6); clear ho6 hg6 HR)
              | fail)
            exact ⟨⟨j + 1, by omega, by go_num, HO6.out, HB6.out⟩, by simp only [intOf]; omega⟩
        · obtain rfl : j = 8 := by omega
          go_wp2_with (first
            | (refine ap_src rfl _ _ _ rfl (bytes := 4) Try.underlying62 Hi1.out (by kernel_rfl) (by kernel_rfl) (by decide) rfl (HR.out.new (New.alloc wr _)).own rfl (New.alloc wr (.cells (ones4.map uv).toArray 23)).to.rng rfl (uv_one _) (by unfold maxLen; omega) (by omega) (HR.out.new (New.alloc wr _)).below.size ?_; intro v6 w6 ho6 hg6
               have HO6 := Lib.hid (built_block ho6 Hps.out); have HB6 := Lib.hid (below_append (HR.out.new (New.alloc wr _)).own (HR.out.new (New.alloc wr _)).below hg6); clear ho6 hg6 HR)
            | fail)
          exact ⟨⟨k + 1, by omega, by go_num, HO6.out, HB6.out⟩, by simp only [intOf]; omega⟩
    · obtain rfl : k = l.length := by omega
      go_wp2_with fail
      go_ret
      exact ⟨⟨_, rfl, ho⟩, hB⟩
end Go.Proofs.Ytihlbfbplmehiaa
