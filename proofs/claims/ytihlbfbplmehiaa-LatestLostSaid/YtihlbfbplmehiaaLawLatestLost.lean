/- The statement LatestLost: where a block is lost, just those sectors are lost of which it had pages that must be saved. No condition. -/
import Derived.Test.YtihlbfbplmehiaaLatO
import Derived.Test.YtihlbfbplmehiaaEqs
import Derived.Maps.Own
import Derived.Maps.OwnOps
import Derived.Maps.Views
namespace Go.Proofs.Ytihlbfbplmehiaa
open Go.ChangeShapes Go.WideShapes Go.ChangeAt Go.RowKit Go.Shelf Go.Maps
set_option maxHeartbeats 8000000

theorem fitB07l : flatAt Try.prog 6 48 = some bkKinds := by kernel_rfl
theorem built_zB : Try.prog.built 55 [] = some bk0.toArray := by
  unfold bk0
  have h : Try.prog.built 55 [] = some (bkCells 0 0 (List.replicate 8 0) (List.replicate 8 Pg.zero)).toArray := by kernel_rfl
  exact h
theorem had_law : Keyed Try.prog 23 := int_keyed Try.underlying23
theorem had_zero (w : World) : (zeroValue 3).run Try.prog w = .ok (.int .i64 0) w := by kernel_rfl
/-- the map had: of these sectors one page each -/
def Had (W : World) (b n : Nat) (S : List Int) : Prop := ∃ D : DataW Unit, W.ownsMap Try.prog 23 (plainElem Try.prog 3) b n D ∧ IsMap D ∧ ∀ s, D.atKey (.int .u32 s) (.lit (.int .i64 0)) = .lit (.int .i64 (if s ∈ S then 1 else 0))
theorem Had.kept {W W' : World} {b n : Nat} {S : List Int} (h : Had W b n S) (hb : Below W.heap.size W W') : Had W' b n S := by
  obtain ⟨D, h1, h2, h3⟩ := h
  exact ⟨D, h1.kept (row := none) ⟨hb.os, hb.tape, hb.output, hb.size, fun k hk _ => hb.block k hk⟩ (by simp), h2, h3⟩
theorem had_wf {s : Int} (h : 0 ≤ s ∧ s < 4294967296) : (Lit.int .u32 s).wf = true := by
  simp [Lit.wf, IntKind.min, IntKind.max, IntKind.signed, IntKind.bits]; omega
theorem had_look {ops : Array Oper} {rest : List Oper} {o : Oper} {a : Act} {w : World} {Q : Exit → Act → World → Prop} (hg : o.guard = none) (m x : Operand) (hop : o.op = Op.lookup 51 m x false) {b n : Nat} {S : List Int} {s : Int} (hm : a.eval m = .map (some b)) (hH : Had w b n S) (hx : a.eval x = .int .u32 s) (hs : 0 ≤ s ∧ s < 4294967296)
    (hK : wpList Try.prog ops Q rest (a.put o.dst (.int .i64 (if s ∈ S then 1 else 0))) w) : wpList Try.prog ops Q (o :: rest) a w := by
  obtain ⟨D, h1, h2, h3⟩ := hH
  refine wpList_lookup_own_int w hg m x _ hop _ _ .i64 had_law Try.underlying51 Try.underlying3 (had_zero w) b n D hm h1 _ _ hx (keyOf_int_mk Try.underlying23 (had_wf hs)) ?_
  intro c hat _
  rw [h3 s] at hat
  simp only [DataW.lit.injEq, Lit.int.injEq, true_and] at hat
  rw [hat] at hK
  exact hK
theorem had_put {ops : Array Oper} {rest : List Oper} {o : Oper} {a : Act} {w : World} {Q : Exit → Act → World → Prop} (hg : o.guard = none) (m x v : Operand) (hop : o.op = Op.mapUpdate 51 m x v) {b n : Nat} {S : List Int} {s : Int} (hm : a.eval m = .map (some b)) (hH : Had w b n S) (hn : n < maxLen) (hx : a.eval x = .int .u32 s) (hv : a.eval v = .int .i64 1) (hs : 0 ≤ s ∧ s < 4294967296)
    (hK : ∀ w', Had w' b (n + 1) (S ++ [s]) → w.grownBy w' (some b) → wpList Try.prog ops Q rest (a.put o.dst undef) w') : wpList Try.prog ops Q (o :: rest) a w := by
  obtain ⟨D, h1, h2, h3⟩ := hH
  refine wpList_mapUpdate_own w hg m x v _ hop _ 3 had_law Try.underlying51 _ b n D hm h1 hn _ _ _ hx hv (keyOf_int_mk Try.underlying23 (had_wf hs)) (.lit (.int .i64 1)) [] (plainElem_int Try.underlying3 (by decide)) ?_
  intro w' ho hgr
  refine hK w' ⟨_, ho, h2.put _ _, fun s' => ?_⟩ hgr
  by_cases e : s' = s
  · subst e
    rw [atKey_put_same h2 (by trivial)]
    simp
  · rw [atKey_put_other (by intro h; injection h; exact e ‹_›), h3 s']
    simp [e]
theorem had_made (w : World) : Had (w.alloc (.map #[] 0)) w.heap.size 0 [] := ⟨.map [], World.ownsMap_made _ _ _ _, isMap_empty, fun s => by simp [WideAt.atKey_none]⟩
theorem own_grown3 {W W' : World} {base n sz : Nat} {e : TypeId} {v : Value} {xs : List Value} {row : Option Nat} (h : W.ownsRow base e sz v n xs) (hg : W.grownBy W' row) (hr : ∀ r, row = some r → v.ownBlock ≠ some r) : W'.ownsRow base e sz v n xs := by
  refine ⟨h.1, ?_⟩
  rcases h.2 with h0 | ⟨g, cap, cur, rfl, hb, hc, hrest⟩
  · exact .inl h0
  · exact .inr ⟨g, cap, cur, rfl, hb, by rw [hg.block g (Array.getElem?_eq_some_iff.1 hc).1 (fun e => hr g e.symm rfl)]; exact hc, hrest⟩
theorem grown_of {W W' : World} (hb : Below W.heap.size W W') (row : Option Nat) : W.grownBy W' row := ⟨hb.os, hb.tape, hb.output, hb.size, fun k hk _ => hb.block k hk⟩
theorem bksCells_setB {z : Bk} (hz : z.ok) : ∀ {bs : List Bk} {k : Nat}, (∀ b ∈ bs, b.ok) → k < bs.length → (bksCells bs).take (k * 66) ++ z.cells ++ (bksCells bs).drop (k * 66 + 66) = bksCells (bs.set k z)
  | [], k, _, h => by simp at h
  | x :: bs, 0, hok, h => by
    have hx := hok x List.mem_cons_self
    unfold bksCells
    rw [List.set_cons_zero, List.flatMap_cons, List.flatMap_cons, Nat.zero_mul, List.take_zero, List.nil_append, Nat.zero_add, List.drop_append_of_le_length (by rw [Bk.cells_length hx]; exact Nat.le_refl _), List.drop_of_length_le (by rw [Bk.cells_length hx]; exact Nat.le_refl _), List.nil_append]
  | x :: bs, k + 1, hok, h => by
    have hx := hok x List.mem_cons_self
    have ih := bksCells_setB hz (bs := bs) (k := k) (fun c hc => hok c (List.mem_cons_of_mem _ hc)) (by simpa using h)
    unfold bksCells at ih ⊢
    rw [List.set_cons_succ, List.flatMap_cons, List.flatMap_cons, show (k + 1) * 66 = x.cells.length + k * 66 by rw [Bk.cells_length hx]; omega, List.take_length_add_append, Nat.add_assoc, List.drop_length_add_append, List.append_assoc, List.append_assoc, ← ih, List.append_assoc]
/-- a block is stored among blocks that the call owns -/
theorem own_setB {W : World} {base g cap k : Nat} {bs : List Bk} {z : Bk} (hz : z.ok) (hok : ∀ b ∈ bs, b.ok) (hk : k < bs.length) (h : W.ownsRow base 55 66 (.slice (some ⟨g, 0, none⟩) bs.length cap) bs.length (bksCells bs)) :
    ∃ cs, At W g cs 55 ∧ k * 66 + 66 ≤ cs.length ∧ base ≤ g ∧ ∀ W2, Upd W W2 g (.cells (cs.take (k * 66) ++ z.cells ++ cs.drop (k * 66 + 66)).toArray 55) → W2.ownsRow base 55 66 (.slice (some ⟨g, 0, none⟩) bs.length cap) bs.length (bksCells (bs.set k z)) := by
  rcases h.2 with ⟨h0, _⟩ | ⟨g', cap', cur, hv, hB, hc, hn, hm, hs, ht⟩
  · cases h0
  · simp only [Value.slice.injEq, Option.some.injEq, Addr.mk.injEq, true_and, and_true] at hv
    obtain ⟨rfl, rfl⟩ := hv
    have hlen : cur.toList.length = cap * 66 := by simpa using hs
    refine ⟨cur.toList, by unfold At; simpa using hc, by omega, hB, fun W2 hu => ⟨?_, .inr ⟨g, cap, _, rfl, hB, hu.here, hn, hm, ?_, ?_⟩⟩⟩
    · rw [bksCells_length (fun b hb => by
        rcases List.mem_or_eq_of_mem_set hb with h' | rfl
        · exact hok b h'
        · exact hz), List.length_set]; omega
    · simp [Bk.cells_length hz, hlen]; omega
    · have hzl := Bk.cells_length hz
      rw [← bksCells_setB hz hok hk, ← ht]
      show (cur.toList.take (k * 66) ++ z.cells ++ cur.toList.drop (k * 66 + 66)).take (bs.length * 66) = _
      rw [List.take_append, List.take_of_length_le (by simp [hzl, hlen]; omega), List.take_take, Nat.min_eq_left (by omega)]
      congr 1
      rw [List.drop_take]
      congr 1
      simp [hzl, hlen]; omega

theorem at_grown4 {w w' : World} {b : Nat} {c : List Value} {t : TypeId} {row : Option Nat} (hA : At w b c t) (hg : w.grownBy w' row) (hne : some b ≠ row) : At w' b c t := by
  have h := hg.block b hA.lt hne
  unfold At at hA ⊢
  rw [h]; exact hA
theorem Had.grown {W W' : World} {b n : Nat} {S : List Int} {row : Option Nat} (h : Had W b n S) (hg : W.grownBy W' row) (hne : some b ≠ row) : Had W' b n S := by
  obtain ⟨D, h1, h2, h3⟩ := h
  exact ⟨D, h1.kept hg hne, h2, h3⟩
theorem grown_trans {a b c : World} {row : Option Nat} (h : a.grownBy b row) (k : b.grownBy c row) : a.grownBy c row :=
  ⟨k.os.trans h.os, k.tape.trans h.tape, k.output.trans h.output, Nat.le_trans h.size k.size, fun i hi hne => (k.block i (Nat.lt_of_lt_of_le hi h.size) hne).trans (h.block i hi hne)⟩
theorem grown_upd {w w2 : World} {g : Nat} {o : Obj} (h : Upd w w2 g o) : w.grownBy w2 (some g) := ⟨h.os, h.tape, h.output, Nat.le_of_eq h.size.symm, fun k _ hne => h.other k (fun e => hne (by rw [e]))⟩
theorem own66_shape {w : World} {base : Nat} {e : TypeId} {v : Value} {n : Nat} {xs : List Value} (h : w.ownsRow base e 66 v n xs) (h0 : 0 < n) : ∃ g c, v = .slice (some ⟨g, 0, none⟩) n c ∧ base ≤ g := by
  rcases h.2 with ⟨_, h'⟩ | ⟨g, cap, cur, rfl, hb, _⟩
  · omega
  · exact ⟨g, cap, rfl, hb⟩
def secs (nd : List Pl) (k : Nat) : List Int := (nd.take k).map fun x => x.p.s
theorem secs_succ {nd : List Pl} {k : Nat} {x : Pl} (h : nd[k]? = some x) : secs nd (k + 1) = secs nd k ++ [x.p.s] := by
  unfold secs; rw [List.take_add_one, h]; simp
theorem secs_not {nd : List Pl} (hp : nd.Pairwise fun x y => x.p.s ≠ y.p.s) {k : Nat} {x : Pl} (h : nd[k]? = some x) : x.p.s ∉ secs nd k := by
  unfold secs
  intro hm
  obtain ⟨y, hy, he⟩ := List.mem_map.1 hm
  obtain ⟨j, hj⟩ := List.getElem?_of_mem hy
  rw [List.getElem?_take] at hj
  split at hj
  · rename_i hjk
    obtain ⟨h1, e1⟩ := List.getElem?_eq_some_iff.1 hj
    obtain ⟨h2, e2⟩ := List.getElem?_eq_some_iff.1 h
    have := List.pairwise_iff_getElem.1 hp j k h1 h2 hjk
    rw [e1, e2] at this
    exact this he
  · cases hj
theorem secs_any (nd : List Pl) (s : Int) : (nd.any fun y => decide (y.p.s = s)) = decide (s ∈ secs nd nd.length) := by
  unfold secs
  rw [List.take_length]
  by_cases h : ∃ y ∈ nd, y.p.s = s
  · obtain ⟨y, hy, he⟩ := h
    rw [List.any_eq_true.2 ⟨y, hy, by simp [he]⟩, decide_eq_true (List.mem_map.2 ⟨y, hy, he⟩)]
  · rw [List.any_eq_false.2 (fun y hy e => h ⟨y, hy, by simpa using e⟩), decide_eq_false (fun hm => by
      obtain ⟨y, hy, he⟩ := List.mem_map.1 hm
      exact h ⟨y, hy, he⟩)]
theorem bks_one (bs : List Bk) : ∀ u ∈ bksCells bs, u.oneCell' = true := by
  intro u hu
  obtain ⟨b, _, hb⟩ := List.mem_flatMap.1 hu
  exact Bk.one u hb
theorem bk0_len66 : bk0.length = 66 := by rfl
theorem es_big9 {s : Nat} {w : World} {v : Value} {l : List (List Value)} (h : Es s w v l) : l.length ≤ 9223372036854775807 := by
  rcases h with ⟨_, rfl⟩ | ⟨_, _, _, _, h2, h3, _⟩
  · simp
  · omega
theorem own9_big {w : World} {base : Nat} {e : TypeId} {v : Value} {n : Nat} {xs : List Value} (h : w.ownsRow base e 9 v n xs) : n < maxLen ∨ n ≤ maxLen := by
  rcases h.2 with ⟨_, rfl⟩ | ⟨g, cap, cur, rfl, hb, hc, hn, hm, _⟩
  · exact .inr (Nat.zero_le _)
  · exact .inr (Nat.le_trans hn hm)

set_option maxRecDepth 100000 in
theorem latestLost_walk (v : Value) (bs : List Bk) (nb : Int) (i : Nat) (w : World) (hb : Bl w v bs) (hok : ∀ b ∈ bs, b.ok) (hlen : bs.length ≤ 12) (h0 : 0 < bs.length) (hnb : 0 ≤ nb ∧ nb < 256) (hi : Int.tmod nb (bs.length : Int) = (i : Int)) (hil : i < bs.length) :
    Calls Try.prog 5 #[v, .int .u8 nb] w fun e w' => e = .returned (.bool true) ∧ Below w.heap.size w w' := by
  have Hi9 : Hid ((Try.prog.info? 29).map (·.size) = some 9) := by unfold Hid; kernel_rfl
  have Hi66 : Hid ((Try.prog.info? 55).map (·.size) = some 66) := by unfold Hid; kernel_rfl
  have Hok := Lib.hid hok
  obtain ⟨a, cp, rfl⟩ := hb.shape
  have Hb := Lib.hid hb
  have hd2 : decide ((12 : Int) < (bs.length : Int)) = false := by rw [decide_eq_false_iff_not]; omega
  have hlb : ((bs.length : Int) == 0) = false := by rw [beq_eq_false_iff_ne]; omega
  have hne0 : (bs.length : Int) ≠ 0 := by omega
  have hw1 : IntKind.i64.wrap nb = nb := IntWalk.i64_in _ (by omega)
  have hw2 : IntKind.i64.wrap (i : Int) = (i : Int) := IntWalk.i64_in _ (by omega)
  have Hlen := Lib.hid hlen; have H0 := Lib.hid h0; have Hil := Lib.hid hil
  obtain ⟨nd, hnd⟩ : ∃ nd, neededOf (plsOf bs) (i : Int) (plsOf bs) = nd := ⟨_, rfl⟩
  have Hnd := Lib.hid hnd
  have hmm := @run_makeMap Try.prog
  clear hb hok hnd
  go_enter Try.func5, Try.ntmps5
  go_wp2_with (first
    | (go_at_call 8; refine (alive07_any _).mono ?_; rintro e w1 ⟨rfl, hb1⟩; have HB1 := Lib.hid hb1; have Hb1 := Lib.hid (Hb.out.below hb1); clear hb1)
    | (go_at_call 14; refine (Theirs_any _ bs _ Hb1.out (by omega)).mono ?_; rintro e w2 ⟨⟨v2, rfl, ho2⟩, hb2⟩
       have HL2 := Lib.hid (Blt.of_own ho2 Hok.out); have HB2 := Lib.hid (HB1.out.trans (hb2.mono HB1.out.size))
       obtain ⟨g2, c2, rfl, hg2⟩ := own66_shape ho2 H0.out
       have HO2 := Lib.hid ho2; have hs2 := Lib.hid hb2.size; have hr2 := Lib.hid (own_lt ho2)
       clear ho2 hb2 hg2; refine Hold.out ?_)
    | fail)
  refine ⟨?_⟩
  have hm3 := New.alloc w2 (.map #[] 0)
  have Hm3 := Lib.hid (had_made w2)
  have HN3 := Lib.hid (hm3.below (Nat.le_refl _))
  obtain ⟨w3, hw3⟩ : ∃ w3, w3 = w2.alloc (.map #[] 0) := ⟨_, rfl⟩
  have hs3 : w3.heap.size = w2.heap.size + 1 := by rw [hw3, World.size_alloc]
  rw [← hw3] at Hm3 HN3
  have Hs3 := Lib.hid hs3
  have hmk : (Instr.makeMap 51 none).run Try.prog w2 = .ok (.map (some w2.heap.size)) w3 := by rw [hw3]; rfl
  clear hm3 hw3 hs3 hmm
  go_wp2_with (first
    | (go_at_call 16; refine (needed_any _ _ bs (by omega) Hok.out _ (HL2.out.keep (keepB_below HN3.out))).mono ?_; rintro e w4 ⟨⟨v4, rfl, ho4⟩, hb4⟩
       rw [Hnd.out] at ho4
       obtain ⟨a4, c4, rfl⟩ := own_slice ho4
       have HO4 := Lib.hid ho4
       have HN4 := Lib.hid (HN3.out.trans (hb4.mono HN3.out.size))
       have HH4 := Lib.hid (Hm3.out.kept hb4)
       clear ho4 hb4 hmk)
    | fail)
  have hnl : nd.length ≤ 104 := by
    rw [← Hnd.out]
    have h1 := plsOf_len bs
    have h2 : (neededOf (plsOf bs) (i : Int) (plsOf bs)).length ≤ (plsOf bs).length := List.length_filter_le _ _
    omega
  have Hup : Hid (nd.Pairwise fun x y => x.p.s ≠ y.p.s) := Lib.hid (by rw [← Hnd.out]; exact need_up bs i)
  go_loopw [40] (fun ix wr => ∃ k : Nat, k ≤ nd.length ∧ ix = .int .i64 k ∧ Had wr w2.heap.size k (secs nd k) ∧ w4.grownBy wr (some w2.heap.size)) (fun ix _ => nd.length - (intOf ix).toNat)
  case atStart => exact ⟨0, by omega, rfl, HH4.out, grown_of (Below.refl _ _) _⟩
  case round =>
    obtain ⟨k, hk, rfl, hH, hG⟩ := hrel
    have HH := Lib.hid hH; have HG := Lib.hid hG; clear hH hG
    have hgl : w2.heap.size < wr.heap.size := by have h1 := HG.out.size; have h2 := HO4.out; have h3 := HN4.out.size; have := Hs3.out; obtain ⟨D, ho, _⟩ := HH.out; exact ho.lt
    by_cases hlt : k < nd.length
    · obtain ⟨x, hx⟩ : ∃ x, nd[k]? = some x := ⟨_, List.getElem?_eq_getElem hlt⟩
      have hxn := mem_need.1 (by rw [Hnd.out]; exact List.mem_of_getElem? hx : x ∈ neededOf (plsOf bs) (i : Int) (plsOf bs))
      have hE : Es 9 wr (.slice a4 nd.length c4) ((nd.map Pl.z).map Pz.cells) := es_own (n := nd.length) (by rw [← plsCells_z]; exact own_grown2 HO4.out HG.out (fun r e => by cases e; have := Hs3.out; omega)) (by rw [List.length_map])
      obtain ⟨b, off, cap, hv, hbw, hrg⟩ := hE.elem (i := k) (x := x.z.cells) (by rw [List.getElem?_map, List.getElem?_map, hx]; rfl)
      rw [List.length_map, List.length_map] at hv
      simp only [Value.slice.injEq] at hv
      obtain ⟨rfl, _, rfl⟩ := hv
      have Hrg := Lib.hid (hrg wr (Below.refl _ _))
      have hxs : 0 ≤ x.p.s ∧ x.p.s < 4294967296 := (pls_ok Hok.out x hxn.1).1
      have Hxs := Lib.hid hxs
      have Hss := Lib.hid (secs_succ hx)
      have Hno := Lib.hid (secs_not Hup.out hx)
      have Hxi := Lib.hid (show ((x.b : Int)) = (i : Int) by have := hxn.2.1; omega)
      clear hE hrg hx hxn hxs
      go_wp2_with (first
        | (refine wpList_load_mid rfl _ _ rfl _ _ rfl _ _ Hrg.out Try.underlying29 rfl Hi9.out ?_; refine Hold.out ?_)
        | fail)
      refine ⟨?_⟩
      go_wp2_with (first
        | (refine al_new rfl rfl (zero_pz _) ?_; intro w5 hn5
           have HX5 : Hid (At w5 wr.heap.size Pz.zero.cells 29) := Lib.hid hn5.to; have HM5 := Lib.hid (hn5.below (Nat.le_refl _)); clear hn5)
        | (refine st_agg rfl rfl rfl rfl HX5.out 9 Hi9.out (pz_len _) (Nat.le_refl 9) (pz_one _) ?_; intro w6 hu6
           have HX6 : Hid (At w6 wr.heap.size x.z.cells 29) := Lib.hid hu6.to
           have HM6 := Lib.hid (HM5.out.trans (hu6.below (Nat.le_refl _)))
           have HH6 := Lib.hid (HH.out.kept HM6.out)
           have c2 : w6.cell? ⟨wr.heap.size, 2, none⟩ = some (.int .u32 x.p.s) := HX6.out.cell 2
           clear hu6 HX5 HM5)
        | (refine had_look rfl _ _ rfl rfl HH6.out rfl Hxs.out ?_; rw [if_neg Hno.out])
        | (refine had_put rfl _ _ _ rfl rfl HH6.out (by unfold maxLen; omega) rfl rfl Hxs.out ?_; intro w7 hh7 hg7
           have HH7 := Lib.hid hh7
           have HX7 := Lib.hid (at_grown4 HX6.out hg7 (by intro e; have := Option.some.inj e; omega))
           have HG7 := Lib.hid (grown_trans HG.out (grown_trans (grown_of HM6.out _) hg7))
           clear hh7 hg7 c2; refine Hold.out ?_)
        | fail)
      refine ⟨?_⟩
      have c2 : w7.cell? ⟨wr.heap.size, 2, none⟩ = some (.int .u32 x.p.s) := HX7.out.cell 2
      have c0 : w7.cell? ⟨wr.heap.size, 0, none⟩ = some (.int .i64 (i : Int)) := by rw [← Hxi.out]; exact HX7.out.cell 0
      go_wp2_with (first
        | (refine had_look rfl _ _ rfl rfl HH7.out rfl Hxs.out ?_; rw [if_pos (by simp)])
        | fail)
      exact ⟨⟨k + 1, by omega, by go_num, by rw [Hss.out]; exact HH7.out, HG7.out⟩, by simp only [intOf]; omega⟩
    · obtain rfl : k = nd.length := by omega
      have hB4 : Below w.heap.size w w4 := HB2.out.trans (HN4.out.mono HB2.out.size)
      have hsz2 : w.heap.size ≤ w2.heap.size := HB2.out.size
      have hBr : Below w.heap.size w wr := hB4.grown HG.out hB4.size (fun r e => by have := Option.some.inj e; omega)
      have hne2 : ∀ r, some w2.heap.size = some r → (Value.slice (some ⟨g2, 0, none⟩) bs.length c2).ownBlock ≠ some r := fun r e e2 => by
        have := hr2.out r e2; have := Option.some.inj e; omega
      have ho2r := own_grown3 (own_below HO2.out HN4.out) HG.out hne2
      have hrg2 : wr.rangeAt g2 0 (bksCells bs) := by
        intro j u hu
        have hj := (List.getElem?_eq_some_iff.1 hu).1
        rw [bksCells_length Hok.out] at hj
        rw [Nat.zero_add, World.ownsRow.cellAt ho2r j (by omega)]; exact hu
      have Hbl : Hid ((bksCells bs).length = bs.length * 66) := Lib.hid (by rw [bksCells_length Hok.out]; omega)
      have h63 : 0 + bs.length ≤ maxLen := by unfold maxLen; omega
      have hby : (0 + bs.length) * 304 ≤ 140737488355328 := by omega
      have H63 := Lib.hid h63; have Hby := Lib.hid hby; have HO2r := Lib.hid ho2r; have Hrg2 := Lib.hid hrg2; have HBr := Lib.hid hBr
      have Hgl := Lib.hid hgl; have Hsz2 := Lib.hid hsz2
      have hgap : w2.heap.size < w3.heap.size := by have := Hs3.out; omega
      clear h63 hby ho2r hrg2 hBr hB4 hne2
      go_wp2_with (first
        | (refine ap_src rfl _ _ _ rfl (bytes := 304) (base := wr.heap.size) Try.underlying43 Hi66.out (by kernel_rfl) (by kernel_rfl) (by decide) rfl (ownsRow_nil _ _ _ _) rfl (b := g2) (o := 0) (cs := bksCells bs) Hrg2.out Hbl.out (bks_one bs) H63.out Hby.out (Nat.le_refl _) ?_; intro v10 w10 ho10 hg10
           rw [Nat.zero_add, List.nil_append] at ho10
           obtain ⟨g10, c10, rfl, hg10b⟩ := own66_shape ho10 H0.out
           obtain ⟨cs10, hA10, hlen10, _, hset10⟩ := own_setB zB_ok Hok.out Hil.out ho10
           have HA10 := Lib.hid hA10; have Hlen10 := Lib.hid hlen10; have Hset10 := Lib.hid hset10; have Hgb := Lib.hid hg10b
           have HG10 := Lib.hid hg10
           clear ho10 hA10 hlen10 hset10 hg10b hg10)
        | (refine bd_run rfl rfl rfl built_zB ?_)
        | (refine st_agg rfl rfl rfl rfl HA10.out 66 Hi66.out bk0_len66 Hlen10.out bk_one ?_; intro w11 hu11
           have HU11 := Lib.hid hu11; clear hu11; refine Hold.out ?_)
        | fail)
      refine ⟨?_⟩
      have hlt2 : g2 < w2.heap.size := hr2.out g2 rfl
      have hgb := Hgb.out
      have ho11 : w11.ownsRow w1.heap.size 55 66 (.slice (some ⟨g2, 0, none⟩) bs.length c2) bs.length (bksCells bs) :=
        own_grown3 (own_grown3 HO2r.out HG10.out (fun r e => by cases e)) (grown_upd HU11.out) (fun r e e2 => by have := Option.some.inj e; have := Option.some.inj (show some g2 = some r from e2); omega)
      have hl11 : Blt w11 (.slice (some ⟨g2, 0, none⟩) bs.length c2) bs := Blt.of_own ho11 Hok.out
      have hp11 : w11.ownsRow wr.heap.size 55 66 (.slice (some ⟨g10, 0, none⟩) bs.length c10) bs.length (bksCells (bs.set i zB)) := Hset10.out w11 (by rw [zB_cells]; exact HU11.out)
      have Hokz : Hid (∀ b ∈ bs.set i zB, b.ok) := Lib.hid fun b hb => by
        rcases List.mem_or_eq_of_mem_set hb with h' | rfl
        · exact Hok.out b h'
        · exact zB_ok
      have Hlnz : Hid ((bs.set i zB).length ≤ 1000) := Lib.hid (by rw [List.length_set]; omega)
      have hz11 : Blt w11 (.slice (some ⟨g10, 0, none⟩) bs.length c10) (bs.set i zB) := by
        refine Blt.of_own (base := wr.heap.size) ?_ Hokz.out
        rw [List.length_set]; exact hp11
      have hh11 : Had w11 w2.heap.size nd.length (secs nd nd.length) := (HH.out.grown HG10.out (by intro e; cases e)).grown (grown_upd HU11.out) (by intro e; have := Option.some.inj e; omega)
      have hb11 : Below w.heap.size w w11 := (HBr.out.grown HG10.out HBr.out.size (fun r e => by cases e)).trans (HU11.out.below (by omega))
      have HL11 := Lib.hid hl11; have HZ11 := Lib.hid hz11; have HH11 := Lib.hid hh11; have HB11 := Lib.hid hb11
      clear ho11 hl11 hp11 hz11 hh11 hb11 HH HG HG10 HA10 Hset10 HBr HO2r Hrg2 HH4 HO4 HN4
      go_wp2_with (first
        | (go_at_call 13; refine (of_any _ bs (by omega) _ HL11.out).mono ?_; rintro e w12 ⟨⟨v12, t12, rfl, ht12, ho12⟩, hb12⟩
           obtain ⟨a12, c12, rfl⟩ := own_slice ho12
           have HT12 := Lib.hid ht12; have HO12 := Lib.hid ho12
           have HZ12 := Lib.hid (HZ11.out.keep (keepB_below hb12)); have HH12 := Lib.hid (HH11.out.kept hb12); have HB12 := Lib.hid (HB11.out.trans (hb12.mono HB11.out.size))
           clear ho12 ht12 hb12; refine Hold.out ?_)
        | fail)
      refine ⟨?_⟩
      go_wp2_with (first
        | (go_at_call 13; refine (of_any _ _ Hlnz.out _ HZ12.out).mono ?_; rintro e w13 ⟨⟨v13, t13, rfl, ht13, ho13⟩, hb13⟩
           obtain ⟨a13, c13, rfl⟩ := own_slice ho13
           have HT13 := Lib.hid ht13
           have HE13 : Hid (Es 9 w13 (.slice a13 t13.length c13) ((t13.map Pl.z).map Pz.cells)) := Lib.hid (es_own (n := t13.length) (by rw [← plsCells_z]; exact ho13) (by rw [List.length_map]))
           have HF13 : Hid (Es 9 w13 (.slice a12 t12.length c12) ((t12.map Pl.z).map Pz.cells)) := Lib.hid (es_own (n := t12.length) (by rw [← plsCells_z]; exact own_below HO12.out hb13) (by rw [List.length_map]))
           have HH13 := Lib.hid (HH12.out.kept hb13); have HB13 := Lib.hid (HB12.out.trans (hb13.mono HB12.out.size))
           clear ho13 ht13 hb13)
        | fail)
      clear HH11 HH12 HZ11 HZ12 HL11 HO12 HU11 hlt2 hgb
      go_loopw [75] (fun ix W => ∃ k : Nat, k ≤ t12.length ∧ ix = .int .i64 k ∧ Below w13.heap.size w13 W) (fun ix _ => t12.length - (intOf ix).toNat)
      case atStart => exact ⟨0, by omega, rfl, Below.refl _ _⟩
      case round =>
        obtain ⟨W, rfl⟩ : ∃ W : World, W = wr := ⟨_, rfl⟩
        obtain ⟨k, hk, rfl, hB⟩ := hrel
        have HB := Lib.hid hB; clear hB
        have hbig : t12.length ≤ 9223372036854775807 := by have h := es_big9 HF13.out; rwa [List.length_map, List.length_map] at h
        by_cases hlt : k < t12.length
        · obtain ⟨x, hx⟩ : ∃ x, t12[k]? = some x := ⟨_, List.getElem?_eq_getElem hlt⟩
          have hxm : x ∈ t12 := List.mem_of_getElem? hx
          obtain ⟨b, off, cap, hv, hbw, hrg⟩ := HF13.out.elem (i := k) (x := x.z.cells) (by rw [List.getElem?_map, List.getElem?_map, hx]; rfl)
          rw [List.length_map, List.length_map] at hv
          simp only [Value.slice.injEq] at hv
          obtain ⟨rfl, _, rfl⟩ := hv
          have Hrg := Lib.hid (hrg _ HB.out); clear hrg hx
          have Hxs := Lib.hid ((pls_ok Hok.out x (HT12.out.sub x hxm)).1)
          have HE := Lib.hid (HE13.out.keep9 HB.out)
          have HH := Lib.hid (HH13.out.kept HB.out)
          have hlaw := lost_law HT12.out HT13.out hxm
          rw [Hnd.out, secs_any] at hlaw
          obtain ⟨zf, bf, hf⟩ : ∃ zf bf, fz (t13.map Pl.z) x.p.s = (zf, bf) := ⟨_, _, rfl⟩
          rw [hf] at hlaw
          have Hf := Lib.hid hf
          have Hlaw := Lib.hid hlaw
          clear hf hlaw hxm
          have hc : (bf = false ∧ (if x.p.s ∈ secs nd nd.length then (1 : Int) else 0) = 1) ∨ (bf = true ∧ (zf.p.q == x.p.q) = false ∧ (if x.p.s ∈ secs nd nd.length then (1 : Int) else 0) = 1) ∨ (bf = true ∧ (zf.p.q == x.p.q) = true ∧ (if x.p.s ∈ secs nd nd.length then (1 : Int) else 0) = 0) := by
            have h := Hlaw.out
            by_cases hin : x.p.s ∈ secs nd nd.length
            · rw [decide_eq_true hin] at h
              rw [if_pos hin]
              cases bf
              · exact .inl ⟨rfl, rfl⟩
              · refine .inr (.inl ⟨rfl, ?_, rfl⟩)
                simpa using h
            · rw [decide_eq_false hin] at h
              rw [if_neg hin]
              cases bf
              · simp at h
              · refine .inr (.inr ⟨rfl, ?_, rfl⟩)
                simpa using h
          clear Hlaw
          rcases hc with ⟨rfl, hi'⟩ | ⟨rfl, e1, hi'⟩ | ⟨rfl, e1, hi'⟩
          all_goals
            have Hif := Lib.hid hi'
            clear hi'
            go_wp2_with (first
              | (refine wpList_load_mid rfl _ _ rfl _ _ rfl _ _ Hrg.out Try.underlying29 rfl Hi9.out ?_; refine Hold.out ?_)
              | fail)
            refine ⟨?_⟩
            go_wp2_with (first
              | (refine al_new rfl rfl (zero_pz _) ?_; intro w15 hn15
                 have HX15 : Hid (At w15 W.heap.size Pz.zero.cells 29) := Lib.hid hn15.to; have HN15 := Lib.hid (hn15.below (Nat.le_refl _)); clear hn15)
              | (refine st_agg rfl rfl rfl rfl HX15.out 9 Hi9.out (pz_len _) (Nat.le_refl 9) (pz_one _) ?_; intro w16 hu16
                 have HX16 : Hid (At w16 W.heap.size x.z.cells 29) := Lib.hid hu16.to
                 have HN16 := Lib.hid (HN15.out.trans (hu16.below (Nat.le_refl _)))
                 have c2 : w16.cell? ⟨W.heap.size, 2, none⟩ = some (.int .u32 x.p.s) := HX16.out.cell 2
                 clear hu16 HX15 HN15)
              | (go_at_call 9; refine (find_any _ x.p.s _ _ (HE.out.keep9 HN16.out)).mono ?_; rintro e w17 ⟨rfl, hb17⟩; rw [Hf.out]
                 have HX17 := Lib.hid (HX16.out.of_below hb17); have HN17 := Lib.hid (HN16.out.trans (hb17.mono HN16.out.size))
                 clear hb17 c2 HX16 HN16; refine Hold.out ?_)
              | fail)
            refine ⟨?_⟩
            go_wp2_with (first
              | (refine al_new rfl rfl (zero_pz _) ?_; intro w18 hn18
                 have HX18 := Lib.hid (hn18.at HX17.out)
                 have HY18 : Hid (At w18 w17.heap.size Pz.zero.cells 29) := Lib.hid hn18.to; have HM18 := Lib.hid (hn18.below (Nat.le_refl _)); clear hn18)
              | (refine st_agg rfl rfl rfl rfl HY18.out 9 Hi9.out (pz_len _) (Nat.le_refl 9) (pz_one _) ?_; intro w19 hu19
                 have HM19 := Lib.hid (HM18.out.trans (hu19.below (Nat.le_refl _)))
                 have HX19 := Lib.hid (HX17.out.of_below HM19.out)
                 have HY19 : Hid (At w19 w17.heap.size zf.cells 29) := Lib.hid hu19.to
                 have hk19 := HN17.out.trans (HM19.out.mono HN17.out.size)
                 have HN19 := Lib.hid (HB.out.trans (hk19.mono HB.out.size))
                 have HH19 := Lib.hid (HH.out.kept hk19)
                 have c2 : w19.cell? ⟨W.heap.size, 2, none⟩ = some (.int .u32 x.p.s) := HX19.out.cell 2
                 have c3 : w19.cell? ⟨W.heap.size, 3, none⟩ = some (.int .u32 x.p.q) := HX19.out.cell 3
                 have d3 : w19.cell? ⟨w17.heap.size, 3, none⟩ = some (.int .u32 zf.p.q) := HY19.out.cell 3
                 clear hu19 hk19 HM18 HY18)
              | (refine had_look rfl _ _ rfl rfl HH19.out rfl Hxs.out ?_; rw [Hif.out])
              | fail)
            exact ⟨⟨k + 1, by omega, by go_num, HN19.out⟩, by simp only [intOf]; omega⟩
        · obtain rfl : k = t12.length := by omega
          go_wp2_with fail
          go_ret
          exact ⟨rfl, HB13.out.trans (HB.out.mono HB13.out.size)⟩

set_option maxRecDepth 100000 in
theorem latestLost_far (a : Option Addr) (n cap : Nat) (nb : Int) (w : World) (h : 12 < n) :
    Calls Try.prog 5 #[.slice a n cap, .int .u8 nb] w fun e w' => e = .returned (.bool true) ∧ Below w.heap.size w w' := by
  have hd : decide ((12 : Int) < (n : Int)) = true := by rw [decide_eq_true_eq]; omega
  clear h
  go_enter Try.func5, Try.ntmps5
  go_wp2_with (first
    | (go_at_call 8; refine (alive07_any _).mono ?_; rintro e w1 ⟨rfl, hb1⟩; have HB1 := Lib.hid hb1; clear hb1)
    | fail)
  go_ret
  exact ⟨rfl, HB1.out⟩
set_option maxRecDepth 100000 in
theorem latestLost_none (a : Option Addr) (cap : Nat) (nb : Int) (w : World) :
    Calls Try.prog 5 #[.slice a 0 cap, .int .u8 nb] w fun e w' => e = .returned (.bool true) ∧ Below w.heap.size w w' := by
  go_enter Try.func5, Try.ntmps5
  go_wp2_with (first
    | (go_at_call 8; refine (alive07_any _).mono ?_; rintro e w1 ⟨rfl, hb1⟩; have HB1 := Lib.hid hb1; clear hb1)
    | fail)
  go_ret
  exact ⟨rfl, HB1.out⟩

namespace latestLost
set_option maxRecDepth 100000 in
theorem owed : Owed Try.prog 5 Try.f5 := by
  intro H enc W base args ds p hval hA
  rw [Try.params5] at hval hA
  obtain ⟨hl, _⟩ := trodAll_len _ _ _ _ hA
  obtain ⟨v0, v1, rfl⟩ : ∃ v0 v1, args = #[v0, v1] := by
    obtain ⟨l⟩ := args
    match l, hl with
    | [v0, v1], _ => exact ⟨v0, v1, rfl⟩
  obtain ⟨_, _, _, _, h0, r0⟩ := trodAll_head (v := v0) (vs := [v1]) hA
  obtain ⟨_, _, _, _, h1, r1⟩ := trodAll_head (v := v1) (vs := []) r0
  clear r1
  have hv0 := hval 0 41 v0 rfl rfl
  have hv1 := hval 1 5 v1 rfl rfl
  clear hval hA
  obtain ⟨nb, rfl, hnb⟩ := open_u8 Try.underlying5 hv1
  obtain ⟨a, cap, l, rfl, hlen, hes, hfit⟩ := open_flats (s := 66) Try.underlying41 fitB07l (by kernel_rfl) hv0 h0
  obtain ⟨bs, rfl, hok⟩ := fit_bks l hfit
  simp only [List.length_map] at hes hlen ⊢
  by_cases h12 : bs.length ≤ 12
  · by_cases hz : bs.length = 0
    · rw [hz]; exact latestLost_none a cap nb W
    · have hpos : 0 < (bs.length : Int) := by omega
      have h1 := Int.emod_nonneg nb (b := (bs.length : Int)) (by omega)
      have h2 := Int.emod_lt_of_pos nb hpos
      exact latestLost_walk _ bs nb (nb % (bs.length : Int)).toNat W (bl_of_es hes hok) hok h12 (by omega) hnb (by rw [Int.tmod_eq_emod_of_nonneg (by omega)]; omega) (by omega)
  · exact latestLost_far a bs.length cap nb W (by omega)

theorem own : ownKnob Try.prog.godebug = none := by kernel_rfl
theorem laidOut : laidOutB Try.prog = true := by kernel_rfl

set_option maxRecDepth 100000 in
theorem lifted (os : Os) (started : os.Started) (H : Type) (enc : TypeId × Value → H) :
    ReturnsInHanded {} Try.checked os 5 .any (Rows.latestLostSpec.pre6 enc Try.prog Try.f5 Rows.latestLostRow.domain false) (Rows.latestLostSpec.post enc Try.prog Try.f5 false true false false) := by
  refine law_handed (C := Try.checked) (tb := 4) own started (by kernel_rfl) Try.func5
    (ChangeSpec.witness6 (enc := enc) (C := Try.checked) false ⟨#[], #[.slice none 0 0, .int .u8 0], []⟩ 8 (by kernel_rfl) (by kernel_rfl) (by kernel_rfl) (by kernel_rfl))
    rfl Try.underlying4 rfl ?_ laidOut (of_decide_eq_true (by kernel_rfl)) owed
  intro ds hl
  match ds, hl with
  | [a, b], _ => exact ⟨rfl, rfl, rfl⟩

theorem over : Rows.latestLostRow.holds Try.pinned (OpenSpec.ofChange Rows.latestLostSpec) :=
  OpenClaim.holds_of_wide 5 Try.f5 rfl rfl rfl rfl rfl rfl rfl ⟨rfl, rfl, rfl, rfl, rfl⟩ rfl rfl rfl rfl rfl (by kernel_rfl) Try.func5 (by kernel_rfl)
    (of_decide_eq_true (by kernel_rfl)) (by unfold Func.isWrapper; first | (rw [if_pos (by decide +kernel)]; kernel_rfl) | (rw [if_neg (by decide +kernel)]; exact ⟨rfl, rfl⟩))
    (fun os started H enc _ => lifted os started H enc)

theorem proved : Rows.LatestLostSaid := over
end latestLost
#print axioms latestLost.proved
end Go.Proofs.Ytihlbfbplmehiaa
